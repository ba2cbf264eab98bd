/- Lemmas of Ct7, Ct8, Cf4, Cu1, Rf1, Cf4b, Cw1, Cx0, Sm3, Sx31, Sme, Br10, Sm6, Sx30, Sm9, Sma, Smb, Smd. No condition. -/
import Derived.Test.YtlkccdlgnpkjpaaGreatMO22
import Derived.Test.YtlkccdlgnpkjpaaGreatRows
import Derived.WalkKit
import Derived.WalkSpells
import Derived.WalkLawsBesides
import Derived.IntWalk
import Derived.BigQuiet
import Derived.Deep.QuietTactic
import Derived.StillTailTactics
import Derived.Deep.RegionWith
import Derived.Deep.RegionHeld3
import Derived.Lib.Hide
set_option linter.unusedVariables false
set_option linter.unusedSimpArgs false
set_option linter.unusedSectionVars false
set_option maxHeartbeats 80000000
set_option maxRecDepth 100000
namespace Go.Proofs.YtlkccdlgnpkjpaaGreat
open Go.RowKit
section
open Go.RowKit Go.Shelf Go.Sort
theorem yK:∀{a b c:List Int},¬be a b<0→¬be b c<0→¬be a c<0:=fun {a b c} h1 h2 h3=>by
 rw[Core.cmp_sw]at h3
 by_cases e:be a b=0
 ·rw[Core.cmp_eq e]at h3;rw[Core.cmp_sw]at h2;omega
 ·have h4:be b a<0:=by rw[Core.cmp_sw];omega
  have h5:be a c<0:=by rw[Core.cmp_sw];omega
  exact h2 (Core.cmp_tr h4 h5)
theorem qf{ys xs:List Cel}(hB:∀c∈xs,IsB c.key∧fQ c.pol c.key)(hp:ys.Perm xs)(hd:xs.Pairwise (fun a b=>idn a≠idn b))(hs:ys.Pairwise fun a b=>¬jq b a<0):ys=Core.sortC xs:=by
 have h3:ys.Pairwise (fun a b=>idn a≠idn b):=hp.symm.pairwise hd fun {a b} hab e=>hab e.symm
 have h4:ys.Pairwise fun a b=>¬be (idn b) (idn a)<0:=hs.imp_of_mem fun {a b} ha hb h=>by
  rw[fY (hB b (hp.mem_iff.1 hb)).2 (hB a (hp.mem_iff.1 ha)).2]at h;exact h
 refine Core.sort_done hd hp (List.Pairwise.imp₂ (fun a b h1 h2=>?_) h4 h3)
 have h5:be (idn a) (idn b)≠0:=fun e=>h2 (Core.cmp_eq e)
 have h6:=Core.cmp_sw (idn a) (idn b)
 show be (idn a) (idn b)<0
 omega
theorem sort_C(xs:List Cel)(hB:∀c∈xs,IsB c.key∧fQ c.pol c.key)(hd:xs.Pairwise (fun a b=>idn a≠idn b))(hx1:xs.length≤4096) :
  Fun TC 50 1 [.sl 0 4 0 xs.length,.d (.fn (.func 51) [])] [(0,some (ay 89 4 Cel.D xs))] 1 (.tup []) [(0,some (ay 89 4 Cel.D (Core.sortC xs)))]:=by
 have ent:da TC.P 50:=.mk Tryz.func50 rfl rfl
 have hpl:=(Core.sortC_perm xs).length_eq
 rcases Nat.eq_zero_or_pos xs.length with h0|h0
 ·obtain rfl:=List.eq_nil_of_length_eq_zero h0
  exact xK ent fun p cap w=>AnyF.slices_SortFunc_none Tryz.sort50 p cap _ w
 ·have eg:∀args w,(callFunc 51 args).run Tryz.prog w=.ok (.enter 51 args) w:=enters_of Tryz.func51 (by kernel_rfl) rfl
  refine sortFun (C:=TC) (α:=Cel) (enc:=Cel.D) (gc:=51) (e:=89) (z:=4) (by decide) ent (fun _=>rfl) (fun c=>IsB c.key∧fQ c.pol c.key) jq ⟨0,[],0,[]⟩ ⟨(fun x hx=>by cases hx),by decide,by decide,by decide⟩ [.int .i64 0,.slice none 0 0,.int .i64 0,.slice none 0 0] (fun w Im=>⟨rfl,fun u hu=>by simp at hu;rcases hu with rfl|rfl|rfl|rfl<;>rfl,fun j hj=>?_⟩)
   (fun a=>by unfold jq;rw[aU];omega) (fun a b c=>Core.cmp_tr) (fun a b c=>yK) (fun W Im x y vx vy hIm bx by' hx hy=>cells_K W Im x y vx vy hIm bx by' hx hy)
   (fun T _ en hk h1 cf hO blk cap d w hcl hH hblk hsz=>?_) xs (Core.sortC xs) hB h0 (by omega) hpl (fun ys hp hs=>qf hB hp hd hs)
  ·have:j=0∨j=1∨j=2∨j=3:=by simp[Cel.D]at hj;omega
   rcases this with rfl|rfl|rfl|rfl
   ·exact⟨_,rfl,.val _ rfl⟩
   ·exact⟨_,rfl,.sl 1 0 _ none 0 (fun _ _=>undef) (Q4 _) (Nat.zero_le _) (fun i hi=>absurd hi (Nat.not_lt_zero _)) (fun h=>absurd h (Nat.not_lt_zero _)) (fun i j hi=>absurd hi (Nat.not_lt_zero _))⟩
   ·exact⟨_,rfl,.val _ rfl⟩
   ·exact⟨_,rfl,.sl 1 0 _ none 0 (fun _ _=>undef) (Q4 _) (Nat.zero_le _) (fun i hi=>absurd hi (Nat.not_lt_zero _)) (fun h=>absurd h (Nat.not_lt_zero _)) (fun i j hi=>absurd hi (Nat.not_lt_zero _))⟩
  ·have hcon:=AnyQ.slices_SortFunc Tryz.sort50 4 Tryz.isAgg89 Tryz.sizeOf89 en hk h1 cf hO 51 #[] blk 0 cap d w eg hcl hH hblk hsz
   exact hcon
end
section
def aE(ps:List Pol)(room:Int)(M:Core.Mc):List Cel:=Core.sortC (Core.allE (aa ps room) M)
theorem eJ{α:Type}[Inhabited α]{xs:List α}{k:Nat}(h:k<xs.length):xs.take (k+1)=xs.take k++[xs.getD (k:Int).toNat default]:=by
 rw[List.take_succ_eq_append_getElem h,Q13,Q1,Q0 h];rfl
theorem yQ(A l:List Cel):∀k,k<A.length+l.length→bu A.length (fun i=>Cel.D (A.getD i default)) (fun i=>Cel.D (l.getD i default)) k=Cel.D ((A++l).getD k default):=fun k _=>by
 simp only[bu]
 by_cases e:k<A.length
 ·rw[if_pos e,Q1,Q1,Q11 e]
 ·rw[if_neg e,Q1,Q1,Q12 (by omega)]
variable{ps:List Pol}{room:Int}{S:Nat→Core.Wk}{M:Core.Mc}{xs:Nat→XB}{nl nl0:Nat}{f:Nat→List D}{cnt cnt0 who:Int}
theorem qL(hM:COK ps room who (gOf (aa ps room) 4 S) M xs nl0 cnt0)(h12:(Core.allE (aa ps room) M).length≤4096)(hdis:(Core.allE (aa ps room) M).Pairwise (fun a b=>idn a≠idn b))
  (hok:∀c∈Core.allE (aa ps room) M,eH ps c∧fQ c.pol c.key) :
  Fun TC 19 14 [.ptr 0 0] (ao ps room (gOf (aa ps room) 4 S) M xs nl f cnt) 14 (.d (am 4 Cel.D (aE ps room M))) (ao ps room (gOf (aa ps room) 4 S) M xs nl f cnt):=by
 have q5:=hM.g;have qo:=hM.o
 have hA:Fun TC 49 4 [ke] (jB M nl f M.clk cnt) 4 (.d (am 1 nZ (Core.allL (aa ps room) M))) (jB M nl f M.clk cnt):=by
  by_cases he:M.W 0%2=0
  ·exact sX ps room M nl f M.clk cnt hM.d0 hM.d1 he
  ·exact sW ps room M nl f M.clk cnt hM.d0 hM.d1 (fun w=>Nat.le_trans (hM.hd w).len (by decide)) (by omega)
 have hLl:(Core.allL (aa ps room) M).length≤32:=by
  have h1:=fc ps room M (2^Core.lvl M)
  have h2:2^Core.lvl M≤2^4:=Q16 (by omega) (by have:=hM.d0;have:=hM.d1;unfold Core.lvl;omega)
  show((List.range (2^Core.lvl M)).flatMap (Core.partL (aa ps room) M)).length≤32
  omega
 have hE:=Core.allE_eq (aa ps room) M
 unfold aE
 rw[← hE]at h12 hdis hok⊢
 clear hE
 generalize Core.allL (aa ps room) M=L at hA hLl h12 hdis hok⊢
 have hmem:∀l∈L,l.length≤4096∧∀c∈l,eH ps c:=fun l hl=>by
  refine⟨?_,fun c hc=>(hok c (List.mem_flatten.2 ⟨l,hl,hc⟩)).1⟩
  have:=(List.sublist_flatten_of_mem hl).length_le
  omega
 have hSort:=sort_C L.flatten (fun c hc=>⟨(hok c hc).1.byt,(hok c hc).2⟩) hdis h12
 have hpl:=(Core.sortC_perm L.flatten).length_eq
 refine Fun.mk' Tryz.func19 rfl rfl zN (by decide) ?_
 (repeat' (first|((first|refine Wp.any ac rfl ?_|(with_reducible first|refine Go.mk ?_|apply ai.of));conv=>whnf)|((with_reducible refine At.mk' _ rfl ?_);(refine And.intro zN ?_);conv=>whnf)|((refine ab.fn (hA) [1,2,3,13] rfl rfl rfl rfl rfl ?ha ?hh ?_);(case ha=>exact zA);(case hh=>exact zH);(conv=>whnf))))
 refine Wp.le (Le.virt 3 89 4 (fun i=>Cel.D (([]:List Cel).getD i default)) (by decide) rfl) ?_
 refine Wp.loopP (ι:=Nat) (fun j=>j≤L.length) (fun j=>⟨⟨Tryz.f19.ntmps,14⟩,15,[(3,.sl 14 4 0 (L.take j).flatten.length),(12,.d (am 1 nZ L)),(13,.i .i64 L.length),(14,.i .i64 j)],
  ao ps room (gOf (aa ps room) 4 S) M xs nl f cnt++[(14,some (ay 89 4 Cel.D (L.take j).flatten))]⟩) (fun j=>L.length-j) 0 (Nat.zero_le _) ?_ ?_
 ·(refine Le.by [0,1,2,3,4,5,6,7,8,9,10,11,12,13,14] rfl rfl rfl rfl ?_ ?_<;>(conv=>whnf)<;>(repeat' (first|exact trivial|exact ae.rfl rfl|exact ae.sl rfl|exact⟨rfl,rfl,rfl⟩|exact⟨rfl,zzb rfl⟩|exact em (by assumption)|exact eY (qo _)|exact fun i hi=>rfl|((with_reducible refine And.intro ?_ ?_)<;>(conv=>whnf)))))
 ·rintro j h1
  have hpj:(L.take j).flatten.length≤4096:=by
   have h9:(L.take j).flatten.length+(L.drop j).flatten.length=L.flatten.length:=by
    rw[← Q9,← List.flatten_append,List.take_append_drop]
   omega
  by_cases hj:j<L.length
  ·have hta:=eJ hj
   have hlm:L.getD (j:Int).toNat default∈L:=by rw[Q13,Q1,Q0 hj];exact Q14 hj
   obtain⟨m1,m2⟩:=hmem _ hlm
   have hCp:=tW (L.getD (j:Int).toNat default) (by omega) (fun k=>by
    by_cases hk:k<(L.getD (j:Int).toNat default).length
    ·have:=m2 ((L.getD (j:Int).toNat default).getD k default) (by
      rw[Q1 (l:=L.getD _ _),Q0 hk];exact Q14 hk)
     exact⟨Nat.le_trans this.key (by decide),Nat.le_trans this.held (by decide)⟩
    ·rw[Q1 (l:=L.getD _ _),List.getElem?_eq_none (by omega)];exact⟨by decide,by decide⟩)
   (repeat' (first|((first|refine Wp.any ac rfl ?_|(with_reducible first|refine Go.mk ?_|apply ai.of|refine Ov.ok zO ?_|refine And.intro zC ?_));conv=>whnf)|((with_reducible refine And.intro ?hb ?_);(case hb=>exact zz6);(conv=>whnf))|((with_reducible refine ab.pure (hCp) rfl rfl ?_);conv=>whnf)|((refine aq (fun hc=>?_) (fun hc=>?_))<;>(try simp only[wz9]at hc)<;>(try (exfalso;omega))<;>(conv=>whnf))))
   generalize L.getD (j:Int).toNat default=l at hta hlm m1 m2⊢
   refine⟨j+1,by dsimp only;omega,by dsimp only;omega,?_⟩
   dsimp only
   rw[hta,List.flatten_append,show[l].flatten=l by simp]
   generalize (L.take j).flatten=A at hpj⊢
   (refine Le.by [0,1,2,3,4,5,6,7,8,9,10,11,12,13,15] rfl rfl rfl rfl ?_ ?_<;>(conv=>whnf)<;>(repeat' (first|exact trivial|exact ae.rfl rfl|exact ae.sl rfl|exact⟨rfl,rfl,rfl⟩|exact⟨rfl,zzb rfl⟩|exact em (by assumption)|exact eY (qo _)|exact fun i hi=>rfl|((with_reducible refine And.intro ?_ ?_)<;>(conv=>whnf)))))
   all_goals first
    | (rw[Q9];exact ae.sl rfl)
    | (refine⟨rfl,rfl,?_⟩;simp;done)
    | exact yQ _ _
    | exact List.length_append.symm
    | exact Q9
    | rfl
  ·obtain rfl:j=L.length:=by omega
   rw[List.take_length]
   (repeat' (first|((first|refine Wp.any ac rfl ?_|(with_reducible first|refine Go.mk ?_|apply ai.of));conv=>whnf)|((refine ab.fn (hSort) [14] rfl rfl rfl rfl rfl ?ha ?hh ?_);(case ha=>exact zA);(case hh=>exact zH);(conv=>whnf))|((refine aq (fun hc=>?_) (fun hc=>?_))<;>(try simp only[wz9]at hc)<;>(try (exfalso;omega))<;>(conv=>whnf))))
   refine af.sealB [0,1,2,3,4,5,6,7,8,9,10,11,12,13] rfl rfl rfl ?_ ?_
   ·exact aj.le (aj.sl rfl rfl (by omega)) (SV.Le.sl' hpl.symm fun i hi=>by simp only[Q19])
   ·(conv=>whnf);(repeat' (first|exact zD9|exact a7 (qo _)|((refine And.intro ?_ ?_)<;>(conv=>whnf))))
end
structure SerI(M:Core.Mc)(S:Nat→Core.Wk)(L:List Int)(n:Int):Prop where
 s:Core.Sers M S L.reverse
 le:M.W 33+Core.pend S≤n
theorem SerI.zero:SerI Core.M0 S0 [] 0 :=
 ⟨⟨fun _=>Int.le_refl _,fun i _ _ h=>absurd rfl h,fun _ h=>by simp at h,by simp,fun _=>trivial⟩,by decide⟩
section
section
variable{ps:List Pol}{room:Int}{k:Nat}{M:Core.Mc}{S:Nat→Core.Wk}{xs:Nat→XB}{nl:Nat}{f:Nat→List D}{cnt:Int}
theorem eW.all_cel(h:eW ps room k M S xs nl cnt){c:Cel}(hc:c∈Core.allE (aa ps room) M):eH ps c∧fQ c.pol c.key:=by
 have h1:=((Core.all_ok (bR ps room) h.all.inv.iw h.all.ih).2 c).1 hc
 have h2:=(bc h1).1
 have h3:=(h.hd _).cel c h2
 have h4:=cT h.ps
 exact⟨h3,by have:=h3.pol;exact⟨by omega,by omega,h3.key⟩⟩
theorem sR(h:eW ps room k M S xs nl cnt)(hk:k≤1000000)(hr:room≤4096) :
  Fun TC 19 14 [.ptr 0 0] (ao ps room (gOf (aa ps room) 4 S) M xs nl f cnt) 14 (.d (am 4 Cel.D (aE ps room M))) (ao ps room (gOf (aa ps room) 4 S) M xs nl f cnt):=by
 refine qL (h.cok hk 0 (by decide)) ?_ (Core.all_ok (bR ps room) h.all.inv.iw h.all.ih).1 fun c hc=>h.all_cel hc
 have h1:=h.all.ge
 have h2:=h.all.room
 have h3:(aa ps room).room=room:=rfl
 omega
theorem sQ(h:eW ps room k M S xs nl cnt)(hk:k≤1000000) :
  Fun TC 21 14 [.ptr 0 0] (ao ps room (gOf (aa ps room) 4 S) M xs nl f cnt) 14 (.i .i64 (M.W 32)) (ao ps room (gOf (aa ps room) 4 S) M xs nl f cnt) :=
 qK (h.cok hk 0 (by decide))
end
structure PmI(room:Int)(M:Core.Mc)(S:Nat→Core.Wk)(A:Int)(R L:List Int)(n:Int):Prop where
 s:SerI M S L n
 p:Core.Pm cC (aa ak room) Vt Qt M S A R
theorem lK(P:Core.Ops):Core.hel P Core.M0=[]:=rfl
theorem PmI.zero(room:Int):PmI room Core.M0 S0 0 [] [] 0:=by
 refine⟨.zero,⟨fun k c h=>?_,fun s h=>?_,?_,fun i h=>absurd rfl h,fun i h=>absurd rfl h,fun i=>trivial,fun s h=>absurd h (by simp),List.nodup_nil,?_⟩⟩
 ·have:Core.own cC Core.M0 k=none:=rfl
  rw[this]at h;cases h
 ·rw[lK]at h;simp at h
 ·rw[lK];exact List.nodup_nil
 ·rw[lK]
  show(0:Int)=0+Core.sumI 64 (fun _=>0)-0
  rw[Core.sumI_zero];rfl
end
def hs(l:List Cel)(j:Nat):List Int:=(l.take j).flatMap (·.held)
theorem SV.Le.any{x:SV}:SV.Le x .any:=⟨fun _ _ _ _ _=>.any _⟩
def lpO(id:Nat):Code→Option Code
 | .block i b=>if i=id then(match b with|.loop c=>some c|_=>none)else lpO id b
 | .seq a b=>(lpO id a).or (lpO id b)
 | .cond _ a b=>(lpO id a).or (lpO id b)
 | .loop b=>lpO id b
 | _=>none
section
namespace Sim
@[reducible] def Wo.D(o:Wo):List D:=[am 4 Req.D o.left,.val (.int .u8 o.c.op),.val (.int .i64 o.c.pol),am 1 (aM .u8) o.c.key,.val (.int .i64 o.c.n),.val (.int .i64 o.first)]
@[reducible] def Dn.D(d:Dn):List D:=[.val (.int .i64 d.who),.val (.int .u8 d.c.op),.val (.int .i64 d.c.pol),am 1 (aM .u8) d.c.key,.val (.int .i64 d.c.n),.val (.int .i64 d.first),.val (.int .i64 d.last),.val (.int .i64 d.r.e),.val (.bool d.r.g),.val (.int .i64 d.r.left),.val (.int .i64 d.r.wait),.val (.int .i64 d.r.serial),.val (.int .i64 d.r.now)]
@[reducible] def wo0(w:List Req):List D:=[am 4 Req.D w,.val (.int .u8 0),.val (.int .i64 0),.val (.slice none 0 0),.val (.int .i64 0),.val (.int .i64 0)]
@[reducible] def lq:SV:=.d (.val (.slice none 0 0))
@[reducible] def qp(n m:Nat)(p:Int):Blk:=.cells [.ptr 0 0,.sl 15 6 0 n,.sl 16 13 0 m,lq,.i .i64 0,.i .i64 0,.i .i64 0,.i .i64 p]
@[reducible] def qn(n:Nat)(ws:Nat→Wo)(out:List Dn)(p:Int):List (Nat×Option Blk):=[(14,some (qp n out.length p)),(15,some (.row 71 6 n fun j=>(ws j).D)),(16,some (ay 50 13 Dn.D out))]
@[reducible] def cfgB(room:Int)(work:List (List Req))(picks:List (Int×Int))(fin:Bool):Blk:=.cells [.d (am 4 Pol.D ak),.i .i64 room,.d (am 1 aQ work),.d (am 2 cD picks),.b fin]
@[reducible] def resB:Blk:=.cells [lq,lq,.i .i64 0,.i .i64 0,.i .i64 0,.i .i64 0]
@[reducible] noncomputable def xN(room:Int)(work:List (List Req))(picks:List (Int×Int))(fin:Bool)(n:Nat)(s:SS)(xs:Nat→XB)(nl:Nat)(f:Nat→List D)(p:Int):List (Nat×Option Blk) :=
 ao ak room (gOf (aa ak room) 4 s.S) s.M xs nl f ((s.k:Int)+1)++qn n s.ws s.out p++[(17,some (cfgB room work picks fin)),(18,some resB)]
end Sim
open Sim
theorem y3(zs:List (List Req))(c:List Req):∀k,k<zs.length+1→bu zs.length (fun i=>wo0 (zs.getD i default)) (fun i=>bm (wo0 c) 6 (0+i)) k=wo0 ((zs++[c]).getD k default):=fun k hk=>by
 simp only[bu]
 by_cases e:k<zs.length
 ·rw[if_pos e,Q1,Q1,Q11 e]
 ·rw[if_neg e]
  obtain rfl:k=zs.length:=by omega
  have:(zs++[c]).getD zs.length default=c:=by simp
  rw[Nat.sub_self,this];rfl
theorem pY(zs:List Dn)(d:Dn):∀k,k<zs.length+1→bu zs.length (fun i=>Dn.D (zs.getD i default)) (fun i=>bm (Dn.D d) 13 (0+i)) k=Dn.D ((zs++[d]).getD k default):=fun k hk=>by
 simp only[bu]
 by_cases e:k<zs.length
 ·rw[if_pos e,Q1,Q1,Q11 e]
 ·rw[if_neg e]
  obtain rfl:k=zs.length:=by omega
  have:(zs++[d]).getD zs.length default=d:=by simp
  rw[Nat.sub_self,this];rfl
@[reducible] def RSt:Type:=Nat×SS×(Nat→XB)×Nat×(Nat→List D)
@[reducible] noncomputable def RP2(room:Int)(work:List (List Req))(picks:List (Int×Int)):RSt→Prop :=
 fun k=>k.1≤picks.length∧k.2.1=Sim.picks (aa ak room) (ss0 work) (picks.take k.1)∧SI room k.2.2.1 k.2.2.2.1 k.2.1∧k.2.1.k≤k.1∧k.2.1.out.length≤k.2.1.k
@[reducible] noncomputable def RI2(room:Int)(work:List (List Req))(picks:List (Int×Int))(fin:Bool):RSt→St :=
 fun k=>⟨⟨Tryz.f6.ntmps,0⟩,19,[(1,.ptr 17 0),(2,.ptr 18 0),(3,.i .i64 0),(5,.ptr 0 0),(7,.ptr 14 0),(50,.d (am 2 cD picks)),(51,.i .i64 picks.length),(52,.i .i64 k.1)],xN room work picks fin work.length k.2.1 k.2.2.1 k.2.2.2.1 k.2.2.2.2 0⟩
@[reducible] noncomputable def RE2(room:Int)(work:List (List Req))(picks:List (Int×Int)):SS×(Nat→XB)×Nat×(Nat→List D)→Prop :=
 fun k=>k.1=Sim.picks (aa ak room) (ss0 work) picks∧SI room k.2.1 k.2.2.1 k.1∧k.1.k≤picks.length∧k.1.out.length≤k.1.k
@[reducible] noncomputable def RJ2(room:Int)(work:List (List Req))(picks:List (Int×Int))(fin:Bool):SS×(Nat→XB)×Nat×(Nat→List D)→St :=
 fun k=>⟨⟨Tryz.f6.ntmps,0⟩,19,[(1,.ptr 17 0),(2,.ptr 18 0),(3,.i .i64 0),(5,.ptr 0 0),(7,.ptr 14 0)],xN room work picks fin work.length k.1 k.2.1 k.2.2.1 k.2.2.2 0⟩
noncomputable def rb2:Code:=(lpO 2 (Tryz.f6.body.getD .skip)).getD .skip
@[reducible] noncomputable def RQ2(room:Int)(work:List (List Req))(picks:List (Int×Int))(fin:Bool):Exit→St→Prop:=fun e S'=>e=.exit 2∧∃i,RE2 room work picks i∧Le S' (RJ2 room work picks fin i)
theorem lj{room:Int}{work:List (List Req)}{picks:List (Int×Int)}{i:Nat}(hi:i<picks.length):Sim.picks (aa ak room) (ss0 work) (picks.take (i+1))=pick (aa ak room) (Sim.picks (aa ak room) (ss0 work) (picks.take i)) (picks.getD (i:Int).toNat default):=by
 rw[eJ hi,r9];rfl
end
theorem Wp.endB{C:Cx}{ι:Type}(id:Nat){c:Code}{S:St}{Q:Exit→St→Prop}(p:ι→Prop)(I:ι→St)(h1:Wp C c S (fun e S'=>e=.exit id∧∃i,p i∧Le S' (I i)))(h2:∀i,p i→∀S',Le S' (I i)→Q .normal S'):Wp C c S (pW id Q) :=
 h1.mono fun e S' ⟨he,i,hi,hl⟩=>by
  subst he
  show if id=id then _ else _
  rw[if_pos rfl]
  exact h2 i hi S' hl
theorem fK{α:Type}[Inhabited α](D:α→List D)(z:Nat)(zs:List α)(d:α)(c:Nat→List Go.Proofs.YtlkccdlgnpkjpaaGreat.D)(hc:c 0=D d):∀k,k<zs.length+1→bu zs.length (fun i=>D (zs.getD i default)) c k=D ((zs++[d]).getD k default):=fun k hk=>by
 simp only[bu]
 by_cases e:k<zs.length
 ·rw[if_pos e,Q1,Q1,Q11 e]
 ·rw[if_neg e]
  obtain rfl:k=zs.length:=by omega
  have:(zs++[d]).getD zs.length default=d:=by simp
  rw[Nat.sub_self,this,hc]
section
open Sim
theorem eO:Pure TC 8 [] (.d (am 4 Pol.D ak)):=by
 refine Pure.mk' Tryz.func8 rfl rfl zN ?_
 (repeat' (first|((first|refine Wp.any ac rfl ?_|(with_reducible first|refine Go.mk ?_|apply ai.of|refine And.intro zC ?_));conv=>whnf)))
 exact SV.Le.sl fun i hi=>by
  have hi2:i<2:=hi
  have:i=0∨i=1:=by omega
  rcases this with rfl|rfl<;>rfl
namespace Sim
def cZ(c:Req):Req:=⟨if c.op<1∨6<c.op then 1+c.op%6 else c.op,if(if c.op<1∨6<c.op then 1+c.op%6 else c.op)=2∨(if c.op<1∨6<c.op then 1+c.op%6 else c.op)=3 then 1 else 0,c.key.take 1,cA c.n⟩
def q9(work:List (List Req)):List (List Req):=(work.take 5).map fun w=>(w.take 4).map cZ
def pD(n:Nat)(p:Int×Int):Int×Int:=if p.1<0∨n=0 then(-1,IntKind.u64.wrap p.2%30)else(p.1%n,0)
def fitR(room:Int):Int:=1+IntKind.u64.wrap room%6
structure Req.ok(c:Req):Prop where
 op:0≤c.op∧c.op≤255
 pol:-9223372036854775808≤c.pol∧c.pol≤9223372036854775807
 key:IsB c.key
 n:-9223372036854775808≤c.n∧c.n≤9223372036854775807
@[reducible] def cfgD(x:SV)(room:Int)(work:List (List Req))(picks:List (Int×Int))(fin:Bool):SV:=.agg [x,.i .i64 room,.d (am 1 aQ work),.d (am 2 cD picks),.b fin]
end Sim
theorem xR(a:List Int)(hl:a.length≤140737488355328):Pure TC 12 [.d (am 1 (aM .u8) a)] (.d (am 1 (aM .u8) a)):=by
 refine Pure.mk' Tryz.func12 rfl rfl zN ?_
 (repeat' (first|((first|refine Wp.any ac rfl ?_|(with_reducible first|refine Go.mk ?_|apply ai.of|refine And.intro zC ?_));conv=>whnf)|((with_reducible refine And.intro ?hb ?_);(case hb=>(show(0+a.length)*1≤140737488355328;omega));(conv=>whnf))))
 refine jx (Q19 _) fun i hi=>?_
 rw[Q19]
 unfold bu
 rw[if_neg (by omega)]
 rfl
theorem kQ{α:Type}[Inhabited α](D:α→List D)(l:List α)(m:Nat){k:Nat}(hk:k=(l.take m).length){z:Nat}:SV.Le (.d (.sl z k fun i=>D (l.getD (0+i) default))) (.d (am z D (l.take m))):=by
 subst hk
 refine jx rfl fun i hi=>?_
 rw[Q10]at hi
 rw[Q19,Q1,Q1,Q15,if_pos (by omega)]
theorem req_eq{o p n:Int}{k:List Int}{c:Req}(h1:o=c.op)(h2:p=c.pol)(h3:k=c.key)(h4:n=c.n):[D.val (.int .u8 o),.val (.int .i64 p),am 1 (aM .u8) k,.val (.int .i64 n)]=Req.D c:=by subst h1 h2 h3 h4;rfl
theorem nV{o p:Int}{c:Int×Int}(h1:o=c.1)(h2:p=c.2):[D.val (.int .i64 o),.val (.int .i64 p)]=cD c:=by subst h1 h2;rfl
theorem sS (room : Int) (work:List (List Req)) (picks:List (Int×Int)) (fin b:Bool) (hr:-9223372036854775808≤room∧room≤9223372036854775807) (hw:∀w∈work,∀c∈w,c.ok) (hp:∀p∈picks,(-9223372036854775808≤p.1∧p.1≤9223372036854775807)∧(-9223372036854775808≤p.2∧p.2≤9223372036854775807)) :
    Pure TC 5 [cfgD .any room work picks fin,.b b] (cfgS ak (fitR room) (q9 work) ((picks.take 400).map (pD (q9 work).length)) b):=by
  refine Pure.mk' Tryz.func5 rfl rfl zN ?_
  have hv:IntKind.u64.wrap room=room%18446744073709551616:=by simp[IntKind.wrap,IntKind.bits,IntKind.signed]
  have hvb:0≤IntKind.u64.wrap room∧IntKind.u64.wrap room<18446744073709551616:=by omega
  have hv6:(IntKind.u64.wrap room).tmod 6=IntKind.u64.wrap room%6:=Q6 hvb.1
  clear hv
  (repeat' (first|((first|refine Wp.any ac rfl ?_|(with_reducible first|refine Go.mk ?_|apply ai.of|refine Ov.ok zO ?_)|refine zV ?_|(with_reducible first|refine And.intro zC ?_|refine ag.pure (eO) rfl rfl ?_|refine Ov.mk ?_));conv=>whnf)))
  refine Wp.le (Le.virtC 11 2 32 1 (fun i=>aQ (([]:List (List Req)).getD i default)) (by decide) rfl rfl) ?_
  refine Wp.loopP (ι:=Nat) (fun i=>i≤(work.take 5).length) (fun i=>⟨⟨Tryz.f5.ntmps,0⟩,4,[(1,.b b),(2,.ptr 0 0),(4,.ptr 1 0),(5,.ptr 2 0),(28,.d (am 1 aQ (work.take 5))),(29,.i .i64 (work.take 5).length),(30,.i .i64 i)],
    [(0,some (.cells [.any,.i .i64 room,.d (am 1 aQ work),.d (am 2 cD picks),.b fin])),(1,some (.cells [lq,.i .i64 0,lq,lq,.b false])),(2,some (.cells [.d (am 4 Pol.D ak),.i .i64 (fitR room),.sl 3 1 0 (((work.take 5).take i).map fun w=>(w.take 4).map cZ).length,lq,.b b])),(3,some (ay 32 1 aQ (((work.take 5).take i).map fun w=>(w.take 4).map cZ)))]⟩) (fun i=>(work.take 5).length-i) 0 (Nat.zero_le _) ?_ ?_
  · (refine Le.by [0,1,11,13] rfl rfl rfl rfl ?_ ?_<;>((conv=>whnf);repeat' (first|exact trivial|exact ae.rfl rfl|exact ae.ptr rfl|exact ae.sl rfl|exact⟨rfl,rfl,rfl⟩|exact fun i hi=>rfl|((with_reducible refine And.intro ?_ ?_)<;>(conv=>whnf)))))
    ·exact ae.free (kQ aQ work 5 (by rw[Q10];split<;>omega)) rfl
    ·exact ae.free (.i (by rw[Q10];split<;>omega)) rfl
    ·exact ae.free (.i (by unfold fitR;omega)) rfl
  · rintro i h1
    have hl5:(work.take 5).length≤5:=by rw[Q10];omega
    (repeat' (first|((first|refine Wp.any ac rfl ?_|(with_reducible first|refine Go.mk ?_|apply ai.of|refine And.intro zC ?_));conv=>whnf)|((refine aq (fun hc=>?_) (fun hc=>?_))<;>(try simp only[wz9]at hc)<;>(try (exfalso;omega))<;>(conv=>whnf))))
    · have hm := cy (show i<(work.take 5).length by omega)
      have hta:=eJ (show i<(work.take 5).length by omega)
      have hwm:=hw _ (List.mem_of_mem_take hm)
      generalize (work.take 5).getD (i:Int).toNat default=w at hm hta hwm⊢
      refine Wp.le (Le.virt 8 46 4 (fun i=>Req.D (([]:List Req).getD i default)) (by decide) rfl) ?_
      refine Wp.endB 2 (fun _:Unit=>True) (fun _=>⟨⟨Tryz.f5.ntmps,0⟩,5,[(1,.b b),(2,.ptr 0 0),(4,.ptr 1 0),(5,.ptr 2 0),(8,.sl 4 4 0 ((w.take 4).map cZ).length),(28,.d (am 1 aQ (work.take 5))),(29,.i .i64 (work.take 5).length),(30,.i .i64 i)],
        [(0,some (.cells [.any,.i .i64 room,.d (am 1 aQ work),.d (am 2 cD picks),.b fin])),(1,some (.cells [lq,.i .i64 0,lq,lq,.b false])),(2,some (.cells [.d (am 4 Pol.D ak),.i .i64 (fitR room),.sl 3 1 0 (((work.take 5).take i).map fun w=>(w.take 4).map cZ).length,lq,.b b])),(3,some (ay 32 1 aQ (((work.take 5).take i).map fun w=>(w.take 4).map cZ))),
          (4,some (ay 46 4 Req.D ((w.take 4).map cZ)))]⟩) ?_ ?_
      · refine Wp.loopP (ι:=Nat) (fun j=>j≤(w.take 4).length) (fun j=>⟨⟨Tryz.f5.ntmps,0⟩,5,[(1,.b b),(2,.ptr 0 0),(4,.ptr 1 0),(5,.ptr 2 0),(8,.sl 4 4 0 (((w.take 4).take j).map cZ).length),(28,.d (am 1 aQ (work.take 5))),(29,.i .i64 (work.take 5).length),(30,.i .i64 i),(38,.d (am 4 Req.D (w.take 4))),(39,.i .i64 (w.take 4).length),(40,.i .i64 j)],
        [(0,some (.cells [.any,.i .i64 room,.d (am 1 aQ work),.d (am 2 cD picks),.b fin])),(1,some (.cells [lq,.i .i64 0,lq,lq,.b false])),(2,some (.cells [.d (am 4 Pol.D ak),.i .i64 (fitR room),.sl 3 1 0 (((work.take 5).take i).map fun w=>(w.take 4).map cZ).length,lq,.b b])),(3,some (ay 32 1 aQ (((work.take 5).take i).map fun w=>(w.take 4).map cZ))),
          (4,some (ay 46 4 Req.D (((w.take 4).take j).map cZ)))]⟩) (fun j=>(w.take 4).length-j) 0 (Nat.zero_le _) ?_ ?_
        · (refine Le.by [0,1,2,3,4] rfl rfl rfl rfl ?_ ?_<;>((conv=>whnf);repeat' (first|exact trivial|exact ae.rfl rfl|exact ae.ptr rfl|exact ae.sl rfl|exact⟨rfl,rfl,rfl⟩|exact fun i hi=>rfl|((with_reducible refine And.intro ?_ ?_)<;>(conv=>whnf)))))
          ·exact ae.free (kQ Req.D w 4 (by rw[Q10];split<;>omega)) rfl
          ·exact ae.free (.i (by rw[Q10];split<;>omega)) rfl
        · rintro j h2
          have hl4:(w.take 4).length≤4:=by rw[Q10];omega
          by_cases hj:j<(w.take 4).length
          · have hm2:=cy hj
            have hlj:(((w.take 4).take j).map cZ).length=j:=by rw[List.length_map,Q10];omega
            have hta2:=eJ hj
            have hxo:=hwm _ (List.mem_of_mem_take hm2)
            obtain⟨⟨o0,o1⟩,_,ok,on⟩:=hxo
            have ho:((w.take 4).getD (j:Int).toNat default).op.tmod 6=((w.take 4).getD (j:Int).toNat default).op%6:=Q6 o0
            have hTw:Pure TC 12 [.d (.sl 1 ((if 1<(((w.take 4).getD (j:Int).toNat default).key.length:Int)then 1 else(((w.take 4).getD (j:Int).toNat default).key.length:Int)).toNat-0) fun i=>(fun i=>aM .u8 (((w.take 4).getD (j:Int).toNat default).key.getD i default)) (0+i))] (.d (am 1 (aM .u8) (((w.take 4).getD (j:Int).toNat default).key.take 1))) :=
              .leX (xR (((w.take 4).getD (j:Int).toNat default).key.take 1) (by rw[Q10];omega)) (.cons (kQ (aM .u8) ((w.take 4).getD (j:Int).toNat default).key 1 (by rw[Q10];split<;>omega)) .nil)
            have hCl:=xQ ((w.take 4).getD (j:Int).toNat default).n on.2
            (repeat' (first|((first|refine Wp.any ac rfl ?_|(with_reducible first|refine Go.mk ?_|apply ai.of|refine Ov.ok zO ?_|refine And.intro zC ?_));conv=>whnf)|((with_reducible refine And.intro ?hb ?_);(case hb=>exact zz6);(conv=>whnf))|((with_reducible first|refine ab.pure (hTw) rfl rfl ?_|refine ab.pure (hCl) rfl rfl ?_);conv=>whnf)|((refine aq (fun hc=>?_) (fun hc=>?_))<;>(try simp only[wz9]at hc)<;>(try (exfalso;omega))<;>(conv=>whnf))))
            all_goals
              generalize (w.take 4).getD (j:Int).toNat default=x at *
              refine⟨j+1,by dsimp only;omega,by dsimp only;omega,?_⟩
              dsimp only
              rw[hta2,List.map_append,List.map_singleton]
              (refine Le.by [0,1,2,3,7] rfl rfl rfl rfl ?_ ?_<;>((conv=>whnf);repeat' (first|exact trivial|exact ae.rfl rfl|exact ae.ptr rfl|exact ae.sl rfl|exact⟨rfl,rfl,rfl⟩|exact fun i hi=>rfl|((with_reducible refine And.intro ?_ ?_)<;>(conv=>whnf)))))
            all_goals first
              | (rw[Q9];exact ae.sl rfl)
              | rfl
              | (rw[Q9];rfl)
              | (refine fK Req.D 4 _ (cZ x) _ ?_
                 refine req_eq (c:=cZ x) ?_ ?_ rfl rfl
                 all_goals(simp only[cZ];(repeat' split)<;>omega))
          · obtain rfl:j=(w.take 4).length:=by omega
            rw[List.take_length]
            (repeat' (first|((first|refine Wp.any ac rfl ?_|(with_reducible first|refine Go.mk ?_|apply ai.of));conv=>whnf)|((refine aq (fun hc=>?_) (fun hc=>?_))<;>(try simp only[wz9]at hc)<;>(try (exfalso;omega))<;>(conv=>whnf))))
            refine⟨rfl,(),trivial,?_⟩
            (refine Le.by [0,1,2,3,4] rfl rfl rfl rfl ?_ ?_<;>((conv=>whnf);repeat' (first|exact trivial|exact ae.rfl rfl|exact ae.ptr rfl|exact ae.sl rfl|exact⟨rfl,rfl,rfl⟩|exact fun i hi=>rfl|((with_reducible refine And.intro ?_ ?_)<;>(conv=>whnf)))))
      · rintro _ _ S' hl
        show Wp TC _ S' _
        refine Wp.le hl ?_
        refine Wp.frz 8 (by decide) ?_
        conv=>whnf
        refine⟨by omega,?_⟩
        conv=>whnf
        refine⟨rfl,rfl,?_⟩
        have hli:(((work.take 5).take i).map fun w=>(w.take 4).map cZ).length=i:=by rw[List.length_map,Q10];omega
        (repeat' (first|((first|refine Wp.any ac rfl ?_|(with_reducible first|refine Go.mk ?_|apply ai.of|refine Ov.ok zO ?_|refine And.intro zC ?_));conv=>whnf)|((with_reducible refine And.intro ?hb ?_);(case hb=>exact zz6);(conv=>whnf))))
        refine⟨i+1,by dsimp only;omega,by dsimp only;omega,?_⟩
        dsimp only
        rw[hta,List.map_append,List.map_singleton]
        (refine Le.by [0,1,2,6] rfl rfl rfl rfl ?_ ?_<;>((conv=>whnf);repeat' (first|exact trivial|exact ae.rfl rfl|exact ae.ptr rfl|((with_reducible refine And.intro ?_ ?_)<;>(conv=>whnf)))))
        all_goals first
          | (rw[Q9];exact ae.sl rfl)
          | rfl
          | (rw[Q9];rfl)
          | (refine fK aQ 1 _ ((w.take 4).map cZ) _ ?_
             show[D.sl 4 ((w.take 4).map cZ).length fun i=>((((w.take 4).map cZ).getD (0+i) default).D)]=_
             simp only[Q19]
             rfl)
    · obtain rfl:i=(work.take 5).length:=by omega
      rw[List.take_length]
      have hfw:q9 work=(work.take 5).map fun w=>(w.take 4).map cZ:=rfl
      rw[hfw]
      have hWl:((work.take 5).map fun w=>(w.take 4).map cZ).length≤5:=by rw[List.length_map];exact hl5
      generalize ((work.take 5).map fun w=>(w.take 4).map cZ)=W at hWl⊢
      refine Wp.le (Le.virtC 2 3 61 2 (fun i=>cD (([]:List (Int×Int)).getD i default)) (by decide) rfl rfl) ?_
      refine Wp.loopP (ι:=Nat) (fun j=>j≤(picks.take 400).length) (fun j=>⟨⟨Tryz.f5.ntmps,0⟩,5,[(1,.b b),(2,.ptr 0 0),(4,.ptr 1 0),(5,.ptr 2 0),(98,.d (am 2 cD (picks.take 400))),(99,.i .i64 (picks.take 400).length),(100,.i .i64 j)],
        [(0,some (.cells [.any,.i .i64 room,.d (am 1 aQ work),.d (am 2 cD picks),.b fin])),(1,some (.cells [lq,.i .i64 0,lq,lq,.b false])),(2,some (.cells [.d (am 4 Pol.D ak),.i .i64 (fitR room),.sl 3 1 0 W.length,.sl 4 2 0 (((picks.take 400).take j).map (pD W.length)).length,.b b])),(3,some (ay 32 1 aQ W)),
          (4,some (ay 61 2 cD (((picks.take 400).take j).map (pD W.length))))]⟩) (fun j=>(picks.take 400).length-j) 0 (Nat.zero_le _) ?_ ?_
      · (refine Le.by [0,1,2,3,4] rfl rfl rfl rfl ?_ ?_<;>((conv=>whnf);repeat' (first|exact trivial|exact ae.rfl rfl|exact ae.ptr rfl|exact ae.sl rfl|exact⟨rfl,rfl,rfl⟩|exact fun i hi=>rfl|((with_reducible refine And.intro ?_ ?_)<;>(conv=>whnf)))))
        ·exact ae.free (kQ cD picks 400 (by rw[Q10];split<;>omega)) rfl
        ·exact ae.free (.i (by rw[Q10];split<;>omega)) rfl
      · rintro j h2
        have hl4:(picks.take 400).length≤400:=by rw[Q10];omega
        by_cases hj:j<(picks.take 400).length
        · have hm2:=cy hj
          have hlj:(((picks.take 400).take j).map (pD W.length)).length=j:=by rw[List.length_map,Q10];omega
          have hta2:=eJ hj
          obtain⟨⟨p0,p1⟩,p2,p3⟩:=hp _ (List.mem_of_mem_take hm2)
          have hub:0≤IntKind.u64.wrap ((picks.take 400).getD (j:Int).toNat default).2∧IntKind.u64.wrap ((picks.take 400).getD (j:Int).toNat default).2<18446744073709551616:=by
            have:IntKind.u64.wrap ((picks.take 400).getD (j:Int).toNat default).2=((picks.take 400).getD (j:Int).toNat default).2%18446744073709551616:=by simp[IntKind.wrap,IntKind.bits,IntKind.signed]
            omega
          have hu3:(IntKind.u64.wrap ((picks.take 400).getD (j:Int).toNat default).2).tmod 30=IntKind.u64.wrap ((picks.take 400).getD (j:Int).toNat default).2%30:=Q6 hub.1
          have hq:0≤((picks.take 400).getD (j:Int).toNat default).1→((picks.take 400).getD (j:Int).toNat default).1.tmod W.length=((picks.take 400).getD (j:Int).toNat default).1%W.length:=fun h=>Q6 h
          (repeat' (first|((first|refine Wp.any ac rfl ?_|(with_reducible first|refine Go.mk ?_|apply ai.of));conv=>whnf)|with_reducible exact rfl|((first|with_reducible refine Ov.ok zO ?_|refine zV ?_|with_reducible refine And.intro zC ?_);conv=>whnf)|((with_reducible refine And.intro ?hb ?_);(case hb=>exact zz6);(conv=>whnf))|((refine fP.b rfl rfl rfl rfl rfl rfl rfl rfl ?hb ?ho ?_);(case hb=>exact zB);(case ho=>omega);(conv=>whnf))|(with_reducible refine Or.inl ?_)|((with_reducible refine Ov.mk ?_);conv=>whnf)|((refine aq (fun hc=>?_) (fun hc=>?_))<;>(try simp only[wz9]at hc)<;>(try (exfalso;omega))<;>(conv=>whnf))))
          all_goals
            generalize (picks.take 400).getD (j:Int).toNat default=x at *
            refine⟨j+1,by dsimp only;omega,by dsimp only;omega,?_⟩
            dsimp only
            rw[hta2,List.map_append,List.map_singleton]
          · (refine Le.by [0,1,2,3,7] rfl rfl rfl rfl ?_ ?_<;>((conv=>whnf);repeat' (first|exact trivial|exact ae.rfl rfl|exact ae.ptr rfl|exact ae.sl rfl|exact⟨rfl,rfl,rfl⟩|exact fun i hi=>rfl|((with_reducible refine And.intro ?_ ?_)<;>(conv=>whnf)))))
            all_goals first
  | (rw[Q9];exact ae.sl rfl)
  | rfl
  | (rw[Q9];rfl)
  | (refine fK cD 2 _ (pD W.length x) _ ?_;refine nV (c:=pD W.length x) ?_ ?_<;>(unfold pD;split<;>first|rfl|(exfalso;omega)|(dsimp only;omega)))
          · (refine Le.by [0,1,2,3,7] rfl rfl rfl rfl ?_ ?_<;>((conv=>whnf);repeat' (first|exact trivial|exact ae.rfl rfl|exact ae.ptr rfl|exact ae.sl rfl|exact⟨rfl,rfl,rfl⟩|exact fun i hi=>rfl|((with_reducible refine And.intro ?_ ?_)<;>(conv=>whnf)))))
            all_goals first
  | (rw[Q9];exact ae.sl rfl)
  | rfl
  | (rw[Q9];rfl)
  | (refine fK cD 2 _ (pD W.length x) _ ?_;refine nV (c:=pD W.length x) ?_ ?_<;>(unfold pD;split<;>first|rfl|(exfalso;omega)|(dsimp only;omega)))
          · (refine Le.by [0,1,2,3,16] rfl rfl rfl rfl ?_ ?_<;>((conv=>whnf);repeat' (first|exact trivial|exact ae.rfl rfl|exact ae.ptr rfl|exact ae.sl rfl|exact⟨rfl,rfl,rfl⟩|exact fun i hi=>rfl|((with_reducible refine And.intro ?_ ?_)<;>(conv=>whnf)))))
            all_goals first
  | (rw[Q9];exact ae.sl rfl)
  | rfl
  | (rw[Q9];rfl)
  | (refine fK cD 2 _ (pD W.length x) _ ?_;refine nV (c:=pD W.length x) ?_ ?_<;>(unfold pD;split<;>first|rfl|(exfalso;omega)|(dsimp only;omega)))
        · obtain rfl:j=(picks.take 400).length:=by omega
          rw[List.take_length]
          (repeat' (first|((first|refine Wp.any ac rfl ?_|(with_reducible first|refine Go.mk ?_|apply ai.of|refine And.intro zC ?_));conv=>whnf)|((refine aq (fun hc=>?_) (fun hc=>?_))<;>(try simp only[wz9]at hc)<;>(try (exfalso;omega))<;>(conv=>whnf))))
          simp only[Q19]
          exact .rfl _
end
section
open Go.ChangeShapes Go.WideShapes Go.ChangeAt Go.RowKit
open Sim
theorem yC{d:D}(h:ue .bool d):∃b,d=.val (.bool b):=by cases h with|bool b=>exact⟨b,rfl⟩
theorem fit_req{ds:List D}(h:ii [.int .u8,.int .i64,.sl 1 [.int .u8],.int .i64] ds):∃c:Req,rf ds c.D∧c.ok:=by
 obtain⟨d0,r0,rfl,h0,t0⟩:=bl h
 obtain⟨d1,r1,rfl,h1,t1⟩:=bl t0
 obtain⟨d2,r2,rfl,h2,t2⟩:=bl t1
 obtain⟨d3,r3,rfl,h3,t3⟩:=bl t2
 obtain rfl:=i6 t3
 obtain⟨n0,rfl,w0⟩:=eR h0
 obtain⟨n1,rfl,w1⟩:=eR h1
 obtain⟨key,le,_,w2⟩:=yB h2
 obtain⟨n3,rfl,w3⟩:=eR h3
 exact⟨⟨n0,n1,key,n3⟩,.cons (.rfl _) (.cons (.rfl _) (.cons le (.cons (.rfl _) .nil))),wf_u8 w0,mq w1,fun x hx=>wf_u8 (w2 x hx),mq w3⟩
theorem yA{ds:List D}(h:ii [.sl 4 [.int .u8,.int .i64,.sl 1 [.int .u8],.int .i64]] ds):∃l:List Req,rf ds (aQ l)∧∀c∈l,c.ok:=by
 obtain⟨d,r,rfl,h1,t⟩:=bl h
 obtain rfl:=i6 t
 obtain⟨l,le,_,hok⟩:=ic h1 fun ds hd=>fit_req hd
 exact⟨l,.cons le .nil,hok⟩
theorem fit_pk{ds:List D}(h:ii [.int .i64,.int .i64] ds):∃p:Int×Int,rf ds (cD p)∧((-9223372036854775808≤p.1∧p.1≤9223372036854775807)∧(-9223372036854775808≤p.2∧p.2≤9223372036854775807)):=by
 obtain⟨d0,r0,rfl,h0,t0⟩:=bl h
 obtain⟨d1,r1,rfl,h1,t1⟩:=bl t0
 obtain rfl:=i6 t1
 obtain⟨n0,rfl,w0⟩:=eR h0
 obtain⟨n1,rfl,w1⟩:=eR h1
 exact⟨(n0,n1),.cons (.rfl _) (.cons (.rfl _) .nil),mq w0,mq w1⟩
theorem argCfg{H:Type}{enc:TypeId×Value→H}{W:World}{base:Nat}{v:Value}{d:DataW H}{p:List MemPlace}(hv:Value.okWide Tryz.prog W .any base 26 v)(h:DataW.Trod enc Tryz.prog W 0 (fun _=>true) true 26 v d p) :
  ∃(room:Int) (work:List (List Req)) (picks:List (Int×Int)) (fin:Bool),(-9223372036854775808≤room∧room≤9223372036854775807)∧(∀w∈work,∀c∈w,c.ok) ∧
   (∀p∈picks,(-9223372036854775808≤p.1∧p.1≤9223372036854775807)∧(-9223372036854775808≤p.2∧p.2≤9223372036854775807)) ∧
   ∀E:Env,E.Im=(fun b=>b<W.heap.size)→RS E 0 W (cfgD .any room work picks fin) v:=by
 simp only[Value.okWide,Tryz.underlying26]at hv
 obtain⟨cs,rfl,_,_⟩:=hv
 obtain⟨ds,f,g⟩:=argA h (ss:=[.sl 4 [.int .u8,.int .i64,.int .i64,.int .i64],.int .i64,.sl 1 [.sl 4 [.int .u8,.int .i64,.sl 1 [.int .u8],.int .i64]],.sl 2 [.int .i64,.int .i64],.bool]) (by kernel_rfl)
 obtain⟨d0,r0,rfl,h0,t0⟩:=bl f
 obtain⟨d1,r1,rfl,h1,t1⟩:=bl t0
 obtain⟨d2,r2,rfl,h2,t2⟩:=bl t1
 obtain⟨d3,r3,rfl,h3,t3⟩:=bl t2
 obtain⟨d4,r4,rfl,h4,t4⟩:=bl t3
 obtain rfl:=i6 t4
 obtain⟨n1,rfl,w1⟩:=eR h1
 obtain⟨work,le2,_,hw⟩:=ic h2 fun ds hd=>yA hd
 obtain⟨picks,le3,_,hp⟩:=ic h3 fun ds hd=>fit_pk hd
 obtain⟨b,rfl⟩:=yC h4
 refine⟨n1,work,picks,b,mq w1,hw,hp,fun E hE=>?_⟩
 exact(SV.Le.agg (.cons ⟨fun _ _ _ _ _=>.any _⟩ (.cons (.rfl _) (.cons le2.sv (.cons le3.sv (.cons (.rfl _) .nil)))))).out _ _ _ _ (g E hE)
end
section
open Sim
theorem run_2e{room:Int}{work:List (List Req)}{picks:List (Int×Int)}{fin:Bool}{s:SS}{xs:Nat→XB}{nl:Nat}{f:Nat→List D}
  (he:s=Sim.picks (aa ak room) (ss0 work) (picks.take picks.length)) (hI:SI room xs nl s) (hk:s.k≤picks.length) (ho:s.out.length≤s.k) :
  Wp TC rb2 (RI2 room work picks fin (picks.length,s,xs,nl,f)) (jU (RP2 room work picks) (RI2 room work picks fin) (fun k=>picks.length-k.1) (picks.length-picks.length) (RQ2 room work picks fin)):=by
 dsimp only[RI2]
 conv=>(arg 2;whnf)
 have xc:=hI.law.xl
 rw[List.take_length]at he
 (repeat' (first|((first|refine Wp.any ac rfl ?_|(with_reducible first|refine Go.mk ?_|apply ai.of));conv=>whnf)|((refine aq (fun hc=>?_) (fun hc=>?_))<;>(try simp only[wz9]at hc)<;>(try (exfalso;omega))<;>(conv=>whnf))))
 all_goals
  refine⟨rfl,(s,xs,nl,f),⟨he,hI,hk,ho⟩,?_⟩
  dsimp only[RJ2]
  (refine Le.by [0,1,2,3,4,5,6,7,8,9,10,11,12,13,14,15,16,17,18] rfl rfl rfl rfl ?_ ?_<;>((conv=>whnf);repeat' (first|exact trivial|exact cF (by decide) (by decide) (fun l hl=>by rcases l with _|_|_|_|l<;>first|exact⟨zzb rfl,rfl⟩|exact⟨zzb rfl,rfl,rfl⟩|omega) (fun q hq=>by rcases q with _|_|_|_|_|_|_|_|_|q<;>first|exact⟨zzb rfl,rfl⟩|omega)|exact ae.rfl rfl|exact ae.ptr rfl|exact ae.sl rfl|exact⟨rfl,rfl,rfl⟩|exact⟨rfl,zzb rfl⟩|exact gz (by assumption)|exact fun i hi=>rfl|((with_reducible refine And.intro ?_ ?_)<;>(conv=>whnf)))))
theorem run_2t{room:Int}{work:List (List Req)}{picks:List (Int×Int)}{fin:Bool}{i:Nat}{s:SS}{xs:Nat→XB}{nl:Nat}{f:Nat→List D}(hi:i<picks.length)(hp:picks.length≤65536)
  (he:s=Sim.picks (aa ak room) (ss0 work) (picks.take i)) (hI:SI room xs nl s) (hk:s.k≤i) (ho:s.out.length≤s.k) (h0:(picks.getD (i:Int).toNat default).1=-1) (h1:0≤(picks.getD (i:Int).toNat default).2) (h2:(picks.getD (i:Int).toNat default).2≤4611686018427387903) :
  Wp TC rb2 (RI2 room work picks fin (i,s,xs,nl,f)) (jU (RP2 room work picks) (RI2 room work picks fin) (fun k=>picks.length-k.1) (picks.length-i) (RQ2 room work picks fin)):=by
 dsimp only[RI2]
 conv=>(arg 2;whnf)
 have xc:=hI.law.xl
 have hn:=lj (room:=room) (work:=work) hi
 rw[← he]at hn
 unfold pick at hn
 rw[if_pos h0]at hn
 have hcl:=hI.law.clk
 have hT:=nm (f:=f) (nl:=nl) (cnt:=(s.k:Int)+1) (hI.law.cok (by omega) 0 (by decide)) hcl.1 hcl.2 _ h1 h2
 (repeat' (first|((first|refine Wp.any ac rfl ?_|(with_reducible first|refine Go.mk ?_|apply ai.of|refine Ov.ok zO ?_|refine And.intro zC ?_));conv=>whnf)|((refine ab.fn (hT) [0,1,2,3,4,5,6,7,8,9,10,11,12,13] rfl rfl rfl rfl rfl ?ha ?hh ?_);(case ha=>exact zA);(case hh=>exact zz3);(conv=>whnf))|((refine aq (fun hc=>?_) (fun hc=>?_))<;>(try simp only[wz9]at hc)<;>(try (exfalso;omega))<;>(conv=>whnf))))
 refine⟨(i+1,tick s (picks.getD (i:Int).toNat default).2,xs,nl,f),⟨by dsimp only;omega,hn.symm,hI.tick h1,by dsimp only;omega,ho⟩,by dsimp only;omega,?_⟩
 dsimp only[RI2]
 (refine Le.by [0,1,2,3,4,5,6,7,8,9,10,11,12,13,14,15,16,17,18] rfl rfl rfl rfl ?_ ?_<;>((conv=>whnf);repeat' (first|exact trivial|exact bT (by decide) (fun l hl=>by rcases l with _|_|_|_|l<;>first|exact⟨zzb rfl,rfl⟩|exact⟨zzb rfl,rfl,rfl⟩|omega) (fun q hq=>by rcases q with _|_|_|_|_|_|_|_|_|q<;>first|exact⟨zzb rfl,rfl⟩|omega)|exact ae.rfl rfl|exact ae.ptr rfl|exact ae.sl rfl|exact⟨rfl,rfl,rfl⟩|exact⟨rfl,zzb rfl⟩|exact dI (by assumption) rfl|exact fun i hi=>rfl|((with_reducible refine And.intro ?_ ?_)<;>(conv=>whnf)))))
end
section
def uA(es:Array Edge)(i:Nat):Bool:=es.any fun e=>Region.binds .any e&&Nat.beq e.on i
def usedB(l:List Oper)(o:Oper)(i:Nat):Bool:=uA o.after i||(List.range l.length).any fun j=>Nat.blt i j&&((l[j]?).map fun q=>uA q.after i).getD false
def oG(l:List Oper)(o:Oper):Bool :=
 (List.range l.length).all (usedB l o) &&
 (List.range l.length).all (fun i=>((l[i]?).map fun q=>(q.after.all fun e=>!Region.binds .any e||Nat.blt e.on i)&&(match q.guard with|none=>true|some (j,_)=>Nat.blt j l.length)).getD false) &&
 (o.after.all fun e=>!Region.binds .any e||Nat.blt e.on l.length)&&o.guard.isNone
theorem upon_q{P:Program}{o:Oper}{a:Act}{w:World}{K:Act→World→Prop}{Q Q':Exit→Act→World→Prop}(hL:LetsOut Q→LetsOut Q')(hQ:∀c a w,Q (.panic c) a w→Q' (.panic c) a w)(h:o.wp P a w K Q):o.wp P a w K Q':=by
 unfold Oper.wp at *
 generalize (execOp a.eval o).run P w=r at *
 cases r with
 | ok n w' =>
  cases n<;>simp only[Oper.upon]at h⊢<;>
   first
    | exact h
    | exact Calls.mono h (fun e w'' he=>by cases e<;>first|exact he|exact hQ _ _ _ he|exact hL he)
 | halt x w'=>cases x<;>simp only[Oper.upon]at h⊢<;> first|exact h|exact hQ _ _ _ h
theorem mW{listed:Array Bool}{i:Nat}(b:Bool):(listed.push b).getD i b=listed.getD i b:=by
 simp only[Q7,Array.getElem?_push]
 split
 ·rename_i h;subst h;simp
 ·rfl
theorem gD{listed:Array Bool}{i:Nat}(b d:Bool)(h:i<listed.size):(listed.push b).getD i d=listed.getD i d:=by
 simp only[Q7,Array.getElem?_push]
 rw[if_neg (by omega)]
section
variable{P:Program}{l:List Oper}{o:Oper}{Q:Exit→Act→World→Prop}
theorem kT{i:Nat}(h:i<l.length):(l++[o]).toArray[i]?=l.toArray[i]?:=by simp[Q11 h]
theorem mt:(l++[o]).toArray[l.length]?=some o:=by simp
theorem lg{listed:Array Bool}(hs:listed.size=l.length){i:Nat}(hi:i<l.length):i∈Region.ready .any (l++[o]).toArray (listed.push false)↔i∈Region.ready .any l.toArray listed:=by
 rw[mem_ready,mem_ready,kT hi,gD false true (by omega)]
 simp only[mW]
theorem jV{listed:Array Bool}(hs:listed.size=l.length):l.length∈Region.ready .any (l++[o]).toArray (listed.push false)↔∀e∈o.after,Region.binds .any e=true→listed.getD e.on false=true:=by
 rw[mem_ready,mt]
 have h0:(listed.push false).getD l.length true=false:=by rw[Q7,← hs];simp
 rw[h0]
 simp only[mW]
 constructor
 ·rintro⟨_,q,hq,h⟩;cases hq;exact h
 ·exact fun h=>⟨trivial,o,rfl,h⟩
theorem oP{listed:Array Bool}{i:Nat}(h:i∈Region.ready .any (l++[o]).toArray (listed.push false)):i<l.length∨i=l.length:=by
 rw[mem_ready]at h
 obtain⟨_,q,hq,_⟩:=h
 have:=(Q17 hq).1
 simp at this;omega
theorem p9{R:Exit→Act→World→Prop}(hok:oG l o=true)(hR:∀a w,R .normal a w→o.wp P a w (fun a w=>Q .normal a w) Q)(hP:∀c a w,¬R (.panic c) a w)(hO:¬LetsOut R):∀(fuel:Nat) (listed:Array Bool) (a:Act) (w:World),listed.size=l.length →
  (∀i q,l[i]?=some q→listed.getD i false=true→∀e∈q.after,Region.binds .any e=true→listed.getD e.on false=true) →
  wpAny P .any l.toArray R fuel listed a w→wpAny P .any (l++[o]).toArray Q (fuel+1) (listed.push false) a w:=by
 unfold oG at hok
 simp only[Q5,Q23,List.mem_range]at hok
 obtain⟨⟨⟨hu,hp⟩,ha⟩,hg⟩:=hok
 have hgn:o.guard=none:=by cases e:o.guard with|none=>rfl|some _=>rw[e]at hg;cases hg
 have hpre:∀i q,l[i]?=some q→(∀e∈q.after,Region.binds .any e=true→e.on<i)∧(∀j b,q.guard=some (j,b)→j<l.length):=fun i q hq=>by
  have h1:=hp i (Q3 hq).1
  rw[hq]at h1
  simp only[Option.map_some,Option.getD_some,Q5]at h1
  refine⟨fun e he hb=>?_,fun j b hjb=>?_⟩
  ·have h2:=h1.1
   rw[Array.all_eq_true']at h2
   have:=h2 e he
   rw[hb]at this
   simpa using this
  ·have h2:=h1.2
   rw[hjb]at h2
   simpa using h2
 have hao:∀e∈o.after,Region.binds .any e=true→e.on<l.length:=fun e he hb=>by
  rw[Array.all_eq_true']at ha
  have:=ha e he
  rw[hb]at this
  simpa using this
 have cover:∀(listed:Array Bool),(∀i q,l[i]?=some q→listed.getD i false=true→∀e∈q.after,Region.binds .any e=true→listed.getD e.on false=true) →
   (∀e∈o.after,Region.binds .any e=true→listed.getD e.on false=true)→∀k i,l.length=i+k→∀j,i≤j→j<l.length→listed.getD j false=true:=by
  intro listed hd hr k
  induction k with
  | zero=>intro i hi j h1 h2;omega
  | succ k ih =>
   intro i hi j h1 h2
   by_cases e:i=j
   ·subst e
    have h3:=hu i h2
    unfold usedB at h3
    rw[Q20]at h3
    have wt:∀{es:Array Edge},uA es i=true→∃e∈es,Region.binds .any e=true∧e.on=i:=fun {es} h=>by
     unfold uA at h
     rw[Array.any_eq_true']at h
     obtain⟨e,h4,h5⟩:=h
     rw[Q5]at h5
     exact⟨e,h4,h5.1,Q2 h5.2⟩
    rcases h3 with h3|h3
    ·obtain⟨e,h4,h5,h6⟩:=wt h3
     rw[← h6];exact hr e h4 h5
    ·rw[List.any_eq_true]at h3
     obtain⟨q,hq,h3⟩:=h3
     rw[List.mem_range]at hq
     rw[Q5,Q0 hq]at h3
     simp only[Option.map_some,Option.getD_some]at h3
     obtain⟨h3,h4⟩:=h3
     have h3:i<q:=by simpa using h3
     obtain⟨e,h5,h6,h7⟩:=wt h4
     have:=ih (i+1) (by omega) q (by omega) hq
     rw[← h7];exact hd q _ (Q0 hq) this e h5 h6
   ·exact ih (i+1) (by omega) j (by omega) h2
 have allOf:∀(listed:Array Bool),listed.size=l.length→Region.ready .any l.toArray listed=[]→∀j,j<l.length→listed.getD j false=true:=by
  intro listed hs hr j
  induction j using Nat.strongRecOn with
  | _ j ih =>
   intro hj
   cases hb:listed.getD j false with
   | true=>rfl
   | false =>
    exfalso
    have:j∈Region.ready .any l.toArray listed:=mem_ready.2 ⟨by
     rw[Q7]at hb⊢
     rw[Array.getElem?_eq_getElem (by omega)]at hb⊢
     exact hb,l[j],by simp[Q0 hj],fun e he hbe=>ih e.on ((hpre j _ (Q0 hj)).1 e he hbe) (by have:=(hpre j _ (Q0 hj)).1 e he hbe;omega)⟩
    rw[hr]at this;cases this
 have wtd:∀(a:Act),Region.wanted o (yielded (l++[o]).toArray a.tmps)=true:=fun a=>by unfold Region.wanted;rw[hgn]
 have endC:∀(fuel:Nat) (listed:Array Bool) (a:Act) (w:World),listed.size=l.length→Region.ready .any l.toArray listed=[]→o.wp P a w (fun a w=>Q .normal a w) Q→wpAny P .any (l++[o]).toArray Q (fuel+1) (listed.push false) a w:=by
  intro fuel listed a w hs hr h
  have hall:=allOf listed hs hr
  have hlast:l.length∈Region.ready .any (l++[o]).toArray (listed.push false):=(jV hs).2 fun e he hb=>hall _ (hao e he hb)
  refine⟨fun h0=>(by rw[h0]at hlast;cases hlast),fun i hi=>?_⟩
  rcases oP hi with h1|rfl
  ·rw[lg hs h1,hr]at hi;cases hi
  ·unfold wpOp
   rw[mt]
   simp only
   rw[if_pos (wtd a)]
   left
   refine Oper.wp_mono (fun a' w' hQ=>?_) h
   refine wpAny_done ?_ hQ fuel
   refine List.eq_nil_iff_forall_not_mem.2 fun j hj=>?_
   have hj2:=(mem_ready.1 hj).1
   have hjl:j<l.length∨j=l.length:=by
    obtain⟨_,q,hq,_⟩:=mem_ready.1 hj
    have:=(Q17 hq).1
    simp at this;omega
   rcases hjl with hjl|rfl
   ·rw[getD_set_ne true (by omega:l.length≠j),gD false true (by omega)]at hj2
    have:=hall j hjl
    rw[Q7,Array.getElem?_eq_getElem (by omega)]at this hj2
    simp at this hj2;rw[this]at hj2;cases hj2
   ·rw[Q7]at hj2
    simp[← hs]at hj2
 intro fuel
 induction fuel with
 | zero =>
  intro listed a w hs hd h
  exact endC 0 listed a w hs h.1 (hR _ _ h.2)
 | succ fuel ih =>
  intro listed a w hs hd h
  by_cases hr:Region.ready .any l.toArray listed=[]
  ·exact endC (fuel+1) listed a w hs hr (hR _ _ (h.1 hr))
  ·have hnl:¬l.length∈Region.ready .any (l++[o]).toArray (listed.push false):=fun hin=>by
    have hc:=cover listed hd ((jV hs).1 hin) l.length 0 (by omega)
    apply hr
    refine List.eq_nil_iff_forall_not_mem.2 fun j hj=>?_
    obtain⟨hj1,q,hq,_⟩:=mem_ready.1 hj
    have hjl:j<l.length:=by have:=(Q17 hq).1;simpa using this
    have:=hc j (Nat.zero_le _) hjl
    rw[Q7,Array.getElem?_eq_getElem (by omega)]at this hj1
    simp at this hj1;rw[this]at hj1;cases hj1
   refine⟨fun h0=>?_,fun i hi=>?_⟩
   ·exfalso
    apply hr
    refine List.eq_nil_iff_forall_not_mem.2 fun j hj=>?_
    have hjl:j<l.length:=by
     obtain⟨_,q,hq,_⟩:=mem_ready.1 hj
     have:=(Q17 hq).1;simpa using this
    have:=(lg (o:=o) hs hjl).2 hj
    rw[h0]at this;cases this
   ·rcases oP hi with hil|rfl
    ·have hi2:=(lg hs hil).1 hi
     have h2:=h.2 i hi2
     unfold wpOp at h2⊢
     rw[kT hil]
     have hli:l.toArray[i]?=some l[i]:=by simp[Q0 hil]
     rw[hli]at h2⊢
     simp only at h2⊢
     have hw:Region.wanted l[i] (yielded (l++[o]).toArray a.tmps)=Region.wanted l[i] (yielded l.toArray a.tmps):=by
      unfold Region.wanted
      cases hgd:l[i].guard with
      | none=>rfl
      | some jb =>
       obtain⟨j,b⟩:=jb
       have hj:=(hpre i _ (Q0 hil)).2 j b hgd
       simp only
       unfold yielded
       rw[kT hj]
     rw[hw]
     have hd':∀i' q,l[i']?=some q→(listed.setIfInBounds i true).getD i' false=true→∀e∈q.after,Region.binds .any e=true→(listed.setIfInBounds i true).getD e.on false=true:=by
      intro i' q hq hg' e he hb
      by_cases e1:i'=i
      ·subst e1
       obtain⟨_,q2,hq2,hall⟩:=mem_ready.1 hi2
       rw[hli]at hq2;cases hq2
       have:q=l[i']:=by rw[Q0 hil]at hq;exact(Option.some.inj hq).symm
       subst this
       exact getD_set_true (hall e he hb)
      ·rw[getD_set_ne false (Ne.symm e1)]at hg'
       exact getD_set_true (hd i' q hq hg' e he hb)
     have hpush:(listed.push false).setIfInBounds i true=(listed.setIfInBounds i true).push false:=by
      refine Array.ext_getElem? fun k=>?_
      simp only[Array.getElem?_setIfInBounds,Array.getElem?_push,Array.size_push,Array.size_setIfInBounds]
      by_cases e1:i=k
      ·subst e1
       rw[if_pos rfl,if_pos (by omega),if_neg (by omega),if_pos rfl,if_pos (by omega)]
      ·rw[if_neg e1,if_neg e1]
     rw[hpush]
     have step:∀a' w',wpAny P .any l.toArray R fuel (listed.setIfInBounds i true) a' w'→wpAny P .any (l++[o]).toArray Q (fuel+1) ((listed.setIfInBounds i true).push false) a' w':=fun a' w' h'=>ih _ a' w' (by simp[hs]) hd' h'
     split
     ·rename_i hwt
      rw[if_pos hwt]at h2
      rcases h2 with h2|⟨_,h3⟩
      ·left
       exact Oper.wp_mono step (upon_q (fun hl=>absurd hl hO) (fun c a w hf=>absurd hf (hP c a w)) h2)
      ·exact absurd h3 hO
     ·rename_i hwt
      rw[if_neg hwt]at h2
      exact step _ _ h2
    ·exact absurd hi hnl
end
theorem jA(n:Nat):(Array.replicate n false).push false=Array.replicate (n+1) false:=by
 rw[Array.replicate_succ]
theorem Wp.drawTail{C:Cx}{id:Nat}{l:List Oper}{o:Oper}{nt:NT}{nx:Nat}{fr:List (Nat×SV)}{hp:List (Nat×Option Blk)}{Q:Exit→St→Prop}(hm:C.P.follows .mixedOrders=true)(hok:oG l o=true)
  (h:cQ C l nx l 0 ⟨nt,nx+l.length,fr,hp⟩ fun efs Sn=>dU l efs nx ⟨nt,nx+l.length,fr,hp⟩=true∧runK C Sn o fun S'=>Q .normal S'):Wp C (.region id (l++[o]).toArray true) ⟨nt,nx,fr,hp⟩ Q:=by
 refine⟨fun O E a w hs=>wp_region_any hm ?_⟩
 have h1:=Wp.drawAny (Q:=fun e S'=>match e with|.normal=>runK C S' o (fun S''=>Q .normal S'')|_=>False) h hs
 have h2:=p9 (P:=C.P) (l:=l) (o:=o) (Q:=fun e a' w'=>∃S' E',Q e S'∧Sat O E' S' a' w') hok (fun a' w' hh=>?_) (fun c a' w' hh=>?_) (fun hh=>?_) l.length (Array.replicate l.length false) a { w with drawn:=w.drawn+1 } (by simp) (fun i q _ hi=>by
  simp[Q7,Array.getElem?_replicate]at hi;split at hi<;>simp at hi) h1
 ·rw[jA]at h2
  simpa using h2
 ·obtain⟨S',E',hk,hS⟩:=hh
  refine il hS hk _ _ fun v E2 S2 w2 x g1 g2 g3=>?_
  obtain⟨S3,k1,k2⟩:=iE g2 g3 g1
  exact⟨S3,E2,k1,k2⟩
 ·obtain⟨S',E',hk,_⟩:=hh;exact hk
 ·obtain⟨_,_,S',E',hk,_⟩:=hh;exact hk
def yp:List Oper→List Oper
 | []=>[]
 | [_]=>[]
 | x::y::r=>x::yp (y::r)
def lastL:List Oper→Option Oper
 | []=>none
 | [x]=>some x
 | _::y::r=>lastL (y::r)
theorem mS:∀{l:List Oper} {o:Oper},lastL l=some o→yp l++[o]=l
 | [],_,h=>by cases h
 | [x],_,h=>by cases h;rfl
 | x::y::r,o,h=>by
  have:=mS (l:=y::r) h
  show x::(yp (y::r)++[o])=_
  rw[this]
theorem Wp.drawTailL{C:Cx}{id:Nat}{l l1:List Oper}{o:Oper}{nt:NT}{nx:Nat}{fr:List (Nat×SV)}{hp:List (Nat×Option Blk)}{Q:Exit→St→Prop}(hm:C.P.follows .mixedOrders=true)(ho:lastL l=some o)(hl:yp l=l1)(hok:oG l1 o=true)
  (h:cntK l1 nx fun m=>cQ C l1 nx l1 0 ⟨nt,m,fr,hp⟩ fun efs Sn=>dU l1 efs nx ⟨nt,m,fr,hp⟩=true∧runK C Sn o fun S'=>Q .normal S'):Wp C (.region id l.toArray true) ⟨nt,nx,fr,hp⟩ Q:=by
 subst hl
 have:=Wp.drawTail (id:=id) hm hok (oy _ nx _ h)
 rwa [mS ho]at this
end
section
open Sim
@[reducible] noncomputable def rG(room:Int)(n:Nat)(s:SS)(xs:Nat→XB)(nl:Nat)(f:Nat→List D)(p:Int):List (Nat×Option Blk) :=
 ao ak room (gOf (aa ak room) 4 s.S) s.M xs nl f ((s.k:Int)+1)++qn n s.ws s.out p
@[reducible] noncomputable def nM(room:Int)(n:Nat)(s:SS)(xs:Nat→XB)(nl:Nat)(f:Nat→List D)(p:Int):List (Nat×Option Blk) :=
  [(0,some (.cf 26 67 (av ak room (gOf (aa ak room) 17 s.S)))),(1,some (cu 2 26 34 nl s.M.clk ((s.k:Int)+1))),(2,some (co 34 s.M.W)),(3,some (gK s.M.Hd)),
   (4,none),(5,none),(6,none),(7,none),(8,none),(9,none),(10,none),(11,none),(12,none),(13,none),
   (14,some (.cells [.ptr 0 0,.sl 15 6 0 n,.sl 27 13 0 s.out.length,lq,.i .i64 0,.i .i64 0,.i .i64 0,.i .i64 p])),(15,some (.row 71 6 n fun j=>(s.ws j).D)),(16,none),
   (17,some (xB (xs 0))),(18,some (xB (xs 1))),(19,some (xB (xs 2))),(20,some (xB (xs 3))),(21,some (xB (xs 4))),(22,some (xB (xs 5))),(23,some (xB (xs 6))),(24,some (xB (xs 7))),(25,some (xB (xs 8))),(26,some (bK nl f)),
   (27,some (ay 50 13 Dn.D s.out))]
theorem lW{a b:List D}(h:a=b):gy a b:=h▸gy.refl _
theorem zd(l:List Req):D.sl 4 (l.length-Int.toNat 1) (fun i=>(l.getD (Int.toNat 1+i) default).D)=am 4 Req.D l.tail:=by
 unfold am
 congr 1
 ·rw[List.length_tail];rfl
 ·funext i
  cases l with
  | nil=>simp
  | cons a l=>show Req.D ((a::l).getD (1+i) default)=_;rw[Nat.add_comm,List.getD_cons_succ];rfl
variable{room:Int}{s:SS}{xs:Nat→XB}{nl:Nat}{f:Nat→List D}{n w:Nat}
theorem jN(p:Int)(hn6:n≤64)(hI:SI room xs nl s)(hk:s.k≤900000)(hwn:w<n)(hc:isC (s.S w).s=false)(hl:(s.ws w).left=[]) :
  Fun TC 17 17 [.ptr 14 0,.i .i64 w] (rG room n s xs nl f p) 17 (.b false) (rG room n s xs nl f p):=by
 have xc:=hI.law.xl
 have hP:=dm (f:=f) hI.law (by omega) (w:=w) (by omega)
 rw[hc]at hP
 have hl0:(s.ws (0+(w:Int).toNat)).left.length=0:=by rw[Q19,Q13,hl];rfl
 refine Fun.mk' Tryz.func17 rfl rfl zN (by decide) ?_
 (repeat' (first|((first|refine Wp.any ac rfl ?_|(with_reducible first|refine Go.mk ?_|apply ai.of|refine And.intro zC ?_));conv=>whnf)|((refine ab.fn (hP) [0,1,2,3,4,5,6,7,8,9,10,11,12,13] rfl rfl rfl rfl rfl ?ha ?hh ?_);(case ha=>exact zA);(case hh=>exact zz3);(conv=>whnf))|((refine aq (fun hc=>?_) (fun hc=>?_))<;>(try simp only[wz9]at hc)<;>(try (exfalso;omega))<;>(conv=>whnf))))
 ((refine af.sealB [0,1,2,3,4,5,6,7,8,9,10,11,12,13,14,15,16] rfl rfl rfl ?_ ?_);(focus((conv=>whnf);(repeat' (first|exact aj.d))));(focus((conv=>whnf);(repeat' (first|exact trivial|exact aj.d|exact iP (by decide) (fun l hl=>by rcases l with _|_|_|_|l<;>first|exact⟨zzb rfl,rfl⟩|exact⟨zzb rfl,rfl,rfl⟩|omega) (fun q hq=>by rcases q with _|_|_|_|_|_|_|_|_|q<;>first|exact⟨zzb rfl,rfl⟩|omega)|exact aj.ptrL rfl|exact aj.slL rfl|exact⟨rfl,rfl,rfl⟩|exact⟨rfl,zzb rfl⟩|exact oF (by assumption) rfl|exact fun i hi=>gy.refl _|((refine And.intro ?_ ?_)<;>(conv=>whnf)))))))
theorem qi(p:Int)(hn6:n≤64)(hI:SI room xs nl s)(hk:s.k≤900000)(ho:s.out.length≤1000000)(hwn:w<n)(hc:isC (s.S w).s=false){c:Req}{r:List Req}(hl:(s.ws w).left=c::r) :
  ∃xs' nl' f',SI room xs' nl' (adv (aa ak room) (beg s w c r) w)∧Fun TC 17 17 [.ptr 14 0,.i .i64 w] (rG room n s xs nl f p) 28 (.b true) (nM room n (adv (aa ak room) (beg s w c r) w) xs' nl' f' p):=by
 have xc:=hI.law.xl
 have hP:=dm (f:=f) hI.law (by omega) (w:=w) (by omega)
 rw[hc]at hP
 have hw8:=hI.w8l hl
 have hok:=hI.cok w c (by rw[hl];exact List.mem_cons_self ..)
 have hkl:=hok.len
 obtain⟨xs1,hL1,hS1⟩:=sP (f:=f) hI.law (by omega) (.inl hw8) (mQ hc) c.op c.pol c.key c.n hok.chk (by omega) hok.kx
 have hb:=hI.beg hl hL1
 have xl1:=hL1.xl
 have hp1:isC ((beg s w c r).S w).s=true:=by
  show isC (Dir.upd s.S w (Sim.newC c) w).s=true
  rw[Dir.upd_same]
  show isC (Core.first (aJ c.op c.pol c.key c.n))=true
  unfold Core.first;(repeat' split)<;>rfl
 have hSt1:=eo (nl:=nl) (f:=f) (cnt:=(s.k:Int)+1) (hL1.cok (by omega) 0 (by decide)) (by omega) (by omega)
 rw[show(s.k:Int)+1-1=(s.k:Int)by omega]at hSt1
 obtain⟨xs',f',hL,hS⟩:=pi (f:=f) hb.law (by show s.k≤1000000;omega) (.inl hw8) hp1
 have hI':=hb.to hw8 hL
 have xl':=hL.xl
 have hSt:=eo (nl:=aC nl) (f:=f') (cnt:=(s.k:Int)+1+1) (hL.cok (by show s.k+1≤1000000;omega) 0 (by decide)) (by omega) (by omega)
 rw[show(s.k:Int)+1+1-1=(s.k:Int)+1 by omega]at hSt
 have ek:((s.k+1:Nat):Int)+1=(s.k:Int)+1+1:=by omega
 have hz:0+(w:Int).toNat=w:=by rw[Q19,Q13]
 have hlz:(s.ws (0+(w:Int).toNat)).left.length=r.length+1:=by rw[hz,hl];rfl
 have hCl:=au c.key (by omega)
 refine⟨xs',aC nl,f',hI',?_⟩
 clear hI'
 generalize hn:adv (aa ak room) (beg s w c r) w=s'
 unfold adv res at hn
 dsimp only[beg]at hn hS hSt hL
 clear hb hp1
 generalize Core.mx (aa ak room) s.M (Dir.upd s.S w (Sim.newC c)) w=M' at *
 generalize Core.nx (aa ak room) s.M (Dir.upd s.S w (Sim.newC c)) w=S' at *
 generalize (Core.step (aa ak room) s.M (Dir.upd s.S w (Sim.newC c) w).x (Dir.upd s.S w (Sim.newC c) w).s).r=q at hn hS
 obtain⟨dn,re,rg,rl,rw',rs',rn⟩:=q
 have hcz:c=(s.ws (0+(w:Int).toNat)).left.getD (Int.toNat 0) default:=by rw[hz,hl];rfl
 have hr:(s.ws (0+(w:Int).toNat)).left.tail=r:=by rw[hz,hl];rfl
 rw[show Dir.upd s.ws w ⟨r,c,(s.k:Int)+1⟩ w=⟨r,c,(s.k:Int)+1⟩ from Dir.upd_same ..]at hn
 subst hcz
 cases dn with
 | false =>
  rw[if_neg (by simp)]at hn
  subst hn
  dsimp only[nM]
  rw[ek]
  refine Fun.mk' Tryz.func17 rfl rfl zN (by decide) ?_
  (repeat' (first|((first|with_reducible refine Wp.drawTailL ac rfl rfl (by kernel_rfl) ?_|refine Wp.any ac rfl ?_|(with_reducible first|refine Go.mk ?_|apply ai.of|refine Ov.ok zO ?_)|refine zV ?_|(with_reducible first|refine And.intro zC ?_|refine ab.pure (hCl) rfl rfl ?_));conv=>whnf)|((refine ab.fn (hP) [0,1,2,3,4,5,6,7,8,9,10,11,12,13] rfl rfl rfl rfl rfl ?ha ?hh ?_);(case ha=>exact zA);(case hh=>exact zz3);(conv=>whnf))|((refine ab.fn (hS1) [0,1,2,3,4,5,6,7,8,9,10,11,12,13] rfl rfl rfl rfl rfl ?ha ?hh ?_);(case ha=>exact zA);(case hh=>exact zz3);(conv=>whnf))|((refine ab.fn (hSt1) [0,1,2,3,44,45,46,47,48,49,50,51,52,53] rfl rfl rfl rfl rfl ?ha ?hh ?_);(case ha=>exact zA);(case hh=>exact zz3);(conv=>whnf))|((refine ab.fn (hS) [0,1,2,3,44,45,46,47,48,49,50,51,52,53] rfl rfl rfl rfl rfl ?ha ?hh ?_);(case ha=>exact zA);(case hh=>exact zz3);(conv=>whnf))|((try dsimp only);(rw[if_pos rfl]);(conv=>whnf))|((refine aq (fun hc=>?_) (fun hc=>?_))<;>(try simp only[wz9]at hc)<;>(try (exfalso;omega))<;>(conv=>whnf))))
  ((refine af.sealC [0,1,2,3,4,5,6,7,8,9,10,11,12,13,14,15,16,54,55,56,57,58,59,60,61,62,63,16] [] rfl rfl rfl ?_ ?_);(focus((conv=>whnf);(repeat' (first|exact aj.d))));((conv=>whnf);(repeat' (first|exact zO9|((refine And.intro ?_ ?_)<;>(conv=>whnf))))))
  ·intro q hq
   refine lW ?_
   dsimp only
   by_cases e:q=w
   ·subst e
    rw[if_pos hz.symm,Dir.upd_same,zd,hr]
   ·have e':¬q=0+(w:Int).toNat:=by rw[hz];exact e
    rw[if_neg e',if_neg e',if_neg e',if_neg e',Dir.upd_ne _ _ e]
 | true =>
  rw[if_pos rfl]at hn
  subst hn
  have hlen:∀d:Dn,(s.out++[d]).length=s.out.length+1:=fun d=>by rw[Q9,List.length_singleton]
  dsimp only[nM,ay]
  rw[ek,hlen]
  refine Fun.mk' Tryz.func17 rfl rfl zN (by decide) ?_
  (repeat' (first|((first|with_reducible refine Wp.drawTailL ac rfl rfl (by kernel_rfl) ?_|refine Wp.any ac rfl ?_|(with_reducible first|refine Go.mk ?_|apply ai.of));conv=>whnf)|with_reducible exact rfl|((first|with_reducible refine Ov.ok zO ?_|refine zV ?_|with_reducible refine And.intro zC ?_);conv=>whnf)|((refine fP.b rfl rfl rfl rfl rfl rfl rfl rfl ?hb ?ho ?_);(case hb=>exact zB);(case ho=>omega);(conv=>whnf))|(with_reducible refine Or.inl ?_)|((with_reducible refine ab.pure (hCl) rfl rfl ?_);conv=>whnf)|((refine ab.fn (hP) [0,1,2,3,4,5,6,7,8,9,10,11,12,13] rfl rfl rfl rfl rfl ?ha ?hh ?_);(case ha=>exact zA);(case hh=>exact zz3);(conv=>whnf))|((refine ab.fn (hS1) [0,1,2,3,4,5,6,7,8,9,10,11,12,13] rfl rfl rfl rfl rfl ?ha ?hh ?_);(case ha=>exact zA);(case hh=>exact zz3);(conv=>whnf))|((refine ab.fn (hSt1) [0,1,2,3,44,45,46,47,48,49,50,51,52,53] rfl rfl rfl rfl rfl ?ha ?hh ?_);(case ha=>exact zA);(case hh=>exact zz3);(conv=>whnf))|((refine ab.fn (hS) [0,1,2,3,44,45,46,47,48,49,50,51,52,53] rfl rfl rfl rfl rfl ?ha ?hh ?_);(case ha=>exact zA);(case hh=>exact zz3);(conv=>whnf))|((refine ag.fn (hSt) [0,1,2,3,54,55,56,57,58,59,60,61,62,63] [] rfl rfl rfl rfl rfl ?ha ?hh ?hs ?_);(case ha=>exact zA);(case hh=>exact zz3);(case hs=>exact zK);(conv=>whnf))|((try dsimp only);(rw[if_pos rfl]);(conv=>whnf))|((refine aq (fun hc=>?_) (fun hc=>?_))<;>(try simp only[wz9]at hc)<;>(try (exfalso;omega))<;>(conv=>whnf))))
  ((refine af.sealC [0,1,2,3,4,5,6,7,8,9,10,11,12,13,14,15,16,54,55,56,57,58,59,60,61,62,63,89] [] rfl rfl rfl ?_ ?_);(focus((conv=>whnf);(repeat' (first|exact aj.d))));((conv=>whnf);(repeat' (first|exact zO9|((refine And.intro ?_ ?_)<;>(conv=>whnf))))))
  ·intro q hq
   refine lW ?_
   dsimp only
   by_cases e:q=w
   ·subst e
    rw[if_pos hz.symm,Dir.upd_same,zd,hr]
   ·have e':¬q=0+(w:Int).toNat:=by rw[hz];exact e
    rw[if_neg e',if_neg e',if_neg e',if_neg e',Dir.upd_ne _ _ e]
  ·exact fun j hj=>lW <| pY s.out ⟨w,(s.ws (0+(w:Int).toNat)).left.getD (Int.toNat 0) default,(s.k:Int)+1,(s.k:Int)+1,⟨re,rg,rl,rw',rs',rn⟩⟩ j hj
theorem qh(p:Int)(hn6:n≤64)(hI:SI room xs nl s)(hk:s.k≤900000)(ho:s.out.length≤1000000)(hwn:w<n)(hc:isC (s.S w).s=true) :
  ∃xs' nl' f',SI room xs' nl' (adv (aa ak room) s w)∧Fun TC 17 17 [.ptr 14 0,.i .i64 w] (rG room n s xs nl f p) 28 (.b true) (nM room n (adv (aa ak room) s w) xs' nl' f' p):=by
 have xc:=hI.law.xl
 have hP:=dm (f:=f) hI.law (by omega) (w:=w) (by omega)
 rw[hc]at hP
 have hw8:=hI.w8 hc
 obtain⟨xs',f',hL,hS⟩:=pi (f:=f) hI.law (by omega) (.inl hw8) hc
 have hI':=hI.to hw8 hL
 have xl':=hL.xl
 have hSt:=eo (nl:=aC nl) (f:=f') (cnt:=(s.k:Int)+1+1) (hL.cok (by omega) 0 (by decide)) (by omega) (by omega)
 rw[show(s.k:Int)+1+1-1=(s.k:Int)+1 by omega]at hSt
 have ek:((s.k+1:Nat):Int)+1=(s.k:Int)+1+1:=by omega
 have hz:0+(w:Int).toNat=w:=by rw[Q19,Q13]
 refine⟨xs',aC nl,f',hI',?_⟩
 clear hI'
 generalize hn:adv (aa ak room) s w=s'
 unfold adv res at hn
 generalize Core.mx (aa ak room) s.M s.S w=M' at *
 generalize Core.nx (aa ak room) s.M s.S w=S' at *
 generalize (Core.step (aa ak room) s.M (s.S w).x (s.S w).s).r=r at hn hS
 obtain⟨dn,re,rg,rl,rw',rs',rn⟩:=r
 cases dn with
 | false =>
  rw[if_neg (by simp)]at hn
  subst hn
  dsimp only[nM]
  rw[ek]
  refine Fun.mk' Tryz.func17 rfl rfl zN (by decide) ?_
  (repeat' (first|((first|refine Wp.any ac rfl ?_|(with_reducible first|refine Go.mk ?_|apply ai.of|refine And.intro zC ?_));conv=>whnf)|((refine ab.fn (hP) [0,1,2,3,4,5,6,7,8,9,10,11,12,13] rfl rfl rfl rfl rfl ?ha ?hh ?_);(case ha=>exact zA);(case hh=>exact zz3);(conv=>whnf))|((refine ab.fn (hS) [0,1,2,3,4,5,6,7,8,9,10,11,12,13] rfl rfl rfl rfl rfl ?ha ?hh ?_);(case ha=>exact zA);(case hh=>exact zz3);(conv=>whnf))))
  ((refine af.sealC [0,1,2,3,4,5,6,7,8,9,10,11,12,13,14,15,16,17,18,19,20,21,22,23,24,25,26,16] [] rfl rfl rfl ?_ ?_);(focus((conv=>whnf);(repeat' (first|exact aj.d))));((conv=>whnf);(repeat' (first|exact zO9|((refine And.intro ?_ ?_)<;>(conv=>whnf))))))
 | true =>
  rw[if_pos rfl]at hn
  subst hn
  have hlen:∀d:Dn,(s.out++[d]).length=s.out.length+1:=fun d=>by rw[Q9,List.length_singleton]
  dsimp only[nM,ay]
  rw[ek,hlen]
  refine Fun.mk' Tryz.func17 rfl rfl zN (by decide) ?_
  (repeat' (first|((first|refine Wp.any ac rfl ?_|(with_reducible first|refine Go.mk ?_|apply ai.of));conv=>whnf)|with_reducible exact rfl|((first|refine zV ?_|with_reducible refine And.intro zC ?_);conv=>whnf)|((refine fP.b rfl rfl rfl rfl rfl rfl rfl rfl ?hb ?ho ?_);(case hb=>exact zB);(case ho=>omega);(conv=>whnf))|(with_reducible refine Or.inl ?_)|((refine ab.fn (hP) [0,1,2,3,4,5,6,7,8,9,10,11,12,13] rfl rfl rfl rfl rfl ?ha ?hh ?_);(case ha=>exact zA);(case hh=>exact zz3);(conv=>whnf))|((refine ab.fn (hS) [0,1,2,3,4,5,6,7,8,9,10,11,12,13] rfl rfl rfl rfl rfl ?ha ?hh ?_);(case ha=>exact zA);(case hh=>exact zz3);(conv=>whnf))|((refine ag.fn (hSt) [0,1,2,3,17,18,19,20,21,22,23,24,25,26] [] rfl rfl rfl rfl rfl ?ha ?hh ?hs ?_);(case ha=>exact zA);(case hh=>exact zz3);(case hs=>exact zK);(conv=>whnf))))
  rw[hz]
  ((refine af.sealC [0,1,2,3,4,5,6,7,8,9,10,11,12,13,14,15,16,17,18,19,20,21,22,23,24,25,26,52] [] rfl rfl rfl ?_ ?_);(focus((conv=>whnf);(repeat' (first|exact aj.d))));((conv=>whnf);(repeat' (first|exact zO9|((refine And.intro ?_ ?_)<;>(conv=>whnf))))))
  exact fun j hj=>lW <| pY s.out ⟨w,(s.ws w).c,(s.ws w).first,(s.k:Int)+1,⟨re,rg,rl,rw',rs',rn⟩⟩ j hj
end
section
open Sim
variable{room:Int}{s:SS}{xs:Nat→XB}{nl:Nat}{f:Nat→List D}{n w:Nat}
theorem jO(p:Int)(hn6:n≤64)(hI:SI room xs nl s)(hk:s.k≤900000)(ho:s.out.length≤1000000)(hwn:w<n)(hg:(go (aa ak room) s w).2=true) :
  ∃xs' nl' f',SI room xs' nl' (go (aa ak room) s w).1∧Fun TC 17 17 [.ptr 14 0,.i .i64 w] (rG room n s xs nl f p) 28 (.b true) (nM room n (go (aa ak room) s w).1 xs' nl' f' p):=by
 unfold go at hg⊢
 cases hc:isC (s.S w).s with
 | true=>rw[if_pos rfl];exact qh p hn6 hI hk ho hwn hc
 | false =>
  rw[hc,if_neg (by decide)]at hg
  rw[if_neg (by decide)]
  cases hl:(s.ws w).left with
  | nil=>rw[hl]at hg;cases hg
  | cons c r=>exact qi p hn6 hI hk ho hwn hc hl
theorem zu(P:Core.Ops)(s:SS)(w:Nat):(go P s w).1.out.length+s.k≤s.out.length+(go P s w).1.k:=by
 unfold Sim.go
 split
 ·show(if(res P s w).done=true then s.out++[_]else s.out).length+s.k≤s.out.length+(s.k+1)
  split
  ·rw[Q9,List.length_singleton];omega
  ·omega
 ·split
  ·exact Q4 _
  ·show(if(res P _ w).done=true then s.out++[_]else s.out).length+s.k≤s.out.length+(s.k+1)
   split
   ·rw[Q9,List.length_singleton];omega
   ·omega
theorem run_2w{room:Int}{work:List (List Req)}{picks:List (Int×Int)}{fin:Bool}{i:Nat}{s:SS}{xs:Nat→XB}{nl:Nat}{f:Nat→List D}(hi:i<picks.length)(hp:picks.length≤65536)(hn6:work.length≤64)
  (he:s=Sim.picks (aa ak room) (ss0 work) (picks.take i)) (hI:SI room xs nl s) (hk:s.k≤i) (ho:s.out.length≤s.k) {w:Nat} (hw:(picks.getD (i:Int).toNat default).1=w) (hwn:w<work.length) :
  Wp TC rb2 (RI2 room work picks fin (i,s,xs,nl,f)) (jU (RP2 room work picks) (RI2 room work picks fin) (fun k=>picks.length-k.1) (picks.length-i) (RQ2 room work picks fin)):=by
 cases hg:(go (aa ak room) s w).2 with
 | false =>
  obtain⟨hc,hl,_⟩:=yt hg
  have hS:=jN (f:=f) 0 hn6 hI (by omega) hwn hc hl
  dsimp only[RI2]
  conv=>(arg 2;whnf)
  have xc:=hI.law.xl
  have hn:=lj (room:=room) (work:=work) hi
  rw[← he]at hn
  unfold pick at hn
  rw[if_neg (by omega),hw,Q13,go_idle hc hl]at hn
  (repeat' (first|((first|refine Wp.any ac rfl ?_|(with_reducible first|refine Go.mk ?_|apply ai.of|refine And.intro zC ?_));conv=>whnf)|((refine aq (fun hc=>?_) (fun hc=>?_))<;>(try simp only[wz9]at hc)<;>(try (exfalso;omega))<;>(conv=>whnf))))
  rw[hw]
  (repeat' (first|((first|refine Wp.any ac rfl ?_|(with_reducible first|refine Go.mk ?_|apply ai.of|refine Ov.ok zO ?_));conv=>whnf)|((refine ab.fn (hS) [0,1,2,3,4,5,6,7,8,9,10,11,12,13,14,15,16] rfl rfl rfl rfl rfl ?ha ?hh ?_);(case ha=>exact zA);(case hh=>exact zz3);(conv=>whnf))))
  refine⟨(i+1,s,xs,nl,f),⟨by dsimp only;omega,hn.symm,hI,by dsimp only;omega,ho⟩,by dsimp only;omega,?_⟩
  dsimp only[RI2]
  (refine Le.by [0,1,2,3,4,5,6,7,8,9,10,11,12,13,14,15,16,17,18] rfl rfl rfl rfl ?_ ?_<;>((conv=>whnf);repeat' (first|exact trivial|exact bT (by decide) (fun l hl=>by rcases l with _|_|_|_|l<;>first|exact⟨zzb rfl,rfl⟩|exact⟨zzb rfl,rfl,rfl⟩|omega) (fun q hq=>by rcases q with _|_|_|_|_|_|_|_|_|q<;>first|exact⟨zzb rfl,rfl⟩|omega)|exact ae.rfl rfl|exact ae.ptr rfl|exact ae.sl rfl|exact⟨rfl,rfl,rfl⟩|exact⟨rfl,zzb rfl⟩|exact dI (by assumption) rfl|exact fun i hi=>rfl|((with_reducible refine And.intro ?_ ?_)<;>(conv=>whnf)))))
 | true =>
  obtain⟨xs',nl',f',hI',hS⟩:=jO (f:=f) 0 hn6 hI (by omega) (by omega) hwn hg
  have hk':=go_k (aa ak room) s w
  have ho':=zu (aa ak room) s w
  dsimp only[RI2]
  conv=>(arg 2;whnf)
  have xc:=hI.law.xl
  have xl':=hI'.law.xl
  have hn:=lj (room:=room) (work:=work) hi
  rw[← he]at hn
  unfold pick at hn
  rw[if_neg (by omega),hw,Q13]at hn
  generalize (go (aa ak room) s w).1=s' at *
  (repeat' (first|((first|refine Wp.any ac rfl ?_|(with_reducible first|refine Go.mk ?_|apply ai.of|refine And.intro zC ?_));conv=>whnf)|((refine aq (fun hc=>?_) (fun hc=>?_))<;>(try simp only[wz9]at hc)<;>(try (exfalso;omega))<;>(conv=>whnf))))
  rw[hw]
  (repeat' (first|((first|refine Wp.any ac rfl ?_|(with_reducible first|refine Go.mk ?_|apply ai.of|refine Ov.ok zO ?_));conv=>whnf)|((refine ab.fn (hS) [0,1,2,3,4,5,6,7,8,9,10,11,12,13,14,15,16] rfl rfl rfl rfl rfl ?ha ?hh ?_);(case ha=>exact zA);(case hh=>exact zz3);(conv=>whnf))))
  refine⟨(i+1,s',xs',nl',f'),⟨by dsimp only;omega,hn.symm,hI',by dsimp only;omega,by dsimp only;omega⟩,by dsimp only;omega,?_⟩
  dsimp only[RI2,xN,qn,qp]
  (refine Le.by [0,1,2,3,20,21,22,23,24,25,26,27,28,29,14,15,30,17,18] rfl rfl rfl rfl ?_ ?_<;>((conv=>whnf);repeat' (first|exact trivial|exact bT (by decide) (fun l hl=>by rcases l with _|_|_|_|l<;>first|exact⟨zzb rfl,rfl⟩|exact⟨zzb rfl,rfl,rfl⟩|omega) (fun q hq=>by rcases q with _|_|_|_|_|_|_|_|_|q<;>first|exact⟨zzb rfl,rfl⟩|omega)|exact ae.rfl rfl|exact ae.ptr rfl|exact ae.sl rfl|exact⟨rfl,rfl,rfl⟩|exact⟨rfl,zzb rfl⟩|exact dI (by assumption) rfl|exact fun i hi=>rfl|((with_reducible refine And.intro ?_ ?_)<;>(conv=>whnf)))))
end
section
namespace Sim
open Dir (upd upd_same upd_ne)
variable{room:Int}{xs:Nat→XB}{nl:Nat}{s:SS}
theorem fy{P:Core.Ops}{w:Nat}{s:SS}(h:(go P s w).2=false):∀f,fin P f s w=s
 | 0=>rfl
 | f+1=>by unfold fin;rw[if_neg (by rw[h];decide)]
theorem tm(w:Nat):∀(f:Nat) {xs:Nat→XB} {nl:Nat} {s:SS},SI room xs nl s→s.k+f≤900000→mu s w≤f→∀g,mu s w≤g→fin (aa ak room) f s w=fin (aa ak room) g s w
 | 0,xs,nl,s,h,hk,hm,g,hg=>by
  cases e:(go (aa ak room) s w).2 with
  | false=>rw[fy e,fy e]
  | true=>have:=qq h e;omega
 | f+1,xs,nl,s,h,hk,hm,g,hg=>by
  cases e:(go (aa ak room) s w).2 with
  | false=>rw[fy e,fy e]
  | true =>
   have h1:=qq h e
   obtain⟨xs',nl',h'⟩:=h.go (by omega) w
   have h2:=go_k (aa ak room) s w
   cases g with
   | zero=>omega
   | succ g =>
    unfold fin
    rw[if_pos e,if_pos e]
    exact tm w f h' (by omega) (by omega) g (by omega)
def nI(room:Int)(b:Bool)(s:SS)(w:Nat):SS:=if b=true then fin (aa ak room) (mu s w) s w else s
theorem qb{w:Nat}(h:(go (aa ak room) s w).2=false)(b:Bool):nI room b s w=s:=by
 unfold nI;split
 ·exact fy h _
 ·rfl
theorem uC(h:SI room xs nl s){w:Nat}(hk:s.k+mu s w≤900000)(e:(go (aa ak room) s w).2=true):nI room true (go (aa ak room) s w).1 w=nI room true s w:=by
 have h1:=qq h e
 obtain⟨xs',nl',h'⟩:=h.go (by omega) w
 have h2:=go_k (aa ak room) s w
 unfold nI
 rw[if_pos rfl,if_pos rfl]
 cases hm:mu s w with
 | zero=>omega
 | succ m =>
  conv=>rhs;unfold fin
  rw[if_pos e]
  exact tm w _ h' (by omega) (Q4 _) m (by omega)
theorem qE(b:Bool)(n:Nat)(s:SS):eT (aa ak room) b (n+1) s=nI room b (eT (aa ak room) b n s) n:=rfl
theorem go_left{P:Core.Ops}(s:SS)(w j:Nat):((go P s w).1.ws j).left.length≤(s.ws j).left.length:=by
 unfold Sim.go
 split
 ·exact Q4 _
 ·split
  ·exact Q4 _
  ·rename_i c r hl
   show(upd s.ws w ⟨r,c,(s.k:Int)+1⟩ j).left.length≤_
   by_cases e:j=w
   ·subst e;rw[upd_same,hl,List.length_cons];exact Nat.le_succ _
   ·rw[upd_ne _ _ e];exact Q4 _
theorem jZ{P:Core.Ops}(j:Nat):∀(l:List (Int×Int)) (s:SS),((picks P s l).ws j).left.length≤(s.ws j).left.length
 | [],s=>Q4 _
 | p::l,s=>by
  have h:=jZ (P:=P) j l (pick P s p)
  have h1:((pick P s p).ws j).left.length≤(s.ws j).left.length:=by
   unfold pick;split
   ·exact Q4 _
   ·exact go_left s _ j
  exact Nat.le_trans h h1
theorem o6{s t:SS}(h:∀j,(s.ws j).left.length≤(t.ws j).left.length):∀n,muS s n≤muS t n
 | 0=>Q4 _
 | n+1=>by have:=o6 h n;have:=h n;simp only[muS];omega
theorem nW(work:List (List Req)):∀n,n≤work.length→muS (ss0 work) n=165*n+166*((work.take n).map List.length).sum
 | 0,_=>rfl
 | n+1,h=>by
  have e:=nW work n (by omega)
  simp only[muS]
  rw[e,List.take_succ_eq_append_getElem h,List.map_append,List.sum_append]
  have:((ss0 work).ws n).left=work[n]:=by show work.getD n []=_;rw[Q1,Q0 h];rfl
  rw[this]
  simp
  omega
end Sim
end
section
open Sim
noncomputable def rb6:Code:=(lpO 6 (Tryz.f6.body.getD .skip)).getD .skip
@[reducible] noncomputable def RS6:Type:=SS×(Nat→XB)×Nat×(Nat→List D)
@[reducible] noncomputable def RP6(room:Int)(b:Bool)(t:SS)(q:Nat)(w:Nat):RS6→Prop :=
 fun k=>nI room b k.1 w=t∧SI room k.2.1 k.2.2.1 k.1∧k.1.k+mu k.1 w≤900000∧k.1.out.length≤k.1.k∧pend k.1.S w=q
@[reducible] noncomputable def RI6(room:Int)(work:List (List Req))(picks:List (Int×Int))(b:Bool)(q:Nat)(w:Nat):RS6→St :=
 fun k=>⟨⟨Tryz.f6.ntmps,0⟩,19,[(1,.ptr 17 0),(2,.ptr 18 0),(3,.i .i64 0),(5,.ptr 0 0),(7,.ptr 14 0),(12,.i .i64 w),(72,.i .i64 work.length),(73,.i .i64 w)],xN room work picks b work.length k.1 k.2.1 k.2.2.1 k.2.2.2 q⟩
@[reducible] noncomputable def RE6(room:Int)(t:SS)(q:Nat)(w:Nat):RS6→Prop :=
 fun k=>k.1=t∧SI room k.2.1 k.2.2.1 k.1∧k.1.k≤900000∧k.1.out.length≤k.1.k∧pend k.1.S w=q
theorem run_6{room:Int}{work:List (List Req)}{picks:List (Int×Int)}{b:Bool}{t:SS}{q:Nat}{w:Nat}(hn6:work.length≤64)(hwn:w<work.length)(x)(hx:RP6 room b t q w x) :
  Wp TC rb6 (RI6 room work picks b q w x) (jU (RP6 room b t q w) (RI6 room work picks b q w) (fun k=>mu k.1 w) (mu x.1 w) (fun e S'=>e=.exit 6∧∃i,RE6 room t q w i∧Le S' (RI6 room work picks b q w i))):=by
 obtain⟨s,xs,nl,f⟩:=x
 obtain⟨h1,hI,hk,ho,hq⟩:=hx
 dsimp only at h1 hI hk ho hq⊢
 dsimp only[RI6]
 conv=>(arg 2;whnf)
 have xc:=hI.law.xl
 cases b with
 | false =>
  (repeat' (first|((first|refine Wp.any ac rfl ?_|(with_reducible first|refine Go.mk ?_|apply ai.of));conv=>whnf)))
  refine⟨rfl,(s,xs,nl,f),⟨h1,hI,by dsimp only;omega,ho,hq⟩,?_⟩
  dsimp only[RI6]
  (refine Le.by [0,1,2,3,4,5,6,7,8,9,10,11,12,13,14,15,16,17,18] rfl rfl rfl rfl ?_ ?_<;>((conv=>whnf);repeat' (first|exact trivial|exact cF (by decide) (by decide) (fun l hl=>by rcases l with _|_|_|_|l<;>first|exact⟨zzb rfl,rfl⟩|exact⟨zzb rfl,rfl,rfl⟩|omega) (fun q hq=>by rcases q with _|_|_|_|_|_|_|_|_|q<;>first|exact⟨zzb rfl,rfl⟩|omega)|exact ae.rfl rfl|exact ae.ptr rfl|exact ae.sl rfl|exact⟨rfl,rfl,rfl⟩|exact⟨rfl,zzb rfl⟩|exact gz (by assumption)|exact fun i hi=>rfl|((with_reducible refine And.intro ?_ ?_)<;>(conv=>whnf)))))
 | true =>
  cases hg:(go (aa ak room) s w).2 with
  | false =>
   obtain⟨hc,hl,_⟩:=yt hg
   have hS:=jN (f:=f) q hn6 hI (by omega) hwn hc hl
   rw[qb hg]at h1
   (repeat' (first|((first|refine Wp.any ac rfl ?_|(with_reducible first|refine Go.mk ?_|apply ai.of));conv=>whnf)|((refine ab.fn (hS) [0,1,2,3,4,5,6,7,8,9,10,11,12,13,14,15,16] rfl rfl rfl rfl rfl ?ha ?hh ?_);(case ha=>exact zA);(case hh=>exact zz3);(conv=>whnf))))
   refine⟨rfl,(s,xs,nl,f),⟨h1,hI,by dsimp only;omega,ho,hq⟩,?_⟩
   dsimp only[RI6]
   (refine Le.by [0,1,2,3,4,5,6,7,8,9,10,11,12,13,14,15,16,17,18] rfl rfl rfl rfl ?_ ?_<;>((conv=>whnf);repeat' (first|exact trivial|exact bT (by decide) (fun l hl=>by rcases l with _|_|_|_|l<;>first|exact⟨zzb rfl,rfl⟩|exact⟨zzb rfl,rfl,rfl⟩|omega) (fun q hq=>by rcases q with _|_|_|_|_|_|_|_|_|q<;>first|exact⟨zzb rfl,rfl⟩|omega)|exact ae.rfl rfl|exact ae.ptr rfl|exact ae.sl rfl|exact⟨rfl,rfl,rfl⟩|exact⟨rfl,zzb rfl⟩|exact dI (by assumption) rfl|exact fun i hi=>rfl|((with_reducible refine And.intro ?_ ?_)<;>(conv=>whnf)))))
  | true =>
   obtain⟨xs',nl',f',hI',hS⟩:=jO (f:=f) q hn6 hI (by omega) (by omega) hwn hg
   have hk':=go_k (aa ak room) s w
   have ho':=zu (aa ak room) s w
   have hm:=qq hI hg
   have xl':=hI'.law.xl
   rw[← uC hI (by omega) hg]at h1
   have hq':pend (go (aa ak room) s w).1.S w=pend s.S w:=j5 fun j hj=>by rw[(zv (P:=aa ak room) (s:=s) (w:=w) (j:=j) (by omega)).1]
   generalize (go (aa ak room) s w).1=s' at *
   (repeat' (first|((first|refine Wp.any ac rfl ?_|(with_reducible first|refine Go.mk ?_|apply ai.of));conv=>whnf)|((refine ab.fn (hS) [0,1,2,3,4,5,6,7,8,9,10,11,12,13,14,15,16] rfl rfl rfl rfl rfl ?ha ?hh ?_);(case ha=>exact zA);(case hh=>exact zz3);(conv=>whnf))))
   refine⟨(s',xs',nl',f'),⟨h1,hI',by dsimp only;omega,by dsimp only;omega,hq'.trans hq⟩,by dsimp only;omega,?_⟩
   dsimp only[RI6,xN,qn,qp]
   (refine Le.by [0,1,2,3,19,20,21,22,23,24,25,26,27,28,14,15,29,17,18] rfl rfl rfl rfl ?_ ?_<;>((conv=>whnf);repeat' (first|exact trivial|exact bT (by decide) (fun l hl=>by rcases l with _|_|_|_|l<;>first|exact⟨zzb rfl,rfl⟩|exact⟨zzb rfl,rfl,rfl⟩|omega) (fun q hq=>by rcases q with _|_|_|_|_|_|_|_|_|q<;>first|exact⟨zzb rfl,rfl⟩|omega)|exact ae.rfl rfl|exact ae.ptr rfl|exact ae.sl rfl|exact⟨rfl,rfl,rfl⟩|exact⟨rfl,zzb rfl⟩|exact dI (by assumption) rfl|exact fun i hi=>rfl|((with_reducible refine And.intro ?_ ?_)<;>(conv=>whnf)))))
noncomputable def rb4:Code:=(lpO 4 (Tryz.f6.body.getD .skip)).getD .skip
@[reducible] noncomputable def RP4(room:Int)(b:Bool)(s0:SS)(n:Nat):Nat×RS6→Prop :=
 fun k=>k.1≤n∧k.2.1=eT (aa ak room) b k.1 s0∧SI room k.2.2.1 k.2.2.2.1 k.2.1∧k.2.1.k≤s0.k+muS s0 k.1∧k.2.1.out.length≤k.2.1.k
@[reducible] noncomputable def RI4(room:Int)(work:List (List Req))(picks:List (Int×Int))(b:Bool):Nat×RS6→St :=
 fun k=>⟨⟨Tryz.f6.ntmps,0⟩,19,[(1,.ptr 17 0),(2,.ptr 18 0),(3,.i .i64 0),(5,.ptr 0 0),(7,.ptr 14 0),(72,.i .i64 work.length),(73,.i .i64 k.1)],xN room work picks b work.length k.2.1 k.2.2.1 k.2.2.2.1 k.2.2.2.2 (pend k.2.1.S k.1)⟩
@[reducible] noncomputable def RE4(room:Int)(b:Bool)(s0:SS)(n:Nat):RS6→Prop :=
 fun k=>k.1=eT (aa ak room) b n s0∧SI room k.2.1 k.2.2.1 k.1∧k.1.k≤900000∧k.1.out.length≤k.1.k
@[reducible] noncomputable def RJ4(room:Int)(work:List (List Req))(picks:List (Int×Int))(b:Bool):RS6→St :=
 fun k=>⟨⟨Tryz.f6.ntmps,0⟩,19,[(1,.ptr 17 0),(2,.ptr 18 0),(3,.i .i64 0),(5,.ptr 0 0),(7,.ptr 14 0)],xN room work picks b work.length k.1 k.2.1 k.2.2.1 k.2.2.2 (pend k.1.S work.length)⟩
theorem zl(s:SS):∀{i n:Nat},i≤n→muS s i≤muS s n:=by
  intro i n h
  induction n with
  | zero => obtain rfl:i=0:=by omega
            exact Q4 _
  | succ n ih =>
    by_cases e:i=n+1
    ·subst e;exact Q4 _
    ·have:=ih (by omega);simp only[muS];omega
theorem run_4{room:Int}{work:List (List Req)}{picks:List (Int×Int)}{b:Bool}{s0:SS}{xz:Nat→XB}{nz:Nat}(hI0:SI room xz nz s0)(hn6:work.length≤64)(hm:s0.k+muS s0 work.length≤900000)(x)(hx:RP4 room b s0 work.length x) :
  Wp TC rb4 (RI4 room work picks b x) (jU (RP4 room b s0 work.length) (RI4 room work picks b) (fun k=>work.length-k.1) (work.length-x.1) (fun e S'=>e=.exit 4∧∃i,RE4 room b s0 work.length i∧Le S' (RJ4 room work picks b i))):=by
 obtain⟨w,s,xs,nl,f⟩:=x
 obtain⟨h0,h1,hI,hk,ho⟩:=hx
 dsimp only at h0 h1 hI hk ho⊢
 dsimp only[RI4]
 conv=>(arg 2;whnf)
 have xc:=hI.law.xl
 have hpl:=sd s.S w
 have hmw:=zl s0 h0
 by_cases hwn:w<work.length
 ·have hmw1:=zl s0 (i:=w+1) (n:=work.length) (by omega)
  simp only[muS]at hmw1
  have hmu:=mu_le hI w
  rw[h1,(lS (P:=aa ak room) b w s0 w (Q4 _)).2,← h1]at hmu
  (repeat' (first|((first|refine Wp.any ac rfl ?_|(with_reducible first|refine Go.mk ?_|apply ai.of));conv=>whnf)|((refine aq (fun hc=>?_) (fun hc=>?_))<;>(try simp only[wz9]at hc)<;>(try (exfalso;omega))<;>(conv=>whnf))))
  refine Wp.endB 6 (RE6 room (eT (aa ak room) b (w+1) s0) (pend s.S w) w) (RI6 room work picks b (pend s.S w) w) ?_ ?_
  ·refine Wp.loopP (RP6 room b (eT (aa ak room) b (w+1) s0) (pend s.S w) w) (RI6 room work picks b (pend s.S w) w) (fun k=>mu k.1 w) (s,xs,nl,f) ⟨by rw[qE,h1],hI,by dsimp only;omega,ho,rfl⟩ ?_ ?_
   ·dsimp only[RI6]
    (refine Le.by [0,1,2,3,4,5,6,7,8,9,10,11,12,13,14,15,16,17,18] rfl rfl rfl rfl ?_ ?_<;>((conv=>whnf);repeat' (first|exact trivial|exact cF (by decide) (by decide) (fun l hl=>by rcases l with _|_|_|_|l<;>first|exact⟨zzb rfl,rfl⟩|exact⟨zzb rfl,rfl,rfl⟩|omega) (fun q hq=>by rcases q with _|_|_|_|_|_|_|_|_|q<;>first|exact⟨zzb rfl,rfl⟩|omega)|exact ae.rfl rfl|exact ae.ptr rfl|exact ae.sl rfl|exact⟨rfl,rfl,rfl⟩|exact⟨rfl,zzb rfl⟩|exact gz (by assumption)|exact fun i hi=>rfl|((with_reducible refine And.intro ?_ ?_)<;>(conv=>whnf)))))
   ·exact run_6 hn6 hwn
  ·rintro⟨s',xs',nl',f'⟩ ⟨g1,g2,g3,g4,g5⟩ S' hl
   dsimp only at g1 g2 g3 g4 g5 hl
   have xl':=g2.law.xl
   have hkk:=(lT b (w+1) hI0 (by simp only[muS];omega)).2.1
   rw[← g1]at hkk
   have hP:=dm (f:=f') g2.law (by omega) (w:=w) (by omega)
   show Wp TC _ S' _
   refine Wp.le hl ?_
   cases hc:isC (s'.S w).s with
   | false =>
    rw[hc]at hP
    have hp':pend s'.S (w+1)=pend s.S w:=by show pend s'.S w+(if isC (s'.S w).s=true then 1 else 0)=_;rw[g5,hc];rfl
    (repeat' (first|((first|refine Wp.any ac rfl ?_|(with_reducible first|refine Go.mk ?_|apply ai.of|refine Ov.ok zO ?_));conv=>whnf)|((refine ab.fn (hP) [0,1,2,3,4,5,6,7,8,9,10,11,12,13] rfl rfl rfl rfl rfl ?ha ?hh ?_);(case ha=>exact zA);(case hh=>exact zz3);(conv=>whnf))))
    refine⟨(w+1,s',xs',nl',f'),⟨by dsimp only;omega,g1,g2,hkk,g4⟩,by dsimp only;omega,?_⟩
    dsimp only[RI4,xN,qn,qp]
    rw[hp']
    (refine Le.by [0,1,2,3,4,5,6,7,8,9,10,11,12,13,14,15,16,17,18] rfl rfl rfl rfl ?_ ?_<;>((conv=>whnf);repeat' (first|exact trivial|exact bT (by decide) (fun l hl=>by rcases l with _|_|_|_|l<;>first|exact⟨zzb rfl,rfl⟩|exact⟨zzb rfl,rfl,rfl⟩|omega) (fun q hq=>by rcases q with _|_|_|_|_|_|_|_|_|q<;>first|exact⟨zzb rfl,rfl⟩|omega)|exact ae.rfl rfl|exact ae.ptr rfl|exact ae.sl rfl|exact⟨rfl,rfl,rfl⟩|exact⟨rfl,zzb rfl⟩|exact dI (by assumption) rfl|exact fun i hi=>rfl|((with_reducible refine And.intro ?_ ?_)<;>(conv=>whnf)))))
   | true =>
    rw[hc]at hP
    have hp':((pend s'.S (w+1):Nat):Int)=(pend s.S w:Int)+1:=by show((pend s'.S w+(if isC (s'.S w).s=true then 1 else 0):Nat):Int)=_;rw[g5,hc];rfl
    (repeat' (first|((first|refine Wp.any ac rfl ?_|(with_reducible first|refine Go.mk ?_|apply ai.of|refine Ov.ok zO ?_));conv=>whnf)|((refine ab.fn (hP) [0,1,2,3,4,5,6,7,8,9,10,11,12,13] rfl rfl rfl rfl rfl ?ha ?hh ?_);(case ha=>exact zA);(case hh=>exact zz3);(conv=>whnf))))
    refine⟨(w+1,s',xs',nl',f'),⟨by dsimp only;omega,g1,g2,hkk,g4⟩,by dsimp only;omega,?_⟩
    dsimp only[RI4,xN,qn,qp]
    rw[hp']
    (refine Le.by [0,1,2,3,4,5,6,7,8,9,10,11,12,13,14,15,16,17,18] rfl rfl rfl rfl ?_ ?_<;>((conv=>whnf);repeat' (first|exact trivial|exact bT (by decide) (fun l hl=>by rcases l with _|_|_|_|l<;>first|exact⟨zzb rfl,rfl⟩|exact⟨zzb rfl,rfl,rfl⟩|omega) (fun q hq=>by rcases q with _|_|_|_|_|_|_|_|_|q<;>first|exact⟨zzb rfl,rfl⟩|omega)|exact ae.rfl rfl|exact ae.ptr rfl|exact ae.sl rfl|exact⟨rfl,rfl,rfl⟩|exact⟨rfl,zzb rfl⟩|exact dI (by assumption) rfl|exact fun i hi=>rfl|((with_reducible refine And.intro ?_ ?_)<;>(conv=>whnf)))))
 ·obtain rfl:w=work.length:=by omega
  (repeat' (first|((first|refine Wp.any ac rfl ?_|(with_reducible first|refine Go.mk ?_|apply ai.of));conv=>whnf)|((refine aq (fun hc=>?_) (fun hc=>?_))<;>(try simp only[wz9]at hc)<;>(try (exfalso;omega))<;>(conv=>whnf))))
  refine⟨rfl,(s,xs,nl,f),⟨h1,hI,by dsimp only;omega,ho⟩,?_⟩
  dsimp only[RJ4]
  (refine Le.by [0,1,2,3,4,5,6,7,8,9,10,11,12,13,14,15,16,17,18] rfl rfl rfl rfl ?_ ?_<;>((conv=>whnf);repeat' (first|exact trivial|exact cF (by decide) (by decide) (fun l hl=>by rcases l with _|_|_|_|l<;>first|exact⟨zzb rfl,rfl⟩|exact⟨zzb rfl,rfl,rfl⟩|omega) (fun q hq=>by rcases q with _|_|_|_|_|_|_|_|_|q<;>first|exact⟨zzb rfl,rfl⟩|omega)|exact ae.rfl rfl|exact ae.ptr rfl|exact ae.sl rfl|exact⟨rfl,rfl,rfl⟩|exact⟨rfl,zzb rfl⟩|exact gz (by assumption)|exact fun i hi=>rfl|((with_reducible refine And.intro ?_ ?_)<;>(conv=>whnf)))))
end
end Go.Proofs.YtlkccdlgnpkjpaaGreat
