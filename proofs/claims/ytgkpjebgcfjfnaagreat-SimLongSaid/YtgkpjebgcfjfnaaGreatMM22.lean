/- Lemmas of Ct8, Cf4, Cu1, Rf1, Cf4b, Cw1, Cx0, Sm3, Sm6, Sx30, Sm9, Sma, Sx31, Smb, Smd, Smc, Sme, Smh, Smf, Rs1, Smg, Smj, Sx32, Sx44, Sx46. No condition. -/
import Derived.Test.YtgkpjebgcfjfnaaGreatMM21
set_option linter.unusedVariables false
set_option linter.unusedSimpArgs false
set_option linter.unusedSectionVars false
set_option maxHeartbeats 80000000
set_option maxRecDepth 100000
namespace Go.Proofs.YtgkpjebgcfjfnaaGreat
open Go.RowKit
section
def oG(ps:List Pol)(room:Int)(M:Core.Mc):List Cel:=Core.sortC (Core.allE (aa ps room) M)
theorem mz{α:Type}[Inhabited α]{xs:List α}{k:Nat}(h:k<xs.length):xs.take (k+1)=xs.take k++[xs.getD (k:Int).toNat default]:=by
 rw[List.take_succ_eq_append_getElem h,Q13,Q1,Q0 h];rfl
theorem wO(A l:List Cel):∀k,k<A.length+l.length→bB A.length (fun i=>Cel.D (A.getD i default)) (fun i=>Cel.D (l.getD i default)) k=Cel.D ((A++l).getD k default):=fun k _=>by
 simp only[bB]
 by_cases e:k<A.length
 ·rw[if_pos e,Q1,Q1,Q11 e]
 ·rw[if_neg e,Q1,Q1,Q12 (by omega)]
variable{ps:List Pol}{room:Int}{S:Nat→Core.Wk}{M:Core.Mc}{xs:Nat→XB}{nl nl0:Nat}{f:Nat→List D}{cnt cnt0 who:Int}
theorem py(hM:COK ps room who (gOf (aa ps room) 4 S) M xs nl0 cnt0)(h12:(Core.allE (aa ps room) M).length≤12)(hdis:(Core.allE (aa ps room) M).Pairwise (fun a b=>idn a≠idn b))
  (hok:∀c∈Core.allE (aa ps room) M,eg ps c∧gj c.pol c.key) :
  Fun TC 12 14 [.ptr 0 0] (ak ps room (gOf (aa ps room) 4 S) M xs nl f cnt) 14 (.d (ao 4 Cel.D (oG ps room M))) (ak ps room (gOf (aa ps room) 4 S) M xs nl f cnt):=by
 have q5:=hM.g;have qo:=hM.o
 have hA:Fun TC 28 4 [jq] (iS M nl f M.clk cnt) 4 (.d (ao 1 mP (Core.allL (aa ps room) M))) (iS M nl f M.clk cnt):=by
  by_cases he:M.W 0%2=0
  ·exact rv ps room M nl f M.clk cnt hM.d0 hM.d1 he
  ·exact rt ps room M nl f M.clk cnt hM.d0 hM.d1 (fun w=>Nat.le_trans (hM.hd w).len (by decide)) (by omega)
 have hLl:(Core.allL (aa ps room) M).length≤32:=by
  have h1:=eo ps room M (2^Core.lvl M)
  have h2:2^Core.lvl M≤2^4:=Q16 (by omega) (by have:=hM.d0;have:=hM.d1;unfold Core.lvl;omega)
  show((List.range (2^Core.lvl M)).flatMap (Core.partL (aa ps room) M)).length≤32
  omega
 have hE:=Core.allE_eq (aa ps room) M
 unfold oG
 rw[← hE]at h12 hdis hok⊢
 clear hE
 generalize Core.allL (aa ps room) M=L at hA hLl h12 hdis hok⊢
 have hmem:∀l∈L,l.length≤12∧∀c∈l,eg ps c:=fun l hl=>by
  refine⟨?_,fun c hc=>(hok c (List.mem_flatten.2 ⟨l,hl,hc⟩)).1⟩
  have:=(List.sublist_flatten_of_mem hl).length_le
  omega
 have hSort:=sort_C L.flatten (fun c hc=>⟨(hok c hc).1.byt,(hok c hc).2⟩) hdis h12
 have hpl:=(Core.sortC_perm L.flatten).length_eq
 refine Fun.mk' Tryz.func12 rfl rfl zN (by decide) ?_
 (repeat' (first|((first|refine Wp.any ac rfl ?_|(with_reducible first|refine Go.mk ?_|apply aj.of));conv=>whnf)|((with_reducible refine At.mk' _ rfl ?_);(refine And.intro zN ?_);conv=>whnf)|((refine ab.fn (hA) [1,2,3,13] rfl rfl rfl rfl rfl ?ha ?hh ?_);(case ha=>exact zA);(case hh=>exact zH);(conv=>whnf))))
 refine Wp.le (Le.virt 3 104 4 (fun i=>Cel.D (([]:List Cel).getD i default)) (by decide) rfl) ?_
 refine Wp.loopP (ι:=Nat) (fun j=>j≤L.length) (fun j=>⟨⟨Tryz.f12.ntmps,14⟩,15,[(3,.sl 14 4 0 (L.take j).flatten.length),(12,.d (ao 1 mP L)),(13,.i .i64 L.length),(14,.i .i64 j)],
  ak ps room (gOf (aa ps room) 4 S) M xs nl f cnt++[(14,some (aS 104 4 Cel.D (L.take j).flatten))]⟩) (fun j=>L.length-j) 0 (Nat.zero_le _) ?_ ?_
 ·(refine Le.by [0,1,2,3,4,5,6,7,8,9,10,11,12,13,14] rfl rfl rfl rfl ?_ ?_<;>(conv=>whnf)<;>(repeat' (first|exact trivial|exact ae.rfl rfl|exact ae.sl rfl|exact⟨rfl,rfl,rfl⟩|exact⟨rfl,zzb rfl⟩|exact dR (by assumption)|exact eh (qo _)|exact fun i hi=>rfl|((with_reducible refine And.intro ?_ ?_)<;>(conv=>whnf)))))
 ·rintro j h1
  have hpj:(L.take j).flatten.length≤12:=by
   have h9:(L.take j).flatten.length+(L.drop j).flatten.length=L.flatten.length:=by
    rw[← Q9,← List.flatten_append,List.take_append_drop]
   omega
  by_cases hj:j<L.length
  ·have hta:=mz hj
   have hlm:L.getD (j:Int).toNat default∈L:=by rw[Q13,Q1,Q0 hj];exact Q14 hj
   obtain⟨m1,m2⟩:=hmem _ hlm
   have hCp:=so (L.getD (j:Int).toNat default) (by omega) (fun k=>by
    by_cases hk:k<(L.getD (j:Int).toNat default).length
    ·have:=m2 ((L.getD (j:Int).toNat default).getD k default) (by
      rw[Q1 (l:=L.getD _ _),Q0 hk];exact Q14 hk)
     exact⟨Nat.le_trans this.key (by decide),Nat.le_trans this.held (by decide)⟩
    ·rw[Q1 (l:=L.getD _ _),List.getElem?_eq_none (by omega)];exact⟨by decide,by decide⟩)
   (repeat' (first|((first|refine Wp.any ac rfl ?_|(with_reducible first|refine Go.mk ?_|apply aj.of|refine Ov.ok zO ?_|refine And.intro zC ?_));conv=>whnf)|((with_reducible refine And.intro ?hb ?_);(case hb=>exact zz9);(conv=>whnf))|((with_reducible refine ab.pure (hCp) rfl rfl ?_);conv=>whnf)|((refine ap (fun hc=>?_) (fun hc=>?_))<;>(try simp only[wz9]at hc)<;>(try (exfalso;omega))<;>(conv=>whnf))))
   generalize L.getD (j:Int).toNat default=l at hta hlm m1 m2⊢
   refine⟨j+1,by dsimp only;omega,by dsimp only;omega,?_⟩
   dsimp only
   rw[hta,List.flatten_append,show[l].flatten=l by simp]
   generalize (L.take j).flatten=A at hpj⊢
   (refine Le.by [0,1,2,3,4,5,6,7,8,9,10,11,12,13,15] rfl rfl rfl rfl ?_ ?_<;>(conv=>whnf)<;>(repeat' (first|exact trivial|exact ae.rfl rfl|exact ae.sl rfl|exact⟨rfl,rfl,rfl⟩|exact⟨rfl,zzb rfl⟩|exact dR (by assumption)|exact eh (qo _)|exact fun i hi=>rfl|((with_reducible refine And.intro ?_ ?_)<;>(conv=>whnf)))))
   all_goals first
    | (rw[Q9];exact ae.sl rfl)
    | (refine⟨rfl,rfl,?_⟩;simp;done)
    | exact wO _ _
    | exact List.length_append.symm
    | exact Q9
    | rfl
  ·obtain rfl:j=L.length:=by omega
   rw[List.take_length]
   (repeat' (first|((first|refine Wp.any ac rfl ?_|(with_reducible first|refine Go.mk ?_|apply aj.of));conv=>whnf)|((refine ab.fn (hSort) [14] rfl rfl rfl rfl rfl ?ha ?hh ?_);(case ha=>exact zA);(case hh=>exact zH);(conv=>whnf))|((refine ap (fun hc=>?_) (fun hc=>?_))<;>(try simp only[wz9]at hc)<;>(try (exfalso;omega))<;>(conv=>whnf))))
   refine af.sealB [0,1,2,3,4,5,6,7,8,9,10,11,12,13] rfl rfl rfl ?_ ?_
   ·exact ai.le (ai.sl rfl rfl (by omega)) (SV.Le.sl' hpl.symm fun i hi=>by simp only[Q19])
   ·(conv=>whnf);(repeat' (first|exact zC9|exact aR (qo _)|((refine And.intro ?_ ?_)<;>(conv=>whnf))))
end
structure SerI(M:Core.Mc)(S:Nat→Core.Wk)(L:List Int)(n:Int):Prop where
 s:Core.Sers M S L.reverse
 le:M.W 33+Core.pend S≤n
theorem SerI.zero:SerI Core.M0 S0 [] 0 :=
 ⟨⟨fun _=>Int.le_refl _,fun i _ _ h=>absurd rfl h,fun _ h=>by simp at h,by simp,fun _=>trivial⟩,by decide⟩
section
section
variable{ps:List Pol}{room:Int}{k:Nat}{M:Core.Mc}{S:Nat→Core.Wk}{xs:Nat→XB}{nl:Nat}{f:Nat→List D}{cnt:Int}
theorem ee.all_cel(h:ee ps room k M S xs nl cnt){c:Cel}(hc:c∈Core.allE (aa ps room) M):eg ps c∧gj c.pol c.key:=by
 have h1:=((Core.all_ok (fG ps room) h.all.inv.iw h.all.ih).2 c).1 hc
 have h2:=(bG h1).1
 have h3:=(h.hd _).cel c h2
 have h4:=em h.ps
 exact⟨h3,by have:=h3.pol;exact⟨by omega,by omega,h3.key⟩⟩
theorem ro(h:ee ps room k M S xs nl cnt)(hk:k≤1000000)(hr:room≤12) :
  Fun TC 12 14 [.ptr 0 0] (ak ps room (gOf (aa ps room) 4 S) M xs nl f cnt) 14 (.d (ao 4 Cel.D (oG ps room M))) (ak ps room (gOf (aa ps room) 4 S) M xs nl f cnt):=by
 refine py (h.cok hk 0 (by decide)) ?_ (Core.all_ok (fG ps room) h.all.inv.iw h.all.ih).1 fun c hc=>h.all_cel hc
 have h1:=h.all.ge
 have h2:=h.all.room
 have h3:(aa ps room).room=room:=rfl
 omega
theorem rm(h:ee ps room k M S xs nl cnt)(hk:k≤1000000) :
  Fun TC 14 14 [.ptr 0 0] (ak ps room (gOf (aa ps room) 4 S) M xs nl f cnt) 14 (.i .i64 (M.W 32)) (ak ps room (gOf (aa ps room) 4 S) M xs nl f cnt) :=
 px (h.cok hk 0 (by decide))
end
structure PmI(room:Int)(M:Core.Mc)(S:Nat→Core.Wk)(A:Int)(R L:List Int)(n:Int):Prop where
 s:SerI M S L n
 p:Core.Pm mA (aa ax room) Vt Qt M S A R
theorem kw(P:Core.Ops):Core.hel P Core.M0=[]:=rfl
theorem PmI.zero(room:Int):PmI room Core.M0 S0 0 [] [] 0:=by
 refine⟨.zero,⟨fun k c h=>?_,fun s h=>?_,?_,fun i h=>absurd rfl h,fun i h=>absurd rfl h,fun i=>trivial,fun s h=>absurd h (by simp),List.nodup_nil,?_⟩⟩
 ·have:Core.own mA Core.M0 k=none:=rfl
  rw[this]at h;cases h
 ·rw[kw]at h;simp at h
 ·rw[kw];exact List.nodup_nil
 ·rw[kw]
  show(0:Int)=0+Core.sumI 64 (fun _=>0)-0
  rw[Core.sumI_zero];rfl
end
def hs(l:List Cel)(j:Nat):List Int:=(l.take j).flatMap (·.held)
theorem SV.Le.any{x:SV}:SV.Le x .any:=⟨fun _ _ _ _ _=>.any _⟩
def lpO(id:Nat):Code→Option Code
 | .block i b=>if i=id then(match b with|.loop c=>some c|_=>none)else lpO id b
 | .seq a b=>(lpO id a).or (lpO id b)
 | .cond _ a b=>(lpO id a).or (lpO id b)
 | .loop b=>lpO id b
 | _=>none
section
namespace Sim
@[reducible] def Wo.D(o:Wo):List D:=[ao 4 Req.D o.left,.val (.int .u8 o.c.op),.val (.int .i64 o.c.pol),ao 1 (bc .u8) o.c.key,.val (.int .i64 o.c.n),.val (.int .i64 o.first)]
@[reducible] def Dn.D(d:Dn):List D:=[.val (.int .i64 d.who),.val (.int .u8 d.c.op),.val (.int .i64 d.c.pol),ao 1 (bc .u8) d.c.key,.val (.int .i64 d.c.n),.val (.int .i64 d.first),.val (.int .i64 d.last),.val (.int .i64 d.r.e),.val (.bool d.r.g),.val (.int .i64 d.r.left),.val (.int .i64 d.r.wait),.val (.int .i64 d.r.serial),.val (.int .i64 d.r.now)]
@[reducible] def wo0(w:List Req):List D:=[ao 4 Req.D w,.val (.int .u8 0),.val (.int .i64 0),.val (.slice none 0 0),.val (.int .i64 0),.val (.int .i64 0)]
@[reducible] def nilS:SV:=.d (.val (.slice none 0 0))
@[reducible] def o5(n m:Nat)(p:Int):Blk:=.cells [.ptr 0 0,.sl 15 6 0 n,.sl 16 13 0 m,nilS,.i .i64 0,.i .i64 0,.i .i64 0,.i .i64 p]
@[reducible] def o4(n:Nat)(ws:Nat→Wo)(out:List Dn)(p:Int):List (Nat×Option Blk):=[(14,some (o5 n out.length p)),(15,some (.row 60 6 n fun j=>(ws j).D)),(16,some (aS 46 13 Dn.D out))]
@[reducible] def cfgB(room:Int)(work:List (List Req))(picks:List (Int×Int))(fin:Bool):Blk:=.cells [.d (ao 4 Pol.D ax),.i .i64 room,.d (ao 1 cq work),.d (ao 2 fZ picks),.b fin]
@[reducible] def resB:Blk:=.cells [nilS,nilS,.i .i64 0,.i .i64 0,.i .i64 0,.i .i64 0]
@[reducible] noncomputable def vZ(room:Int)(work:List (List Req))(picks:List (Int×Int))(fin:Bool)(n:Nat)(s:SS)(xs:Nat→XB)(nl:Nat)(f:Nat→List D)(p:Int):List (Nat×Option Blk) :=
 ak ax room (gOf (aa ax room) 4 s.S) s.M xs nl f ((s.k:Int)+1)++o4 n s.ws s.out p++[(17,some (cfgB room work picks fin)),(18,some resB)]
end Sim
open Sim
theorem w4(zs:List (List Req))(c:List Req):∀k,k<zs.length+1→bB zs.length (fun i=>wo0 (zs.getD i default)) (fun i=>bf (wo0 c) 6 (0+i)) k=wo0 ((zs++[c]).getD k default):=fun k hk=>by
 simp only[bB]
 by_cases e:k<zs.length
 ·rw[if_pos e,Q1,Q1,Q11 e]
 ·rw[if_neg e]
  obtain rfl:k=zs.length:=by omega
  have:(zs++[c]).getD zs.length default=c:=by simp
  rw[Nat.sub_self,this];rfl
theorem oL(zs:List Dn)(d:Dn):∀k,k<zs.length+1→bB zs.length (fun i=>Dn.D (zs.getD i default)) (fun i=>bf (Dn.D d) 13 (0+i)) k=Dn.D ((zs++[d]).getD k default):=fun k hk=>by
 simp only[bB]
 by_cases e:k<zs.length
 ·rw[if_pos e,Q1,Q1,Q11 e]
 ·rw[if_neg e]
  obtain rfl:k=zs.length:=by omega
  have:(zs++[d]).getD zs.length default=d:=by simp
  rw[Nat.sub_self,this];rfl
@[reducible] def RSt:Type:=Nat×SS×(Nat→XB)×Nat×(Nat→List D)
@[reducible] noncomputable def RP2(room:Int)(work:List (List Req))(picks:List (Int×Int)):RSt→Prop :=
 fun k=>k.1≤picks.length∧k.2.1=Sim.picks (aa ax room) (ss0 work) (picks.take k.1)∧SI room k.2.2.1 k.2.2.2.1 k.2.1∧k.2.1.k≤k.1∧k.2.1.out.length≤k.2.1.k
@[reducible] noncomputable def RI2(room:Int)(work:List (List Req))(picks:List (Int×Int))(fin:Bool):RSt→St :=
 fun k=>⟨⟨Tryz.f6.ntmps,0⟩,19,[(1,.ptr 17 0),(2,.ptr 18 0),(3,.i .i64 0),(5,.ptr 0 0),(7,.ptr 14 0),(50,.d (ao 2 fZ picks)),(51,.i .i64 picks.length),(52,.i .i64 k.1)],vZ room work picks fin work.length k.2.1 k.2.2.1 k.2.2.2.1 k.2.2.2.2 0⟩
@[reducible] noncomputable def RE2(room:Int)(work:List (List Req))(picks:List (Int×Int)):SS×(Nat→XB)×Nat×(Nat→List D)→Prop :=
 fun k=>k.1=Sim.picks (aa ax room) (ss0 work) picks∧SI room k.2.1 k.2.2.1 k.1∧k.1.k≤picks.length∧k.1.out.length≤k.1.k
@[reducible] noncomputable def RJ2(room:Int)(work:List (List Req))(picks:List (Int×Int))(fin:Bool):SS×(Nat→XB)×Nat×(Nat→List D)→St :=
 fun k=>⟨⟨Tryz.f6.ntmps,0⟩,19,[(1,.ptr 17 0),(2,.ptr 18 0),(3,.i .i64 0),(5,.ptr 0 0),(7,.ptr 14 0)],vZ room work picks fin work.length k.1 k.2.1 k.2.2.1 k.2.2.2 0⟩
noncomputable def rb2:Code:=(lpO 2 (Tryz.f6.body.getD .skip)).getD .skip
@[reducible] noncomputable def RQ2(room:Int)(work:List (List Req))(picks:List (Int×Int))(fin:Bool):Exit→St→Prop:=fun e S'=>e=.exit 2∧∃i,RE2 room work picks i∧Le S' (RJ2 room work picks fin i)
theorem j5{room:Int}{work:List (List Req)}{picks:List (Int×Int)}{i:Nat}(hi:i<picks.length):Sim.picks (aa ax room) (ss0 work) (picks.take (i+1))=pick (aa ax room) (Sim.picks (aa ax room) (ss0 work) (picks.take i)) (picks.getD (i:Int).toNat default):=by
 rw[mz hi,qI];rfl
end
section
open Sim
theorem run_2e{room:Int}{work:List (List Req)}{picks:List (Int×Int)}{fin:Bool}{s:SS}{xs:Nat→XB}{nl:Nat}{f:Nat→List D}
  (he:s=Sim.picks (aa ax room) (ss0 work) (picks.take picks.length)) (hI:SI room xs nl s) (hk:s.k≤picks.length) (ho:s.out.length≤s.k) :
  Wp TC rb2 (RI2 room work picks fin (picks.length,s,xs,nl,f)) (jc (RP2 room work picks) (RI2 room work picks fin) (fun k=>picks.length-k.1) (picks.length-picks.length) (RQ2 room work picks fin)):=by
 dsimp only[RI2]
 conv=>(arg 2;whnf)
 have xc:=hI.law.xl
 rw[List.take_length]at he
 (repeat' (first|((first|refine Wp.any ac rfl ?_|(with_reducible first|refine Go.mk ?_|apply aj.of));conv=>whnf)|((refine ap (fun hc=>?_) (fun hc=>?_))<;>(try simp only[wz9]at hc)<;>(try (exfalso;omega))<;>(conv=>whnf))))
 all_goals
  refine⟨rfl,(s,xs,nl,f),⟨he,hI,hk,ho⟩,?_⟩
  dsimp only[RJ2]
  (refine Le.by [0,1,2,3,4,5,6,7,8,9,10,11,12,13,14,15,16,17,18] rfl rfl rfl rfl ?_ ?_<;>((conv=>whnf);repeat' (first|exact trivial|exact cm (by decide) (by decide) (fun l hl=>by rcases l with _|_|_|_|l<;>first|exact⟨zzb rfl,rfl⟩|exact⟨zzb rfl,rfl,rfl⟩|omega) (fun q hq=>by rcases q with _|_|_|_|_|_|_|_|_|q<;>first|exact⟨zzb rfl,rfl⟩|omega)|exact ae.rfl rfl|exact ae.ptr rfl|exact ae.sl rfl|exact⟨rfl,rfl,rfl⟩|exact⟨rfl,zzb rfl⟩|exact fM (by assumption)|exact fun i hi=>rfl|((with_reducible refine And.intro ?_ ?_)<;>(conv=>whnf)))))
theorem run_2t{room:Int}{work:List (List Req)}{picks:List (Int×Int)}{fin:Bool}{i:Nat}{s:SS}{xs:Nat→XB}{nl:Nat}{f:Nat→List D}(hi:i<picks.length)(hp:picks.length≤65536)
  (he:s=Sim.picks (aa ax room) (ss0 work) (picks.take i)) (hI:SI room xs nl s) (hk:s.k≤i) (ho:s.out.length≤s.k) (h0:(picks.getD (i:Int).toNat default).1=-1) (h1:0≤(picks.getD (i:Int).toNat default).2) (h2:(picks.getD (i:Int).toNat default).2≤4611686018427387903) :
  Wp TC rb2 (RI2 room work picks fin (i,s,xs,nl,f)) (jc (RP2 room work picks) (RI2 room work picks fin) (fun k=>picks.length-k.1) (picks.length-i) (RQ2 room work picks fin)):=by
 dsimp only[RI2]
 conv=>(arg 2;whnf)
 have xc:=hI.law.xl
 have hn:=j5 (room:=room) (work:=work) hi
 rw[← he]at hn
 unfold pick at hn
 rw[if_pos h0]at hn
 have hcl:=hI.law.clk
 have hT:=l9 (f:=f) (nl:=nl) (cnt:=(s.k:Int)+1) (hI.law.cok (by omega) 0 (by decide)) hcl.1 hcl.2 _ h1 h2
 (repeat' (first|((first|refine Wp.any ac rfl ?_|(with_reducible first|refine Go.mk ?_|apply aj.of|refine Ov.ok zO ?_|refine And.intro zC ?_));conv=>whnf)|((refine ab.fn (hT) [0,1,2,3,4,5,6,7,8,9,10,11,12,13] rfl rfl rfl rfl rfl ?ha ?hh ?_);(case ha=>exact zA);(case hh=>exact zz3);(conv=>whnf))|((refine ap (fun hc=>?_) (fun hc=>?_))<;>(try simp only[wz9]at hc)<;>(try (exfalso;omega))<;>(conv=>whnf))))
 refine⟨(i+1,tick s (picks.getD (i:Int).toNat default).2,xs,nl,f),⟨by dsimp only;omega,hn.symm,hI.tick h1,by dsimp only;omega,ho⟩,by dsimp only;omega,?_⟩
 dsimp only[RI2]
 (refine Le.by [0,1,2,3,4,5,6,7,8,9,10,11,12,13,14,15,16,17,18] rfl rfl rfl rfl ?_ ?_<;>((conv=>whnf);repeat' (first|exact trivial|exact bH (by decide) (fun l hl=>by rcases l with _|_|_|_|l<;>first|exact⟨zzb rfl,rfl⟩|exact⟨zzb rfl,rfl,rfl⟩|omega) (fun q hq=>by rcases q with _|_|_|_|_|_|_|_|_|q<;>first|exact⟨zzb rfl,rfl⟩|omega)|exact ae.rfl rfl|exact ae.ptr rfl|exact ae.sl rfl|exact⟨rfl,rfl,rfl⟩|exact⟨rfl,zzb rfl⟩|exact di (by assumption) rfl|exact fun i hi=>rfl|((with_reducible refine And.intro ?_ ?_)<;>(conv=>whnf)))))
end
section
def s8(es:Array Edge)(i:Nat):Bool:=es.any fun e=>Region.binds .any e&&Nat.beq e.on i
def usedB(l:List Oper)(o:Oper)(i:Nat):Bool:=s8 o.after i||(List.range l.length).any fun j=>Nat.blt i j&&((l[j]?).map fun q=>s8 q.after i).getD false
def nv(l:List Oper)(o:Oper):Bool :=
 (List.range l.length).all (usedB l o) &&
 (List.range l.length).all (fun i=>((l[i]?).map fun q=>(q.after.all fun e=>!Region.binds .any e||Nat.blt e.on i)&&(match q.guard with|none=>true|some (j,_)=>Nat.blt j l.length)).getD false) &&
 (o.after.all fun e=>!Region.binds .any e||Nat.blt e.on l.length)&&o.guard.isNone
theorem upon_q{P:Program}{o:Oper}{a:Act}{w:World}{K:Act→World→Prop}{Q Q':Exit→Act→World→Prop}(hL:LetsOut Q→LetsOut Q')(hQ:∀c a w,Q (.panic c) a w→Q' (.panic c) a w)(h:o.wp P a w K Q):o.wp P a w K Q':=by
 unfold Oper.wp at *
 generalize (execOp a.eval o).run P w=r at *
 cases r with
 | ok n w' =>
  cases n<;>simp only[Oper.upon]at h⊢<;>
   first
    | exact h
    | exact Calls.mono h (fun e w'' he=>by cases e<;>first|exact he|exact hQ _ _ _ he|exact hL he)
 | halt x w'=>cases x<;>simp only[Oper.upon]at h⊢<;> first|exact h|exact hQ _ _ _ h
theorem lQ{listed:Array Bool}{i:Nat}(b:Bool):(listed.push b).getD i b=listed.getD i b:=by
 simp only[Q7,Array.getElem?_push]
 split
 ·rename_i h;subst h;simp
 ·rfl
theorem fP{listed:Array Bool}{i:Nat}(b d:Bool)(h:i<listed.size):(listed.push b).getD i d=listed.getD i d:=by
 simp only[Q7,Array.getElem?_push]
 rw[if_neg (by omega)]
section
variable{P:Program}{l:List Oper}{o:Oper}{Q:Exit→Act→World→Prop}
theorem jQ{i:Nat}(h:i<l.length):(l++[o]).toArray[i]?=l.toArray[i]?:=by simp[Q11 h]
theorem lp:(l++[o]).toArray[l.length]?=some o:=by simp
theorem jY{listed:Array Bool}(hs:listed.size=l.length){i:Nat}(hi:i<l.length):i∈Region.ready .any (l++[o]).toArray (listed.push false)↔i∈Region.ready .any l.toArray listed:=by
 rw[mem_ready,mem_ready,jQ hi,fP false true (by omega)]
 simp only[lQ]
theorem jd{listed:Array Bool}(hs:listed.size=l.length):l.length∈Region.ready .any (l++[o]).toArray (listed.push false)↔∀e∈o.after,Region.binds .any e=true→listed.getD e.on false=true:=by
 rw[mem_ready,lp]
 have h0:(listed.push false).getD l.length true=false:=by rw[Q7,← hs];simp
 rw[h0]
 simp only[lQ]
 constructor
 ·rintro⟨_,q,hq,h⟩;cases hq;exact h
 ·exact fun h=>⟨trivial,o,rfl,h⟩
theorem nG{listed:Array Bool}{i:Nat}(h:i∈Region.ready .any (l++[o]).toArray (listed.push false)):i<l.length∨i=l.length:=by
 rw[mem_ready]at h
 obtain⟨_,q,hq,_⟩:=h
 have:=(Q17 hq).1
 simp at this;omega
theorem oR{R:Exit→Act→World→Prop}(hok:nv l o=true)(hR:∀a w,R .normal a w→o.wp P a w (fun a w=>Q .normal a w) Q)(hP:∀c a w,¬R (.panic c) a w)(hO:¬LetsOut R):∀(fuel:Nat) (listed:Array Bool) (a:Act) (w:World),listed.size=l.length →
  (∀i q,l[i]?=some q→listed.getD i false=true→∀e∈q.after,Region.binds .any e=true→listed.getD e.on false=true) →
  wpAny P .any l.toArray R fuel listed a w→wpAny P .any (l++[o]).toArray Q (fuel+1) (listed.push false) a w:=by
 unfold nv at hok
 simp only[Q5,Q23,List.mem_range]at hok
 obtain⟨⟨⟨hu,hp⟩,ha⟩,hg⟩:=hok
 have hgn:o.guard=none:=by cases e:o.guard with|none=>rfl|some _=>rw[e]at hg;cases hg
 have hpre:∀i q,l[i]?=some q→(∀e∈q.after,Region.binds .any e=true→e.on<i)∧(∀j b,q.guard=some (j,b)→j<l.length):=fun i q hq=>by
  have h1:=hp i (Q3 hq).1
  rw[hq]at h1
  simp only[Option.map_some,Option.getD_some,Q5]at h1
  refine⟨fun e he hb=>?_,fun j b hjb=>?_⟩
  ·have h2:=h1.1
   rw[Array.all_eq_true']at h2
   have:=h2 e he
   rw[hb]at this
   simpa using this
  ·have h2:=h1.2
   rw[hjb]at h2
   simpa using h2
 have hao:∀e∈o.after,Region.binds .any e=true→e.on<l.length:=fun e he hb=>by
  rw[Array.all_eq_true']at ha
  have:=ha e he
  rw[hb]at this
  simpa using this
 have cover:∀(listed:Array Bool),(∀i q,l[i]?=some q→listed.getD i false=true→∀e∈q.after,Region.binds .any e=true→listed.getD e.on false=true) →
   (∀e∈o.after,Region.binds .any e=true→listed.getD e.on false=true)→∀k i,l.length=i+k→∀j,i≤j→j<l.length→listed.getD j false=true:=by
  intro listed hd hr k
  induction k with
  | zero=>intro i hi j h1 h2;omega
  | succ k ih =>
   intro i hi j h1 h2
   by_cases e:i=j
   ·subst e
    have h3:=hu i h2
    unfold usedB at h3
    rw[Q20]at h3
    have wt:∀{es:Array Edge},s8 es i=true→∃e∈es,Region.binds .any e=true∧e.on=i:=fun {es} h=>by
     unfold s8 at h
     rw[Array.any_eq_true']at h
     obtain⟨e,h4,h5⟩:=h
     rw[Q5]at h5
     exact⟨e,h4,h5.1,Q2 h5.2⟩
    rcases h3 with h3|h3
    ·obtain⟨e,h4,h5,h6⟩:=wt h3
     rw[← h6];exact hr e h4 h5
    ·rw[List.any_eq_true]at h3
     obtain⟨q,hq,h3⟩:=h3
     rw[List.mem_range]at hq
     rw[Q5,Q0 hq]at h3
     simp only[Option.map_some,Option.getD_some]at h3
     obtain⟨h3,h4⟩:=h3
     have h3:i<q:=by simpa using h3
     obtain⟨e,h5,h6,h7⟩:=wt h4
     have:=ih (i+1) (by omega) q (by omega) hq
     rw[← h7];exact hd q _ (Q0 hq) this e h5 h6
   ·exact ih (i+1) (by omega) j (by omega) h2
 have allOf:∀(listed:Array Bool),listed.size=l.length→Region.ready .any l.toArray listed=[]→∀j,j<l.length→listed.getD j false=true:=by
  intro listed hs hr j
  induction j using Nat.strongRecOn with
  | _ j ih =>
   intro hj
   cases hb:listed.getD j false with
   | true=>rfl
   | false =>
    exfalso
    have:j∈Region.ready .any l.toArray listed:=mem_ready.2 ⟨by
     rw[Q7]at hb⊢
     rw[Array.getElem?_eq_getElem (by omega)]at hb⊢
     exact hb,l[j],by simp[Q0 hj],fun e he hbe=>ih e.on ((hpre j _ (Q0 hj)).1 e he hbe) (by have:=(hpre j _ (Q0 hj)).1 e he hbe;omega)⟩
    rw[hr]at this;cases this
 have wtd:∀(a:Act),Region.wanted o (yielded (l++[o]).toArray a.tmps)=true:=fun a=>by unfold Region.wanted;rw[hgn]
 have endC:∀(fuel:Nat) (listed:Array Bool) (a:Act) (w:World),listed.size=l.length→Region.ready .any l.toArray listed=[]→o.wp P a w (fun a w=>Q .normal a w) Q→wpAny P .any (l++[o]).toArray Q (fuel+1) (listed.push false) a w:=by
  intro fuel listed a w hs hr h
  have hall:=allOf listed hs hr
  have hlast:l.length∈Region.ready .any (l++[o]).toArray (listed.push false):=(jd hs).2 fun e he hb=>hall _ (hao e he hb)
  refine⟨fun h0=>(by rw[h0]at hlast;cases hlast),fun i hi=>?_⟩
  rcases nG hi with h1|rfl
  ·rw[jY hs h1,hr]at hi;cases hi
  ·unfold wpOp
   rw[lp]
   simp only
   rw[if_pos (wtd a)]
   left
   refine Oper.wp_mono (fun a' w' hQ=>?_) h
   refine wpAny_done ?_ hQ fuel
   refine List.eq_nil_iff_forall_not_mem.2 fun j hj=>?_
   have hj2:=(mem_ready.1 hj).1
   have hjl:j<l.length∨j=l.length:=by
    obtain⟨_,q,hq,_⟩:=mem_ready.1 hj
    have:=(Q17 hq).1
    simp at this;omega
   rcases hjl with hjl|rfl
   ·rw[getD_set_ne true (by omega:l.length≠j),fP false true (by omega)]at hj2
    have:=hall j hjl
    rw[Q7,Array.getElem?_eq_getElem (by omega)]at this hj2
    simp at this hj2;rw[this]at hj2;cases hj2
   ·rw[Q7]at hj2
    simp[← hs]at hj2
 intro fuel
 induction fuel with
 | zero =>
  intro listed a w hs hd h
  exact endC 0 listed a w hs h.1 (hR _ _ h.2)
 | succ fuel ih =>
  intro listed a w hs hd h
  by_cases hr:Region.ready .any l.toArray listed=[]
  ·exact endC (fuel+1) listed a w hs hr (hR _ _ (h.1 hr))
  ·have hnl:¬l.length∈Region.ready .any (l++[o]).toArray (listed.push false):=fun hin=>by
    have hc:=cover listed hd ((jd hs).1 hin) l.length 0 (by omega)
    apply hr
    refine List.eq_nil_iff_forall_not_mem.2 fun j hj=>?_
    obtain⟨hj1,q,hq,_⟩:=mem_ready.1 hj
    have hjl:j<l.length:=by have:=(Q17 hq).1;simpa using this
    have:=hc j (Nat.zero_le _) hjl
    rw[Q7,Array.getElem?_eq_getElem (by omega)]at this hj1
    simp at this hj1;rw[this]at hj1;cases hj1
   refine⟨fun h0=>?_,fun i hi=>?_⟩
   ·exfalso
    apply hr
    refine List.eq_nil_iff_forall_not_mem.2 fun j hj=>?_
    have hjl:j<l.length:=by
     obtain⟨_,q,hq,_⟩:=mem_ready.1 hj
     have:=(Q17 hq).1;simpa using this
    have:=(jY (o:=o) hs hjl).2 hj
    rw[h0]at this;cases this
   ·rcases nG hi with hil|rfl
    ·have hi2:=(jY hs hil).1 hi
     have h2:=h.2 i hi2
     unfold wpOp at h2⊢
     rw[jQ hil]
     have hli:l.toArray[i]?=some l[i]:=by simp[Q0 hil]
     rw[hli]at h2⊢
     simp only at h2⊢
     have hw:Region.wanted l[i] (yielded (l++[o]).toArray a.tmps)=Region.wanted l[i] (yielded l.toArray a.tmps):=by
      unfold Region.wanted
      cases hgd:l[i].guard with
      | none=>rfl
      | some jb =>
       obtain⟨j,b⟩:=jb
       have hj:=(hpre i _ (Q0 hil)).2 j b hgd
       simp only
       unfold yielded
       rw[jQ hj]
     rw[hw]
     have hd':∀i' q,l[i']?=some q→(listed.setIfInBounds i true).getD i' false=true→∀e∈q.after,Region.binds .any e=true→(listed.setIfInBounds i true).getD e.on false=true:=by
      intro i' q hq hg' e he hb
      by_cases e1:i'=i
      ·subst e1
       obtain⟨_,q2,hq2,hall⟩:=mem_ready.1 hi2
       rw[hli]at hq2;cases hq2
       have:q=l[i']:=by rw[Q0 hil]at hq;exact(Option.some.inj hq).symm
       subst this
       exact getD_set_true (hall e he hb)
      ·rw[getD_set_ne false (Ne.symm e1)]at hg'
       exact getD_set_true (hd i' q hq hg' e he hb)
     have hpush:(listed.push false).setIfInBounds i true=(listed.setIfInBounds i true).push false:=by
      refine Array.ext_getElem? fun k=>?_
      simp only[Array.getElem?_setIfInBounds,Array.getElem?_push,Array.size_push,Array.size_setIfInBounds]
      by_cases e1:i=k
      ·subst e1
       rw[if_pos rfl,if_pos (by omega),if_neg (by omega),if_pos rfl,if_pos (by omega)]
      ·rw[if_neg e1,if_neg e1]
     rw[hpush]
     have step:∀a' w',wpAny P .any l.toArray R fuel (listed.setIfInBounds i true) a' w'→wpAny P .any (l++[o]).toArray Q (fuel+1) ((listed.setIfInBounds i true).push false) a' w':=fun a' w' h'=>ih _ a' w' (by simp[hs]) hd' h'
     split
     ·rename_i hwt
      rw[if_pos hwt]at h2
      rcases h2 with h2|⟨_,h3⟩
      ·left
       exact Oper.wp_mono step (upon_q (fun hl=>absurd hl hO) (fun c a w hf=>absurd hf (hP c a w)) h2)
      ·exact absurd h3 hO
     ·rename_i hwt
      rw[if_neg hwt]at h2
      exact step _ _ h2
    ·exact absurd hi hnl
end
theorem iR(n:Nat):(Array.replicate n false).push false=Array.replicate (n+1) false:=by
 rw[Array.replicate_succ]
theorem Wp.drawTail{C:Cx}{id:Nat}{l:List Oper}{o:Oper}{nt:NT}{nx:Nat}{fr:List (Nat×SV)}{hp:List (Nat×Option Blk)}{Q:Exit→St→Prop}(hm:C.P.follows .mixedOrders=true)(hok:nv l o=true)
  (h:cB C l nx l 0 ⟨nt,nx+l.length,fr,hp⟩ fun efs Sn=>dy l efs nx ⟨nt,nx+l.length,fr,hp⟩=true∧runK C Sn o fun S'=>Q .normal S'):Wp C (.region id (l++[o]).toArray true) ⟨nt,nx,fr,hp⟩ Q:=by
 refine⟨fun O E a w hs=>wp_region_any hm ?_⟩
 have h1:=Wp.drawAny (Q:=fun e S'=>match e with|.normal=>runK C S' o (fun S''=>Q .normal S'')|_=>False) h hs
 have h2:=oR (P:=C.P) (l:=l) (o:=o) (Q:=fun e a' w'=>∃S' E',Q e S'∧Sat O E' S' a' w') hok (fun a' w' hh=>?_) (fun c a' w' hh=>?_) (fun hh=>?_) l.length (Array.replicate l.length false) a { w with drawn:=w.drawn+1 } (by simp) (fun i q _ hi=>by
  simp[Q7,Array.getElem?_replicate]at hi;split at hi<;>simp at hi) h1
 ·rw[iR]at h2
  simpa using h2
 ·obtain⟨S',E',hk,hS⟩:=hh
  refine gH hS hk _ _ fun v E2 S2 w2 x g1 g2 g3=>?_
  obtain⟨S3,k1,k2⟩:=gU g2 g3 g1
  exact⟨S3,E2,k1,k2⟩
 ·obtain⟨S',E',hk,_⟩:=hh;exact hk
 ·obtain⟨_,_,S',E',hk,_⟩:=hh;exact hk
def wy:List Oper→List Oper
 | []=>[]
 | [_]=>[]
 | x::y::r=>x::wy (y::r)
def lastL:List Oper→Option Oper
 | []=>none
 | [x]=>some x
 | _::y::r=>lastL (y::r)
theorem lM:∀{l:List Oper} {o:Oper},lastL l=some o→wy l++[o]=l
 | [],_,h=>by cases h
 | [x],_,h=>by cases h;rfl
 | x::y::r,o,h=>by
  have:=lM (l:=y::r) h
  show x::(wy (y::r)++[o])=_
  rw[this]
theorem Wp.drawTailL{C:Cx}{id:Nat}{l l1:List Oper}{o:Oper}{nt:NT}{nx:Nat}{fr:List (Nat×SV)}{hp:List (Nat×Option Blk)}{Q:Exit→St→Prop}(hm:C.P.follows .mixedOrders=true)(ho:lastL l=some o)(hl:wy l=l1)(hok:nv l1 o=true)
  (h:cntK l1 nx fun m=>cB C l1 nx l1 0 ⟨nt,m,fr,hp⟩ fun efs Sn=>dy l1 efs nx ⟨nt,m,fr,hp⟩=true∧runK C Sn o fun S'=>Q .normal S'):Wp C (.region id l.toArray true) ⟨nt,nx,fr,hp⟩ Q:=by
 subst hl
 have:=Wp.drawTail (id:=id) hm hok (nf _ nx _ h)
 rwa [lM ho]at this
end
section
open Sim
@[reducible] noncomputable def qk(room:Int)(n:Nat)(s:SS)(xs:Nat→XB)(nl:Nat)(f:Nat→List D)(p:Int):List (Nat×Option Blk) :=
 ak ax room (gOf (aa ax room) 4 s.S) s.M xs nl f ((s.k:Int)+1)++o4 n s.ws s.out p
@[reducible] noncomputable def mB(room:Int)(n:Nat)(s:SS)(xs:Nat→XB)(nl:Nat)(f:Nat→List D)(p:Int):List (Nat×Option Blk) :=
  [(0,some (.cf 26 67 (au ax room (gOf (aa ax room) 17 s.S)))),(1,some (ce 2 26 34 nl s.M.clk ((s.k:Int)+1))),(2,some (b9 34 s.M.W)),(3,some (f5 s.M.Hd)),
   (4,none),(5,none),(6,none),(7,none),(8,none),(9,none),(10,none),(11,none),(12,none),(13,none),
   (14,some (.cells [.ptr 0 0,.sl 15 6 0 n,.sl 27 13 0 s.out.length,nilS,.i .i64 0,.i .i64 0,.i .i64 0,.i .i64 p])),(15,some (.row 60 6 n fun j=>(s.ws j).D)),(16,none),
   (17,some (xB (xs 0))),(18,some (xB (xs 1))),(19,some (xB (xs 2))),(20,some (xB (xs 3))),(21,some (xB (xs 4))),(22,some (xB (xs 5))),(23,some (xB (xs 6))),(24,some (xB (xs 7))),(25,some (xB (xs 8))),(26,some (bA nl f)),
   (27,some (aS 46 13 Dn.D s.out))]
theorem kN{a b:List D}(h:a=b):fL a b:=h▸fL.refl _
theorem xi(l:List Req):D.sl 4 (l.length-Int.toNat 1) (fun i=>(l.getD (Int.toNat 1+i) default).D)=ao 4 Req.D l.tail:=by
 unfold ao
 congr 1
 ·rw[List.length_tail];rfl
 ·funext i
  cases l with
  | nil=>simp
  | cons a l=>show Req.D ((a::l).getD (1+i) default)=_;rw[Nat.add_comm,List.getD_cons_succ];rfl
variable{room:Int}{s:SS}{xs:Nat→XB}{nl:Nat}{f:Nat→List D}{n w:Nat}
theorem i4(p:Int)(hn6:n≤64)(hI:SI room xs nl s)(hk:s.k≤900000)(hwn:w<n)(hc:isC (s.S w).s=false)(hl:(s.ws w).left=[]) :
  Fun TC 10 17 [.ptr 14 0,.i .i64 w] (qk room n s xs nl f p) 17 (.b false) (qk room n s xs nl f p):=by
 have xc:=hI.law.xl
 have hP:=cT (f:=f) hI.law (by omega) (w:=w) (by omega)
 rw[hc]at hP
 have hl0:(s.ws (0+(w:Int).toNat)).left.length=0:=by rw[Q19,Q13,hl];rfl
 refine Fun.mk' Tryz.func10 rfl rfl zN (by decide) ?_
 (repeat' (first|((first|refine Wp.any ac rfl ?_|(with_reducible first|refine Go.mk ?_|apply aj.of|refine And.intro zC ?_));conv=>whnf)|((refine ab.fn (hP) [0,1,2,3,4,5,6,7,8,9,10,11,12,13] rfl rfl rfl rfl rfl ?ha ?hh ?_);(case ha=>exact zA);(case hh=>exact zz3);(conv=>whnf))|((refine ap (fun hc=>?_) (fun hc=>?_))<;>(try simp only[wz9]at hc)<;>(try (exfalso;omega))<;>(conv=>whnf))))
 ((refine af.sealB [0,1,2,3,4,5,6,7,8,9,10,11,12,13,14,15,16] rfl rfl rfl ?_ ?_);(focus((conv=>whnf);(repeat' (first|exact ai.d))));(focus((conv=>whnf);(repeat' (first|exact trivial|exact ai.d|exact ib (by decide) (fun l hl=>by rcases l with _|_|_|_|l<;>first|exact⟨zzb rfl,rfl⟩|exact⟨zzb rfl,rfl,rfl⟩|omega) (fun q hq=>by rcases q with _|_|_|_|_|_|_|_|_|q<;>first|exact⟨zzb rfl,rfl⟩|omega)|exact ai.ptrL rfl|exact ai.slL rfl|exact⟨rfl,rfl,rfl⟩|exact⟨rfl,zzb rfl⟩|exact np (by assumption) rfl|exact fun i hi=>fL.refl _|((refine And.intro ?_ ?_)<;>(conv=>whnf)))))))
theorem oZ(p:Int)(hn6:n≤64)(hI:SI room xs nl s)(hk:s.k≤900000)(ho:s.out.length≤1000000)(hwn:w<n)(hc:isC (s.S w).s=false){c:Req}{r:List Req}(hl:(s.ws w).left=c::r) :
  ∃xs' nl' f',SI room xs' nl' (adv (aa ax room) (beg s w c r) w)∧Fun TC 10 17 [.ptr 14 0,.i .i64 w] (qk room n s xs nl f p) 28 (.b true) (mB room n (adv (aa ax room) (beg s w c r) w) xs' nl' f' p):=by
 have xc:=hI.law.xl
 have hP:=cT (f:=f) hI.law (by omega) (w:=w) (by omega)
 rw[hc]at hP
 have hw8:=hI.w8l hl
 have hok:=hI.cok w c (by rw[hl];exact List.mem_cons_self ..)
 have hkl:=hok.len
 obtain⟨xs1,hL1,hS1⟩:=rk (f:=f) hI.law (by omega) (.inl hw8) (ry hc) c.op c.pol c.key c.n hok.chk (by omega) hok.kx
 have hb:=hI.beg hl hL1
 have xl1:=hL1.xl
 have hp1:isC ((beg s w c r).S w).s=true:=by
  show isC (Dir.upd s.S w (Sim.newC c) w).s=true
  rw[Dir.upd_same]
  show isC (Core.first (aI c.op c.pol c.key c.n))=true
  unfold Core.first;(repeat' split)<;>rfl
 have hSt1:=dS (nl:=nl) (f:=f) (cnt:=(s.k:Int)+1) (hL1.cok (by omega) 0 (by decide)) (by omega) (by omega)
 rw[show(s.k:Int)+1-1=(s.k:Int)by omega]at hSt1
 obtain⟨xs',f',hL,hS⟩:=n7 (f:=f) hb.law (by show s.k≤1000000;omega) (.inl hw8) hp1
 have hI':=hb.to hw8 hL
 have xl':=hL.xl
 have hSt:=dS (nl:=aC nl) (f:=f') (cnt:=(s.k:Int)+1+1) (hL.cok (by show s.k+1≤1000000;omega) 0 (by decide)) (by omega) (by omega)
 rw[show(s.k:Int)+1+1-1=(s.k:Int)+1 by omega]at hSt
 have ek:((s.k+1:Nat):Int)+1=(s.k:Int)+1+1:=by omega
 have hz:0+(w:Int).toNat=w:=by rw[Q19,Q13]
 have hlz:(s.ws (0+(w:Int).toNat)).left.length=r.length+1:=by rw[hz,hl];rfl
 have hCl:=az c.key (by omega)
 refine⟨xs',aC nl,f',hI',?_⟩
 clear hI'
 generalize hn:adv (aa ax room) (beg s w c r) w=s'
 unfold adv res at hn
 dsimp only[beg]at hn hS hSt hL
 clear hb hp1
 generalize Core.mx (aa ax room) s.M (Dir.upd s.S w (Sim.newC c)) w=M' at *
 generalize Core.nx (aa ax room) s.M (Dir.upd s.S w (Sim.newC c)) w=S' at *
 generalize (Core.step (aa ax room) s.M (Dir.upd s.S w (Sim.newC c) w).x (Dir.upd s.S w (Sim.newC c) w).s).r=q at hn hS
 obtain⟨dn,re,rg,rl,rw',rs',rn⟩:=q
 have hcz:c=(s.ws (0+(w:Int).toNat)).left.getD (Int.toNat 0) default:=by rw[hz,hl];rfl
 have hr:(s.ws (0+(w:Int).toNat)).left.tail=r:=by rw[hz,hl];rfl
 rw[show Dir.upd s.ws w ⟨r,c,(s.k:Int)+1⟩ w=⟨r,c,(s.k:Int)+1⟩ from Dir.upd_same ..]at hn
 subst hcz
 cases dn with
 | false =>
  rw[if_neg (by simp)]at hn
  subst hn
  dsimp only[mB]
  rw[ek]
  refine Fun.mk' Tryz.func10 rfl rfl zN (by decide) ?_
  (repeat' (first|((first|with_reducible refine Wp.drawTailL ac rfl rfl (by kernel_rfl) ?_|refine Wp.any ac rfl ?_|(with_reducible first|refine Go.mk ?_|apply aj.of|refine Ov.ok zO ?_)|refine zV ?_|(with_reducible first|refine And.intro zC ?_|refine ab.pure (hCl) rfl rfl ?_));conv=>whnf)|((refine ab.fn (hP) [0,1,2,3,4,5,6,7,8,9,10,11,12,13] rfl rfl rfl rfl rfl ?ha ?hh ?_);(case ha=>exact zA);(case hh=>exact zz3);(conv=>whnf))|((refine ab.fn (hS1) [0,1,2,3,4,5,6,7,8,9,10,11,12,13] rfl rfl rfl rfl rfl ?ha ?hh ?_);(case ha=>exact zA);(case hh=>exact zz3);(conv=>whnf))|((refine ab.fn (hSt1) [0,1,2,3,44,45,46,47,48,49,50,51,52,53] rfl rfl rfl rfl rfl ?ha ?hh ?_);(case ha=>exact zA);(case hh=>exact zz3);(conv=>whnf))|((refine ab.fn (hS) [0,1,2,3,44,45,46,47,48,49,50,51,52,53] rfl rfl rfl rfl rfl ?ha ?hh ?_);(case ha=>exact zA);(case hh=>exact zz3);(conv=>whnf))|((try dsimp only);(rw[if_pos rfl]);(conv=>whnf))|((refine ap (fun hc=>?_) (fun hc=>?_))<;>(try simp only[wz9]at hc)<;>(try (exfalso;omega))<;>(conv=>whnf))))
  ((refine af.sealC [0,1,2,3,4,5,6,7,8,9,10,11,12,13,14,15,16,54,55,56,57,58,59,60,61,62,63,16] [] rfl rfl rfl ?_ ?_);(focus((conv=>whnf);(repeat' (first|exact ai.d))));((conv=>whnf);(repeat' (first|exact zN9|((refine And.intro ?_ ?_)<;>(conv=>whnf))))))
  ·intro q hq
   refine kN ?_
   dsimp only
   by_cases e:q=w
   ·subst e
    rw[if_pos hz.symm,Dir.upd_same,xi,hr]
   ·have e':¬q=0+(w:Int).toNat:=by rw[hz];exact e
    rw[if_neg e',if_neg e',if_neg e',if_neg e',Dir.upd_ne _ _ e]
 | true =>
  rw[if_pos rfl]at hn
  subst hn
  have hlen:∀d:Dn,(s.out++[d]).length=s.out.length+1:=fun d=>by rw[Q9,List.length_singleton]
  dsimp only[mB,aS]
  rw[ek,hlen]
  refine Fun.mk' Tryz.func10 rfl rfl zN (by decide) ?_
  (repeat' (first|((first|with_reducible refine Wp.drawTailL ac rfl rfl (by kernel_rfl) ?_|refine Wp.any ac rfl ?_|(with_reducible first|refine Go.mk ?_|apply aj.of));conv=>whnf)|with_reducible exact rfl|((first|with_reducible refine Ov.ok zO ?_|refine zV ?_|with_reducible refine And.intro zC ?_);conv=>whnf)|((refine mp.b rfl rfl rfl rfl rfl rfl rfl rfl ?hb ?ho ?_);(case hb=>exact zB);(case ho=>omega);(conv=>whnf))|(with_reducible refine Or.inl ?_)|((with_reducible refine ab.pure (hCl) rfl rfl ?_);conv=>whnf)|((refine ab.fn (hP) [0,1,2,3,4,5,6,7,8,9,10,11,12,13] rfl rfl rfl rfl rfl ?ha ?hh ?_);(case ha=>exact zA);(case hh=>exact zz3);(conv=>whnf))|((refine ab.fn (hS1) [0,1,2,3,4,5,6,7,8,9,10,11,12,13] rfl rfl rfl rfl rfl ?ha ?hh ?_);(case ha=>exact zA);(case hh=>exact zz3);(conv=>whnf))|((refine ab.fn (hSt1) [0,1,2,3,44,45,46,47,48,49,50,51,52,53] rfl rfl rfl rfl rfl ?ha ?hh ?_);(case ha=>exact zA);(case hh=>exact zz3);(conv=>whnf))|((refine ab.fn (hS) [0,1,2,3,44,45,46,47,48,49,50,51,52,53] rfl rfl rfl rfl rfl ?ha ?hh ?_);(case ha=>exact zA);(case hh=>exact zz3);(conv=>whnf))|((refine ag.fn (hSt) [0,1,2,3,54,55,56,57,58,59,60,61,62,63] [] rfl rfl rfl rfl rfl ?ha ?hh ?hs ?_);(case ha=>exact zA);(case hh=>exact zz3);(case hs=>exact zK);(conv=>whnf))|((try dsimp only);(rw[if_pos rfl]);(conv=>whnf))|((refine ap (fun hc=>?_) (fun hc=>?_))<;>(try simp only[wz9]at hc)<;>(try (exfalso;omega))<;>(conv=>whnf))))
  ((refine af.sealC [0,1,2,3,4,5,6,7,8,9,10,11,12,13,14,15,16,54,55,56,57,58,59,60,61,62,63,89] [] rfl rfl rfl ?_ ?_);(focus((conv=>whnf);(repeat' (first|exact ai.d))));((conv=>whnf);(repeat' (first|exact zN9|((refine And.intro ?_ ?_)<;>(conv=>whnf))))))
  ·intro q hq
   refine kN ?_
   dsimp only
   by_cases e:q=w
   ·subst e
    rw[if_pos hz.symm,Dir.upd_same,xi,hr]
   ·have e':¬q=0+(w:Int).toNat:=by rw[hz];exact e
    rw[if_neg e',if_neg e',if_neg e',if_neg e',Dir.upd_ne _ _ e]
  ·exact fun j hj=>kN <| oL s.out ⟨w,(s.ws (0+(w:Int).toNat)).left.getD (Int.toNat 0) default,(s.k:Int)+1,(s.k:Int)+1,⟨re,rg,rl,rw',rs',rn⟩⟩ j hj
theorem oY(p:Int)(hn6:n≤64)(hI:SI room xs nl s)(hk:s.k≤900000)(ho:s.out.length≤1000000)(hwn:w<n)(hc:isC (s.S w).s=true) :
  ∃xs' nl' f',SI room xs' nl' (adv (aa ax room) s w)∧Fun TC 10 17 [.ptr 14 0,.i .i64 w] (qk room n s xs nl f p) 28 (.b true) (mB room n (adv (aa ax room) s w) xs' nl' f' p):=by
 have xc:=hI.law.xl
 have hP:=cT (f:=f) hI.law (by omega) (w:=w) (by omega)
 rw[hc]at hP
 have hw8:=hI.w8 hc
 obtain⟨xs',f',hL,hS⟩:=n7 (f:=f) hI.law (by omega) (.inl hw8) hc
 have hI':=hI.to hw8 hL
 have xl':=hL.xl
 have hSt:=dS (nl:=aC nl) (f:=f') (cnt:=(s.k:Int)+1+1) (hL.cok (by omega) 0 (by decide)) (by omega) (by omega)
 rw[show(s.k:Int)+1+1-1=(s.k:Int)+1 by omega]at hSt
 have ek:((s.k+1:Nat):Int)+1=(s.k:Int)+1+1:=by omega
 have hz:0+(w:Int).toNat=w:=by rw[Q19,Q13]
 refine⟨xs',aC nl,f',hI',?_⟩
 clear hI'
 generalize hn:adv (aa ax room) s w=s'
 unfold adv res at hn
 generalize Core.mx (aa ax room) s.M s.S w=M' at *
 generalize Core.nx (aa ax room) s.M s.S w=S' at *
 generalize (Core.step (aa ax room) s.M (s.S w).x (s.S w).s).r=r at hn hS
 obtain⟨dn,re,rg,rl,rw',rs',rn⟩:=r
 cases dn with
 | false =>
  rw[if_neg (by simp)]at hn
  subst hn
  dsimp only[mB]
  rw[ek]
  refine Fun.mk' Tryz.func10 rfl rfl zN (by decide) ?_
  (repeat' (first|((first|refine Wp.any ac rfl ?_|(with_reducible first|refine Go.mk ?_|apply aj.of|refine And.intro zC ?_));conv=>whnf)|((refine ab.fn (hP) [0,1,2,3,4,5,6,7,8,9,10,11,12,13] rfl rfl rfl rfl rfl ?ha ?hh ?_);(case ha=>exact zA);(case hh=>exact zz3);(conv=>whnf))|((refine ab.fn (hS) [0,1,2,3,4,5,6,7,8,9,10,11,12,13] rfl rfl rfl rfl rfl ?ha ?hh ?_);(case ha=>exact zA);(case hh=>exact zz3);(conv=>whnf))))
  ((refine af.sealC [0,1,2,3,4,5,6,7,8,9,10,11,12,13,14,15,16,17,18,19,20,21,22,23,24,25,26,16] [] rfl rfl rfl ?_ ?_);(focus((conv=>whnf);(repeat' (first|exact ai.d))));((conv=>whnf);(repeat' (first|exact zN9|((refine And.intro ?_ ?_)<;>(conv=>whnf))))))
 | true =>
  rw[if_pos rfl]at hn
  subst hn
  have hlen:∀d:Dn,(s.out++[d]).length=s.out.length+1:=fun d=>by rw[Q9,List.length_singleton]
  dsimp only[mB,aS]
  rw[ek,hlen]
  refine Fun.mk' Tryz.func10 rfl rfl zN (by decide) ?_
  (repeat' (first|((first|refine Wp.any ac rfl ?_|(with_reducible first|refine Go.mk ?_|apply aj.of));conv=>whnf)|with_reducible exact rfl|((first|refine zV ?_|with_reducible refine And.intro zC ?_);conv=>whnf)|((refine mp.b rfl rfl rfl rfl rfl rfl rfl rfl ?hb ?ho ?_);(case hb=>exact zB);(case ho=>omega);(conv=>whnf))|(with_reducible refine Or.inl ?_)|((refine ab.fn (hP) [0,1,2,3,4,5,6,7,8,9,10,11,12,13] rfl rfl rfl rfl rfl ?ha ?hh ?_);(case ha=>exact zA);(case hh=>exact zz3);(conv=>whnf))|((refine ab.fn (hS) [0,1,2,3,4,5,6,7,8,9,10,11,12,13] rfl rfl rfl rfl rfl ?ha ?hh ?_);(case ha=>exact zA);(case hh=>exact zz3);(conv=>whnf))|((refine ag.fn (hSt) [0,1,2,3,17,18,19,20,21,22,23,24,25,26] [] rfl rfl rfl rfl rfl ?ha ?hh ?hs ?_);(case ha=>exact zA);(case hh=>exact zz3);(case hs=>exact zK);(conv=>whnf))))
  rw[hz]
  ((refine af.sealC [0,1,2,3,4,5,6,7,8,9,10,11,12,13,14,15,16,17,18,19,20,21,22,23,24,25,26,52] [] rfl rfl rfl ?_ ?_);(focus((conv=>whnf);(repeat' (first|exact ai.d))));((conv=>whnf);(repeat' (first|exact zN9|((refine And.intro ?_ ?_)<;>(conv=>whnf))))))
  exact fun j hj=>kN <| oL s.out ⟨w,(s.ws w).c,(s.ws w).first,(s.k:Int)+1,⟨re,rg,rl,rw',rs',rn⟩⟩ j hj
end
section
open Sim
variable{room:Int}{s:SS}{xs:Nat→XB}{nl:Nat}{f:Nat→List D}{n w:Nat}
theorem i5(p:Int)(hn6:n≤64)(hI:SI room xs nl s)(hk:s.k≤900000)(ho:s.out.length≤1000000)(hwn:w<n)(hg:(go (aa ax room) s w).2=true) :
  ∃xs' nl' f',SI room xs' nl' (go (aa ax room) s w).1∧Fun TC 10 17 [.ptr 14 0,.i .i64 w] (qk room n s xs nl f p) 28 (.b true) (mB room n (go (aa ax room) s w).1 xs' nl' f' p):=by
 unfold go at hg⊢
 cases hc:isC (s.S w).s with
 | true=>rw[if_pos rfl];exact oY p hn6 hI hk ho hwn hc
 | false =>
  rw[hc,if_neg (by decide)]at hg
  rw[if_neg (by decide)]
  cases hl:(s.ws w).left with
  | nil=>rw[hl]at hg;cases hg
  | cons c r=>exact oZ p hn6 hI hk ho hwn hc hl
theorem xD(P:Core.Ops)(s:SS)(w:Nat):(go P s w).1.out.length+s.k≤s.out.length+(go P s w).1.k:=by
 unfold Sim.go
 split
 ·show(if(res P s w).done=true then s.out++[_]else s.out).length+s.k≤s.out.length+(s.k+1)
  split
  ·rw[Q9,List.length_singleton];omega
  ·omega
 ·split
  ·exact Q4 _
  ·show(if(res P _ w).done=true then s.out++[_]else s.out).length+s.k≤s.out.length+(s.k+1)
   split
   ·rw[Q9,List.length_singleton];omega
   ·omega
theorem run_2w{room:Int}{work:List (List Req)}{picks:List (Int×Int)}{fin:Bool}{i:Nat}{s:SS}{xs:Nat→XB}{nl:Nat}{f:Nat→List D}(hi:i<picks.length)(hp:picks.length≤65536)(hn6:work.length≤64)
  (he:s=Sim.picks (aa ax room) (ss0 work) (picks.take i)) (hI:SI room xs nl s) (hk:s.k≤i) (ho:s.out.length≤s.k) {w:Nat} (hw:(picks.getD (i:Int).toNat default).1=w) (hwn:w<work.length) :
  Wp TC rb2 (RI2 room work picks fin (i,s,xs,nl,f)) (jc (RP2 room work picks) (RI2 room work picks fin) (fun k=>picks.length-k.1) (picks.length-i) (RQ2 room work picks fin)):=by
 cases hg:(go (aa ax room) s w).2 with
 | false =>
  obtain⟨hc,hl,_⟩:=wB hg
  have hS:=i4 (f:=f) 0 hn6 hI (by omega) hwn hc hl
  dsimp only[RI2]
  conv=>(arg 2;whnf)
  have xc:=hI.law.xl
  have hn:=j5 (room:=room) (work:=work) hi
  rw[← he]at hn
  unfold pick at hn
  rw[if_neg (by omega),hw,Q13,rE hc hl]at hn
  (repeat' (first|((first|refine Wp.any ac rfl ?_|(with_reducible first|refine Go.mk ?_|apply aj.of|refine And.intro zC ?_));conv=>whnf)|((refine ap (fun hc=>?_) (fun hc=>?_))<;>(try simp only[wz9]at hc)<;>(try (exfalso;omega))<;>(conv=>whnf))))
  rw[hw]
  (repeat' (first|((first|refine Wp.any ac rfl ?_|(with_reducible first|refine Go.mk ?_|apply aj.of|refine Ov.ok zO ?_));conv=>whnf)|((refine ab.fn (hS) [0,1,2,3,4,5,6,7,8,9,10,11,12,13,14,15,16] rfl rfl rfl rfl rfl ?ha ?hh ?_);(case ha=>exact zA);(case hh=>exact zz3);(conv=>whnf))))
  refine⟨(i+1,s,xs,nl,f),⟨by dsimp only;omega,hn.symm,hI,by dsimp only;omega,ho⟩,by dsimp only;omega,?_⟩
  dsimp only[RI2]
  (refine Le.by [0,1,2,3,4,5,6,7,8,9,10,11,12,13,14,15,16,17,18] rfl rfl rfl rfl ?_ ?_<;>((conv=>whnf);repeat' (first|exact trivial|exact bH (by decide) (fun l hl=>by rcases l with _|_|_|_|l<;>first|exact⟨zzb rfl,rfl⟩|exact⟨zzb rfl,rfl,rfl⟩|omega) (fun q hq=>by rcases q with _|_|_|_|_|_|_|_|_|q<;>first|exact⟨zzb rfl,rfl⟩|omega)|exact ae.rfl rfl|exact ae.ptr rfl|exact ae.sl rfl|exact⟨rfl,rfl,rfl⟩|exact⟨rfl,zzb rfl⟩|exact di (by assumption) rfl|exact fun i hi=>rfl|((with_reducible refine And.intro ?_ ?_)<;>(conv=>whnf)))))
 | true =>
  obtain⟨xs',nl',f',hI',hS⟩:=i5 (f:=f) 0 hn6 hI (by omega) (by omega) hwn hg
  have hk':=go_k (aa ax room) s w
  have ho':=xD (aa ax room) s w
  dsimp only[RI2]
  conv=>(arg 2;whnf)
  have xc:=hI.law.xl
  have xl':=hI'.law.xl
  have hn:=j5 (room:=room) (work:=work) hi
  rw[← he]at hn
  unfold pick at hn
  rw[if_neg (by omega),hw,Q13]at hn
  generalize (go (aa ax room) s w).1=s' at *
  (repeat' (first|((first|refine Wp.any ac rfl ?_|(with_reducible first|refine Go.mk ?_|apply aj.of|refine And.intro zC ?_));conv=>whnf)|((refine ap (fun hc=>?_) (fun hc=>?_))<;>(try simp only[wz9]at hc)<;>(try (exfalso;omega))<;>(conv=>whnf))))
  rw[hw]
  (repeat' (first|((first|refine Wp.any ac rfl ?_|(with_reducible first|refine Go.mk ?_|apply aj.of|refine Ov.ok zO ?_));conv=>whnf)|((refine ab.fn (hS) [0,1,2,3,4,5,6,7,8,9,10,11,12,13,14,15,16] rfl rfl rfl rfl rfl ?ha ?hh ?_);(case ha=>exact zA);(case hh=>exact zz3);(conv=>whnf))))
  refine⟨(i+1,s',xs',nl',f'),⟨by dsimp only;omega,hn.symm,hI',by dsimp only;omega,by dsimp only;omega⟩,by dsimp only;omega,?_⟩
  dsimp only[RI2,vZ,o4,o5]
  (refine Le.by [0,1,2,3,20,21,22,23,24,25,26,27,28,29,14,15,30,17,18] rfl rfl rfl rfl ?_ ?_<;>((conv=>whnf);repeat' (first|exact trivial|exact bH (by decide) (fun l hl=>by rcases l with _|_|_|_|l<;>first|exact⟨zzb rfl,rfl⟩|exact⟨zzb rfl,rfl,rfl⟩|omega) (fun q hq=>by rcases q with _|_|_|_|_|_|_|_|_|q<;>first|exact⟨zzb rfl,rfl⟩|omega)|exact ae.rfl rfl|exact ae.ptr rfl|exact ae.sl rfl|exact⟨rfl,rfl,rfl⟩|exact⟨rfl,zzb rfl⟩|exact di (by assumption) rfl|exact fun i hi=>rfl|((with_reducible refine And.intro ?_ ?_)<;>(conv=>whnf)))))
end
theorem Wp.endB{C:Cx}{ι:Type}(id:Nat){c:Code}{S:St}{Q:Exit→St→Prop}(p:ι→Prop)(I:ι→St)(h1:Wp C c S (fun e S'=>e=.exit id∧∃i,p i∧Le S' (I i)))(h2:∀i,p i→∀S',Le S' (I i)→Q .normal S'):Wp C c S (oK id Q) :=
 h1.mono fun e S' ⟨he,i,hi,hl⟩=>by
  subst he
  show if id=id then _ else _
  rw[if_pos rfl]
  exact h2 i hi S' hl
section
namespace Sim
open Dir (upd upd_same upd_ne)
variable{room:Int}{xs:Nat→XB}{nl:Nat}{s:SS}
theorem eO{P:Core.Ops}{w:Nat}{s:SS}(h:(go P s w).2=false):∀f,fin P f s w=s
 | 0=>rfl
 | f+1=>by unfold fin;rw[if_neg (by rw[h];decide)]
theorem rS(w:Nat):∀(f:Nat) {xs:Nat→XB} {nl:Nat} {s:SS},SI room xs nl s→s.k+f≤900000→mu s w≤f→∀g,mu s w≤g→fin (aa ax room) f s w=fin (aa ax room) g s w
 | 0,xs,nl,s,h,hk,hm,g,hg=>by
  cases e:(go (aa ax room) s w).2 with
  | false=>rw[eO e,eO e]
  | true=>have:=o7 h e;omega
 | f+1,xs,nl,s,h,hk,hm,g,hg=>by
  cases e:(go (aa ax room) s w).2 with
  | false=>rw[eO e,eO e]
  | true =>
   have h1:=o7 h e
   obtain⟨xs',nl',h'⟩:=h.go (by omega) w
   have h2:=go_k (aa ax room) s w
   cases g with
   | zero=>omega
   | succ g =>
    unfold fin
    rw[if_pos e,if_pos e]
    exact rS w f h' (by omega) (by omega) g (by omega)
def mw(room:Int)(b:Bool)(s:SS)(w:Nat):SS:=if b=true then fin (aa ax room) (mu s w) s w else s
theorem oT{w:Nat}(h:(go (aa ax room) s w).2=false)(b:Bool):mw room b s w=s:=by
 unfold mw;split
 ·exact eO h _
 ·rfl
theorem ta(h:SI room xs nl s){w:Nat}(hk:s.k+mu s w≤900000)(e:(go (aa ax room) s w).2=true):mw room true (go (aa ax room) s w).1 w=mw room true s w:=by
 have h1:=o7 h e
 obtain⟨xs',nl',h'⟩:=h.go (by omega) w
 have h2:=go_k (aa ax room) s w
 unfold mw
 rw[if_pos rfl,if_pos rfl]
 cases hm:mu s w with
 | zero=>omega
 | succ m =>
  conv=>rhs;unfold fin
  rw[if_pos e]
  exact rS w _ h' (by omega) (Q4 _) m (by omega)
theorem pm(b:Bool)(n:Nat)(s:SS):fB (aa ax room) b (n+1) s=mw room b (fB (aa ax room) b n s) n:=rfl
theorem go_left{P:Core.Ops}(s:SS)(w j:Nat):((go P s w).1.ws j).left.length≤(s.ws j).left.length:=by
 unfold Sim.go
 split
 ·exact Q4 _
 ·split
  ·exact Q4 _
  ·rename_i c r hl
   show(upd s.ws w ⟨r,c,(s.k:Int)+1⟩ j).left.length≤_
   by_cases e:j=w
   ·subst e;rw[upd_same,hl,List.length_cons];exact Nat.le_succ _
   ·rw[upd_ne _ _ e];exact Q4 _
theorem ji{P:Core.Ops}(j:Nat):∀(l:List (Int×Int)) (s:SS),((picks P s l).ws j).left.length≤(s.ws j).left.length
 | [],s=>Q4 _
 | p::l,s=>by
  have h:=ji (P:=P) j l (pick P s p)
  have h1:((pick P s p).ws j).left.length≤(s.ws j).left.length:=by
   unfold pick;split
   ·exact Q4 _
   ·exact go_left s _ j
  exact Nat.le_trans h h1
theorem nT{s t:SS}(h:∀j,(s.ws j).left.length≤(t.ws j).left.length):∀n,muS s n≤muS t n
 | 0=>Q4 _
 | n+1=>by have:=nT h n;have:=h n;simp only[muS];omega
theorem qU(work:List (List Req)):∀n,n≤work.length→muS (ss0 work) n=165*n+166*((work.take n).map List.length).sum
 | 0,_=>rfl
 | n+1,h=>by
  have e:=qU work n (by omega)
  simp only[muS]
  rw[e,List.take_succ_eq_append_getElem h,List.map_append,List.sum_append]
  have:((ss0 work).ws n).left=work[n]:=by show work.getD n []=_;rw[Q1,Q0 h];rfl
  rw[this]
  simp
  omega
end Sim
end
section
open Sim
noncomputable def rb6:Code:=(lpO 6 (Tryz.f6.body.getD .skip)).getD .skip
@[reducible] noncomputable def RS6:Type:=SS×(Nat→XB)×Nat×(Nat→List D)
@[reducible] noncomputable def RP6(room:Int)(b:Bool)(t:SS)(q:Nat)(w:Nat):RS6→Prop :=
 fun k=>mw room b k.1 w=t∧SI room k.2.1 k.2.2.1 k.1∧k.1.k+mu k.1 w≤900000∧k.1.out.length≤k.1.k∧pend k.1.S w=q
@[reducible] noncomputable def RI6(room:Int)(work:List (List Req))(picks:List (Int×Int))(b:Bool)(q:Nat)(w:Nat):RS6→St :=
 fun k=>⟨⟨Tryz.f6.ntmps,0⟩,19,[(1,.ptr 17 0),(2,.ptr 18 0),(3,.i .i64 0),(5,.ptr 0 0),(7,.ptr 14 0),(12,.i .i64 w),(72,.i .i64 work.length),(73,.i .i64 w)],vZ room work picks b work.length k.1 k.2.1 k.2.2.1 k.2.2.2 q⟩
@[reducible] noncomputable def RE6(room:Int)(t:SS)(q:Nat)(w:Nat):RS6→Prop :=
 fun k=>k.1=t∧SI room k.2.1 k.2.2.1 k.1∧k.1.k≤900000∧k.1.out.length≤k.1.k∧pend k.1.S w=q
theorem run_6{room:Int}{work:List (List Req)}{picks:List (Int×Int)}{b:Bool}{t:SS}{q:Nat}{w:Nat}(hn6:work.length≤64)(hwn:w<work.length)(x)(hx:RP6 room b t q w x) :
  Wp TC rb6 (RI6 room work picks b q w x) (jc (RP6 room b t q w) (RI6 room work picks b q w) (fun k=>mu k.1 w) (mu x.1 w) (fun e S'=>e=.exit 6∧∃i,RE6 room t q w i∧Le S' (RI6 room work picks b q w i))):=by
 obtain⟨s,xs,nl,f⟩:=x
 obtain⟨h1,hI,hk,ho,hq⟩:=hx
 dsimp only at h1 hI hk ho hq⊢
 dsimp only[RI6]
 conv=>(arg 2;whnf)
 have xc:=hI.law.xl
 cases b with
 | false =>
  (repeat' (first|((first|refine Wp.any ac rfl ?_|(with_reducible first|refine Go.mk ?_|apply aj.of));conv=>whnf)))
  refine⟨rfl,(s,xs,nl,f),⟨h1,hI,by dsimp only;omega,ho,hq⟩,?_⟩
  dsimp only[RI6]
  (refine Le.by [0,1,2,3,4,5,6,7,8,9,10,11,12,13,14,15,16,17,18] rfl rfl rfl rfl ?_ ?_<;>((conv=>whnf);repeat' (first|exact trivial|exact cm (by decide) (by decide) (fun l hl=>by rcases l with _|_|_|_|l<;>first|exact⟨zzb rfl,rfl⟩|exact⟨zzb rfl,rfl,rfl⟩|omega) (fun q hq=>by rcases q with _|_|_|_|_|_|_|_|_|q<;>first|exact⟨zzb rfl,rfl⟩|omega)|exact ae.rfl rfl|exact ae.ptr rfl|exact ae.sl rfl|exact⟨rfl,rfl,rfl⟩|exact⟨rfl,zzb rfl⟩|exact fM (by assumption)|exact fun i hi=>rfl|((with_reducible refine And.intro ?_ ?_)<;>(conv=>whnf)))))
 | true =>
  cases hg:(go (aa ax room) s w).2 with
  | false =>
   obtain⟨hc,hl,_⟩:=wB hg
   have hS:=i4 (f:=f) q hn6 hI (by omega) hwn hc hl
   rw[oT hg]at h1
   (repeat' (first|((first|refine Wp.any ac rfl ?_|(with_reducible first|refine Go.mk ?_|apply aj.of));conv=>whnf)|((refine ab.fn (hS) [0,1,2,3,4,5,6,7,8,9,10,11,12,13,14,15,16] rfl rfl rfl rfl rfl ?ha ?hh ?_);(case ha=>exact zA);(case hh=>exact zz3);(conv=>whnf))))
   refine⟨rfl,(s,xs,nl,f),⟨h1,hI,by dsimp only;omega,ho,hq⟩,?_⟩
   dsimp only[RI6]
   (refine Le.by [0,1,2,3,4,5,6,7,8,9,10,11,12,13,14,15,16,17,18] rfl rfl rfl rfl ?_ ?_<;>((conv=>whnf);repeat' (first|exact trivial|exact bH (by decide) (fun l hl=>by rcases l with _|_|_|_|l<;>first|exact⟨zzb rfl,rfl⟩|exact⟨zzb rfl,rfl,rfl⟩|omega) (fun q hq=>by rcases q with _|_|_|_|_|_|_|_|_|q<;>first|exact⟨zzb rfl,rfl⟩|omega)|exact ae.rfl rfl|exact ae.ptr rfl|exact ae.sl rfl|exact⟨rfl,rfl,rfl⟩|exact⟨rfl,zzb rfl⟩|exact di (by assumption) rfl|exact fun i hi=>rfl|((with_reducible refine And.intro ?_ ?_)<;>(conv=>whnf)))))
  | true =>
   obtain⟨xs',nl',f',hI',hS⟩:=i5 (f:=f) q hn6 hI (by omega) (by omega) hwn hg
   have hk':=go_k (aa ax room) s w
   have ho':=xD (aa ax room) s w
   have hm:=o7 hI hg
   have xl':=hI'.law.xl
   rw[← ta hI (by omega) hg]at h1
   have hq':pend (go (aa ax room) s w).1.S w=pend s.S w:=jm fun j hj=>by rw[(xE (P:=aa ax room) (s:=s) (w:=w) (j:=j) (by omega)).1]
   generalize (go (aa ax room) s w).1=s' at *
   (repeat' (first|((first|refine Wp.any ac rfl ?_|(with_reducible first|refine Go.mk ?_|apply aj.of));conv=>whnf)|((refine ab.fn (hS) [0,1,2,3,4,5,6,7,8,9,10,11,12,13,14,15,16] rfl rfl rfl rfl rfl ?ha ?hh ?_);(case ha=>exact zA);(case hh=>exact zz3);(conv=>whnf))))
   refine⟨(s',xs',nl',f'),⟨h1,hI',by dsimp only;omega,by dsimp only;omega,hq'.trans hq⟩,by dsimp only;omega,?_⟩
   dsimp only[RI6,vZ,o4,o5]
   (refine Le.by [0,1,2,3,19,20,21,22,23,24,25,26,27,28,14,15,29,17,18] rfl rfl rfl rfl ?_ ?_<;>((conv=>whnf);repeat' (first|exact trivial|exact bH (by decide) (fun l hl=>by rcases l with _|_|_|_|l<;>first|exact⟨zzb rfl,rfl⟩|exact⟨zzb rfl,rfl,rfl⟩|omega) (fun q hq=>by rcases q with _|_|_|_|_|_|_|_|_|q<;>first|exact⟨zzb rfl,rfl⟩|omega)|exact ae.rfl rfl|exact ae.ptr rfl|exact ae.sl rfl|exact⟨rfl,rfl,rfl⟩|exact⟨rfl,zzb rfl⟩|exact di (by assumption) rfl|exact fun i hi=>rfl|((with_reducible refine And.intro ?_ ?_)<;>(conv=>whnf)))))
noncomputable def rb4:Code:=(lpO 4 (Tryz.f6.body.getD .skip)).getD .skip
@[reducible] noncomputable def RP4(room:Int)(b:Bool)(s0:SS)(n:Nat):Nat×RS6→Prop :=
 fun k=>k.1≤n∧k.2.1=fB (aa ax room) b k.1 s0∧SI room k.2.2.1 k.2.2.2.1 k.2.1∧k.2.1.k≤s0.k+muS s0 k.1∧k.2.1.out.length≤k.2.1.k
@[reducible] noncomputable def RI4(room:Int)(work:List (List Req))(picks:List (Int×Int))(b:Bool):Nat×RS6→St :=
 fun k=>⟨⟨Tryz.f6.ntmps,0⟩,19,[(1,.ptr 17 0),(2,.ptr 18 0),(3,.i .i64 0),(5,.ptr 0 0),(7,.ptr 14 0),(72,.i .i64 work.length),(73,.i .i64 k.1)],vZ room work picks b work.length k.2.1 k.2.2.1 k.2.2.2.1 k.2.2.2.2 (pend k.2.1.S k.1)⟩
@[reducible] noncomputable def RE4(room:Int)(b:Bool)(s0:SS)(n:Nat):RS6→Prop :=
 fun k=>k.1=fB (aa ax room) b n s0∧SI room k.2.1 k.2.2.1 k.1∧k.1.k≤900000∧k.1.out.length≤k.1.k
@[reducible] noncomputable def RJ4(room:Int)(work:List (List Req))(picks:List (Int×Int))(b:Bool):RS6→St :=
 fun k=>⟨⟨Tryz.f6.ntmps,0⟩,19,[(1,.ptr 17 0),(2,.ptr 18 0),(3,.i .i64 0),(5,.ptr 0 0),(7,.ptr 14 0)],vZ room work picks b work.length k.1 k.2.1 k.2.2.1 k.2.2.2 (pend k.1.S work.length)⟩
theorem xr(s:SS):∀{i n:Nat},i≤n→muS s i≤muS s n:=by
  intro i n h
  induction n with
  | zero => obtain rfl:i=0:=by omega
            exact Q4 _
  | succ n ih =>
    by_cases e:i=n+1
    ·subst e;exact Q4 _
    ·have:=ih (by omega);simp only[muS];omega
theorem run_4{room:Int}{work:List (List Req)}{picks:List (Int×Int)}{b:Bool}{s0:SS}{xz:Nat→XB}{nz:Nat}(hI0:SI room xz nz s0)(hn6:work.length≤64)(hm:s0.k+muS s0 work.length≤900000)(x)(hx:RP4 room b s0 work.length x) :
  Wp TC rb4 (RI4 room work picks b x) (jc (RP4 room b s0 work.length) (RI4 room work picks b) (fun k=>work.length-k.1) (work.length-x.1) (fun e S'=>e=.exit 4∧∃i,RE4 room b s0 work.length i∧Le S' (RJ4 room work picks b i))):=by
 obtain⟨w,s,xs,nl,f⟩:=x
 obtain⟨h0,h1,hI,hk,ho⟩:=hx
 dsimp only at h0 h1 hI hk ho⊢
 dsimp only[RI4]
 conv=>(arg 2;whnf)
 have xc:=hI.law.xl
 have hpl:=qL s.S w
 have hmw:=xr s0 h0
 by_cases hwn:w<work.length
 ·have hmw1:=xr s0 (i:=w+1) (n:=work.length) (by omega)
  simp only[muS]at hmw1
  have hmu:=mu_le hI w
  rw[h1,(kJ (P:=aa ax room) b w s0 w (Q4 _)).2,← h1]at hmu
  (repeat' (first|((first|refine Wp.any ac rfl ?_|(with_reducible first|refine Go.mk ?_|apply aj.of));conv=>whnf)|((refine ap (fun hc=>?_) (fun hc=>?_))<;>(try simp only[wz9]at hc)<;>(try (exfalso;omega))<;>(conv=>whnf))))
  refine Wp.endB 6 (RE6 room (fB (aa ax room) b (w+1) s0) (pend s.S w) w) (RI6 room work picks b (pend s.S w) w) ?_ ?_
  ·refine Wp.loopP (RP6 room b (fB (aa ax room) b (w+1) s0) (pend s.S w) w) (RI6 room work picks b (pend s.S w) w) (fun k=>mu k.1 w) (s,xs,nl,f) ⟨by rw[pm,h1],hI,by dsimp only;omega,ho,rfl⟩ ?_ ?_
   ·dsimp only[RI6]
    (refine Le.by [0,1,2,3,4,5,6,7,8,9,10,11,12,13,14,15,16,17,18] rfl rfl rfl rfl ?_ ?_<;>((conv=>whnf);repeat' (first|exact trivial|exact cm (by decide) (by decide) (fun l hl=>by rcases l with _|_|_|_|l<;>first|exact⟨zzb rfl,rfl⟩|exact⟨zzb rfl,rfl,rfl⟩|omega) (fun q hq=>by rcases q with _|_|_|_|_|_|_|_|_|q<;>first|exact⟨zzb rfl,rfl⟩|omega)|exact ae.rfl rfl|exact ae.ptr rfl|exact ae.sl rfl|exact⟨rfl,rfl,rfl⟩|exact⟨rfl,zzb rfl⟩|exact fM (by assumption)|exact fun i hi=>rfl|((with_reducible refine And.intro ?_ ?_)<;>(conv=>whnf)))))
   ·exact run_6 hn6 hwn
  ·rintro⟨s',xs',nl',f'⟩ ⟨g1,g2,g3,g4,g5⟩ S' hl
   dsimp only at g1 g2 g3 g4 g5 hl
   have xl':=g2.law.xl
   have hkk:=(ou b (w+1) hI0 (by simp only[muS];omega)).2.1
   rw[← g1]at hkk
   have hP:=cT (f:=f') g2.law (by omega) (w:=w) (by omega)
   show Wp TC _ S' _
   refine Wp.le hl ?_
   cases hc:isC (s'.S w).s with
   | false =>
    rw[hc]at hP
    have hp':pend s'.S (w+1)=pend s.S w:=by show pend s'.S w+(if isC (s'.S w).s=true then 1 else 0)=_;rw[g5,hc];rfl
    (repeat' (first|((first|refine Wp.any ac rfl ?_|(with_reducible first|refine Go.mk ?_|apply aj.of|refine Ov.ok zO ?_));conv=>whnf)|((refine ab.fn (hP) [0,1,2,3,4,5,6,7,8,9,10,11,12,13] rfl rfl rfl rfl rfl ?ha ?hh ?_);(case ha=>exact zA);(case hh=>exact zz3);(conv=>whnf))))
    refine⟨(w+1,s',xs',nl',f'),⟨by dsimp only;omega,g1,g2,hkk,g4⟩,by dsimp only;omega,?_⟩
    dsimp only[RI4,vZ,o4,o5]
    rw[hp']
    (refine Le.by [0,1,2,3,4,5,6,7,8,9,10,11,12,13,14,15,16,17,18] rfl rfl rfl rfl ?_ ?_<;>((conv=>whnf);repeat' (first|exact trivial|exact bH (by decide) (fun l hl=>by rcases l with _|_|_|_|l<;>first|exact⟨zzb rfl,rfl⟩|exact⟨zzb rfl,rfl,rfl⟩|omega) (fun q hq=>by rcases q with _|_|_|_|_|_|_|_|_|q<;>first|exact⟨zzb rfl,rfl⟩|omega)|exact ae.rfl rfl|exact ae.ptr rfl|exact ae.sl rfl|exact⟨rfl,rfl,rfl⟩|exact⟨rfl,zzb rfl⟩|exact di (by assumption) rfl|exact fun i hi=>rfl|((with_reducible refine And.intro ?_ ?_)<;>(conv=>whnf)))))
   | true =>
    rw[hc]at hP
    have hp':((pend s'.S (w+1):Nat):Int)=(pend s.S w:Int)+1:=by show((pend s'.S w+(if isC (s'.S w).s=true then 1 else 0):Nat):Int)=_;rw[g5,hc];rfl
    (repeat' (first|((first|refine Wp.any ac rfl ?_|(with_reducible first|refine Go.mk ?_|apply aj.of|refine Ov.ok zO ?_));conv=>whnf)|((refine ab.fn (hP) [0,1,2,3,4,5,6,7,8,9,10,11,12,13] rfl rfl rfl rfl rfl ?ha ?hh ?_);(case ha=>exact zA);(case hh=>exact zz3);(conv=>whnf))))
    refine⟨(w+1,s',xs',nl',f'),⟨by dsimp only;omega,g1,g2,hkk,g4⟩,by dsimp only;omega,?_⟩
    dsimp only[RI4,vZ,o4,o5]
    rw[hp']
    (refine Le.by [0,1,2,3,4,5,6,7,8,9,10,11,12,13,14,15,16,17,18] rfl rfl rfl rfl ?_ ?_<;>((conv=>whnf);repeat' (first|exact trivial|exact bH (by decide) (fun l hl=>by rcases l with _|_|_|_|l<;>first|exact⟨zzb rfl,rfl⟩|exact⟨zzb rfl,rfl,rfl⟩|omega) (fun q hq=>by rcases q with _|_|_|_|_|_|_|_|_|q<;>first|exact⟨zzb rfl,rfl⟩|omega)|exact ae.rfl rfl|exact ae.ptr rfl|exact ae.sl rfl|exact⟨rfl,rfl,rfl⟩|exact⟨rfl,zzb rfl⟩|exact di (by assumption) rfl|exact fun i hi=>rfl|((with_reducible refine And.intro ?_ ?_)<;>(conv=>whnf)))))
 ·obtain rfl:w=work.length:=by omega
  (repeat' (first|((first|refine Wp.any ac rfl ?_|(with_reducible first|refine Go.mk ?_|apply aj.of));conv=>whnf)|((refine ap (fun hc=>?_) (fun hc=>?_))<;>(try simp only[wz9]at hc)<;>(try (exfalso;omega))<;>(conv=>whnf))))
  refine⟨rfl,(s,xs,nl,f),⟨h1,hI,by dsimp only;omega,ho⟩,?_⟩
  dsimp only[RJ4]
  (refine Le.by [0,1,2,3,4,5,6,7,8,9,10,11,12,13,14,15,16,17,18] rfl rfl rfl rfl ?_ ?_<;>((conv=>whnf);repeat' (first|exact trivial|exact cm (by decide) (by decide) (fun l hl=>by rcases l with _|_|_|_|l<;>first|exact⟨zzb rfl,rfl⟩|exact⟨zzb rfl,rfl,rfl⟩|omega) (fun q hq=>by rcases q with _|_|_|_|_|_|_|_|_|q<;>first|exact⟨zzb rfl,rfl⟩|omega)|exact ae.rfl rfl|exact ae.ptr rfl|exact ae.sl rfl|exact⟨rfl,rfl,rfl⟩|exact⟨rfl,zzb rfl⟩|exact fM (by assumption)|exact fun i hi=>rfl|((with_reducible refine And.intro ?_ ?_)<;>(conv=>whnf)))))
end
section
open Sim
@[reducible] noncomputable def repS(room:Int)(s:SS)(n:Nat):SV :=
 .tup [.agg [.d (ao 13 Dn.D s.out),.d (ao 4 Cel.D (oG ax room s.M)),.i .i64 s.M.clk,.i .i64 s.k,.i .i64 (s.M.W 32),.i .i64 (pend s.S n)],.i .i64 0]
theorem qp{room:Int}(hr:1≤room∧room≤12){work:List (List Req)}{picks:List (Int×Int)}(fin:Bool)(h:Sim.Ok ax room work picks)(hL:¬nj work picks)(hcO:∀w∈work,∀c∈w,jM c)(h8:∀j,8≤j→work.getD j []=[]) :
  Pure TC 6 [cfgS ax room work picks fin] (repS room (fB (aa ax room) fin work.length (Sim.picks (aa ax room) (ss0 work) picks)) work.length):=by
 have hL':=hL
 unfold nj at hL'
 have hC:=lA fin h (by omega) (by omega) (by omega)
 rw[if_neg hL]at hC
 have hN:=oB (ps:=ax) (room:=room) h.new
 refine Pure.mk' Tryz.func6 rfl rfl zN ?_
 (repeat' (first|((first|refine Wp.any ac rfl ?_|(with_reducible first|refine Go.mk ?_|apply aj.of|refine ab.pure (hC) rfl rfl ?_));conv=>whnf)|((refine ab.fn (hN) [] rfl rfl rfl rfl rfl ?ha ?hh ?_);(case ha=>exact zA);(case hh=>exact zH);(conv=>whnf))))
 refine Wp.le (Le.virtC 16 1 60 6 (fun i=>wo0 (([]:List (List Req)).getD i default)) (by decide) rfl rfl) ?_
 refine Wp.le (Le.virtC 16 2 46 13 (fun i=>Dn.D (([]:List Dn).getD i default)) (by decide) rfl rfl) ?_
 have x0:∀i j,SV.Lt 1 ((xs0 i).f j):=fun _ _=>.any
 refine Wp.loopP (ι:=Nat) (fun i=>i≤work.length) (fun i=>⟨⟨Tryz.f6.ntmps,0⟩,19,[(1,.ptr 17 0),(2,.ptr 18 0),(3,.i .i64 0),(5,.ptr 0 0),(7,.ptr 14 0),(31,.d (ao 1 cq work)),(32,.i .i64 work.length),(33,.i .i64 i)],
  ak ax room (gOf (aa ax room) 4 S0) Core.M0 xs0 (aC 0) f0' 1++[(14,some (o5 (work.take i).length 0 0)),(15,some (aS 60 6 wo0 (work.take i))),(16,some (aS 46 13 Dn.D [])),(17,some (cfgB room work picks fin)),(18,some resB)]⟩) (fun i=>work.length-i) 0 (Nat.zero_le _) ?_ ?_
 ·(refine Le.by [2,3,4,5,6,7,8,9,10,11,12,13,14,15,16,17,18,0,1] rfl rfl rfl rfl ?_ ?_<;>((conv=>whnf);repeat' (first|exact trivial|exact bH (by decide) (fun l hl=>by rcases l with _|_|_|_|l<;>first|exact⟨zzb rfl,rfl⟩|exact⟨zzb rfl,rfl,rfl⟩|omega) (fun q hq=>by rcases q with _|_|_|_|_|_|_|_|_|q<;>first|exact⟨zzb rfl,rfl⟩|omega)|exact ae.rfl rfl|exact ae.ptr rfl|exact ae.sl rfl|exact⟨rfl,rfl,rfl⟩|exact⟨rfl,zzb rfl⟩|exact fun i hi=>rfl|((with_reducible refine And.intro ?_ ?_)<;>(conv=>whnf)))))
  all_goals exact fun j hj=>absurd hj (Nat.not_lt_zero j)
 ·rintro i h1
  have hlt:(work.take i).length=i:=by rw[Q10];omega
  (repeat' (first|((first|refine Wp.any ac rfl ?_|(with_reducible first|refine Go.mk ?_|apply aj.of|refine Ov.ok zO ?_|refine And.intro zC ?_));conv=>whnf)|((with_reducible refine And.intro ?hb ?_);(case hb=>exact zz9);(conv=>whnf))|((refine ap (fun hc=>?_) (fun hc=>?_))<;>(try simp only[wz9]at hc)<;>(try (exfalso;omega))<;>(conv=>whnf))))
  ·refine⟨i+1,by dsimp only;omega,by dsimp only;omega,?_⟩
   dsimp only
   rw[mz (by omega)]
   (refine Le.by [0,1,2,3,4,5,6,7,8,9,10,11,12,13,14,20,16,17,18] rfl rfl rfl rfl ?_ ?_<;>((conv=>whnf);repeat' (first|exact trivial|exact cm (by decide) (by decide) (fun l hl=>by rcases l with _|_|_|_|l<;>first|exact⟨zzb rfl,rfl⟩|exact⟨zzb rfl,rfl,rfl⟩|omega) (fun q hq=>by rcases q with _|_|_|_|_|_|_|_|_|q<;>first|exact⟨zzb rfl,rfl⟩|omega)|exact ae.rfl rfl|exact ae.ptr rfl|exact ae.sl rfl|exact⟨rfl,rfl,rfl⟩|exact⟨rfl,zzb rfl⟩|exact fM (by assumption)|exact fun i hi=>rfl|((with_reducible refine And.intro ?_ ?_)<;>(conv=>whnf)))))
   all_goals first|(rw[Q9];exact ae.sl rfl)|exact w4 _ _|rfl|(rw[Q9];rfl)
  ·obtain rfl:i=work.length:=by omega
   rw[List.take_length]
   refine Wp.le (Le.rowD 15 (fun j=>(((ss0 work).ws j).D)) rfl fun j hj=>?_) ?_
   ·show fL (wo0 (work.getD j default)) (Wo.D ((ss0 work).ws j))
    exact⟨.refl _,.refl _,.refl _,.nil,.refl _,.refl _,trivial⟩
   have hI0:SI room xs0 (aC 0) (ss0 work):=.zero ⟨hr.1,by have:=hr.2;omega⟩ (.inr h8) hcO
   refine Wp.endB 2 (RE2 room work picks) (RJ2 room work picks fin) ?_ ?_
   ·refine Wp.loopP (RP2 room work picks) (RI2 room work picks fin) (fun k=>picks.length-k.1) (0,ss0 work,xs0,aC 0,f0') ⟨Nat.zero_le _,rfl,hI0,Nat.zero_le _,Q4 _⟩ ?_ ?_
    ·dsimp only[RI2]
     (refine Le.by [0,1,2,3,4,5,6,7,8,9,10,11,12,13,14,15,16,17,18] rfl rfl rfl rfl ?_ ?_<;>((conv=>whnf);repeat' (first|exact trivial|exact cm (by decide) (by decide) (fun l hl=>by rcases l with _|_|_|_|l<;>first|exact⟨zzb rfl,rfl⟩|exact⟨zzb rfl,rfl,rfl⟩|omega) (fun q hq=>by rcases q with _|_|_|_|_|_|_|_|_|q<;>first|exact⟨zzb rfl,rfl⟩|omega)|exact ae.rfl rfl|exact ae.ptr rfl|exact ae.sl rfl|exact⟨rfl,rfl,rfl⟩|exact⟨rfl,zzb rfl⟩|exact fM (by assumption)|exact fun i hi=>rfl|((with_reducible refine And.intro ?_ ?_)<;>(conv=>whnf)))))
    ·rintro⟨i,s,xs,nl,f⟩ ⟨a1,a2,a3,a4,a5⟩
     dsimp only at a1 a2 a3 a4 a5
     by_cases hi:i<picks.length
     ·have hm:=h.pick _ (eH hi)
      by_cases h0:(picks.getD (i:Int).toNat default).1=-1
      ·exact run_2t hi (by omega) a2 a3 a4 a5 h0 (hm.2.2 h0).1 (hm.2.2 h0).2
      ·exact run_2w hi (by omega) (by omega) a2 a3 a4 a5 (w:=(picks.getD (i:Int).toNat default).1.toNat) (by omega) (by omega)
     ·obtain rfl:i=picks.length:=by omega
      exact run_2e a2 a3 a4 a5
   ·rintro⟨s,xs,nl,f⟩ ⟨b1,b2,b3,b4⟩ S' hl
    dsimp only at b1 b2 b3 b4 hl
    have xc:=b2.law.xl
    show Wp TC _ S' _
    refine Wp.le hl ?_
    have hm0:=nT (s:=s) (t:=ss0 work) (fun j=>by rw[b1];exact ji j picks _) work.length
    have hm1:=qU work work.length (Q4 _)
    have hm2:((work.take work.length).map List.length).sum=ny work work.length:=rfl
    (repeat' (first|((first|refine Wp.any ac rfl ?_|(with_reducible first|refine Go.mk ?_|apply aj.of));conv=>whnf)))
    refine Wp.endB 4 (RE4 room fin s work.length) (RJ4 room work picks fin) ?_ ?_
    ·refine Wp.loopP (RP4 room fin s work.length) (RI4 room work picks fin) (fun k=>work.length-k.1) (0,s,xs,nl,f) ⟨Nat.zero_le _,rfl,b2,Nat.le_add_right _ _,b4⟩ ?_ ?_
     ·dsimp only[RI4]
      (refine Le.by [0,1,2,3,4,5,6,7,8,9,10,11,12,13,14,15,16,17,18] rfl rfl rfl rfl ?_ ?_<;>((conv=>whnf);repeat' (first|exact trivial|exact cm (by decide) (by decide) (fun l hl=>by rcases l with _|_|_|_|l<;>first|exact⟨zzb rfl,rfl⟩|exact⟨zzb rfl,rfl,rfl⟩|omega) (fun q hq=>by rcases q with _|_|_|_|_|_|_|_|_|q<;>first|exact⟨zzb rfl,rfl⟩|omega)|exact ae.rfl rfl|exact ae.ptr rfl|exact ae.sl rfl|exact⟨rfl,rfl,rfl⟩|exact⟨rfl,zzb rfl⟩|exact fM (by assumption)|exact fun i hi=>rfl|((with_reducible refine And.intro ?_ ?_)<;>(conv=>whnf)))))
     ·exact run_4 b2 (by omega) (by omega)
    ·rintro⟨s',xs',nl',f'⟩ ⟨d1,d2,d3,d4⟩ S' hl
     dsimp only at d1 d2 d3 d4 hl
     have xl':=d2.law.xl
     have hcl:=d2.law.clk
     have hCe:=ro (f:=f') d2.law (by omega) (by omega)
     have hSt:=dS (nl:=nl') (f:=f') (cnt:=(s'.k:Int)+1) (d2.law.cok (by omega) 0 (by decide)) (by omega) (by omega)
     rw[show(s'.k:Int)+1-1=(s'.k:Int)by omega]at hSt
     have hCo:=rm (f:=f') d2.law (by omega)
     have hT:=l9 (f:=f') (nl:=nl') (cnt:=(s'.k:Int)+1) (d2.law.cok (by omega) 0 (by decide)) hcl.1 hcl.2 0 (by omega) (by omega)
     show Wp TC _ S' _
     refine Wp.le hl ?_
     (repeat' (first|((first|refine Wp.any ac rfl ?_|(with_reducible first|refine Go.mk ?_|apply aj.of|refine And.intro zC ?_));conv=>whnf)|((refine ab.fn (hCe) [0,1,2,3,4,5,6,7,8,9,10,11,12,13] rfl rfl rfl rfl rfl ?ha ?hh ?_);(case ha=>exact zA);(case hh=>exact zz3);(conv=>whnf))|((refine ab.fn (hSt) [0,1,2,3,4,5,6,7,8,9,10,11,12,13] rfl rfl rfl rfl rfl ?ha ?hh ?_);(case ha=>exact zA);(case hh=>exact zz3);(conv=>whnf))|((refine ab.fn (hCo) [0,1,2,3,4,5,6,7,8,9,10,11,12,13] rfl rfl rfl rfl rfl ?ha ?hh ?_);(case ha=>exact zA);(case hh=>exact zz3);(conv=>whnf))|((refine ab.fn (hT) [0,1,2,3,4,5,6,7,8,9,10,11,12,13] rfl rfl rfl rfl rfl ?ha ?hh ?_);(case ha=>exact zA);(case hh=>exact zz3);(conv=>whnf))))
     rw[← b1,← d1]
     show SV.Le _ _
     dsimp only[repS]
     rw[Int.add_zero,show min s'.M.clk 4611686018427387903=s'.M.clk by omega]
     simp only[Q19]
     exact .rfl _
end
section
open Sim
theorem ic:Pure TC 5 [] (.d (ao 4 Pol.D ax)):=by
 refine Pure.mk' Tryz.func5 rfl rfl zN ?_
 (repeat' (first|((first|refine Wp.any ac rfl ?_|(with_reducible first|refine Go.mk ?_|apply aj.of|refine And.intro zC ?_));conv=>whnf)))
 exact SV.Le.sl fun i hi=>by
  have hi2:i<2:=hi
  have:i=0∨i=1:=by omega
  rcases this with rfl|rfl<;>rfl
namespace Sim
structure Req.ok(c:Req):Prop where
 op:0≤c.op∧c.op≤255
 pol:-9223372036854775808≤c.pol∧c.pol≤9223372036854775807
 key:IsB c.key
 n:-9223372036854775808≤c.n∧c.n≤9223372036854775807
end Sim
end
section
open Sim
theorem kx_of{op pol n:Int}{key:List Int}(hk:IsB key)(hl:key.length≤255)(hp:0≤pol∧pol<2):Core.Kx ax (aI op pol key n) :=
 ⟨hk,hl,by show([]:List Int).length≤64;decide,hp⟩
theorem jt(P:Core.Ops):∀(n:Nat) (s:SS),fB P false n s=s
 | 0,_=>rfl
 | n+1,s=>by unfold fB;rw[if_neg (by decide)];exact jt P n s
end
section
open Sim
def awW:List (List Req):=[[⟨1,0,[97],1⟩],[⟨1,0,[97],3⟩]]
noncomputable def awZ(room:Int):SS:=fB (aa ax room) true 2 (Sim.picks (aa ax room) (ss0 awW) [])
theorem awZ_out:(awZ 2).out.length=2∧((awZ 2).out.getD 0 default).last=6∧((awZ 2).out.getD 0 default).r.g=true∧((awZ 2).out.getD 1 default).first=7∧((awZ 2).out.getD 1 default).r.wait=10∧(awZ 2).k=9:=by
 unfold awZ
 decide +kernel
end
instance:DecidableEq Cel:=fun a b=>decidable_of_iff (a.pol=b.pol∧a.key=b.key∧a.tat=b.tat∧a.held=b.held) (by
 cases a;cases b;simp)
section
open Sim
@[reducible] def Sim.Req.S(c:Req):SV:=.agg [.i .u8 c.op,.i .i64 c.pol,.d (ao 1 (bc .u8) c.key),.i .i64 c.n]
theorem aw_ok:Sim.Ok ax 2 awW []:=⟨by decide,fun w hw c hc=>by
 rcases Q22 hw with rfl|hw
 ·obtain rfl:=List.mem_singleton.1 hc;decide
 ·obtain rfl:=List.mem_singleton.1 hw
  obtain rfl:=List.mem_singleton.1 hc;decide,fun p hp=>absurd hp (by simp)⟩
theorem aw_call:∀w∈awW,∀c∈w,jM c:=fun w hw c hc=>by
 have h:∀n:Int,n=1∨n=3→jM ⟨1,0,[97],n⟩:=fun n hn=>by
  refine⟨by rcases hn with rfl|rfl<;>decide,by show(1:Int)≤1∧(1:Int)≤6;decide,by show([97]:List Int).length≤255;decide,fun _ _=>kx_of (fun x hx=>by obtain rfl:=List.mem_singleton.1 hx;decide) (by show([97]:List Int).length≤255;decide) (by show(0:Int)≤0∧(0:Int)<2;decide),by show 0≤n;omega⟩
 rcases Q22 hw with rfl|hw
 ·obtain rfl:=List.mem_singleton.1 hc;exact h _ (.inl rfl)
 ·obtain rfl:=List.mem_singleton.1 hw
  obtain rfl:=List.mem_singleton.1 hc;exact h _ (.inr rfl)
@[reducible] def awC(n:Int):List D:=[.val (.int .u8 1),.val (.int .i64 0),.sl 1 1 fun i=>bf [.val (.int .u8 97)] 1 (0+i),.val (.int .i64 n)]
theorem aw_tle:TLe (.sl 1 2 (bf [.sl 4 1 (bf (awC 1) 4),.sl 4 1 (bf (awC 3) 4)] 1)) (ao 1 cq awW):=by
 have hk:TLe (.sl 1 1 fun i=>bf [D.val (.int .u8 97)] 1 (0+i)) (ao 1 (bc .u8) [97]):=TLe.sl fun i hi=>by
  obtain rfl:i=0:=by omega
  exact .cons (.rfl _) .nil
 have hc:∀n:Int,TLe (.sl 4 1 (bf (awC n) 4)) (ao 4 Req.D [⟨1,0,[97],n⟩]):=fun n=>TLe.sl fun i hi=>by
  obtain rfl:i=0:=by omega
  exact .cons (.rfl _) (.cons (.rfl _) (.cons hk (.cons (.rfl _) .nil)))
 refine TLe.sl fun i hi=>?_
 have:i=0∨i=1:=by omega
 rcases this with rfl|rfl
 ·exact .cons (hc 1) .nil
 ·exact .cons (hc 3) .nil
theorem aw_len:awW.length=2:=rfl
theorem awZ_def(room:Int):awZ room=fB (aa ax room) true 2 (Sim.picks (aa ax room) (ss0 awW) []):=rfl
theorem aw_run:∃Z:SS,(Z.out.length=2∧(Z.out.getD 0 default).last=6∧(Z.out.getD 0 default).r.g=true∧(Z.out.getD 1 default).first=7∧(Z.out.getD 1 default).r.wait=10∧Z.k=9) ∧
  Pure TC 6 [.agg [.d (ao 4 Pol.D ax),.i .i64 2,.d (.sl 1 2 (bf [.sl 4 1 (bf (awC 1) 4),.sl 4 1 (bf (awC 3) 4)] 1)),.d (.val (.slice none 0 0)),.b true]] (repS 2 Z 2):=by
 have hR:=qp (room:=2) ⟨by decide,by decide⟩ true aw_ok (by decide) aw_call (fun j hj=>by
  show awW.getD j []=[]
  rw[Q1,List.getElem?_eq_none (by show 2≤j;omega)];rfl)
 rw[aw_len,← awZ_def]at hR
 exact⟨awZ 2,awZ_out,hR.leX (.cons (.agg (.cons (.rfl _) (.cons (.rfl _) (.cons aw_tle.sv (.cons .nil (.cons (.rfl _) .nil)))))) .nil)⟩
theorem awake19:Pure TC 4 [] (.b true):=by
 obtain⟨Z,⟨z1,z2,z3,z4,z5,z6⟩,hR'⟩:=aw_run
 dsimp only[repS]at hR'
 rw[z6]at hR'
 refine Pure.mk' Tryz.func4 rfl rfl zN ?_
 (repeat' (first|((first|with_reducible refine Or.inr (And.intro rfl ?_)|refine ag.pure hR' rfl rfl ?_|refine Wp.any ac rfl ?_|(with_reducible first|refine Go.mk ?_|apply aj.of)|refine zV ?_|(with_reducible first|refine And.intro zC ?_|refine ag.pure (ic) rfl rfl ?_));conv=>whnf)|((refine ap (fun hc=>?_) (fun hc=>?_))<;>(try simp only[wz9]at hc)<;>(try (exfalso;omega))<;>(conv=>whnf))))
 ·exact .b rfl
 ·exact absurd z5 hc
 ·exact absurd z4 hc
 ·exact absurd (z3.symm.trans hc) (by decide)
 ·exact absurd z2 hc
end
section
namespace Sim
variable{P:Core.Ops}
end Sim
end
theorem Sat.frz{O:Org}{E:Env}{nt:NT}{nx:Nat}{fr:List (Nat×SV)}{hp:List (Nat×Option Blk)}{a:Act}{w:World}(hs:Sat O E ⟨nt,nx,fr,hp⟩ a w){l e z m:Nat}{f:Nat→List D}(hl:lkh hp l=some (.row e z m f)){off n:Nat}(h1:off+n≤m) :
  ∃E',Sat O E' ⟨nt,nx,fr,(l,none)::hp⟩ a w∧∀u,RS E' nx w (.sl l z off n) u→RS E' nx w (.d (.sl z n fun i=>f (off+i))) u:=by
 by_cases hκ:0<E.κ l
 ·obtain⟨s1,s2⟩:=hs.imm (w':=w) hl hκ (fun _ _ _=>rfl) rfl ⟨rfl,rfl,rfl⟩ (fun vs hvs=>⟨_,hvs⟩)
  refine⟨_,s1,fun u hu=>s2 off n u h1 ?_⟩
  cases hu with
  | sl _ _ _ _ a' cap hlx hc hmx ha h0=>exact .sl _ _ _ _ a' cap hlx hc hmx ha h0
 ·have hm:=(hs.hp l _ hl).1
  have hn:n=0:=by omega
  subst hn
  refine⟨E,hs.kill l,fun u hu=>?_⟩
  cases hu with
  | sl _ _ _ _ a' cap hlx hc hmx ha h0=>exact .d _ _ (.sl _ 0 _ a' cap (fun _ _=>undef) hc hmx (fun i hi=>by omega) (fun h=>by omega) (fun i j hi=>by omega))
theorem Wp.frzC{C:Cx}{c:Code}{nt:NT}{nx:Nat}{fr:List (Nat×SV)}{hp:List (Nat×Option Blk)}{Q:Exit→St→Prop}(k j:Nat){cs:List SV}{l z off n e m:Nat}{f:Nat→List D}
  (hk:lkh hp k=some (.cells cs)) (hj:cs[j]?=some (.sl l z off n)) (hl:lkh hp l=some (.row e z m f)) (hkl:l≠k) (hn:off+n≤m)
  (h:Wp C c ⟨nt,nx,fr,(k,some (.cells (cs.set j (.d (.sl z n fun i=>f (off+i))))))::(l,none)::hp⟩ Q):Wp C c ⟨nt,nx,fr,hp⟩ Q:=by
 refine⟨fun O E a w hs=>?_⟩
 obtain⟨E',s1,s2⟩:=hs.frz hl hn
 refine h.out O E' a w (s1.rehp fun k' b' hb'=>?_)
 rw[ah]at hb'
 by_cases e1:k=k'
 ·subst e1
  rw[if_pos rfl]at hb';cases hb'
  refine⟨.cells cs,by rw[ah,if_neg hkl];exact hk,fun _ h=>h,fun hb=>?_⟩
  obtain⟨vs,T,h1,h2,h3⟩:=hb
  refine⟨vs,T,h1,by rw[List.length_set];exact h2,fun i hi=>?_⟩
  rw[List.length_set]at hi
  obtain⟨h4,h5⟩:=h3 i hi
  refine⟨?_,h5⟩
  by_cases e2:j=i
  ·subst e2
   rw[List.getElem_set_self]
   refine s2 _ ?_
   rw[Q0 hi]at hj
   rw[← Option.some.inj hj];exact h4
  ·rw[List.getElem_set_ne e2];exact h4
 ·rw[if_neg e1]at hb'
  exact⟨b',hb',fun _ h=>h,fun h=>h⟩
theorem Sat.immB{O:Org}{E:Env}{S:St}{a:Act}{w:World}(h:Sat O E S a w){l:Nat}{x0:Blk}(hl:lkh S.hp l=some x0)(hr:x0.real (E.κ l)) :
  Sat O ⟨E.ρ,E.κ,fun b=>E.Im b∨b=E.ρ l⟩ ⟨S.nt,S.nx,S.fr,(l,none)::S.hp⟩ a w:=by
 have hwi:∀b,E.Im b→w.heap[b]?=w.heap[b]?:=fun _ _=>rfl
 have hρl:=(h.hp l _ hl).lt hr
 refine⟨fun m=>RS.mono (E:=E) (fun _ _=>⟨rfl,rfl⟩) (Q4 _) (fun _ hb=>Or.inl hb) hwi (h.fr m),h.nt,h.df,fun m x hm=>?_,fun m x hm=>h.nx m x (aq hm).2,fun m m' x x' hm hm'=>h.inj m m' x x' (aq hm).2 (aq hm').2,?_,fun m x hm=>h.own m x (aq hm).2,h.kq,h.lab,h.nl,fun b hb=>Or.inl (h.imo b hb)⟩
 ·obtain⟨h1,h2⟩:=aq hm
  exact BS.mono (E:=E) (h.nx m x h2) (fun _ _=>⟨rfl,rfl⟩) (Q4 _) (fun _ hb=>Or.inl hb) hwi (fun _=>rfl) (h.hp m x h2)
 ·rintro b (hb|rfl)
  ·obtain⟨h1,h2,h3⟩:=h.im b hb
   exact⟨by omega,h2,fun m x hm=>h3 m x (aq hm).2⟩
  ·refine⟨by omega,?_,fun m x hm hxr=>h.inj m l x _ (aq hm).2 hl hxr hr (aq hm).1⟩
   rcases h.own l _ hl hr with h9|h9
   ·exact Or.inr (Or.inr h9)
   ·exact Or.inl h9
theorem Sat.rehpE{O:Org}{E:Env}{nt:NT}{nx:Nat}{fr:List (Nat×SV)}{hp hp':List (Nat×Option Blk)}{a:Act}{w:World}(h:Sat O E ⟨nt,nx,fr,hp⟩ a w)
  (hx:∀k b',lkh hp' k=some b'→∃b,lkh hp k=some b∧(b'.real (E.κ k)→b.real (E.κ k))∧(BS E nx w k b→BS E nx w k b')):Sat O E ⟨nt,nx,fr,hp'⟩ a w:=by
 refine⟨h.fr,h.nt,h.df,fun l b hb=>?_,fun l b hb=>?_,fun l l' b b' hb hb' hr hr' hne=>?_,fun b hb=>⟨(h.im b hb).1,(h.im b hb).2.1,fun l x hl hr=>?_⟩,fun l b hb hr=>?_,h.kq,h.lab,h.nl,h.imo⟩
 ·obtain⟨b0,h1,_,h3⟩:=hx l b hb;exact h3 (h.hp l b0 h1)
 ·obtain⟨b0,h1,_,_⟩:=hx l b hb;exact h.nx l b0 h1
 ·obtain⟨b0,h1,h2,_⟩:=hx l b hb
  obtain⟨b1,h3,h4,_⟩:=hx l' b' hb'
  exact h.inj l l' b0 b1 h1 h3 (h2 hr) (h4 hr') hne
 ·obtain⟨b0,h1,h2,_⟩:=hx l x hl;exact(h.im b hb).2.2 l b0 h1 (h2 hr)
 ·obtain⟨b0,h1,h2,_⟩:=hx l b hb;exact h.own l b0 h1 (h2 hr)
theorem Le.rowCf{nt:NT}{nx:Nat}{fr:List (Nat×SV)}{hp:List (Nat×Option Blk)}(l:Nat){e n:Nat}{f:Nat→List D}(g:Nat→SV)(hl:lkh hp l=some (.row e 1 n f))(hg:∀i,i<n→∃d,f i=[d]∧g i=.d d) :
  Le ⟨nt,nx,fr,hp⟩ ⟨nt,nx,fr,(l,some (.cf 0 n g))::hp⟩:=by
 refine⟨fun O E a w hs=>⟨E,hs.rehpE fun k b' hb'=>?_⟩⟩
 rw[ah]at hb'
 by_cases e1:l=k
 ·subst e1
  rw[if_pos rfl]at hb';cases hb'
  have hκ:=(hs.hp l _ hl).1
  refine⟨_,hl,fun h=>(show 0<E.κ l by have h0:0<n:=h;omega),fun hb=>?_⟩
  obtain⟨h1,h2,h3,h4,h5⟩:=hb
  refine⟨Nat.zero_le _,fun hn=>?_⟩
  obtain⟨vs,g1,g2,g3,g4⟩:=h5 (by omega)
  refine⟨vs,e,g1,by omega,fun j hj=>?_⟩
  obtain⟨d,e2,e3⟩:=hg j hj
  rw[e3]
  have h6:=g4 j 0 hj (by rw[e2];exact Nat.zero_lt_one)
  rw[Nat.mul_one,Nat.add_zero]at h6
  have h7:(f j)[0]'(by rw[e2];exact Nat.zero_lt_one)=d:=by simp[e2]
  rw[h7]at h6
  exact⟨.d _,.d _ _ h6,g3 j (by omega)⟩
 ·rw[if_neg e1]at hb'
  exact⟨b',hb',fun h=>h,fun h=>h⟩
theorem Wp.frzN{C:Cx}{c:Code}{nt:NT}{nx:Nat}{fr:List (Nat×SV)}{hp:List (Nat×Option Blk)}{Q:Exit→St→Prop}(k j:Nat){cs:List SV}{L L2 z n p e q m:Nat}{g:Nat→SV}{f:Nat→List D}(G:Nat→List D)
  (hk:lkh hp k=some (.cells cs)) (hj:cs[j]?=some (.sl L 1 0 n)) (hL:lkh hp L=some (.cf m n g)) (h0:0<n) (hg0:g 0=.sl L2 z 0 p) (hL2:lkh hp L2=some (.row e z q f)) (hpq:p≤q)
  (n1:L≠k) (n2:L2≠k) (n3:L2≠L) (hG0:G 0=[.sl z p fun i=>f (0+i)]) (hG:∀i,0<i→i<n→∃d,g i=.d d∧G i=[d])
  (h:Wp C c ⟨nt,nx,fr,(k,some (.cells (cs.set j (.d (.sl 1 n G)))))::(L,none)::(L2,none)::hp⟩ Q):Wp C c ⟨nt,nx,fr,hp⟩ Q:=by
 refine⟨fun O E a w hs=>?_⟩
 obtain⟨E1,s1,t1⟩:=hs.frz hL2 (off:=0) (n:=p) (by omega)
 have hL1:lkh ((L2,none)::hp) L=some (.cf m n g):=by rw[ah,if_neg n3];exact hL
 obtain⟨_,hh⟩:=s1.hp L _ hL1
 obtain⟨vs,T,v1,v2,v3⟩:=hh h0
 have s2:=s1.immB hL1 (show 0<n from h0)
 refine h.out O _ a w (s2.rehp fun k' b' hb'=>?_)
 rw[ah]at hb'
 by_cases e1:k=k'
 ·subst e1
  rw[if_pos rfl]at hb';cases hb'
  refine⟨.cells cs,by rw[ah,if_neg n1,ah,if_neg n2];exact hk,fun _ h=>h,fun hb=>?_⟩
  have hb1:=s1.hp k (.cells cs) (by rw[ah,if_neg n2];exact hk)
  obtain⟨us,T',a1,a2,a3⟩:=hb
  obtain⟨us1,T1,b1,b2,b3⟩:=hb1
  have hus:us1=us:=by
   have:some (Obj.cells us1 T1 (0,0))=some (Obj.cells us T' (0,0)):=b1.symm.trans a1
   injection this with h9
   injection h9
  subst hus
  refine⟨us1,T',a1,by rw[List.length_set];exact a2,fun i hi=>?_⟩
  rw[List.length_set]at hi
  obtain⟨h4,h5⟩:=a3 i hi
  refine⟨?_,h5⟩
  by_cases e2:j=i
  ·subst e2
   rw[List.getElem_set_self]
   have h6:=(b3 j hi).1
   rw[Q0 hi]at hj
   rw[Option.some.inj hj]at h6
   generalize us1.getD j undef=u at h6
   cases h6 with
   | sl _ _ _ _ a' cap hlx hc hmx ha hz0 =>
    have ea:a'=some ⟨E1.ρ L,0,none⟩:=by have:=ha h0;rwa [Nat.zero_mul]at this
    refine .d _ _ (.sl 1 n _ a' cap (fun i q=>vs.getD (i+q) undef) hc hmx (fun i hi=>?_) (fun _=>⟨E1.ρ L,0,ea,Or.inr rfl,fun i q hi hq=>?_⟩) fun i q hi hq=>?_)
    ·by_cases e3:i=0
     ·rw[e3,hG0];rfl
     ·obtain⟨d,_,e4⟩:=hG i (by omega) hi
      rw[e4];rfl
    ·obtain rfl:q=0:=by omega
     have h7:i<vs.size:=by omega
     simp only[World.cell?,v1,Nat.mul_one,Q19,Nat.add_zero,Array.getD,h7,dif_pos]
     simp[h7]
    ·by_cases e3:i=0
     ·subst e3
      have hq0:q=0:=by rw[hG0]at hq;simpa using hq
      subst hq0
      have h8:=(v3 0 h0).2.1
      rw[hg0]at h8
      have h9:=t1 _ h8
      cases h9 with
      | d _ _ h9 =>
       have hx:(G 0)[0]'hq=.sl z p fun i=>f (0+i):=by simp[hG0]
       rw[hx]
       exact h9.mono (fun _ hb=>Or.inl hb) fun _ _=>rfl
     ·obtain⟨d,e4,e5⟩:=hG i (by omega) hi
      have hq0:q=0:=by rw[e5]at hq;simpa using hq
      subst hq0
      have h8:=(v3 i hi).2.1
      rw[e4]at h8
      cases h8 with
      | d _ _ h9 =>
       have hx:(G i)[0]'hq=d:=by simp[e5]
       rw[hx]
       exact h9.mono (fun _ hb=>Or.inl hb) fun _ _=>rfl
  ·rw[List.getElem_set_ne e2];exact h4
 ·rw[if_neg e1]at hb'
  exact⟨b',hb',fun _ h=>h,fun h=>h⟩
theorem Sat.virtN{O:Org}{E:Env}{nt:NT}{nx:Nat}{fr:List (Nat×SV)}{hp:List (Nat×Option Blk)}{a:Act}{w:World}(h:Sat O E ⟨nt,nx,fr,hp⟩ a w)(k:Nat){m n:Nat}{g:Nat→SV}(e z:Nat)(f:Nat→List D)(hz:0<z)(hk:lkh hp k=some (.cf m n g))(hg:g 0=.d (.val (.slice none 0 0))) :
  Sat O (E.newrow nx 0 0) ⟨nt,nx+1,fr,(k,some (.cf (nx+1) n fun j=>bif Nat.beq j 0 then .sl nx z 0 0 else g j))::(nx,some (.row e z 0 f))::hp⟩ a w:=by
 have hkx:k<nx:=h.nx k _ hk
 have h1:=h.virt (e:=e) (f:=f) hz
 refine h1.rehp fun q b' hb'=>?_
 rw[ah]at hb'
 by_cases e1:k=q
 ·subst e1
  rw[if_pos rfl]at hb';cases hb'
  refine⟨.cf m n g,by rw[ah,if_neg (show ¬nx=k by omega)];exact hk,fun _ h=>h,fun hb=>?_⟩
  obtain⟨h0,hh⟩:=hb
  refine⟨Q4 _,fun hp=>?_⟩
  obtain⟨vs,T,g1,g2,g3⟩:=hh hp
  refine⟨vs,T,g1,g2,fun j hj=>?_⟩
  obtain⟨q1,q2,q3⟩:=g3 j hj
  cases hj0:Nat.beq j 0 with
  | false =>
   show SV.Lt (nx+1) (bif Nat.beq j 0 then .sl nx z 0 0 else g j)∧RS (E.newrow nx 0 0) (nx+1) w (bif Nat.beq j 0 then .sl nx z 0 0 else g j) _∧_
   rw[hj0];exact⟨q1.mono5 h0,q2,q3⟩
  | true =>
   obtain rfl:=Q2 hj0
   show SV.Lt (nx+1) (.sl nx z 0 0)∧RS (E.newrow nx 0 0) (nx+1) w (.sl nx z 0 0) _∧_
   rw[hg]at q2
   have hv:=q2.val_inv
   refine⟨.sl _ _ _ _ (Nat.lt_succ_self _),?_,q3⟩
   rw[hv]
   exact .sl _ _ _ _ _ _ (by show nx<nx+1;omega) (Q4 _) (by unfold maxLen;omega) (fun h=>by omega) (fun _=>⟨by simp[Env.newrow],fun h=>by omega⟩)
 ·rw[if_neg e1]at hb'
  exact⟨b',hb',fun _ h=>h,fun h=>h⟩
theorem Le.virtN{nx:Nat}{nt:NT}{fr:List (Nat×SV)}{hp:List (Nat×Option Blk)}(k e z:Nat)(f:Nat→List D){m n:Nat}{g:Nat→SV}(hz:0<z)(hk:lkh hp k=some (.cf m n g))(hg:g 0=.d (.val (.slice none 0 0))) :
  Le ⟨nt,nx,fr,hp⟩ ⟨nt,nx+1,fr,(k,some (.cf (nx+1) n fun j=>bif Nat.beq j 0 then .sl nx z 0 0 else g j))::(nx,some (.row e z 0 f))::hp⟩ :=
 ⟨fun _ _ _ _ hs=>⟨_,hs.virtN k e z f hz hk hg⟩⟩
def gW(l k:Nat)(j:Nat):SV:=bif Nat.beq j 0 then .sl l 4 0 k else .d (.val (.slice none 0 0))
theorem CfS.gW{p l k l0 k0 m n:Nat}{K:(Nat→SV)→Prop}(hp:p=0)(hn:0<n)(hl:Nat.blt l m=true)(h:K (gW l k)):CfS p [.sl l 4 0 k] m n (gW l0 k0) K:=by
 subst hp
 have hl:l<m:=by simpa using hl
 refine⟨⟨by simp;omega,hn,fun v hv=>?_⟩,Go.Proofs.YtgkpjebgcfjfnaaGreat.gW l k,fun j _=>?_,h⟩
 ·rw[List.mem_singleton.1 hv];exact .sl _ _ _ _ hl
 ·unfold Go.Proofs.YtgkpjebgcfjfnaaGreat.gW
  by_cases e:j=0
  ·subst e;rw[if_pos ⟨Q4 _,by simp⟩];rfl
  ·have e2:Nat.beq j 0=false:=by cases h:Nat.beq j 0 with|true=>exact absurd (Q2 h) e|false=>rfl
   rw[if_neg (by simp;omega),e2];rfl
theorem gW_lt{l k m:Nat}(h:Nat.blt l m=true)(j:Nat):SV.Lt m (gW l k j):=by
 unfold gW
 cases Nat.beq j 0 with
 | true=>exact .sl _ _ _ _ (by simpa using h)
 | false=>exact .d _
theorem xG{L:List Nat}{l l' k:Nat}(hi:ij L l=some l')(j:Nat):ae L (gW l k j) (gW l' k j):=by
 unfold gW
 cases Nat.beq j 0 with
 | true=>exact .sl hi
 | false=>exact .rfl rfl
end Go.Proofs.YtgkpjebgcfjfnaaGreat
