/- Lemmas of Ct5, Od0, Od1a, Sx26, Od1, Sort, Ct5p. No condition. -/
import Derived.Test.YtlkccdlgnpkjpaaGreatMO21
import Derived.Sort.Grow
import Derived.Laws.AppendOwnNone
import Derived.Test.YtlkccdlgnpkjpaaGreatRows
import Derived.WalkKit
import Derived.WalkSpells
import Derived.WalkLawsBesides
import Derived.IntWalk
import Derived.BigQuiet
import Derived.Deep.QuietTactic
import Derived.StillTailTactics
import Derived.Deep.RegionWith
import Derived.Deep.RegionHeld3
import Derived.Lib.Hide
import Derived.Shelf.SlSortCmp.WholeK
import Derived.Shelf.SlSortCmp.NoneTotal
import Derived.Ground.SlsfProg
import Derived.Test.YtlkccdlgnpkjpaaGreatProg
set_option linter.unusedVariables false
set_option linter.unusedSimpArgs false
set_option linter.unusedSectionVars false
set_option maxHeartbeats 80000000
set_option maxRecDepth 100000
namespace Go.Proofs.YtlkccdlgnpkjpaaGreat
open Go.RowKit
section
def ke:SV:=.iref [ji 0 2,.d (.fn (.func 43) [])] 0
def jB(M:Core.Mc)(nl:Nat)(f:Nat→List D)(clk cnt:Int):List (Nat×Option Blk):=[(0,some (cu 1 3 34 nl clk cnt)),(1,some (co 34 M.W)),(2,some (gK M.Hd)),(3,some (bK nl f))]
variable{ps:List Pol}{room:Int}
def nZ(h:List Cel):List D:=[am 4 Cel.D h]
theorem mf(zs:List (List Cel))(c:List Cel):∀k,k<zs.length+1→bu zs.length (fun i=>nZ (zs.getD i default)) (fun i=>bm (nZ c) 1 (0+i)) k=nZ ((zs++[c]).getD k default):=fun k hk=>by
 simp only[bu]
 by_cases e:k<zs.length
 ·rw[if_pos e,Q1,Q1,Q11 e]
 ·rw[if_neg e]
  obtain rfl:k=zs.length:=by omega
  have:(zs++[c]).getD zs.length default=c:=by simp
  rw[Nat.sub_self,this];rfl
theorem iR(M:Core.Mc)(nl:Nat)(f:Nat→List D)(clk cnt:Int)(h0:0≤M.W 0)(h8:M.W 0≤8) :
  Fun TC 77 4 [ke] (jB M nl f clk cnt) 4 (.tup [.i .i64 (Core.lvl M),.b (decide (M.W 0%2=1))]) (jB M nl f clk cnt):=by
 have qr:(M.W 0).tmod 2=M.W 0%2:=Q6 h0
 have ql:M.W 0/2=(Core.lvl M:Int):=by unfold Core.lvl;omega
 refine Fun.mk' Tryz.func77 rfl rfl zN (by decide) ?_
 (repeat' (first|((first|refine Wp.any ac rfl ?_|(with_reducible first|refine Go.mk ?_|apply ai.of|refine Ov.ok zO ?_|refine And.intro zC ?_));conv=>whnf)|((refine ab.fn (cm nl M.W M.Hd f clk cnt 0 (by decide)) [0,1,2,3] rfl rfl rfl rfl rfl ?ha ?hh ?_);(case ha=>exact zA);(case hh=>exact zH);(conv=>whnf))|(with_reducible refine Ov.tdivC (by omega) ?_)))
 rw[qr,ql]
 (refine af.sealB [0,1,2,3] rfl rfl rfl ?_ ?_);(focus((conv=>whnf);(repeat' (first|exact zE))));(focus((conv=>whnf);(repeat' (first|exact zE|((refine And.intro ?_ ?_)<;>(conv=>whnf))))))
theorem fW(ps:List Pol)(room:Int)(M:Core.Mc)(i:Nat):(List.range (i+1)).flatMap (Core.partL (aa ps room) M)=(List.range i).flatMap (Core.partL (aa ps room) M)++Core.partL (aa ps room) M i:=by
 rw[List.range_succ,List.flatMap_append];simp
theorem fc(ps:List Pol)(room:Int)(M:Core.Mc):∀i,((List.range i).flatMap (Core.partL (aa ps room) M)).length≤2*i
 | 0=>by simp
 | i+1=>by
  rw[fW ps room,Q9]
  have:=fc ps room M i
  have:(Core.partL (aa ps room) M i).length≤2:=by unfold Core.partL;split<;>simp
  omega
theorem sX(ps:List Pol)(room:Int)(M:Core.Mc)(nl:Nat)(f:Nat→List D)(clk cnt:Int)(h0:0≤M.W 0)(h8:M.W 0≤8)(he:M.W 0%2=0) :
  Fun TC 49 4 [ke] (jB M nl f clk cnt) 4 (.d (am 1 nZ (Core.allL (aa ps room) M))) (jB M nl f clk cnt):=by
 have hL:=iR M nl f clk cnt h0 h8
 rw[decide_eq_false (by omega)]at hL
 have hlv:Core.lvl M≤4:=by unfold Core.lvl;omega
 have hp4:2^Core.lvl M≤2^4:=Q16 (by omega) hlv
 have hsh:=ir hlv
 have e2:((2^Core.lvl M:Nat):Int)=2^Core.lvl M:=by simp
 refine Fun.mk' Tryz.func49 rfl rfl zN (by decide) ?_
 (repeat' (first|((first|refine Wp.any ac rfl ?_|(with_reducible first|refine Go.mk ?_|apply ai.of|refine And.intro zC ?_));conv=>whnf)|((refine ab.fn (hL) [0,1,2,3] rfl rfl rfl rfl rfl ?ha ?hh ?_);(case ha=>exact zA);(case hh=>exact zH);(conv=>whnf))))
 refine Wp.le (Le.virt 3 34 1 (fun i=>nZ (([]:List (List Cel)).getD i default)) (by decide) rfl) ?_
 refine Wp.loopP (ι:=Nat) (fun i=>i≤2^Core.lvl M) (fun i=>⟨⟨Tryz.f49.ntmps,4⟩,5,[(0,ke),(3,.sl 4 1 0 ((List.range i).flatMap (Core.partL (aa ps room) M)).length),(4,.i .i64 (Core.lvl M)),(5,.b false),(19,.i .i64 (2^Core.lvl M)),(20,.i .i64 i)],
  jB M nl f clk cnt++[(4,some (ay 34 1 nZ ((List.range i).flatMap (Core.partL (aa ps room) M))))]⟩) (fun i=>2^Core.lvl M-i) 0 (Nat.zero_le _) ?_ ?_
 ·(refine Le.by [0,1,2,3,4] rfl rfl rfl rfl ?_ ?_<;>(conv=>whnf)<;>(repeat' (first|exact trivial|exact ae.rfl rfl|exact ae.ptr rfl|exact ae.sl rfl|((refine ae.iref ?_);(conv=>whnf))|exact⟨rfl,rfl,rfl⟩|exact fun i hi=>rfl|((with_reducible refine And.intro ?_ ?_)<;>(conv=>whnf)))))
  rw[hsh];exact ae.rfl rfl
 ·rintro i h1
  have hpl:=Core.plc_32 hlv (i:Int)
  have hfl:=fc ps room M i
  (repeat' (first|((first|refine Wp.any ac rfl ?_|(with_reducible first|refine Go.mk ?_|apply ai.of|refine Ov.ok zO ?_)|refine zV ?_|with_reducible refine And.intro zC ?_);conv=>whnf)|((with_reducible refine And.intro ?hb ?_);(case hb=>exact zz6);(conv=>whnf))|((with_reducible refine ag.pure (cj _ hlv _) rfl rfl ?_);conv=>whnf)|((refine ag.fn (cm nl M.W M.Hd f clk cnt (Dir.plc (Core.lvl M) (i:Int)) (Nat.lt_trans hpl.2 (by decide))) [0,1,2,3] [0,1,2,3] rfl rfl rfl rfl rfl ?ha ?hh ?hs ?_);(case ha=>exact zA);(case hh=>exact zH);(case hs=>exact zK);(conv=>whnf))|((refine aq (fun hc=>?_) (fun hc=>?_))<;>(try simp only[wz9]at hc)<;>(try (exfalso;omega))<;>(conv=>whnf))))
  ·have hi:i<2^Core.lvl M:=by omega
   have hw:Dir.plc (Core.lvl M) (i:Int)=2^Core.lvl M+i:=by rw[ct (by omega) (by omega)];rfl
   have hpt:Core.partL (aa ps room) M i=[M.Hd (Dir.plc (Core.lvl M) (i:Int))]:=by unfold Core.partL;rw[if_pos (.inl he),hw]
   refine⟨i+1,by dsimp only;omega,by dsimp only;omega,?_⟩
   dsimp only
   rw[fW ps room,hpt]
   (refine Le.by [0,1,2,3,20] rfl rfl rfl rfl ?_ ?_<;>(conv=>whnf)<;>(repeat' (first|exact trivial|exact ae.rfl rfl|exact ae.ptr rfl|exact ae.sl rfl|((refine ae.iref ?_);(conv=>whnf))|exact⟨rfl,rfl,rfl⟩|exact fun i hi=>rfl|((with_reducible refine And.intro ?_ ?_)<;>(conv=>whnf)))))
   ·rw[Q9];exact ae.sl rfl
   all_goals first|exact mf _ _|rfl|(simp;done)
  ·obtain rfl:i=2^Core.lvl M:=by omega
   rw[show Core.allL (aa ps room) M=(List.range (2^Core.lvl M)).flatMap (Core.partL (aa ps room) M)from rfl]
   (refine af.sealB [0,1,2,3] rfl rfl rfl ?_ ?_);(focus((conv=>whnf);(repeat' (first|exact zE))));(focus((conv=>whnf);(repeat' (first|exact zE|((refine And.intro ?_ ?_)<;>(conv=>whnf))))))
theorem t5(zs:List (List Cel))(a b:List Cel):∀k,k<zs.length+1+1→bu (zs.length+1) (bu zs.length (fun i=>nZ (zs.getD i default)) (fun i=>bm (nZ a) 1 (0+i))) (fun i=>bm (nZ b) 1 (0+i)) k=nZ ((zs++[a,b]).getD k default):=fun k hk=>by
 by_cases e:k<zs.length+1
 ·rw[bu,if_pos e,mf _ _ _ e]
  congr 1
  rw[show zs++[a,b]=(zs++[a])++[b]by simp,Q1,Q1,Q11 (l₁:=zs++[a]) (by simpa using e)]
 ·rw[bu,if_neg e]
  obtain rfl:k=zs.length+1:=by omega
  have:(zs++[a,b]).getD (zs.length+1) default=b:=by simp[List.getD]
  rw[Nat.sub_self,this];rfl
theorem sW(ps:List Pol)(room:Int)(M:Core.Mc)(nl:Nat)(f:Nat→List D)(clk cnt:Int)(h0:0≤M.W 0)(h8:M.W 0≤8)(hH:∀w,(M.Hd w).length≤16777216)(he:M.W 0%2=1) :
  Fun TC 49 4 [ke] (jB M nl f clk cnt) 4 (.d (am 1 nZ (Core.allL (aa ps room) M))) (jB M nl f clk cnt):=by
 have hL:=iR M nl f clk cnt h0 h8
 rw[decide_eq_true he]at hL
 have hlv:Core.lvl M≤3:=by unfold Core.lvl;omega
 have hp4:2^Core.lvl M≤2^3:=Q16 (by omega) hlv
 have hsh:=ir (lv:=Core.lvl M) (by omega)
 have e2:((2^Core.lvl M:Nat):Int)=2^Core.lvl M:=by simp
 refine Fun.mk' Tryz.func49 rfl rfl zN (by decide) ?_
 (repeat' (first|((first|refine Wp.any ac rfl ?_|(with_reducible first|refine Go.mk ?_|apply ai.of|refine And.intro zC ?_));conv=>whnf)|((refine ab.fn (hL) [0,1,2,3] rfl rfl rfl rfl rfl ?ha ?hh ?_);(case ha=>exact zA);(case hh=>exact zH);(conv=>whnf))))
 refine Wp.le (Le.virt 3 34 1 (fun i=>nZ (([]:List (List Cel)).getD i default)) (by decide) rfl) ?_
 refine Wp.loopP (ι:=Nat) (fun i=>i≤2^Core.lvl M) (fun i=>⟨⟨Tryz.f49.ntmps,4⟩,5,[(0,ke),(3,.sl 4 1 0 ((List.range i).flatMap (Core.partL (aa ps room) M)).length),(4,.i .i64 (Core.lvl M)),(5,.b true),(19,.i .i64 (2^Core.lvl M)),(20,.i .i64 i)],
  jB M nl f clk cnt++[(4,some (ay 34 1 nZ ((List.range i).flatMap (Core.partL (aa ps room) M))))]⟩) (fun i=>2^Core.lvl M-i) 0 (Nat.zero_le _) ?_ ?_
 ·(refine Le.by [0,1,2,3,4] rfl rfl rfl rfl ?_ ?_<;>(conv=>whnf)<;>(repeat' (first|exact trivial|exact ae.rfl rfl|exact ae.ptr rfl|exact ae.sl rfl|((refine ae.iref ?_);(conv=>whnf))|exact⟨rfl,rfl,rfl⟩|exact fun i hi=>rfl|((with_reducible refine And.intro ?_ ?_)<;>(conv=>whnf)))))
  rw[hsh];exact ae.rfl rfl
 ·rintro i h1
  have hpl:=Core.plc_32 (by omega:Core.lvl M≤4) (i:Int)
  have hq1:=Core.plc_32 (by omega:Core.lvl M+1≤4) (i:Int)
  have hq2:=Core.plc_32 (by omega:Core.lvl M+1≤4) ((i:Int)+IntKind.i64.wrap (1*2^min ((Core.lvl M:Nat):Int).toNat IntKind.i64.bits))
  have hfl:=fc ps room M i
  have hHp:=hH (Dir.plc (Core.lvl M) (i:Int))
  have hcut:Pure TC 43 [.d (am 4 Cel.D (M.Hd (Dir.plc (Core.lvl M) (i:Int)))),.i .i64 ((Core.lvl M:Int)+1),.i .i64 (i:Int)] (.d (am 4 Cel.D (gL (M.Hd (Dir.plc (Core.lvl M) (i:Int))) (Core.lvl M+1) i))):=ig _ (Core.lvl M+1) i (by omega) hHp
  have hcut2:Pure TC 43 [.d (am 4 Cel.D (M.Hd (Dir.plc (Core.lvl M) (i:Int)))),.i .i64 ((Core.lvl M:Int)+1),.i .i64 ((i:Int)+IntKind.i64.wrap (1*2^min ((Core.lvl M:Nat):Int).toNat IntKind.i64.bits))] (.d (am 4 Cel.D (gL (M.Hd (Dir.plc (Core.lvl M) (i:Int))) (Core.lvl M+1) (i+2^Core.lvl M)))):=by
   have:=ig (M.Hd (Dir.plc (Core.lvl M) (i:Int))) (Core.lvl M+1) (i+2^Core.lvl M) (by omega) hHp
   rw[hsh]
   rwa [show(((i+2^Core.lvl M:Nat):Nat):Int)=(i:Int)+2^Core.lvl M by rw[Int.natCast_add,e2]]at this
  (repeat' (first|((first|refine Wp.any ac rfl ?_|(with_reducible first|refine Go.mk ?_|apply ai.of|refine Ov.ok zO ?_)|refine zV ?_|with_reducible refine And.intro zC ?_);conv=>whnf)|((with_reducible refine And.intro ?hb ?_);(case hb=>exact zz6);(conv=>whnf))|((with_reducible first|refine ag.pure (cj _ (by omega:Core.lvl M≤4) _) rfl rfl ?_|refine ag.pure (iQ _ hlv _) rfl rfl ?_|refine ab.pure (hcut) rfl rfl ?_|refine ab.pure (hcut2) rfl rfl ?_);conv=>whnf)|((refine ag.fn (cm nl M.W M.Hd f clk cnt (Dir.plc (Core.lvl M) (i:Int)) (Nat.lt_trans hpl.2 (by decide))) [0,1,2,3] [0,1,2,3] rfl rfl rfl rfl rfl ?ha ?hh ?hs ?_);(case ha=>exact zA);(case hh=>exact zH);(case hs=>exact zK);(conv=>whnf))|((refine ag.fn (cm nl M.W M.Hd f clk cnt (Dir.plc (Core.lvl M+1) (i:Int)) (Nat.lt_trans hq1.2 (by decide))) [0,1,2,3] [0,1,2,3] rfl rfl rfl rfl rfl ?ha ?hh ?hs ?_);(case ha=>exact zA);(case hh=>exact zH);(case hs=>exact zK);(conv=>whnf))|((refine ag.fn (cm nl M.W M.Hd f clk cnt (Dir.plc (Core.lvl M+1) ((i:Int)+IntKind.i64.wrap (1*2^min ((Core.lvl M:Nat):Int).toNat IntKind.i64.bits))) (Nat.lt_trans hq2.2 (by decide))) [0,1,2,3] [0,1,2,3] rfl rfl rfl rfl rfl ?ha ?hh ?hs ?_);(case ha=>exact zA);(case hh=>exact zH);(case hs=>exact zK);(conv=>whnf))|((with_reducible refine Wp.loopN 4 ?_);conv=>whnf)|((refine aq (fun hc=>?_) (fun hc=>?_))<;>(try simp only[wz9]at hc)<;>(try (exfalso;omega))<;>(conv=>whnf))))
  rotate_right
  ·obtain rfl:i=2^Core.lvl M:=by omega
   rw[show Core.allL (aa ps room) M=(List.range (2^Core.lvl M)).flatMap (Core.partL (aa ps room) M)from rfl]
   (refine af.sealB [0,1,2,3] rfl rfl rfl ?_ ?_);(focus((conv=>whnf);(repeat' (first|exact zE))));(focus((conv=>whnf);(repeat' (first|exact zE|((refine And.intro ?_ ?_)<;>(conv=>whnf))))))
  all_goals
   have hi:i<2^Core.lvl M:=by omega
   have hpp:2^(Core.lvl M+1)=2^Core.lvl M*2:=Nat.pow_succ 2 _
   have hpi:(2:Int)^(Core.lvl M+1)=2^Core.lvl M*2:=Int.pow_succ 2 _
   have hw:Dir.plc (Core.lvl M) (i:Int)=2^Core.lvl M+i:=by rw[ct (by omega) (by omega)];rfl
   have hw1:Dir.plc (Core.lvl M+1) (i:Int)=2^(Core.lvl M+1)+i:=by rw[ct (by omega) (by omega)];rfl
   have hw2:Dir.plc (Core.lvl M+1) ((i:Int)+IntKind.i64.wrap (1*2^min ((Core.lvl M:Nat):Int).toNat IntKind.i64.bits))=2^(Core.lvl M+1)+(i+2^Core.lvl M):=by rw[hsh,ct (by omega) (by omega)];omega
   have hpt:Core.partL (aa ps room) M i=if M.W (Dir.plc (Core.lvl M) (i:Int))<4611686018427387904 then[M.Hd (Dir.plc (Core.lvl M) (i:Int))]else[if M.W (Dir.plc (Core.lvl M+1) (i:Int))=0 then gL (M.Hd (Dir.plc (Core.lvl M) (i:Int))) (Core.lvl M+1) i else M.Hd (Dir.plc (Core.lvl M+1) (i:Int)),
    if M.W (Dir.plc (Core.lvl M+1) ((i:Int)+IntKind.i64.wrap (1*2^min ((Core.lvl M:Nat):Int).toNat IntKind.i64.bits)))=0 then gL (M.Hd (Dir.plc (Core.lvl M) (i:Int))) (Core.lvl M+1) (i+2^Core.lvl M)else M.Hd (Dir.plc (Core.lvl M+1) ((i:Int)+IntKind.i64.wrap (1*2^min ((Core.lvl M:Nat):Int).toNat IntKind.i64.bits)))]:=by
    unfold Core.partL Core.nxt
    rw[hw,hw1,hw2]
    by_cases hq:M.W (2^Core.lvl M+i)<4611686018427387904
    ·rw[if_pos hq,if_pos (.inr hq)]
    ·rw[if_neg hq,if_neg (by intro h;rcases h with h|h;omega;exact hq h)];rfl
   refine⟨i+1,by dsimp only;omega,by dsimp only;omega,?_⟩
   dsimp only
   rw[fW ps room,hpt]
  ·rw[if_pos (by assumption)]
   (refine Le.by [0,1,2,3,20] rfl rfl rfl rfl ?_ ?_<;>(conv=>whnf)<;>(repeat' (first|exact trivial|exact ae.rfl rfl|exact ae.ptr rfl|exact ae.sl rfl|((refine ae.iref ?_);(conv=>whnf))|exact⟨rfl,rfl,rfl⟩|exact fun i hi=>rfl|((with_reducible refine And.intro ?_ ?_)<;>(conv=>whnf)))))
   ·rw[Q9];exact ae.sl rfl
   all_goals first|exact mf _ _|rfl|(simp;done)
  all_goals
   rw[if_neg (by assumption)]
   first
    | rw[if_pos (by assumption),if_pos (by assumption)]
    | rw[if_pos (by assumption),if_neg (by assumption)]
    | rw[if_neg (by assumption),if_pos (by assumption)]
    | rw[if_neg (by assumption),if_neg (by assumption)]
   (refine Le.by [0,1,2,3,53] rfl rfl rfl rfl ?_ ?_<;>(conv=>whnf)<;>(repeat' (first|exact trivial|exact ae.rfl rfl|exact ae.ptr rfl|exact ae.sl rfl|((refine ae.iref ?_);(conv=>whnf))|exact⟨rfl,rfl,rfl⟩|exact fun i hi=>rfl|((with_reducible refine And.intro ?_ ?_)<;>(conv=>whnf)))))
   ·rw[Q9];exact ae.sl rfl
   all_goals first|exact t5 _ _ _|rfl|(simp;done)
end
section
theorem jk{α:Type}:∀(a:Ask α) (w:World),w.drawn≤(w.ask a).2.drawn
 | .done a,w=>Q4 _
 | .ask what range k,w=>by
  unfold World.ask
  dsimp only
  split
  ·exact jk (k 0) w
  ·exact Nat.le_trans (Nat.le_succ _) (jk _ { w with drawn:=w.drawn+1 })
theorem rq(w:World)(c:Sys):w.drawn≤(w.sys c).2.drawn:=by
 have h:=jk (Kernel.perform c w.os) w
 unfold World.sys
 split
 ·exact Q4 _
 ·rename_i h1 h2;rw[h2]at h;exact h
theorem tu{p:Program}{w w':World}{a:Addr}{v:Value}{b:Bool}{l:List Addr}(h:w.farStore p a v b=.ok (w',l)):w'.drawn=w.drawn:=by
 unfold World.farStore at h
 split at h
 ·split at h
  ·rename_i r hr
   injection h with h
   subst h
   unfold World.viewStore at hr
   simp only[bind,Except.bind,pure,Except.pure]at hr
   repeat' split at hr
   all_goals first
    | (injection hr with hr;injection hr with h1 h2;subst h1;rfl)
    | cases hr
  ·cases h
 ·cases h
theorem rU {α:Type} (p:Program) (s:Sem α):∀{w w':World} {v:α},s.run p w=.ok v w'→w.drawn≤w'.drawn:=by
  induction s with
  | pure a=>intro w w' v h;simp only[Sem.run]at h;injection h with _ h;subst h;exact Q4 _
  | load m a k ih =>
    intro w w' v h
    simp only[Sem.run]at h
    split at h
    ·exact ih _ h
    · split at h
      ·exact ih _ h
      ·cases h
  | store m a u k ih =>
    intro w w' v h
    cases u<;>simp only[Sem.run]at h<;>first
      | cases h
      | (split at h
         · split at h
           ·cases h
           ·have h9:=ih h;exact h9
         · split at h
           · rename_i hf
             have:=tu hf
             have:=ih h
             omega
           ·cases h)
  | new o k ih=>intro w w' v h;simp only[Sem.run]at h;have h9:=ih _ h;exact h9
  | shape r k ih=>intro w w' v h;simp only[Sem.run]at h;exact ih _ h
  | freeze a n k ih =>
    intro w w' v h
    simp only[Sem.run]at h
    have e:(w.freeze a n).drawn=w.drawn:=by unfold World.freeze;split<;>(try split)<;>rfl
    have:=ih h
    omega
  | frozen a k ih=>intro w w' v h;simp only[Sem.run]at h;exact ih _ h
  | getObj r k ih =>
    intro w w' v h
    simp only[Sem.run]at h
    split at h
    ·cases h
    ·exact ih _ h
    ·cases h
  | setObj r o k ih =>
    intro w w' v h
    simp only[Sem.run]at h
    split at h
    ·cases h
    ·have h9:=ih h;exact h9
    ·cases h
  | choose q k ih =>
    intro w w' v h
    simp only[Sem.run]at h
    split at h
    ·exact ih _ h
    ·have h9:=ih _ h;exact Nat.le_trans (Nat.le_succ _) h9
  | sys c k ih =>
    intro w w' v h
    simp only[Sem.run]at h
    have h9:=ih _ h;exact Nat.le_trans (rq w c) h9
  | program k ih=>intro w w' v h;simp only[Sem.run]at h;exact ih _ h
  | mark m k ih=>intro w w' v h;simp only[Sem.run]at h;exact ih h
  | halt x=>intro w w' v h;simp only[Sem.run]at h;cases h
open Go.Sort
theorem grow_of{w w':World}(h:Kp w w')(hd:w.drawn≤w'.drawn):∃q os,w'=grow (w.drewN q) os:=by
 refine⟨w'.drawn-w.drawn,w'.heap.extract w.heap.size w'.heap.size,?_⟩
 have e:w'.heap=w.heap++w'.heap.extract w.heap.size w'.heap.size:=by
  apply Array.ext_getElem?
  intro k
  have hs:=Kp.size h
  by_cases hk:k<w.heap.size
  ·rw[Array.getElem?_append_left hk,Kp.block h k hk]
  ·rw[Array.getElem?_append_right (by omega),Array.getElem?_extract]
   by_cases hk2:k<w'.heap.size
   ·rw[if_pos (by omega),Nat.add_sub_cancel' (by omega)]
   ·rw[if_neg (by omega),Array.getElem?_eq_none (by omega)]
 have h1:=h.os;have h2:=h.tape;have h3:=h.output
 cases w;cases w'
 simp only[grow,World.drewN,World.mk.injEq]at *
 exact⟨e,h2,by omega,h1,h3⟩
end
def KpD(w w':World):Prop:=Kp w w'∧w.drawn≤w'.drawn
theorem KpD.grow{w w':World}(h:KpD w w'):∃q os,w'=Sort.grow (w.drewN q) os:=grow_of h.1 h.2
theorem KpD.refl(w:World):KpD w w:=⟨Kp.refl w,Q4 _⟩
theorem KpD.trans{a b c:World}(h:KpD a b)(k:KpD b c):KpD a c:=⟨h.1.trans k.1,Nat.le_trans h.2 k.2⟩
theorem eI{P:Program}(w:World){ops:Array Oper}{dH:List Oper}{o:Oper}{a:Act}{Q:Exit→Act→World→Prop}(hgd:o.guard=none)(s x:Operand)(t:TypeId)
  (ho:o.op=.call { callee:=.builtin .append,args:=#[s,x],argTypes:=#[t,t] })
  (base:Nat) (e:TypeId) (i:TypeInfo) (z:Value) (size bytes:Nat) (ht:P.underlying t=some (.slice e)) (hi:P.info? e=some i) (hz:i.zero=some z)
  (hsize:i.size=size) (hby:i.bytes=bytes) (hzs:z.cells.size=size) (hsz:0<size)
  (v:Value) (n:Nat) (xs:List Value) (hs:a.eval s=v) (hown:w.ownsRow base e size v n xs)
  (ad:Addr) (m c:Nat) (news:List Value) (hx:a.eval x=.slice (some ad) m c) (hl:news.length=m*size) (hnews:∀j u,news[j]?=some u→w.cell? (ad.add j)=some u) (h1:∀u∈news,u.oneCell'=true)
  (h63:n+m≤maxLen) (hbytes:(n+m)*bytes≤140737488355328) (hbase:base≤w.heap.size)
  (h:∀v' w',w'.ownsRow base e size v' (n+m) (xs++news)→w.grownBy w' v.ownBlock→w.drawn≤w'.drawn→wpList P ops Q dH (a.put o.dst v') w'):wpList P ops Q (o::dH) a w :=
 wpList_plain hgd fun K hK=>by
  obtain⟨v',w',hr,h2,h3,_⟩:=run_append_own (P:=P) w base t o.type e i z size bytes ht hi hz hsize hby hzs hsz v n xs hown ad m c news hl hnews h1 h63 hbytes hbase
  have h4:=rU P _ hr
  unfold Oper.wp execOp
  simp only[ho,resolve,invoke,builtin,Sem.run_bind,Sem.run_pure,Result.andThen_ok,List.map_toArray,List.map_cons,List.map_nil,hs,hx,hr]
  exact hK _ _ (h v' w' h2 h3 h4)
theorem x6(w:World)(xs:List Value)(e:TypeId)(z n:Nat)(hl:xs.length=n*z)(hn:n≤maxLen):(w.alloc (.cells xs.toArray e)).ownsRow w.heap.size e z (.slice (some ⟨w.heap.size,0,none⟩) n n) n xs :=
 ⟨hl,Or.inr ⟨w.heap.size,n,xs.toArray,rfl,Q4 _,aB w _,Q4 _,hn,by simp[hl],by simp[← hl]⟩⟩
theorem ints_of{Im:Nat→Prop}{w:World}{v:Value}{xs:List Int}(h:RD w Im (am 1 (aM .u8) xs) v):eX .u8 Im w v xs:=by
 cases h with
 | sl _ _ _ a cap g hc hm hl ha hg =>
  refine⟨a,cap,xs.map (Value.int .u8),rfl,hc,hm,by simp,fun j hj=>?_,fun k hk=>?_⟩
  ·have hjl:j<xs.length:=by simpa using hj
   obtain⟨b,o,e,hI,hcell⟩:=ha (by omega)
   refine⟨b,o,e,hI,?_⟩
   have h1:=hcell j 0 hjl (by omega)
   have h2:=hg j 0 hjl (by simp[aM])
   have h3:(aM .u8 (xs.getD j default))[0]'(by simp[aM])=.val (.int .u8 xs[j]):=by
    simp[aM,List.getD,hjl]
   rw[h3]at h2
   have h4:g j 0=.int .u8 xs[j]:=by generalize g j 0=y at h2;cases h2;rfl
   rw[h4]at h1
   simpa using h1
  ·simp only[zJ,lZ,Nat.mul_one]
   rw[List.drop_eq_getElem_cons (by simpa using hk)];simp
theorem jS{P:Program}{D:Nat→Prop}{w:World}{v:Value}{xs:List Int}(h:eX .u8 D w v xs):(Extern.Bytes.bytesOf v).run P w=.ok ⟨(Lib.bytesOf xs).toArray⟩ w:=by
 obtain⟨a,cap,rfl,_,_⟩:=h.val
 cases a with
 | none =>
  cases xs with
  | nil=>simp[Extern.Bytes.bytesOf,Lib.bytesOf];rfl
  | cons x r=>obtain⟨b,o,e,_⟩:=h.at (k:=0) (by simp);cases e
 | some ad =>
  have:=Lib.run_loadBytesX (P:=P) w xs ad .empty (fun j x hj=>by
   have hjl:=(Q3 hj).1
   obtain⟨b,o,e,_,_,hc⟩:=h.at hjl
   cases e
   rw[Addr.add_lit,hc]
   rw[Q0 hjl]at hj
   simp at hj;rw[hj])
  simp only[Extern.Bytes.bytesOf,this]
  simp
theorem tI{D1 D2:Nat→Prop}(va vb:Value)(a b:List Int)(w:World)(ha:eX .u8 D1 w va a)(hb:eX .u8 D2 w vb b)(ba:IsB a)(bb:IsB b) :
  Calls Tryz.prog 115 #[va,vb] w fun e w'=>e=.returned (.int .i64 (be a b))∧w=w':=by
 have hr:(callFunc 150 #[va,vb]).run Tryz.prog w=.ok (.value (.int .i64 (be a b))) w:=by
  rw[run_callFunc_extern Tryz.func150 (by kernel_rfl) (by kernel_rfl) (by kernel_rfl) (e:=Extern.BytealgCompare.compare) (by kernel_rfl)]
  have h1:=jS (P:=Tryz.prog) ha
  have h2:=jS (P:=Tryz.prog) hb
  have h3:(Extern.BytealgCompare.compare #[va,vb]).run Tryz.prog w=.ok (.int .i64 (be a b)) w:=by
   change Sem.run Tryz.prog (do pure (goInt (Extern.BytealgCompare.cmp (← Extern.Bytes.bytesOf va) (← Extern.Bytes.bytesOf vb)))) w=_
   simp only[Sem.run_bind,h1,h2,Result.andThen_ok,Sem.run_pure,Lib.cmp_eq]
   rw[gq a b ba bb]
   rfl
  rw[h3];rfl
 obtain⟨a1,c1,rfl,_,_⟩:=ha.val
 obtain⟨a2,c2,rfl,_,_⟩:=hb.val
 clear ha hb ba bb
 go_enter Tryz.func115,Tryz.ntmps115
 go_wp2_with (rw[hr])
 go_ret
 exact⟨rfl,rfl⟩
theorem order_K{D1 D2:Nat→Prop}(va vb:Value)(a b:List Int)(w:World)(ha:eX .u8 D1 w va a)(hb:eX .u8 D2 w vb b)(ba:IsB a)(bb:IsB b) :
  Calls Tryz.prog 80 #[va,vb] w fun e w'=>e=.returned (.int .i64 (be a b))∧w=w':=by
 have H:=Lib.hid (tI va vb a b w ha hb ba bb)
 obtain⟨a1,c1,rfl,_,_⟩:=ha.val
 obtain⟨a2,c2,rfl,_,_⟩:=hb.val
 clear ha hb ba bb
 go_enter Tryz.func80,Tryz.ntmps80
 go_wp2_with (first|(go_at_call 115;refine H.out.mono ?_;rintro e w1 ⟨rfl,rfl⟩))
 go_ret
 exact⟨rfl,rfl⟩
theorem u8_K:(Tryz.prog.info? 5).map (fun i=>(i.zero,i.size,i.bytes))=some (some (.int .u8 0),1,1):=by kernel_rfl
theorem s6{D:Nat→Prop}(p:Int)(v:Value)(key:List Int)(w:World)(hv:eX .u8 D w v key)(hp:0≤p)(hp2:p≤31)(hn:key.length≤255) :
  Calls Tryz.prog 71 #[.int .i64 p,v] w fun e w'=>∃v',e=.returned (.tuple #[v',.int .i64 0])∧eX .u8 (w.heap.size≤·) w' v' (p::key)∧KpD w w':=by
 obtain⟨⟨a,cap,rfl,hc,hF⟩,hl,h1⟩:=eX.src hv
 obtain⟨i0,hi,hz0,hz1,hz2⟩:=info_parts u8_K
 have hown:=x6 w [.int .u8 p] 5 1 1 (by simp) (by decide)
 have Hown:=Lib.hid hown;clear hown
 have hpw:IntKind.u8.wrap p=p:=by simp[IntKind.wrap,IntKind.bits,IntKind.signed];omega
 have fin:∀(v':Value) (w1:World),w1.ownsRow w.heap.size 5 1 v' (1+key.length) ([.int .u8 p]++key.map (Value.int .u8))→(w.alloc (.cells #[.int .u8 p] 5)).grownBy w1 (some w.heap.size)→w.drawn≤w1.drawn→eX .u8 (w.heap.size≤·) w1 v' (p::key)∧KpD w w1:=by
  intro v' w1 ho hg hd
  refine⟨eX.of_owns (e:=5) ?_,((Kp.refl w).alloc _).grown hg (fun k hk=>by cases hk;exact Q4 _),hd⟩
  simpa[Nat.add_comm]using ho
 have Fin:=Lib.hid fin;clear fin
 cases a with
 | none =>
  have h0:key=[]:=by
   cases key with
   | nil=>rfl
   | cons x r=>obtain⟨b,o,h,_⟩:=hF 0 (by simp);cases h
  subst h0
  clear hF hv hc hl h1
  go_enter Tryz.func71,Tryz.ntmps71
  go_wp2_with (first|(at_builtin;refine wpList_append_own_none _ rfl _ _ 44 rfl w.heap.size 5 i0 (.int .u8 0) 1 1 Tryz.underlying44 hi hz0 hz1 hz2 rfl (by decide) _ _ _ rfl Hown.out rfl ?_))
  go_ret2
  obtain⟨f1,f2⟩:=Fin.out _ _ Hown.out ⟨rfl,rfl,rfl,Q4 _,fun _ _ _=>rfl⟩ (Q4 _)
  exact⟨_,rfl,f1,f2⟩
 | some ad =>
  have hcell:∀j u,(key.map (Value.int .u8))[j]?=some u→(w.alloc (.cells #[.int .u8 p] 5)).cell? (ad.add j)=some u:=by
   intro j u hj
   obtain⟨hj',rfl⟩:=Q3 hj
   obtain⟨b,o,e,hc⟩:=hF j hj'
   cases e
   have hb:=World.block_lt_of_cell? w _ hc
   rw[Addr.add_lit,World.cell?_alloc_lt _ _ _ hb];exact hc
  have Hcell:=Lib.hid hcell;have Hl:=Lib.hid hl
  clear hF hcell hl hv
  go_enter Tryz.func71,Tryz.ntmps71
  go_wp2_with (first|(at_builtin;refine eI _ rfl _ _ 44 rfl w.heap.size 5 i0 (.int .u8 0) 1 1 Tryz.underlying44 hi hz0 hz1 hz2 rfl (by decide) _ _ _ rfl Hown.out ad key.length _ (key.map (Value.int .u8)) rfl Hl.out Hcell.out h1 (by unfold maxLen;omega) (by omega) (by simp) ?_;intro v' w1 hown1 hg1 hd1))
  go_ret2
  obtain⟨f1,f2⟩:=Fin.out v' w1 hown1 hg1 hd1
  exact⟨_,rfl,f1,f2⟩
theorem oC{D1 D2:Nat→Prop}(a b:Cel)(k1 h1 k2 h2:Value)(w:World)(ba:IsB a.key)(oa:fQ a.pol a.key)(bb:IsB b.key)(ob:fQ b.pol b.key)(hk1:eX .u8 D1 w k1 a.key)(hk2:eX .u8 D2 w k2 b.key) :
  Calls Tryz.prog 51 #[.agg #[.int .i64 a.pol,k1,.int .i64 a.tat,h1],.agg #[.int .i64 b.pol,k2,.int .i64 b.tat,h2]] w fun e w'=>e=.returned (.int .i64 (jq a b))∧KpD w w':=by
 obtain⟨p0,p1,pl⟩:=oa;obtain⟨q0,q1,ql⟩:=ob
 rw[fY ⟨p0,p1,pl⟩ ⟨q0,q1,ql⟩]
 have hA:IsB (a.pol::a.key):=fun x hx=>by
  rcases Q22 hx with rfl|hx
  ·omega
  ·exact ba x hx
 have hB:IsB (b.pol::b.key):=fun x hx=>by
  rcases Q22 hx with rfl|hx
  ·omega
  ·exact bb x hx
 have Ha:=Lib.hid hA;have Hb:=Lib.hid hB
 obtain⟨a1,c1,rfl,_,_⟩:=hk1.val
 obtain⟨a2,c2,rfl,_,_⟩:=hk2.val
 have K1:=Lib.hid hk1;have K2:=Lib.hid hk2
 clear hk1 hk2 ba bb hA hB
 go_enter Tryz.func51,Tryz.ntmps51
 go_wp2_with fail
 refine(s6 a.pol _ a.key _ (K1.out.kp (by repeat (first|with_reducible exact Kp.refl _|with_reducible assumption|with_reducible refine Kp.alloc ?_ _|with_reducible refine Kp.drew ?_|with_reducible refine Kp.drewN ?_ _|with_reducible refine Kp.setCell ?_ ?_ _|with_reducible refine Kp.trans ?_ (by with_reducible assumption)|(dsimp only;omega)|omega))) p0 (by omega) pl).mono ?_;rintro e w1 ⟨v1,rfl,hi1,hkd1⟩;obtain⟨hkp1,hd1⟩:=hkd1;have kzs:=hkp1.size;(try simp only[World.size_alloc,World.size_drew,aD,World.size_setCell]at kzs);have kz0:w.heap.size<(w1).heap.size:=hkp1.lt (by(try simp only[World.size_alloc,World.size_drew,aD,World.size_setCell]);first|done|omega);have kc0:=hkp1.cellB (w.heap.size) (by(try simp only[World.size_alloc,World.size_drew,aD,World.size_setCell]);first|done|omega);have kf0:=hkp1.frozenB (w.heap.size) (by(try simp only[World.size_alloc,World.size_drew,aD,World.size_setCell]);first|done|omega);have kz1:w.heap.size+1<(w1).heap.size:=hkp1.lt (by(try simp only[World.size_alloc,World.size_drew,aD,World.size_setCell]);first|done|omega);have kc1:=hkp1.cellB (w.heap.size+1) (by(try simp only[World.size_alloc,World.size_drew,aD,World.size_setCell]);first|done|omega);have kf1:=hkp1.frozenB (w.heap.size+1) (by(try simp only[World.size_alloc,World.size_drew,aD,World.size_setCell]);first|done|omega)
 have I1:=Lib.hid hi1;clear hi1
 go_wp2_with fail
 refine(s6 b.pol _ b.key _ (K2.out.kp (by repeat (first|with_reducible exact Kp.refl _|with_reducible assumption|with_reducible refine Kp.alloc ?_ _|with_reducible refine Kp.drew ?_|with_reducible refine Kp.drewN ?_ _|with_reducible refine Kp.setCell ?_ ?_ _|with_reducible refine Kp.trans ?_ (by with_reducible assumption)|(dsimp only;omega)|omega))) q0 (by omega) ql).mono ?_;rintro e w2 ⟨v2,rfl,hi2,hkd2⟩;obtain⟨hkp2,hd2⟩:=hkd2;have kzs:=hkp2.size;(try simp only[World.size_alloc,World.size_drew,aD,World.size_setCell]at kzs);have kz0:w.heap.size<(w2).heap.size:=hkp2.lt (by(try simp only[World.size_alloc,World.size_drew,aD,World.size_setCell]);first|done|omega);have kc0:=hkp2.cellB (w.heap.size) (by(try simp only[World.size_alloc,World.size_drew,aD,World.size_setCell]);first|done|omega);have kf0:=hkp2.frozenB (w.heap.size) (by(try simp only[World.size_alloc,World.size_drew,aD,World.size_setCell]);first|done|omega);have kz1:w.heap.size+1<(w2).heap.size:=hkp2.lt (by(try simp only[World.size_alloc,World.size_drew,aD,World.size_setCell]);first|done|omega);have kc1:=hkp2.cellB (w.heap.size+1) (by(try simp only[World.size_alloc,World.size_drew,aD,World.size_setCell]);first|done|omega);have kf1:=hkp2.frozenB (w.heap.size+1) (by(try simp only[World.size_alloc,World.size_drew,aD,World.size_setCell]);first|done|omega)
 have I2:=Lib.hid hi2;clear hi2
 go_wp2_with fail
 refine(order_K v1 v2 (a.pol::a.key) (b.pol::b.key) _ (I1.out.kp (by repeat (first|with_reducible exact Kp.refl _|with_reducible assumption|with_reducible refine Kp.alloc ?_ _|with_reducible refine Kp.drew ?_|with_reducible refine Kp.drewN ?_ _|with_reducible refine Kp.setCell ?_ ?_ _|with_reducible refine Kp.trans ?_ (by with_reducible assumption)|(dsimp only;omega)|omega))) (I2.out.kp (by repeat (first|with_reducible exact Kp.refl _|with_reducible assumption|with_reducible refine Kp.alloc ?_ _|with_reducible refine Kp.drew ?_|with_reducible refine Kp.drewN ?_ _|with_reducible refine Kp.setCell ?_ ?_ _|with_reducible refine Kp.trans ?_ (by with_reducible assumption)|(dsimp only;omega)|omega))) Ha.out Hb.out).mono ?_;rintro e w3 ⟨rfl,rfl⟩
 go_wp2
 go_ret
 exact⟨rfl,(by repeat (first|with_reducible exact Kp.refl _|with_reducible assumption|with_reducible refine Kp.alloc ?_ _|with_reducible refine Kp.drew ?_|with_reducible refine Kp.drewN ?_ _|with_reducible refine Kp.setCell ?_ ?_ _|with_reducible refine Kp.trans ?_ (by with_reducible assumption)|(dsimp only;omega)|omega)),Nat.le_trans hd1 hd2⟩
section
open Go.RowKit Go.Shelf Go.Sort
def Tl(w:World)(Im:Nat→Prop)(ds:List D)(vs:List Value):Prop :=
 vs.length=ds.length∧(∀u∈vs,u.oneCell'=true)∧∀j (hj:j<ds.length),∃u,vs[j]?=some u∧RD w Im ds[j] u
theorem Tl.mono{w w':World}{Im:Nat→Prop}{ds:List D}{vs:List Value}(h:Tl w Im ds vs)(hw:∀b,Im b→w'.heap[b]?=w.heap[b]?):Tl w' Im ds vs :=
 ⟨h.1,h.2.1,fun j hj=>let⟨u,h1,h2⟩:=h.2.2 j hj;⟨u,h1,h2.mono (fun _ h=>h) hw⟩⟩
section
variable{α:Type}[Inhabited α](enc:α→List Value)(k:Nat)(w:World)(blk m:Nat)(d:Array α)(os:Array Obj)
theorem iq(b:Nat)(hb:b≠blk)(hlt:b<w.heap.size):(sortWorldK enc k w blk 0 m d os).heap[b]?=w.heap[b]?:=by
 show((w.heap.modify blk _)++os)[b]?=_
 rw[Array.getElem?_append_left (by simpa using hlt),Array.getElem?_modify,if_neg (fun e=>hb e.symm)]
theorem rL{cur:Array Value}{e:TypeId}(hg:w.heap[blk]?=some (.cells cur e (0,0))):(sortWorldK enc k w blk 0 m d os).heap[blk]?=some (.cells (putCells id 0 (flatK enc k d) cur) e (0,0)):=by
 have hlt:=(Q17 hg).1
 show((w.heap.modify blk _)++os)[blk]?=_
 rw[Array.getElem?_append_left (by simpa using hlt),Array.getElem?_modify,if_pos rfl,hg];rfl
theorem fS:w.heap.size≤(sortWorldK enc k w blk 0 m d os).heap.size:=by
 show _≤((w.heap.modify blk _)++os).size
 simp
end
theorem zg(F cur:Array Value)(j:Nat)(hj:j<F.size)(hc:F.size≤cur.size):(putCells id 0 F cur).getD j undef=F[j]!:=by
 have h1:j<(putCells id 0 F cur).size:=by simp[putCells];omega
 rw[Q7,Array.getElem?_eq_getElem h1,Option.getD_some]
 simp[putCells,hj]
theorem sortFun{C:Cx}{g gc e z:Nat}{α:Type}[Inhabited α]{enc:α→List D}(hz:0<z)(ent:da C.P g)(henc:∀x,(enc x).length=z)(p:α→Prop)(ord:α→α→Int)(dflt:α)(hdp:p dflt)(dv:List Value)(hdv:∀w Im,Tl w Im (enc dflt) dv)
  (irr:∀a,¬ord a a<0) (tr:∀a b c,ord a b<0→ord b c<0→ord a c<0) (ntr:∀a b c,¬ord a b<0→¬ord b c<0→¬ord a c<0)
  (hcmp:∀(W:World) (Im:Nat→Prop) (x y:α) (vx vy:List Value),(∀b,Im b→b<W.heap.size)→p x→p y→Tl W Im (enc x) vx→Tl W Im (enc y) vy→Calls C.P gc #[.agg vx.toArray,.agg vy.toArray] W fun e' w'=>e'=.returned (.int .i64 (ord x y))∧∃q os,w'=grow (W.drewN q) os)
  (hsort:∀(T:Type) [Inhabited T] (en:T→List Value) (_:∀x,(en x).length=z) (_:∀x,∀v∈en x,v.oneCell'=true) (cf:T→T→Int) (_:SWO (ltOf cf)) (blk cap:Nat) (d:Array T) (w:World),CmpLays C.P gc #[] en z cf blk 0 d.size w→HoldsK en z w blk 0 d→blk<w.heap.size→d.size<4611686018427387904 →
   Calls C.P g #[.slice (some ⟨blk,0,none⟩) d.size cap,.func (.func gc) #[] #[]] w fun e' w'=>e'=.returned (.tuple #[])∧∃d' n os,PermIn 0 d.size d d'∧SortedIn (ltOf cf) 0 d.size d'∧w'=sortWorldK en z w blk 0 n d' os)
  (xs zs:List α) (hp:∀x∈xs,p x) (hx0:0<xs.length) (hx1:xs.length<4611686018427387904) (hlz:zs.length=xs.length)
  (huniq:∀ys:List α,ys.Perm xs→ys.Pairwise (fun a b=>¬ord b a<0)→ys=zs) :
  Fun C g 1 [.sl 0 z 0 xs.length,.d (.fn (.func gc) [])] [(0,some (ay e z enc xs))] 1 (.tup []) [(0,some (ay e z enc zs))]:=by
 refine⟨ent,Q4 _,fun E w vs hS hsz hargs=>?_⟩
 have a0:=hargs 0 (by simp)
 have a1:=hargs 1 (by simp)
 have hvs:vs=#[vs.getD 0 undef,vs.getD 1 undef]:=kN (n:=2) (by simpa using hsz)
 obtain⟨cap,cur,e0,hc0,hκ,g1,g2,g3,g4,g5,g6,g7⟩:=hS.toOwn (l:=0) rfl a0 hx0
 have e1:vs.getD 1 undef=.func (.func gc) #[] #[]:=by
  generalize vs.getD 1 undef=x at a1
  cases a1 with
  | d _ _ h=>cases h with|fn _ _ us hs hg=>simp at hs;simp[hs]
 rw[e0,e1]at hvs
 subst hvs
 have hrl:Blk.real (E.κ 0) (ay e z enc xs):=show 0<E.κ 0 by omega
 have hIm:∀b,E.Im b→b≠E.ρ 0∧b<w.heap.size:=fun b hb=>⟨fun e=>(hS.im b hb).2 0 _ rfl hrl e.symm,(hS.im b hb).1⟩
 have hblk:=(Q17 g1).1
 have hmul:xs.length*z≤cap*z:=Q8 _ g2
 let G:=cur.toList.take (xs.length*z)
 have hchunk:∀i,i<xs.length→Tl w E.Im (enc (xs.getD i default)) ((G.drop (i*z)).take z):=fun i hi=>by
  have hiz:(i+1)*z≤xs.length*z:=Q8 _ hi
  rw[Q18]at hiz
  refine⟨?_,fun u hu=>g6 u (List.mem_of_mem_drop (List.mem_of_mem_take hu)),fun j hj=>?_⟩
  ·rw[Q10,List.length_drop,henc]
   have:G.length=xs.length*z:=g5
   omega
  ·have hjz:j<z:=by rw[← henc (xs.getD i default)];exact hj
   obtain⟨u,h1,h2⟩:=g7 i j hi hj
   exact⟨u,by rw[Q15,if_pos hjz,List.getElem?_drop];exact h1,h2⟩
 let T:={q:α×List Value // p q.1∧Tl w E.Im (enc q.1) q.2}
 let iT:Inhabited T:=⟨⟨(dflt,dv),hdp,hdv _ _⟩⟩
 have hxp:∀i,i<xs.length→p (xs.getD i default):=fun i hi=>by
  rw[Q1,Q0 hi];exact hp _ (Q14 hi)
 let d:Array T:=Array.ofFn fun i:Fin xs.length=>⟨(xs.getD i default,(G.drop (i*z)).take z),hxp i i.2,hchunk i i.2⟩
 have hds:d.size=xs.length:=by simp[d]
 have hdg:∀i (hi:i<xs.length),d[i]! = ⟨(xs.getD i default,(G.drop (i*z)).take z),hxp i hi,hchunk i hi⟩:=fun i hi=>by
  rw[getElem!_pos d i (by omega)]
  show(Array.ofFn _)[i]=_
  rw[Array.getElem_ofFn]
 let en:T→List Value:=fun q=>q.1.2
 have hk:∀x:T,(en x).length=z:=fun x=>by rw[x.2.2.1,henc]
 have hH:HoldsK en z w (E.ρ 0) 0 d:=fun j hj=>by
  have hj:j<xs.length*z:=by simpa[hds]using hj
  have hq:j/z<xs.length:=Nat.div_lt_of_lt_mul (by rw[Nat.mul_comm];exact hj)
  have hr:j%z<z:=Nat.mod_lt _ hz
  have hdm:j/z*z+j%z=j:=by rw[Nat.mul_comm];exact Nat.div_add_mod j z
  have hv:(flatK en z d)[j]! = cur.getD j undef:=by
   rw[get_flatK en z d j (by rw[hds];exact hj),hdg _ hq]
   show((G.drop (j/z*z)).take z)[j%z]! = _
   have h1:((G.drop (j/z*z)).take z)[j%z]?=some (cur.getD j undef):=by
    rw[Q15,if_pos hr,List.getElem?_drop,hdm]
    show(cur.toList.take _)[j]?=_
    rw[Q15,if_pos hj,Array.getElem?_toList,Q7,Array.getElem?_eq_getElem (by omega:j<cur.size)];rfl
   rw[List.getElem!_eq_getElem?_getD,h1];rfl
  rw[hv,Q19]
  refine⟨?_,?_⟩
  ·simp only[World.cell?,g1]
   rw[Q7,Array.getElem?_eq_getElem (by omega:j<cur.size)]
   rfl
  ·simp only[World.frozen?,g1]
   simp
 have hcl:CmpLays C.P gc #[] en z (fun x y:T=>ord x.1.1 y.1.1) (E.ρ 0) 0 d.size w:=fun m os dk _ x y=>by
  have hw:∀b,E.Im b→(sortWorldK en z w (E.ρ 0) 0 m dk os).heap[b]?=w.heap[b]?:=fun b hb=>iq en z w _ m dk os b (hIm b hb).1 (hIm b hb).2
  exact hcmp _ E.Im _ _ _ _ (fun b hb=>Nat.lt_of_lt_of_le (hIm b hb).2 (fS en z w _ m dk os)) x.2.1 y.2.1 (x.2.2.mono hw) (y.2.2.mono hw)
 have hO:SWO (ltOf fun x y:T=>ord x.1.1 y.1.1) :=
  ⟨fun x=>by simp only[ltOf,decide_eq_false_iff_not];exact irr _,fun x y q h1 h2=>by simp only[ltOf,decide_eq_true_eq]at h1 h2⊢;exact tr _ _ _ h1 h2,
   fun x y q h1 h2=>by simp only[ltOf,decide_eq_false_iff_not]at h1 h2⊢;exact ntr _ _ _ h1 h2⟩
 have hcon:=hsort T en hk (fun x=>x.2.2.2.1) _ hO (E.ρ 0) cap d w hcl hH hblk (by omega)
 rw[hds]at hcon
 refine hcon.mono ?_
 rintro e' w' ⟨rfl,d',n,os,⟨q1,_,q3⟩,q4,rfl⟩
 have hd's:d'.size=xs.length:=by omega
 have hall:∀a:Array T,a.size=xs.length→a.extract 0 xs.length=a:=fun a ha=>by rw[← ha];simp
 rw[hall d' hd's,hall d hds]at q3
 have hdx:d.toList.map (fun q=>q.1.1)=xs:=by
  apply List.ext_getElem (by simpa using hds)
  intro i h1 h2
  simp[d]
 have hys:=huniq (d'.toList.map fun q=>q.1.1) (by have:=q3.map (fun q:T=>q.1.1);rwa [hdx]at this) (by
  rw[List.pairwise_map]
  refine List.pairwise_iff_getElem.2 fun i j hi hj hij=>?_
  have hj':j<d'.size:=by simpa using hj
  have h9:=q4 i j (Nat.zero_le _) hij (by omega)
  rw[getElem!_pos d' i (by omega),getElem!_pos d' j hj']at h9
  simpa[ltOf]using h9)
 have hzi:∀i,i<xs.length→zs.getD i default=(d'[i]!).1.1:=fun i hi=>by
  rw[← hys,getElem!_pos d' i (by omega),Q1,Q0 (by simpa using(by omega:i<d'.size))]
  simp
 have hW:=rL en z w (E.ρ 0) n d' os g1
 have hwi:∀b,E.Im b→(sortWorldK en z w (E.ρ 0) 0 n d' os).heap[b]?=w.heap[b]?:=fun b hb=>iq en z w _ n d' os b (hIm b hb).1 (hIm b hb).2
 have hFs:(flatK en z d').size=xs.length*z:=by simp[hd's]
 have hFc:(flatK en z d').size≤cur.size:=by omega
 have hB0:HB E [(0,some (ay e z enc xs))] (E.ρ 0):=⟨0,_,rfl,hrl,rfl⟩
 have hlk:∀l b,lkh [(0,some (ay e z enc zs))] l=some b→l=0∧b=ay e z enc zs:=fun l b hl=>by
  rw[ah]at hl
  split at hl
  ·cases hl;exact⟨by omega,rfl⟩
  ·cases hl
 refine⟨_,E,rfl,⟨rfl,rfl,rfl,fS en z w _ n d' os,fun b hb hn=>iq en z w _ n d' os b (fun e=>hn (e▸hB0)) hb⟩,fun _ _=>⟨rfl,rfl⟩,⟨?_,?_,?_,?_⟩,?_,fun b hb=>Or.inl hb,fun b hb=>hb,.tup _ _ rfl (fun j hj=>by simp at hj)⟩
 ·intro l b hl
  obtain⟨rfl,rfl⟩:=hlk l b hl
  refine⟨by rw[hlz,← hκ];exact g2,by rw[← hκ];exact g3,hz,fun i _=>henc _,fun _=>⟨_,hW,by rw[← hκ];simpa[putCells]using g4,fun j hj=>?_,fun i j hi hj=>?_⟩⟩
  ·rw[hlz]at hj
   rw[zg (flatK en z d') cur j (by omega) hFc,get_flatK en z d' j (by rw[hd's];exact hj)]
   have hr:j%z<(en (d'[j/z]!)).length:=by rw[hk];exact Nat.mod_lt _ hz
   rw[getElem!_pos (en (d'[j/z]!)) (j%z) hr]
   exact(d'[j/z]!).2.2.2.1 _ (Q14 hr)
  ·rw[hlz]at hi
   have hjz:j<z:=by rw[← henc (zs.getD i default)];exact hj
   have hlt:(i+1)*z≤xs.length*z:=Q8 _ hi
   rw[Q18]at hlt
   rw[zg (flatK en z d') cur (i*z+j) (by omega) hFc,get_flatK en z d' (i*z+j) (by rw[hd's];omega),Nat.mul_comm i z,Nat.mul_add_div hz,Nat.mul_add_mod,Nat.div_eq_of_lt hjz,Nat.mod_eq_of_lt hjz,Nat.add_zero]
   have hq:=(d'[i]!).2.2.mono hwi
   have hr:j<(en (d'[i]!)).length:=by rw[hk];exact hjz
   rw[getElem!_pos (en (d'[i]!)) j hr]
   have hz2:=hzi i hi
   obtain⟨u,h1,h2⟩:=hq.2.2 j (by rw[henc];exact hjz)
   have h3:(en (d'[i]!))[j]=u:=by
    have:(en (d'[i]!))[j]?=some u:=h1
    rw[Q0 hr]at this
    exact Option.some.inj this
   rw[h3]
   have h4:(enc (zs.getD i default))[j]=(enc (d'[i]!).1.1)[j]'(by rw[henc];exact hjz):=by simp only[hz2]
   show RD _ _ (enc (zs.getD i default))[j] u
   rw[h4];exact h2
 ·intro l b hl;obtain⟨rfl,_⟩:=hlk l b hl;omega
 ·intro l l' b b' hl hl' _ _ hne;exact absurd ((hlk l b hl).1.trans (hlk l' b' hl').1.symm) hne
 ·intro b hb
  refine⟨Nat.lt_of_lt_of_le (hIm b hb).2 (fS en z w _ n d' os),fun l x hl _=>?_⟩
  obtain⟨rfl,_⟩:=hlk l x hl
  exact fun e=>(hIm b hb).1 e.symm
 ·rintro b ⟨l,x,hl,hr,rfl⟩
  obtain⟨rfl,_⟩:=hlk l x hl
  exact Or.inl hB0
theorem xK{C:Cx}{g gc e z:Nat}{f:Nat→List D}(ent:da C.P g)
  (hnone:∀(p:Option Addr) (cap:Nat) (w:World),Calls C.P g #[.slice p 0 cap,.func (.func gc) #[] #[]] w fun e' w'=>e'=.returned (.tuple #[])∧w'=w) :
  Fun C g 1 [.sl 0 z 0 0,.d (.fn (.func gc) [])] [(0,some (.row e z 0 f))] 1 (.tup []) [(0,some (.row e z 0 f))]:=by
 refine⟨ent,Q4 _,fun E w vs hS hsz hargs=>?_⟩
 have a0:=hargs 0 (by simp)
 have a1:=hargs 1 (by simp)
 have hvs:vs=#[vs.getD 0 undef,vs.getD 1 undef]:=kN (n:=2) (by simpa using hsz)
 have e0:∃a cap,vs.getD 0 undef=.slice a 0 cap:=by
  generalize vs.getD 0 undef=x at a0
  cases a0 with
  | sl _ _ _ _ a cap _ _ _ _ _=>exact⟨a,cap,rfl⟩
 obtain⟨a,cap,e0⟩:=e0
 have e1:vs.getD 1 undef=.func (.func gc) #[] #[]:=by
  generalize vs.getD 1 undef=x at a1
  cases a1 with
  | d _ _ h=>cases h with|fn _ _ us hs hg=>simp at hs;simp[hs]
 rw[e0,e1]at hvs
 subst hvs
 refine(hnone a cap w).mono ?_
 rintro e' w' ⟨rfl,rfl⟩
 exact⟨_,E,rfl,Kq.refl _ _,fun _ _=>⟨rfl,rfl⟩,hS,fun _ h=>Or.inl h,fun _ h=>Or.inl h,fun _ h=>h,.tup _ _ rfl (fun j hj=>by simp at hj)⟩
end
section
open Go.RowKit Go.Shelf Go.Sort
theorem cells_K(W:World)(Im:Nat→Prop)(x y:Cel)(vx vy:List Value)(hIm:∀b,Im b→b<W.heap.size)(bx:IsB x.key∧fQ x.pol x.key)(by':IsB y.key∧fQ y.pol y.key)(hx:Tl W Im (Cel.D x) vx)(hy:Tl W Im (Cel.D y) vy) :
  Calls Tryz.prog 51 #[.agg vx.toArray,.agg vy.toArray] W fun e' w'=>e'=.returned (.int .i64 (jq x y))∧∃q os,w'=grow (W.drewN q) os:=by
 have get:∀(c:Cel) (vs:List Value),Tl W Im (Cel.D c) vs→∃k h,vs=[.int .i64 c.pol,k,.int .i64 c.tat,h]∧eX .u8 Im W k c.key:=fun c vs h=>by
  obtain⟨x1,x2,x3⟩:=h
  obtain⟨u0,hu0,ru0⟩:=x3 0 (by simp[Cel.D])
  obtain⟨u1,hu1,ru1⟩:=x3 1 (by simp[Cel.D])
  obtain⟨u2,hu2,ru2⟩:=x3 2 (by simp[Cel.D])
  match vs,x1 with
  | [a,b,d,e],_ =>
   simp at hu0 hu1 hu2
   subst hu0 hu1 hu2
   have e0:a=.int .i64 c.pol:=by cases ru0;rfl
   have e2:d=.int .i64 c.tat:=by cases ru2;rfl
   subst e0 e2
   exact⟨b,e,rfl,ints_of ru1⟩
  | [],h=>simp[Cel.D]at h
  | [_],h=>simp[Cel.D]at h
  | [_,_],h=>simp[Cel.D]at h
  | [_,_,_],h=>simp[Cel.D]at h
  | _::_::_::_::_::_,h=>simp[Cel.D]at h
 obtain⟨k1,h1,rfl,i1⟩:=get x vx hx
 obtain⟨k2,h2,rfl,i2⟩:=get y vy hy
 refine(oC x y k1 h1 k2 h2 W bx.1 bx.2 by'.1 by'.2 i1 i2).mono ?_
 rintro e w' ⟨rfl,hk⟩
 exact⟨rfl,hk.grow⟩
end
end Go.Proofs.YtlkccdlgnpkjpaaGreat
namespace Go.Proofs
open Go.Shelf
def Tryz.sort50_ren:Go.Shelf.Ren:=⟨fun|6=>50|15=>79|14=>78|28=>113|29=>114|20=>105|21=>106|22=>107|23=>108|24=>109|25=>110|26=>111|27=>112|46=>145|47=>146|48=>147|49=>148|50=>149|57=>179|n=>n,fun|22=>34|24=>89|25=>132|3=>3|39=>55|0=>0|53=>208|55=>60|4=>4|46=>202|45=>201|50=>137|5=>5|9=>9|66=>230|70=>234|76=>250|77=>251|n=>n,fun|n=>n⟩
theorem Tryz.sort50:Go.Proofs.SlLaysF0.n6 Tryz.prog Tryz.sort50_ren:={
 mixed:=by kernel_rfl
 f6:=⟨Tryz.f50.name,by decide,Tryz.func50.trans (congrArg some (by kernel_rfl))⟩
 f14:=⟨Tryz.f78.name,by decide,Tryz.func78.trans (congrArg some (by kernel_rfl))⟩
 f15:=Tryz.func79.trans (congrArg some (by kernel_rfl))
 f20:=⟨Tryz.f105.name,by decide,Tryz.func105.trans (congrArg some (by kernel_rfl))⟩
 f21:=⟨Tryz.f106.name,by decide,Tryz.func106.trans (congrArg some (by kernel_rfl))⟩
 f22:=⟨Tryz.f107.name,by decide,Tryz.func107.trans (congrArg some (by kernel_rfl))⟩
 f23:=⟨Tryz.f108.name,by decide,Tryz.func108.trans (congrArg some (by kernel_rfl))⟩
 f24:=⟨Tryz.f109.name,by decide,Tryz.func109.trans (congrArg some (by kernel_rfl))⟩
 f25:=⟨Tryz.f110.name,by decide,Tryz.func110.trans (congrArg some (by kernel_rfl))⟩
 f26:=⟨Tryz.f111.name,by decide,Tryz.func111.trans (congrArg some (by kernel_rfl))⟩
 f27:=⟨Tryz.f112.name,by decide,Tryz.func112.trans (congrArg some (by kernel_rfl))⟩
 f28:=Tryz.func113.trans (congrArg some (by kernel_rfl))
 f29:=Tryz.func114.trans (congrArg some (by kernel_rfl))
 f46:=⟨Tryz.f145.name,by decide,Tryz.func145.trans (congrArg some (by kernel_rfl))⟩
 f47:=Tryz.func146.trans (congrArg some (by kernel_rfl))
 f48:=Tryz.func147.trans (congrArg some (by kernel_rfl))
 f49:=⟨Tryz.f148.name,by decide,Tryz.func148.trans (congrArg some (by kernel_rfl))⟩
 f50:=⟨Tryz.f149.name,by decide,Tryz.func149.trans (congrArg some (by kernel_rfl))⟩
 f57:=⟨Tryz.f179.name,by decide,Tryz.func179.trans (congrArg some (by kernel_rfl))⟩
 t0:=Tryz.underlying0
 a0:=Tryz.isAgg0
 z0:=Tryz.sizeOf0
 v0:=Tryz.zeroValue0
 t3:=Tryz.underlying3
 a3:=Tryz.isAgg3
 z3:=Tryz.sizeOf3
 v3:=Tryz.zeroValue3
 t4:=Tryz.underlying4
 a4:=Tryz.isAgg4
 z4:=Tryz.sizeOf4
 v4:=Tryz.zeroValue4
 t5:=Tryz.underlying5
 a5:=Tryz.isAgg5
 z5:=Tryz.sizeOf5
 v5:=Tryz.zeroValue5
 t9:=Tryz.underlying9
 a9:=Tryz.isAgg9
 z9:=Tryz.sizeOf9
 v9:=Tryz.zeroValue9
 t22:=Tryz.underlying34
 a22:=Tryz.isAgg34
 z22:=Tryz.sizeOf34
 v22:=Tryz.zeroValue34
 t25:=Tryz.underlying132
 a25:=Tryz.isAgg132
 z25:=Tryz.sizeOf132
 v25:=Tryz.zeroValue132
 t39:=Tryz.underlying55
 a39:=Tryz.isAgg55
 z39:=Tryz.sizeOf55
 v39:=Tryz.zeroValue55
 t45:=Tryz.underlying201
 a45:=Tryz.isAgg201
 z45:=Tryz.sizeOf201
 v45:=Tryz.zeroValue201
 t46:=Tryz.underlying202
 a46:=Tryz.isAgg202
 z46:=Tryz.sizeOf202
 v46:=Tryz.zeroValue202
 t50:=Tryz.underlying137
 a50:=Tryz.isAgg137
 z50:=Tryz.sizeOf137
 v50:=Tryz.zeroValue137
 t53:=Tryz.underlying208
 a53:=Tryz.isAgg208
 z53:=Tryz.sizeOf208
 v53:=Tryz.zeroValue208
 t55:=Tryz.underlying60
 a55:=Tryz.isAgg60
 z55:=Tryz.sizeOf60
 v55:=Tryz.zeroValue60
 t66:=Tryz.underlying230
 a66:=Tryz.isAgg230
 z66:=Tryz.sizeOf230
 v66:=Tryz.zeroValue230
 t70:=Tryz.underlying234
 a70:=Tryz.isAgg234
 z70:=Tryz.sizeOf234
 v70:=Tryz.zeroValue234
 t76:=Tryz.underlying250
 a76:=Tryz.isAgg250
 z76:=Tryz.sizeOf250
 v76:=Tryz.zeroValue250
 t77:=Tryz.underlying251
 a77:=Tryz.isAgg251
 z77:=Tryz.sizeOf251
 v77:=Tryz.zeroValue251 }
end Go.Proofs
namespace Go.Proofs.YtlkccdlgnpkjpaaGreat
open Go.RowKit
namespace Core
def lts(a b:Cel):Prop:=be (idn a) (idn b)<0
def insC(e:Cel):List Cel→List Cel
 | []=>[e]
 | x::r=>if be (idn e) (idn x)<0 then e::x::r else x::insC e r
def sortC(l:List Cel):List Cel:=l.foldr insC []
theorem iS(e:Cel):∀l,(insC e l).Perm (e::l)
 | []=>.refl _
 | x::r=>by
  unfold insC;split
  ·exact .refl _
  ·exact((iS e r).cons x).trans (.swap e x r)
theorem sortC_perm:∀l,(sortC l).Perm l
 | []=>.refl _
 | x::r=>(iS x _).trans ((sortC_perm r).cons x)
theorem cmp_eq:∀{a b:List Int},be a b=0→a=b
 | [],[],_=>rfl
 | [],_::_,h=>by simp[be]at h
 | _::_,[],h=>by simp[be]at h
 | x::a,y::b,h=>by
  simp only[be]at h
  split at h
  ·cases h
  ·split at h
   ·cases h
   ·have:x=y:=by omega
    rw[this,cmp_eq h]
theorem cmp_sw:∀a b:List Int,be b a=- be a b
 | [],[]=>rfl
 | [],_::_=>rfl
 | _::_,[]=>rfl
 | x::a,y::b=>by
  simp only[be]
  by_cases h1:x<y
  ·rw[if_pos h1,if_neg (by omega),if_pos h1];rfl
  ·by_cases h2:y<x
   ·rw[if_pos h2,if_neg h1,if_pos h2]
   ·rw[if_neg h1,if_neg h2,if_neg h2,if_neg h1];exact cmp_sw a b
theorem cmp_tr:∀{a b c:List Int},be a b<0→be b c<0→be a c<0
 | [],[],_,h,_=>by simp[be]at h
 | [],_::_,[],_,h=>by simp[be]at h
 | [],_::_,_::_,_,_=>by simp[be]
 | _::_,[],_,h,_=>by simp[be]at h
 | _::_,_::_,[],_,h=>by simp[be]at h
 | x :: a,y::b,z::c,h1,h2=>by
  simp only[be]at h1 h2⊢
  by_cases e1:x<y
  ·by_cases e2:y<z
   ·rw[if_pos (by omega)];omega
   ·by_cases e3:z<y
    ·rw[if_neg e2,if_pos e3]at h2;omega
    ·rw[if_pos (by omega)];omega
  ·by_cases e4:y<x
   ·rw[if_neg e1,if_pos e4]at h1;omega
   ·rw[if_neg e1,if_neg e4]at h1
    by_cases e2:y<z
    ·rw[if_pos (by omega)];omega
    ·by_cases e3:z<y
     ·rw[if_neg e2,if_pos e3]at h2;omega
     ·rw[if_neg e2,if_neg e3]at h2
      rw[if_neg (by omega),if_neg (by omega)];exact cmp_tr h1 h2
theorem lts_of{a b:Cel}(h:idn a≠idn b)(hn:¬lts a b):lts b a:=by
 unfold lts at *
 have:=cmp_sw (idn a) (idn b)
 have h0:be (idn a) (idn b)≠0:=fun e=>h (cmp_eq e)
 omega
theorem pp{e:Cel}:∀{l:List Cel},l.Pairwise lts→(∀x∈l,idn x≠idn e)→(insC e l).Pairwise lts
 | [],_,_=>List.pairwise_singleton _ _
 | x::r,h,hk=>by
  obtain⟨h1,h2⟩:=List.pairwise_cons.1 h
  unfold insC;split
  ·rename_i hlt
   refine List.pairwise_cons.2 ⟨fun y hy=>?_,h⟩
   rcases Q22 hy with rfl|hy
   ·exact hlt
   ·exact cmp_tr hlt (h1 y hy)
  ·rename_i hlt
   refine List.pairwise_cons.2 ⟨fun y hy=>?_,pp h2 fun z hz=>hk z (by simp[hz])⟩
   rcases Q22 ((iS e r).mem_iff.1 hy)with rfl|hy
   ·exact lts_of (hk x (by simp)).symm hlt
   ·exact h1 y hy
theorem sortC_srt:∀{l:List Cel},l.Pairwise (fun a b=>idn a≠idn b)→(sortC l).Pairwise lts
 | [],_=>.nil
 | x::r,h=>by
  obtain⟨h1,h2⟩:=List.pairwise_cons.1 h
  exact pp (sortC_srt h2) fun y hy=>(h1 y ((sortC_perm r).mem_iff.1 hy)).symm
theorem oJ:∀{xs ys:List Cel},xs.Pairwise lts→ys.Pairwise lts→xs.Perm ys→xs=ys
 | [],ys,_,_,hp=>by rw[List.nil_perm.1 hp]
 | x::xs,[],_,_,hp=>by have:=hp.length_eq;simp at this
 | x :: xs,y::ys,h1,h2,hp=>by
  obtain⟨a1,a2⟩:=List.pairwise_cons.1 h1
  obtain⟨b1,b2⟩:=List.pairwise_cons.1 h2
  have e:x=y:=by
   rcases Q22 (hp.mem_iff.1 (List.mem_cons_self ..))with e|hx
   ·exact e
   ·rcases Q22 (hp.mem_iff.2 (List.mem_cons_self ..))with e|hy
    ·exact e.symm
    ·have g1:=a1 y hy
     have g2:=b1 x hx
     have g3:be (idn x) (idn x)<0:=cmp_tr g1 g2
     rw[aU]at g3;omega
  subst e
  rw[oJ a2 b2 (List.perm_cons _ |>.1 hp)]
theorem sort_done{xs zs:List Cel}(hd:xs.Pairwise (fun a b=>idn a≠idn b))(hp:zs.Perm xs)(hs:zs.Pairwise lts):zs=sortC xs :=
 oJ hs (sortC_srt hd) (hp.trans (sortC_perm xs).symm)
end Core
end Go.Proofs.YtlkccdlgnpkjpaaGreat
