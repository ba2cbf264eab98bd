/- Lemmas of Bk14, Bk15, Bk16, Bk17, Br1, Br2, Br3a, Dp1, Dp2, Dp3, Dp4, Cp1, Cp2. No condition. -/
import Derived.Test.YtlkccdlgnpkjpaaGreatMO6
import Derived.Deep.Slices
import Derived.ReadAgain
import Derived.ChangeSame
import Derived.ProofKit
import Derived.OpenShut
import Derived.JoinedCond
import Derived.WideWitness
import Derived.Test.YtlkccdlgnpkjpaaGreatRows
set_option linter.unusedVariables false
set_option linter.unusedSimpArgs false
set_option linter.unusedSectionVars false
set_option maxHeartbeats 80000000
set_option maxRecDepth 100000
namespace Go.Proofs.YtlkccdlgnpkjpaaGreat
open Go.RowKit
@[reducible] def evH(ps:List Pol)(room now:Int)(k n:Nat)(xs:List Cel):List (Nat×Option Blk) :=
 [(0,some (.row 89 4 n fun i=>(xs.getD i default).D)),(1,some (.cells [.d (am 4 Pol.D ps),.i .i64 room,.sl 0 4 0 k])),(2,some (.cells [.ptr 1 0])),(3,some (.cells [.i .i64 now]))]
theorem uf(ps:List Pol)(room now:Int)(k n:Nat)(xs:List Cel)(c:Cel)(h0:0≤c.pol)(h1:c.pol<ps.length) :
  Fun TC 26 4 [c.S,.ptr 2 0,.ptr 3 0] (evH ps room now k n xs) 4 (.b (aH ps c now)) (evH ps room now k n xs):=by
 refine Fun.mk' Tryz.func26 rfl rfl zN (by decide) ?_
 (repeat' (first|((first|refine Wp.any ac rfl ?_|(with_reducible first|refine Go.mk ?_|apply ai.of)|refine zV ?_|with_reducible refine ag.pure (nA ps c now h0 h1) rfl rfl ?_);conv=>whnf)))
 refine af.of [0,1,2,3] rfl (fun i hi=>by have:i=0∨i=1∨i=2∨i=3:=(by omega);rcases this with h|h|h|h<;>subst h<;>rfl) rfl ?_ ?_
 ·exact .rfl _
 ·((conv=>whnf);repeat' (first|exact zB9|((with_reducible refine And.intro ?_ ?_)<;>(conv=>whnf))))
def fst(p:Cel→Bool):List Cel→Nat
 | []=>0
 | c::r=>if p c=true then 0 else fst p r+1
theorem te(p:Cel→Bool):∀xs:List Cel,fst p xs≤xs.length
 | []=>Q4 _
 | c::r=>by unfold fst;split<;>simp[te p r]
theorem fq(p:Cel→Bool):∀(xs:List Cel) (k:Nat),k≤xs.length→(∀j,j<k→p (xs.getD j default)=false)→fst p xs=k+fst p (xs.drop k)
 | xs,0,_,_=>by simp
 | [],k+1,h,_=>by simp at h
 | c::r,k+1,h,hp=>by
  have h0:=hp 0 (by omega)
  rw[fst,if_neg (by simpa using h0),List.drop_succ_cons,fq p r k (by simpa using h) (fun j hj=>by simpa using hp (j+1) (by omega))]
  omega
theorem px(p:Cel→Bool):∀(xs:List Cel) (j:Nat),j<fst p xs→p (xs.getD j default)=false
 | [],j,h=>by simp[fst]at h
 | c::r,j,h=>by
  unfold fst at h
  split at h
  ·omega
  ·cases j with
   | zero=>simpa using(by assumption:¬p c=true)
   | succ j=>simpa using px p r j (by omega)
theorem oj(p:Cel→Bool):∀(xs:List Cel),fst p xs<xs.length→p (xs.getD (fst p xs) default)=true
 | [],h=>by simp at h
 | c::r,h=>by
  unfold fst at h⊢
  split
  ·simpa
  ·rename_i hc;rw[if_neg hc]at h;simpa using oj p r (by simpa using h)
theorem gN(p:Cel→Bool)(xs:List Cel):∀k,k≤fst p xs→(xs.take k).filter (fun c=>!p c)=xs.take k:=by
 intro k hk
 rw[List.filter_eq_self]
 intro c hc
 obtain⟨j,hj,rfl⟩:=List.getElem_of_mem hc
 simp at hj
 have:=px p xs j (by omega)
 rw[Q1,Q0 (by omega)]at this
 simpa using this
theorem mh(ps:List Pol)(room now:Int)(k:Nat)(xs:List Cel)(hp:∀j,j<xs.length→0≤(xs.getD j default).pol∧(xs.getD j default).pol<ps.length)(hlen:xs.length≤4611686018427387903) :
  Fun TC 55 4 [.sl 0 4 0 xs.length,.fn (.func 26) [.ptr 2 0,.ptr 3 0]] (evH ps room now k xs.length xs) 4 (.i .i64 (if fst (fun c=>aH ps c now) xs<xs.length then fst (fun c=>aH ps c now) xs else -1)) (evH ps room now k xs.length xs):=by
 refine Fun.mk' Tryz.func55 rfl rfl zN (by decide) ?_
 (repeat' (first|((first|refine Wp.any ac rfl ?_|(with_reducible first|refine Go.mk ?_|apply ai.of));conv=>whnf)))
 refine Wp.loopP (ι:=Nat) (fun i=>i≤xs.length∧∀j,j<i→aH ps (xs.getD j default) now=false) (fun i=>⟨⟨Tryz.f55.ntmps,4⟩,4,[(0,.sl 0 4 0 xs.length),(1,.fn (.func 26) [.ptr 2 0,.ptr 3 0]),(7,.i .i64 xs.length),(8,.i .i64 i)],evH ps room now k xs.length xs⟩) (fun i=>xs.length-i) 0 ⟨by simp,by simp⟩ ?_ ?_
 ·(refine Le.by [0,1,2,3] rfl rfl rfl rfl ?_ ?_<;>(conv=>whnf)<;>(repeat' (first|exact trivial|exact ae.rfl rfl|exact ae.ptr rfl|exact ae.sl rfl|((with_reducible refine ae.fn ?_);(conv=>whnf))|exact⟨rfl,rfl,rfl⟩|exact fun i hi=>rfl|((with_reducible refine And.intro ?_ ?_)<;>(conv=>whnf)))))
 ·rintro i ⟨h1,h2⟩
  (repeat' (first|((first|refine Wp.any ac rfl ?_|(with_reducible first|refine Go.mk ?_|apply ai.of|refine Ov.ok zO ?_|refine And.intro zC ?_));conv=>whnf)|((refine ab.fn (uf ps room now k xs.length xs (xs.getD (0+(i:Int).toNat) default) (hp _ (by omega)).1 (hp _ (by omega)).2) [0,1,2,3] rfl rfl rfl rfl rfl ?ha ?hh ?_);(case ha=>exact zA);(case hh=>exact zH);(conv=>whnf))|((refine aq (fun hc=>?_) (fun hc=>?_))<;>(try simp only[wz9]at hc)<;>(try (exfalso;omega))<;>(conv=>whnf))))
  ·simp only[Q13,Q19]at hc
   have hf:fst (fun c=>aH ps c now) xs=i:=by
    rw[fq _ xs i h1 h2,dS (by omega),fst,if_pos hc];rfl
   refine af.of [0,1,2,3] rfl (fun i hi=>by have:i=0∨i=1∨i=2∨i=3:=(by omega);rcases this with h|h|h|h<;>subst h<;>rfl) rfl ?_ ?_
   ·exact .i (by rw[hf,if_pos (by omega)])
   ·((conv=>whnf);repeat' (first|exact zB9|((with_reducible refine And.intro ?_ ?_)<;>(conv=>whnf))))
  ·simp only[Q13,Q19]at hc
   refine⟨i+1,⟨by omega,fun j hj=>?_⟩,by dsimp only;omega,?_⟩
   ·by_cases e:j=i
    ·subst e;exact hc
    ·exact h2 j (by omega)
   ·(refine Le.by [0,1,2,3] rfl rfl rfl rfl ?_ ?_<;>(conv=>whnf)<;>(repeat' (first|exact trivial|exact ae.rfl rfl|exact ae.ptr rfl|exact ae.sl rfl|((with_reducible refine ae.fn ?_);(conv=>whnf))|exact⟨rfl,rfl,rfl⟩|exact fun i hi=>rfl|((with_reducible refine And.intro ?_ ?_)<;>(conv=>whnf)))))
  ·have hf:fst (fun c=>aH ps c now) xs=xs.length:=by
    rw[fq _ xs i h1 h2,List.drop_eq_nil_of_le (by omega),fst];omega
   refine af.of [0,1,2,3] rfl (fun i hi=>by have:i=0∨i=1∨i=2∨i=3:=(by omega);rcases this with h|h|h|h<;>subst h<;>rfl) rfl ?_ ?_
   ·exact .i (by rw[hf,if_neg (by omega)])
   ·((conv=>whnf);repeat' (first|exact zB9|((with_reducible refine And.intro ?_ ?_)<;>(conv=>whnf))))
def dd(ps:List Pol)(now:Int)(xs:List Cel):List Cel:=xs.filter fun c=>!aH ps c now
theorem aI{xs:List Cel}{k:Nat}(h:k<xs.length):xs.take (k+1)=xs.take k++[xs.getD k default]:=by
 rw[List.take_add_one,Q0 h];simp[List.getD,Q0 h]
theorem jH(ps:List Pol)(room now:Int)(xs:List Cel)(hp:∀j,j<xs.length→0≤(xs.getD j default).pol∧(xs.getD j default).pol<ps.length)(hlen:xs.length≤4611686018427387903) :
  Fun TC 25 4 [.sl 0 4 0 xs.length,.fn (.func 26) [.ptr 2 0,.ptr 3 0]] (evH ps room now xs.length xs.length xs) 4 (.sl 0 4 0 (dd ps now xs).length) (evH ps room now xs.length (dd ps now xs).length (dd ps now xs)):=by
 refine Fun.mk' Tryz.func25 rfl rfl zN (by decide) ?_
 have hfl:=te (fun c=>aH ps c now) xs
 (repeat' (first|((first|refine Wp.any ac rfl ?_|(with_reducible first|refine Go.mk ?_|apply ai.of|refine Ov.ok zO ?_));conv=>whnf)|((refine ab.fn (mh ps room now xs.length xs hp hlen) [0,1,2,3] rfl rfl rfl rfl rfl ?ha ?hh ?_);(case ha=>exact zA);(case hh=>exact zH);(conv=>whnf))|((refine aq (fun hc=>?_) (fun hc=>?_))<;>(try simp only[wz9]at hc)<;>(try (exfalso;omega))<;>(conv=>whnf))))
 ·have hf:fst (fun c=>aH ps c now) xs=xs.length:=by
   by_cases h:fst (fun c=>aH ps c now) xs<xs.length
   ·rw[if_pos h]at hc;omega
   ·omega
  have hst:dd ps now xs=xs:=by
   have:=gN (fun c=>aH ps c now) xs xs.length (by omega)
   rw[List.take_length]at this;exact this
  rw[hst]
  refine af.of [0,1,2,3] rfl (fun i hi=>by have:i=0∨i=1∨i=2∨i=3:=(by omega);rcases this with h|h|h|h<;>subst h<;>rfl) rfl ?_ ?_
  ·exact .rfl _
  ·((conv=>whnf);repeat' (first|exact zB9|((with_reducible refine And.intro ?_ ?_)<;>(conv=>whnf))))
 ·have hlt:fst (fun c=>aH ps c now) xs<xs.length:=by
   by_cases h:fst (fun c=>aH ps c now) xs<xs.length
   ·exact h
   ·rw[if_neg h]at hc;exact absurd rfl hc
  rw[if_pos hlt]
  have h0:dd ps now (xs.take (fst (fun c=>aH ps c now) xs+1))=xs.take (fst (fun c=>aH ps c now) xs):=by
   rw[aI hlt,dd,List.filter_append,gN (fun c=>aH ps c now) xs _ (Q4 _)]
   have:=oj (fun c=>aH ps c now) xs hlt
   simp only[List.filter_cons,List.filter_nil]
   rw[if_neg (by simpa using this),List.append_nil]
  generalize fst (fun c=>aH ps c now) xs=q at *
  refine Wp.loopP (ι:=Nat×Nat×List Cel) (fun k=>k.1<k.2.1∧k.2.1≤xs.length∧k.2.2.length=xs.length∧k.2.2.take k.1=dd ps now (xs.take k.2.1)∧∀j,k.2.1≤j→k.2.2.getD j default=xs.getD j default) (fun k=>⟨⟨Tryz.f25.ntmps,4⟩,4,[(0,.sl 0 4 0 xs.length),(1,.fn (.func 26) [.ptr 2 0,.ptr 3 0]),(5,.i .i64 k.1),(6,.i .i64 k.2.1)],evH ps room now xs.length xs.length k.2.2⟩) (fun k=>xs.length-k.2.1) (q,q+1,xs) ⟨by simp,hlt,rfl,h0.symm,fun _ _=>rfl⟩ ?_ ?_
  ·(refine Le.by [0,1,2,3] rfl rfl rfl rfl ?_ ?_<;>(conv=>whnf)<;>(repeat' (first|exact trivial|exact ae.rfl rfl|exact ae.ptr rfl|exact ae.sl rfl|((with_reducible refine ae.fn ?_);(conv=>whnf))|exact⟨rfl,rfl,rfl⟩|exact fun i hi=>rfl|((with_reducible refine And.intro ?_ ?_)<;>(conv=>whnf)))))
  ·rintro⟨i,j,zs⟩ ⟨h1,h2,h3,h4,h5⟩
   dsimp only at h1 h2 h3 h4 h5⊢
   have hpz:∀m,j≤m→m<xs.length→0≤(zs.getD m default).pol∧(zs.getD m default).pol<ps.length:=fun m hm hm2=>by rw[h5 m hm];exact hp m hm2
   (repeat' (first|((first|refine Wp.any ac rfl ?_|(with_reducible first|refine Go.mk ?_|apply ai.of|refine Ov.ok zO ?_|refine And.intro zC ?_));conv=>whnf)|((refine ab.fn (uf ps room now xs.length xs.length zs (zs.getD (0+(j:Int).toNat) default) (hpz _ (by omega) (by omega)).1 (hpz _ (by omega) (by omega)).2) [0,1,2,3] rfl rfl rfl rfl rfl ?ha ?hh ?_);(case ha=>exact zA);(case hh=>exact zH);(conv=>whnf))|((refine aq (fun hc=>?_) (fun hc=>?_))<;>(try simp only[wz9]at hc)<;>(try (exfalso;omega))<;>(conv=>whnf))))
   all_goals simp only[Q13,Q19]at *
   ·rename_i hj hc0
    have hx:aH ps (xs.getD j default) now=false:=by rw[← h5 j (Q4 _)];exact hc
    have hg:∀m,(zs.set i (zs.getD j default)).getD m default=if i=m then zs.getD j default else zs.getD m default:=fun m=>by
     simp only[Q1,List.getElem?_set]
     by_cases e:i=m
     ·subst e;rw[if_pos rfl,if_pos (by omega),if_pos rfl];rfl
     ·rw[if_neg e,if_neg e]
    refine⟨(i+1,j+1,zs.set i (zs.getD j default)),⟨by dsimp only;omega,by dsimp only;omega,by simpa using h3,?_,fun m hm=>?_⟩,by dsimp only;omega,?_⟩
    ·dsimp only
     rw[aI (by rw[List.length_set];omega),List.take_set_of_le (Q4 _),h4,hg,if_pos rfl,aI (xs:=xs) (by omega),dd,dd,List.filter_append,h5 j (Q4 _)]
     congr 1
     simp only[List.filter_cons,List.filter_nil]
     rw[if_pos (by rw[hx];rfl)]
    ·dsimp only at hm⊢
     rw[hg,if_neg (by omega)];exact h5 m (by omega)
    ·(refine Le.by [0,1,2,3] rfl rfl rfl rfl ?_ ?_<;>(conv=>whnf)<;>(repeat' (first|exact trivial|exact ae.rfl rfl|exact ae.ptr rfl|exact ae.sl rfl|((with_reducible refine ae.fn ?_);(conv=>whnf))|exact⟨rfl,rfl,rfl⟩|((with_reducible refine And.intro ?_ ?_)<;>(conv=>whnf)))))
     intro m hm
     dsimp only
     rw[hg]
     by_cases e:i=m
     ·subst e;simp;rfl
     ·rw[if_neg e,if_neg (fun h=>e (by omega))]
   ·rename_i hj hc0
    have hx:aH ps (xs.getD j default) now=true:=by rw[← h5 j (Q4 _)];exact hc
    refine⟨(i,j+1,zs),⟨by dsimp only;omega,by dsimp only;omega,h3,?_,fun m hm=>?_⟩,by dsimp only;omega,?_⟩
    ·dsimp only
     rw[h4,aI (xs:=xs) (by omega),dd,dd,List.filter_append]
     simp only[List.filter_cons,List.filter_nil]
     rw[if_neg (by rw[hx];simp),List.append_nil]
    ·exact h5 m (by dsimp only at hm;omega)
    ·(refine Le.by [0,1,2,3] rfl rfl rfl rfl ?_ ?_<;>(conv=>whnf)<;>(repeat' (first|exact trivial|exact ae.rfl rfl|exact ae.ptr rfl|exact ae.sl rfl|((with_reducible refine ae.fn ?_);(conv=>whnf))|exact⟨rfl,rfl,rfl⟩|exact fun i hi=>rfl|((with_reducible refine And.intro ?_ ?_)<;>(conv=>whnf)))))
   ·have hj:j=xs.length:=by omega
    subst hj
    rw[List.take_length]at h4
    have hl:(dd ps now xs).length=i:=by rw[← h4,Q10,h3];omega
    refine af.of [0,1,2,3] rfl (fun i hi=>by have:i=0∨i=1∨i=2∨i=3:=(by omega);rcases this with h|h|h|h<;>subst h<;>rfl) rfl ?_ ?_
    ·exact .of_eq (by rw[hl];simp)
    ·((conv=>whnf);repeat' (first|exact zB9|((with_reducible refine And.intro ?_ ?_)<;>(conv=>whnf))))
     ·exact hl.symm
     ·intro m hm
      dsimp only
      rw[← h4]
      simp only[Q1,Q15]
      rw[if_pos (by omega)]
theorem cT{ps:List Pol}(h:cr ps=0):ps.length≤32:=by
 unfold cr at h
 split at h<;>omega
def un(ps:List Pol)(cells:Int):Int:=if cells<1∨4096<cells then 1 else cr ps
theorem pT(ps:List Pol)(cells:Int)(h:un ps cells=0):Fun TC 7 0 [.d (am 4 Pol.D ps),.i .i64 cells] [] 2 (.tup [.ptr 0 0,.i .i64 0]) (qR ps cells []):=by
 have hc1:1≤cells∧cells≤4096:=by
  unfold un at h
  split at h
  ·omega
  ·omega
 have hp:cr ps=0:=by
  unfold un at h
  split at h
  ·omega
  ·exact h
 have hl:=cT hp
 refine Fun.mk' Tryz.func7 rfl rfl zN (by decide) ?_
 (repeat' (first|((first|refine Wp.any ac rfl ?_|(with_reducible first|refine Go.mk ?_|apply ai.of|refine ab.pure (dy _) rfl rfl ?_|refine ab.pure (jY ps (by omega)) rfl rfl ?_));conv=>whnf)|((refine aq (fun hc=>?_) (fun hc=>?_))<;>(try simp only[wz9]at hc)<;>(try (exfalso;omega))<;>(conv=>whnf))))
 all_goals try (exfalso;omega)
 refine af.virtC 0 2 89 4 (fun _=>[]) (by decide) rfl rfl (by decide) ?_
 refine af.of [0,1] rfl (fun i hi=>by omega) rfl ?_ ?_
 ·exact .rfl _
 ·((conv=>whnf);repeat' (first|exact zB9|((with_reducible refine And.intro ?_ ?_)<;>(conv=>whnf))))
  exact fun i hi=>absurd hi (Nat.not_lt_zero _)
theorem tW(xs:List Cel)(hlen:xs.length≤1000000)(hk:∀k,(xs.getD k default).key.length≤16777216∧(xs.getD k default).held.length≤16777216):Pure TC 36 [.d (am 4 Cel.D xs)] (.d (am 4 Cel.D xs)):=by
 refine Pure.mk' Tryz.func36 rfl rfl zN ?_
 (repeat' (first|((first|refine Wp.any ac rfl ?_|(with_reducible first|refine Go.mk ?_|apply ai.of));conv=>whnf)))
 refine Wp.le (Le.virt 3 89 4 (fun i=>(xs.getD i default).D) (by decide) rfl) ?_
 refine Wp.loopP (ι:=Nat) (fun i=>i≤xs.length) (fun i=>⟨⟨Tryz.f36.ntmps,0⟩,1,[(3,.sl 0 4 0 i),(6,.d (am 4 Cel.D xs)),(7,.i .i64 xs.length),(8,.i .i64 i)],[(0,some (.row 89 4 i fun i=>(xs.getD i default).D))]⟩) (fun i=>xs.length-i) 0 (by simp) ?_ ?_
 ·(refine Le.by [0] rfl rfl rfl rfl ?_ ?_<;>(conv=>whnf)<;>(repeat' (first|exact trivial|exact ae.rfl rfl|exact ae.sl rfl|exact⟨rfl,rfl,rfl⟩|exact fun i hi=>rfl|((with_reducible refine And.intro ?_ ?_)<;>(conv=>whnf)))))
 ·rintro i h1
  (repeat' (first|((first|refine Wp.any ac rfl ?_|(with_reducible first|refine Go.mk ?_|apply ai.of));conv=>whnf)|with_reducible exact rfl|((first|with_reducible refine Ov.ok zO ?_|refine zV ?_|with_reducible refine And.intro zC ?_);conv=>whnf)|((refine fP.b rfl rfl rfl rfl rfl rfl rfl rfl ?hb ?ho ?_);(case hb=>exact zB);(case ho=>omega);(conv=>whnf))|(with_reducible refine Or.inl ?_)|((with_reducible first|refine ag.pure (au _ (hk _).1) rfl rfl ?_|refine ag.pure (kg _ (hk _).2) rfl rfl ?_);conv=>whnf)|((refine aq (fun hc=>?_) (fun hc=>?_))<;>(try simp only[wz9]at hc)<;>(try (exfalso;omega))<;>(conv=>whnf))))
  ·refine⟨i+1,by dsimp only;omega,by dsimp only;omega,?_⟩
   (refine Le.by [15] rfl rfl rfl rfl ?_ ?_<;>(conv=>whnf)<;>(repeat' (first|exact trivial|exact ae.rfl rfl|exact ae.sl rfl|exact⟨rfl,rfl,rfl⟩|((with_reducible refine And.intro ?_ ?_)<;>(conv=>whnf)))))
   intro k hk
   simp only[bu]
   by_cases e:k<i
   ·rw[if_pos e]
   ·rw[if_neg e]
    obtain rfl:k=i:=by omega
    rw[Q13,Nat.sub_self]
    rfl
  ·obtain rfl:i=xs.length:=by omega
   exact SV.Le.sl fun j hj=>by simp only[Q19]
theorem qP(xs:List Cel)(hlen:xs.length≤1000000)(hk:∀k,(xs.getD k default).key.length≤16777216∧(xs.getD k default).held.length≤16777216):Fun TC 36 1 [.sl 0 4 0 xs.length] [(0,some (ay 89 4 Cel.D xs))] 1 (.d (am 4 Cel.D xs)) [(0,some (ay 89 4 Cel.D xs))]:=by
 refine Fun.mk' Tryz.func36 rfl rfl zN (by decide) ?_
 (repeat' (first|((first|refine Wp.any ac rfl ?_|(with_reducible first|refine Go.mk ?_|apply ai.of));conv=>whnf)))
 refine Wp.le (Le.virt 3 89 4 (fun i=>(xs.getD i default).D) (by decide) rfl) ?_
 refine Wp.loopP (ι:=Nat) (fun i=>i≤xs.length) (fun i=>⟨⟨Tryz.f36.ntmps,1⟩,2,[(3,.sl 1 4 0 i),(6,.sl 0 4 0 xs.length),(7,.i .i64 xs.length),(8,.i .i64 i)],[(0,some (ay 89 4 Cel.D xs)),(1,some (.row 89 4 i fun i=>(xs.getD i default).D))]⟩) (fun i=>xs.length-i) 0 (by simp) ?_ ?_
 ·(refine Le.by [0,1] rfl rfl rfl rfl ?_ ?_<;>(conv=>whnf)<;>(repeat' (first|exact trivial|exact ae.rfl rfl|exact ae.sl rfl|exact⟨rfl,rfl,rfl⟩|exact fun i hi=>rfl|((with_reducible refine And.intro ?_ ?_)<;>(conv=>whnf)))))
 ·rintro i h1
  (repeat' (first|((first|refine Wp.any ac rfl ?_|(with_reducible first|refine Go.mk ?_|apply ai.of));conv=>whnf)|with_reducible exact rfl|((first|with_reducible refine Ov.ok zO ?_|refine zV ?_|with_reducible refine And.intro zC ?_);conv=>whnf)|((refine fP.b rfl rfl rfl rfl rfl rfl rfl rfl ?hb ?ho ?_);(case hb=>exact zB);(case ho=>omega);(conv=>whnf))|(with_reducible refine Or.inl ?_)|((with_reducible first|refine ag.pure (au _ (hk _).1) rfl rfl ?_|refine ag.pure (kg _ (hk _).2) rfl rfl ?_);conv=>whnf)|((refine aq (fun hc=>?_) (fun hc=>?_))<;>(try simp only[wz9]at hc)<;>(try (exfalso;omega))<;>(conv=>whnf))))
  ·refine⟨i+1,by dsimp only;omega,by dsimp only;omega,?_⟩
   (refine Le.by [0,16] rfl rfl rfl rfl ?_ ?_<;>(conv=>whnf)<;>(repeat' (first|exact trivial|exact ae.rfl rfl|exact ae.sl rfl|exact⟨rfl,rfl,rfl⟩|exact fun i hi=>rfl|((with_reducible refine And.intro ?_ ?_)<;>(conv=>whnf)))))
   intro k hk
   simp only[bu]
   by_cases e:k<i
   ·rw[if_pos e]
   ·rw[if_neg e]
    obtain rfl:k=i:=by omega
    rw[Q13,Nat.sub_self,Q19]
    rfl
  ·obtain rfl:i=xs.length:=by omega
   refine af.of [0] rfl (fun i hi=>by obtain rfl:i=0:=(by omega);rfl) rfl ?_ ?_
   ·conv=>whnf
    exact⟨by omega,SV.Le.sl fun j hj=>by simp only[Q19]⟩
   ·((conv=>whnf);repeat' (first|exact zB9|((with_reducible refine And.intro ?_ ?_)<;>(conv=>whnf))))
theorem qQ(ps:List Pol)(room:Int)(xs:List Cel)(hlen:xs.length≤1000000)(hk:∀k,(xs.getD k default).key.length≤16777216∧(xs.getD k default).held.length≤16777216) :
  Fun TC 11 2 [.ptr 0 0] (qR ps room xs) 2 (.d (am 4 Cel.D xs)) (qR ps room xs):=by
 refine Fun.mk' Tryz.func11 rfl rfl zN (by decide) ?_
 (repeat' (first|((first|refine Wp.any ac rfl ?_|(with_reducible first|refine Go.mk ?_|apply ai.of));conv=>whnf)|((refine ab.fn (qP xs hlen hk) [1] rfl rfl rfl rfl rfl ?ha ?hh ?_);(case ha=>exact zA);(case hh=>exact zH);(conv=>whnf))))
 refine af.of [0,1] rfl (fun i hi=>by have:i=0∨i=1:=(by omega);rcases this with h|h<;>subst h<;>rfl) rfl ?_ ?_
 ·exact .rfl _
 ·((conv=>whnf);repeat' (first|exact zB9|((with_reducible refine And.intro ?_ ?_)<;>(conv=>whnf))))
def ml(e:Int):Rpl:=⟨e,false,0,0,0,0⟩
def mK(p:Pol)(c:Cel)(op n now serial:Int):Rpl×Cel:=if op=1 then(eG p c now n,gJ p c now n)else if op=2 then(jm p c serial,fR p c serial)else(jo p c n,jp p c n)
def xY(room:Int)(xs:List Cel)(pol:Int)(key:List Int)(z:Bool)(q:Rpl×Cel):Rpl×List Cel :=
 if q.1.g=false∨z=true then(q.1,xs)else if cH xs (newC pol key)=false∧(xs.length:Int)=room then(ml 10,xs)
 else(q.1,bM xs (bo xs (newC pol key)) (cH xs (newC pol key)) q.2)
def doS(ps:List Pol)(room:Int)(xs:List Cel)(op pol:Int)(key:List Int)(n now serial:Int):Rpl×List Cel :=
 if c9 ps op pol key n now serial≠0 then(ml (c9 ps op pol key n now serial),xs)
 else if op=5 then(⟨0,false,(xs.length:Int)-(dd ps now xs).length,0,0,now⟩,dd ps now xs)
 else if op=6 then(ml 0,xs)
 else if op=4 then(iH (ps.getD pol.toNat default) (bL xs pol key) now,xs)
 else xY room xs pol key (decide (op=1∧n=0)) (mK (ps.getD pol.toNat default) (bL xs pol key) op n now serial)
structure nD(ps:List Pol)(xs:List Cel):Prop where
 len:xs.length≤1000000
 byt:∀k,IsB (xs.getD k default).key
 key:∀k,(xs.getD k default).key.length≤255
 held:∀k,(xs.getD k default).held.length≤64
 pol:∀k,k<xs.length→0≤(xs.getD k default).pol∧(xs.getD k default).pol<ps.length
theorem pX{ps:List Pol}{op pol:Int}{key:List Int}{n now serial:Int}(h:c9 ps op pol key n now serial=0):(0≤now∧now≤4611686018427387903)∧1≤op∧op≤6∧cr ps=0∧(op<5→key.length≤255∧0≤pol∧pol<ps.length)∧(op=1→0≤n∧n≤4611686018427387903)∧(op=2→1≤serial∧serial≤4611686018427387903) ∧
  (jC op≠0→(ps.getD pol.toNat default).kind=jC op):=by
 unfold c9 at h
 split at h
 ·omega
 ·rename_i h0
  unfold l7 at h
  split at h
  ·omega
  ·rename_i h1
   split at h
   ·omega
   ·rename_i h2
    split at h
    ·exact absurd h (by assumption)
    ·rename_i h3
     split at h
     ·omega
     ·rename_i h4
      have t0:cq now=true:=by cases h:cq now with|true=>rfl|false=>exact absurd (Or.inl h) h0
      have t1:=(eZ now).1 t0
      have h3:cr ps=0:=Classical.byContradiction h3
      refine⟨t1,by omega,by omega,h3,fun h=>by omega,fun h=>?_,fun h=>by omega,fun h=>?_⟩
      ·refine(eZ n).1 ?_
       cases hq:cq n with|true=>rfl|false=>exact absurd (Or.inr (Or.inr ⟨h,hq⟩)) h1
      ·refine Classical.byContradiction fun hne=>h4 ⟨?_,Or.inr (Or.inr ⟨h,hne⟩)⟩
       unfold jC at h
       split at h
       ·omega
       ·split at h<;>omega
theorem r6{ps:List Pol}(h:cr ps=0):∀k,k<ps.length→lP (ps.getD k default).kind (ps.getD k default).T (ps.getD k default).tau (ps.getD k default).permits=true:=by
 intro k hk
 unfold cr at h
 split at h
 ·omega
 ·split at h
  ·rename_i h2
   rw[Q23]at h2
   refine h2 _ ?_
   rw[Q1,Q0 hk];exact Q14 hk
  ·omega
theorem lh{room:Int}{xs:List Cel}{pol:Int}{key:List Int}{z:Bool}{q:Rpl×Cel}(h:q.1.g=false∨z=true):xY room xs pol key z q=(q.1,xs):=by rw[xY,if_pos h]
theorem iD{room:Int}{xs:List Cel}{pol:Int}{key:List Int}{z:Bool}{q:Rpl×Cel}(h:q.1.g=true)(hz:z=false)(h2:cH xs (newC pol key)=false)(h3:(xs.length:Int)=room):xY room xs pol key z q=(ml 10,xs):=by
 rw[xY,if_neg (by rw[h,hz];simp),if_pos ⟨h2,h3⟩]
theorem fU{room:Int}{xs:List Cel}{pol:Int}{key:List Int}{z:Bool}{q:Rpl×Cel}(h:q.1.g=true)(hz:z=false)(h2:¬(cH xs (newC pol key)=false∧(xs.length:Int)=room)):xY room xs pol key z q=(q.1,bM xs (bo xs (newC pol key)) (cH xs (newC pol key)) q.2):=by
 rw[xY,if_neg (by rw[h,hz];simp),if_neg h2]
theorem kc{p:Pol}{c:Cel}{op n now serial:Int}(h:op=1):mK p c op n now serial=(eG p c now n,gJ p c now n):=by rw[mK,if_pos h]
theorem j9{p:Pol}{c:Cel}{op n now serial:Int}(h:op=2):mK p c op n now serial=(jm p c serial,fR p c serial):=by rw[mK,if_neg (by omega),if_pos h]
theorem mJ{p:Pol}{c:Cel}{op n now serial:Int}(h:op=3):mK p c op n now serial=(jo p c n,jp p c n):=by rw[mK,if_neg (by omega),if_neg (by omega)]
theorem y8{p:Pol}{c:Cel}{n:Int}:(fR p c n).key=c.key:=by unfold fR;split<;>rfl
theorem xP{p:Pol}{c:Cel}{n:Int}:(jp p c n).key=c.key:=by unfold jp;split<;>rfl
theorem book_Do(ps:List Pol)(room:Int)(xs:List Cel)(op pol:Int)(key:List Int)(n now serial:Int)(hb:nD ps xs)(hk:IsB key) :
  Fun TC 9 2 [.ptr 0 0,.agg [.i .u8 op,.i .i64 pol,.d (am 1 (aM .u8) key),.i .i64 n],.i .i64 now,.i .i64 serial] (qR ps room xs) 3 (doS ps room xs op pol key n now serial).1.S
   [(0,some (.cells [.d (am 4 Pol.D ps),.i .i64 room,.sl 2 4 0 (doS ps room xs op pol key n now serial).2.length])),(1,none),(2,some (ay 89 4 Cel.D (doS ps room xs op pol key n now serial).2))]:=by
 have hlen:=hb.len
 have hpos:=nU xs (newC pol key)
 by_cases hE:c9 ps op pol key n now serial=0
 ·obtain⟨hnow,hop1,hop2,hps,hkey,hn,hser,hkind⟩:=pX hE
  have hpl:=cT hps
  have hperm:op<5→(ps.getD pol.toNat default).kind=2→-4611686018427387904≤(ps.getD pol.toNat default).permits∧(ps.getD pol.toNat default).permits≤4611686018427387903:=fun h1 h2=>by
   have:=r6 hps pol.toNat (by have:=hkey h1;omega)
   unfold lP at this
   rw[if_neg (by omega),if_pos h2]at this
   simp only[Q5,decide_eq_true_eq]at this
   omega
  have hheld:(bL xs pol key).held.length≤64:=by
   unfold bL
   split
   ·exact hb.held _
   ·simp[newC]
  have hD:doS ps room xs op pol key n now serial=if op=5 then(⟨0,false,(xs.length:Int)-(dd ps now xs).length,0,0,now⟩,dd ps now xs)
   else if op=6 then(ml 0,xs)
   else if op=4 then(iH (ps.getD pol.toNat default) (bL xs pol key) now,xs)
   else xY room xs pol key (decide (op=1∧n=0)) (mK (ps.getD pol.toNat default) (bL xs pol key) op n now serial):=by
   unfold doS;rw[if_neg (fun h=>h hE)]
  have hst:(dd ps now xs).length≤xs.length:=List.length_filter_le _ _
  rw[hD]
  clear hD
  have hposl:cH xs (newC pol key)=true→bo xs (newC pol key)<xs.length:=fun h=>((cW _ _).1 h).1
  have hkk:op<5→(bL xs pol key).key.length≤16777216:=fun h=>by
   unfold bL
   split
   ·have:=hb.key (bo xs (newC pol key));omega
   ·have:=(hkey h).1;simp only[newC];omega
  refine Fun.mk' Tryz.func9 rfl rfl zN (by decide) ?_
  (repeat' (first|((first|refine Wp.any ac rfl ?_|(with_reducible first|refine Go.mk ?_|apply ai.of|refine Ov.ok zO ?_)|refine zV ?_|with_reducible refine And.intro zC ?_);conv=>whnf)|((refine ab.fn (kD ps room xs op pol key n now serial) [0,1] rfl rfl rfl rfl rfl ?ha ?hh ?_);(case ha=>exact zA);(case hh=>exact zH);(conv=>whnf))|((refine ag.fn (jH ps room now xs hb.pol (by omega)) [1,0,2,4] [0,2,4] rfl rfl rfl rfl rfl ?ha ?hh ?hs ?_);(case ha=>exact zA);(case hh=>exact zH);(case hs=>exact zK);(conv=>whnf))|((refine ag.fn (tV xs pol key (by omega) hb.byt hk) [1] [1] rfl rfl rfl rfl rfl ?ha ?hh ?hs ?_);(case ha=>exact zA);(case hh=>exact zH);(case hs=>exact zK);(conv=>whnf))|((with_reducible first|refine ab.pure (jh _ _ _ (hperm (by omega)) (by omega)) rfl rfl ?_|refine ab.pure (kI _ _ _ _) rfl rfl ?_|refine ab.pure (dX _ _ _) rfl rfl ?_|refine ab.pure (dW _ _ _) rfl rfl ?_);conv=>whnf)|((refine ag.new (jg xs (bo xs (newC pol key)) (cH xs (newC pol key)) (gJ (ps.getD pol.toNat default) (bL xs pol key) now n) (by omega) (hkk (by omega)) hpos hposl) [1] [1] rfl rfl rfl rfl rfl rfl ?ha ?hh ?hs ?_);(case ha=>exact zA);(case hh=>exact zH);(case hs=>exact zK);(conv=>whnf))|((refine ag.new (jg xs (bo xs (newC pol key)) (cH xs (newC pol key)) (fR (ps.getD pol.toNat default) (bL xs pol key) serial) (by omega) (by rw[y8];exact hkk (by omega)) hpos hposl) [1] [1] rfl rfl rfl rfl rfl rfl ?ha ?hh ?hs ?_);(case ha=>exact zA);(case hh=>exact zH);(case hs=>exact zK);(conv=>whnf))|((refine ag.new (jg xs (bo xs (newC pol key)) (cH xs (newC pol key)) (jp (ps.getD pol.toNat default) (bL xs pol key) n) (by omega) (by rw[xP];exact hkk (by omega)) hpos hposl) [1] [1] rfl rfl rfl rfl rfl rfl ?ha ?hh ?hs ?_);(case ha=>exact zA);(case hh=>exact zH);(case hs=>exact zK);(conv=>whnf))|((refine aq (fun hc=>?_) (fun hc=>?_))<;>(try simp only[wz9]at hc)<;>(try (exfalso;omega))<;>(conv=>whnf))))
  ·rw[if_pos (by assumption)]
   refine af.mv2 rfl rfl ?_ ?_
   ·conv=>whnf
    exact .rfl _
   ·((conv=>whnf);repeat' (first|exact zB9|((with_reducible refine And.intro ?_ ?_)<;>(conv=>whnf))))
  ·rw[if_neg (by omega),if_pos (by assumption)]
   refine af.mv2 rfl rfl ?_ ?_
   ·conv=>whnf
    exact .rfl _
   ·((conv=>whnf);repeat' (first|exact zB9|((with_reducible refine And.intro ?_ ?_)<;>(conv=>whnf))))
  ·rw[if_neg (by omega),if_neg (by omega),if_pos (by assumption)]
   refine af.mv2 rfl rfl ?_ ?_
   ·conv=>whnf
    exact .rfl _
   ·((conv=>whnf);repeat' (first|exact zB9|((with_reducible refine And.intro ?_ ?_)<;>(conv=>whnf))))
  ·rw[if_neg (by omega),if_neg (by omega),if_neg (by omega),kc (by assumption),lh (Or.inl (by assumption))]
   refine af.mv2 rfl rfl ?_ ?_
   ·conv=>whnf
    exact .rfl _
   ·((conv=>whnf);repeat' (first|exact zB9|((with_reducible refine And.intro ?_ ?_)<;>(conv=>whnf))))
  ·rw[if_neg (by omega),if_neg (by omega),if_neg (by omega),kc (by assumption),lh (Or.inr (decide_eq_true ⟨by assumption,by assumption⟩))]
   refine af.mv2 rfl rfl ?_ ?_
   ·conv=>whnf
    exact .rfl _
   ·((conv=>whnf);repeat' (first|exact zB9|((with_reducible refine And.intro ?_ ?_)<;>(conv=>whnf))))
  ·rw[if_neg (by omega),if_neg (by omega),if_neg (by omega),kc (by assumption),iD (by assumption) (decide_eq_false (by omega)) (by assumption) (by assumption)]
   refine af.mv2 rfl rfl ?_ ?_
   ·conv=>whnf
    exact .rfl _
   ·((conv=>whnf);repeat' (first|exact zB9|((with_reducible refine And.intro ?_ ?_)<;>(conv=>whnf))))
  ·rw[if_neg (by omega),if_neg (by omega),if_neg (by omega),kc (by assumption),fU (by assumption) (decide_eq_false (by omega)) (fun h=>absurd h.2 (by assumption))]
   refine af.of [0,1,56] rfl (fun i hi=>by have:i=0∨i=1:=(by omega);rcases this with h|h<;>subst h<;>rfl) rfl ?_ ?_
   ·conv=>whnf
    exact .rfl _
   ·((conv=>whnf);repeat' (first|exact zB9|((with_reducible refine And.intro ?_ ?_)<;>(conv=>whnf))))
  ·rw[if_neg (by omega),if_neg (by omega),if_neg (by omega),kc (by assumption),fU (by assumption) (decide_eq_false (by omega)) (fun h=>by rw[hc]at h;cases h.1)]
   refine af.of [0,1,56] rfl (fun i hi=>by have:i=0∨i=1:=(by omega);rcases this with h|h<;>subst h<;>rfl) rfl ?_ ?_
   ·conv=>whnf
    exact .rfl _
   ·((conv=>whnf);repeat' (first|exact zB9|((with_reducible refine And.intro ?_ ?_)<;>(conv=>whnf))))
  ·rw[if_neg (by omega),if_neg (by omega),if_neg (by omega),j9 (by assumption),lh (Or.inl (by assumption))]
   refine af.mv2 rfl rfl ?_ ?_
   ·conv=>whnf
    exact .rfl _
   ·((conv=>whnf);repeat' (first|exact zB9|((with_reducible refine And.intro ?_ ?_)<;>(conv=>whnf))))
  ·rw[if_neg (by omega),if_neg (by omega),if_neg (by omega),j9 (by assumption),iD (by assumption) (decide_eq_false (by omega)) (by assumption) (by assumption)]
   refine af.mv2 rfl rfl ?_ ?_
   ·conv=>whnf
    exact .rfl _
   ·((conv=>whnf);repeat' (first|exact zB9|((with_reducible refine And.intro ?_ ?_)<;>(conv=>whnf))))
  ·rw[if_neg (by omega),if_neg (by omega),if_neg (by omega),j9 (by assumption),fU (by assumption) (decide_eq_false (by omega)) (fun h=>absurd h.2 (by assumption))]
   refine af.of [0,1,56] rfl (fun i hi=>by have:i=0∨i=1:=(by omega);rcases this with h|h<;>subst h<;>rfl) rfl ?_ ?_
   ·conv=>whnf
    exact .rfl _
   ·((conv=>whnf);repeat' (first|exact zB9|((with_reducible refine And.intro ?_ ?_)<;>(conv=>whnf))))
  ·rw[if_neg (by omega),if_neg (by omega),if_neg (by omega),j9 (by assumption),fU (by assumption) (decide_eq_false (by omega)) (fun h=>by rw[hc]at h;cases h.1)]
   refine af.of [0,1,56] rfl (fun i hi=>by have:i=0∨i=1:=(by omega);rcases this with h|h<;>subst h<;>rfl) rfl ?_ ?_
   ·conv=>whnf
    exact .rfl _
   ·((conv=>whnf);repeat' (first|exact zB9|((with_reducible refine And.intro ?_ ?_)<;>(conv=>whnf))))
  ·rw[if_neg (by omega),if_neg (by omega),if_neg (by omega),mJ (by assumption),lh (Or.inl (by assumption))]
   refine af.mv2 rfl rfl ?_ ?_
   ·conv=>whnf
    exact .rfl _
   ·((conv=>whnf);repeat' (first|exact zB9|((with_reducible refine And.intro ?_ ?_)<;>(conv=>whnf))))
  ·rw[if_neg (by omega),if_neg (by omega),if_neg (by omega),mJ (by assumption),iD (by assumption) (decide_eq_false (by omega)) (by assumption) (by assumption)]
   refine af.mv2 rfl rfl ?_ ?_
   ·conv=>whnf
    exact .rfl _
   ·((conv=>whnf);repeat' (first|exact zB9|((with_reducible refine And.intro ?_ ?_)<;>(conv=>whnf))))
  ·rw[if_neg (by omega),if_neg (by omega),if_neg (by omega),mJ (by assumption),fU (by assumption) (decide_eq_false (by omega)) (fun h=>absurd h.2 (by assumption))]
   refine af.of [0,1,56] rfl (fun i hi=>by have:i=0∨i=1:=(by omega);rcases this with h|h<;>subst h<;>rfl) rfl ?_ ?_
   ·conv=>whnf
    exact .rfl _
   ·((conv=>whnf);repeat' (first|exact zB9|((with_reducible refine And.intro ?_ ?_)<;>(conv=>whnf))))
  ·rw[if_neg (by omega),if_neg (by omega),if_neg (by omega),mJ (by assumption),fU (by assumption) (decide_eq_false (by omega)) (fun h=>by rw[hc]at h;cases h.1)]
   refine af.of [0,1,56] rfl (fun i hi=>by have:i=0∨i=1:=(by omega);rcases this with h|h<;>subst h<;>rfl) rfl ?_ ?_
   ·conv=>whnf
    exact .rfl _
   ·((conv=>whnf);repeat' (first|exact zB9|((with_reducible refine And.intro ?_ ?_)<;>(conv=>whnf))))
 ·have hD:doS ps room xs op pol key n now serial=(ml (c9 ps op pol key n now serial),xs):=by unfold doS;rw[if_pos hE]
  rw[hD]
  refine Fun.mk' Tryz.func9 rfl rfl zN (by decide) ?_
  (repeat' (first|((first|refine Wp.any ac rfl ?_|(with_reducible first|refine Go.mk ?_|apply ai.of));conv=>whnf)|((refine ab.fn (kD ps room xs op pol key n now serial) [0,1] rfl rfl rfl rfl rfl ?ha ?hh ?_);(case ha=>exact zA);(case hh=>exact zH);(conv=>whnf))|((refine aq (fun hc=>?_) (fun hc=>?_))<;>(try simp only[wz9]at hc)<;>(try (exfalso;omega))<;>(conv=>whnf))))
  refine af.mv2 rfl rfl ?_ ?_
  ·conv=>whnf
   exact .rfl _
  ·((conv=>whnf);repeat' (first|exact zB9|((with_reducible refine And.intro ?_ ?_)<;>(conv=>whnf))))
theorem ok_of{ps:List Pol}{xs:List Cel}(h:xs.length≤1000000∧∀c∈xs,(∀b∈c.key,0≤b∧b≤255)∧c.key.length≤255∧c.held.length≤64∧0≤c.pol∧c.pol<ps.length):nD ps xs:=by
 have key:∀k,k<xs.length→xs.getD k default∈xs:=fun k hk=>by
  rw[Q1,Q0 hk];exact Q14 hk
 have dflt:∀k,¬k<xs.length→xs.getD k default=default:=fun k hk=>by
  rw[Q1,List.getElem?_eq_none (by omega)];rfl
 refine⟨h.1,fun k=>?_,fun k=>?_,fun k=>?_,fun k hk=>⟨(h.2 _ (key k hk)).2.2.2.1,(h.2 _ (key k hk)).2.2.2.2⟩⟩
 ·by_cases hk:k<xs.length
  ·exact(h.2 _ (key k hk)).1
  ·rw[dflt k hk];intro x hx;cases hx
 ·by_cases hk:k<xs.length
  ·exact(h.2 _ (key k hk)).2.1
  ·rw[dflt k hk];exact Nat.zero_le _
 ·by_cases hk:k<xs.length
  ·exact(h.2 _ (key k hk)).2.2.1
  ·rw[dflt k hk];exact Nat.zero_le _
section
inductive Sh where
 | int (k:IntKind)
 | bool
 | str
 | sl (z:Nat) (es:List Sh)
mutual
inductive ue:Sh→D→Prop
 | int {k:IntKind} {n:Int} (h:(Lit.int k n).wf=true):ue (.int k) (.val (.int k n))
 | bool (b:Bool):ue .bool (.val (.bool b))
 | str (s:ByteArray) (h:s.size≤maxLen):ue .str (.val (.string s))
 | sl {z:Nat} {es:List Sh} {n:Nat} {f:Nat→List D} (hn:n≤maxLen) (h:∀i,i<n→ii es (f i)):ue (.sl z es) (.sl z n f)
inductive ii:List Sh→List D→Prop
 | nil:ii [] []
 | cons {s:Sh} {d:D} {ss:List Sh} {ds:List D} (h:ue s d) (t:ii ss ds):ii (s::ss) (d::ds)
end
theorem ii.len:∀{ss:List Sh} {ds:List D},ii ss ds→ds.length=ss.length
 | _,_,.nil=>rfl
 | _,_,.cons _ t=>by simp[ii.len t]
theorem ii.append:∀{ss ss':List Sh} {ds ds':List D},ii ss ds→ii ss' ds'→ii (ss++ss') (ds++ds')
 | _,_,_,_,.nil,h=>h
 | _,_,_,_,.cons h t,h'=>.cons h (t.append h')
def shF(r:TypeId→Option (List Sh))(c:TypeId→Nat):List Field→Nat→Option (List Sh)
 | [],_=>some []
 | f::fs,o=>if f.offset=o then(r f.type).bind fun a=>if a.length=c f.type then(shF r c fs (o+a.length)).map (a++·)else none else none
def shT(P:Program):Nat→TypeId→Option (List Sh)
 | 0,_=>none
 | n+1,t=>match P.underlying t with
  | some .bool=>some [.bool]
  | some (.int k)=>some [.int k]
  | some .string=>some [.str]
  | some (.slice e)=>(shT P n e).bind fun es=>if es.length=P.cellsOf e then some [.sl (P.cellsOf e) es]else none
  | some (.struct fs)=>(shF (shT P n) P.cellsOf fs.toList 0).bind fun a=>if a.length=P.cellsOf t then some a else none
  | _=>none
structure RLs(w:World)(ds:List D)(cs:List Value):Prop where
 len:ds.length=cs.length
 out:∀(j:Nat) (d:D) (c:Value),ds[j]?=some d→cs[j]?=some c→RD w (fun b=>b<w.heap.size) d c
theorem RLs.nil(w:World):RLs w [] []:=⟨rfl,fun j d c h=>by simp at h⟩
theorem RLs.one{w:World}{d:D}{c:Value}(h:RD w (fun b=>b<w.heap.size) d c):RLs w [d] [c]:=⟨rfl,fun j d' c' hd hc=>by
 cases j with
 | zero=>simp at hd hc;subst hd hc;exact h
 | succ j=>simp at hd⟩
theorem RLs.append{w:World}{ds ds':List D}{cs cs':List Value}(h:RLs w ds cs)(h':RLs w ds' cs'):RLs w (ds++ds') (cs++cs'):=by
 have hl:=h.len
 refine⟨by simp[h.len,h'.len],fun j d c hd hc=>?_⟩
 by_cases hj:j<ds.length
 ·rw[Q11 hj]at hd
  rw[Q11 (by omega)]at hc
  exact h.out j d c hd hc
 ·rw[Q12 (by omega)]at hd
  rw[Q12 (by omega)]at hc
  rw[← hl]at hc
  exact h'.out _ d c hd hc
section
variable{H:Type}{enc:TypeId×Value→H}{P:Program}{w:World}{spare:Nat→Bool}
theorem kj{r:TypeId→Option (List Sh)}{c:TypeId→Nat}{cs:List Value}:∀(fs:List Field) (o:Nat) (a:List Sh),shF r c fs o=some a→o+a.length≤cs.length →
  (∀f∈fs,∀b,r f.type=some b→∃ds,ii b ds∧RLs w ds ((cs.drop f.offset).take (c f.type)))→∃ds,ii a ds∧RLs w ds ((cs.drop o).take a.length)
 | [],o,a,h,hl,hr=>by
  simp only[shF,Option.some.injEq]at h;subst h
  exact⟨[],.nil,by simpa using RLs.nil w⟩
 | f :: fs,o,a,h,hl,hr=>by
  unfold shF at h
  split at h
  ·rename_i ho
   obtain⟨b,hb,h⟩:=Option.bind_eq_some_iff.1 h
   split at h
   ·rename_i hc
    obtain⟨a',ha',rfl⟩:=Option.map_eq_some_iff.1 h
    rw[Q9]at hl
    obtain⟨ds,h1,h2⟩:=hr f (by simp) b hb
    obtain⟨ds',h3,h4⟩:=kj fs _ a' ha' (by omega) (fun g hg=>hr g (by simp[hg]))
    refine⟨ds++ds',h1.append h3,?_⟩
    rw[ho,← hc]at h2
    have:=h2.append h4
    rw[show(cs.drop o).take (b++a').length=(cs.drop o).take b.length++(cs.drop (o+b.length)).take a'.length by
     rw[Q9,List.take_add,List.drop_drop]]
    exact this
   ·cases h
  ·cases h
theorem rJ{a:Addr}{v:Value}(h:w.cell? (a.add 0)=some v):a.spot=none:=by
 have:=World.cell?_spot h
 unfold Addr.add at this
 simpa using this
theorem zh:∀(m fuel:Nat) (t:TypeId) (cs:List Value) (x:DataW H×List MemPlace) (shs:List Sh),DataW.trod enc P w 0 spare true fuel t cs=some x→shT P m t=some shs→∃ds,ii shs ds∧RLs w ds cs
 | 0,fuel,t,cs,x,shs,h,hs=>by simp[shT]at hs
 | m+1,0,t,cs,x,shs,h,hs=>by simp[DataW.trod]at h
 | m + 1,fuel+1,t,cs,x,shs,h,hs=>by
  have ih:=fun fuel t cs x shs h hs=>zh m fuel t cs x shs h hs
  unfold shT at hs
  split at hs
  ·rename_i hu
   cases hs
   unfold DataW.trod at h
   rw[hu]at h
   split at h<;>simp_all
   exact⟨_,.cons (.bool _) .nil,.one (.val _ rfl)⟩
  ·rename_i k hu
   cases hs
   unfold DataW.trod at h
   rw[hu]at h
   split at h<;>simp_all
   rename_i n _ _
   obtain⟨⟨rfl,hw⟩,_⟩:=h
   exact⟨_,.cons (.int hw) .nil,.one (.val _ rfl)⟩
  ·rename_i hu
   cases hs
   unfold DataW.trod at h
   rw[hu]at h
   split at h<;>simp_all
   exact⟨_,.cons (.str _ h.1) .nil,.one (.val _ rfl)⟩
  ·rename_i e hu
   obtain⟨es,he,hs⟩:=Option.bind_eq_some_iff.1 hs
   split at hs
   case isFalse=>cases hs
   rename_i hz
   cases hs
   rcases Go.Deep.open_slice hu h with⟨rfl,_⟩|⟨a,len,cap,mm,n,Dd,Pl,rfl,_,hl,hm,hmm,_,hel⟩
   ·refine⟨[.sl (P.cellsOf e) 0 fun _=>[]],.cons (.sl (by unfold maxLen;omega) fun i hi=>by omega) .nil,.one (.sl _ 0 _ none 0 (fun _ _=>undef) (Q4 _) (by unfold maxLen;omega) (fun i hi=>by omega) (fun h=>by omega) (fun i j hi=>by omega))⟩
   ·have hle:len≤mm:=by rw[hmm];split<;>omega
    have hx:∀i,∃p:List Value×List D,i<len→w.cells? 0 (a.add (i*P.cellsOf e)) (P.cellsOf e)=some p.1∧ii es p.2∧RLs w p.2 p.1:=fun i=>by
     by_cases hi:i<len
     ·obtain⟨cs',h1,h2⟩:=hel i (by omega)
      obtain⟨ds,h3,h4⟩:=ih _ _ _ _ _ h2 he
      exact⟨(cs',ds),fun _=>⟨h1,h3,h4⟩⟩
     ·exact⟨([],[]),fun h=>absurd h hi⟩
    obtain⟨F,hF⟩:=Classical.axiomOfChoice hx
    refine⟨[.sl (P.cellsOf e) len fun i=>(F i).2],.cons (.sl (by omega) fun i hi=>(hF i hi).2.1) .nil,.one (.sl _ len _ (some a) cap (fun i j=>((F i).1[j]?).getD undef) hl hm (fun i hi=>by rw[(hF i hi).2.1.len,hz]) (fun h0=>?_) (fun i j hi hj=>?_))⟩
    ·have h0':0<len∧0<P.cellsOf e:=⟨Nat.pos_of_ne_zero fun h=>by subst h;simp at h0,Nat.pos_of_ne_zero fun h=>by rw[h]at h0;simp at h0⟩
     have hcell:∀i j,i<len→j<P.cellsOf e→∃v,(F i).1[j]?=some v∧w.cell? ((a.add (i*P.cellsOf e)).add j)=some v:=fun i j hi hj=>by
      obtain⟨_,k2,k3⟩:=World.cells?_some (hF i hi).1
      have hj':j<(F i).1.length:=by omega
      refine⟨_,Q0 hj',?_⟩
      rw[k3 j hj,Q0 hj']
     obtain⟨v0,_,c0⟩:=hcell 0 0 h0'.1 h0'.2
     rw[Nat.zero_mul]at c0
     have hsp:a.spot=none:=rJ (by
      have:=World.cell?_spot c0
      have e1:(a.add 0)=a:=by unfold Addr.add;simp
      rw[e1]at c0;exact c0)
     obtain⟨b,o,sp⟩:=a
     simp only at hsp
     subst hsp
     refine⟨b,o,rfl,?_,fun i j hi hj=>?_⟩
     ·rw[Addr.add_mid,Addr.add_mid]at c0
      exact World.block_lt_of_cell? w _ c0
     ·obtain⟨v,k1,k2⟩:=hcell i j hi hj
      rw[Addr.add_mid,Addr.add_mid]at k2
      rw[k2,k1];rfl
    ·have h9:=(hF i hi).2.2
     have hl9:=h9.len
     have hj':j<(F i).1.length:=by rw[← hl9];exact hj
     exact h9.out j _ _ (Q0 hj) (by rw[Q0 hj'];rfl)
  ·rename_i fs hu
   obtain⟨a,ha,hs⟩:=Option.bind_eq_some_iff.1 hs
   split at hs
   case isFalse=>cases hs
   rename_i hz
   cases hs
   obtain⟨xs,n,_,_,hl,_,hf⟩:=DataW.trod_struct hu h
   obtain⟨ds,h1,h2⟩:=kj (w:=w) (cs:=cs) fs.toList 0 shs ha (by omega) (fun f hf' b hb=>by
    obtain⟨i,hi,e⟩:=List.getElem_of_mem hf'
    have hi':i<fs.size:=by simpa using hi
    have hfi:fs[i]?=some f:=by rw[Array.getElem?_eq_getElem hi'];rw[← e];simp
    have hq:=hf i f hfi
    rename_i hxl _
    have hxi:∃y,xs[i]?=some y:=⟨xs[i]'(by omega),Q0 _⟩
    obtain⟨y,hy⟩:=hxi
    rw[hy]at hq
    exact ih _ _ _ _ _ hq hb)
   refine⟨ds,h1,?_⟩
   rw[List.drop_zero,hz,← hl,List.take_length]at h2
   exact h2
  ·cases hs
end
end
section
open Go.ChangeShapes Go.WideShapes Go.ChangeAt Go.RowKit
section
variable{H:Type}{enc:TypeId×Value→H}{P:Program}
theorem nB{w w':World}{base:Nat}{sp:Nat→Bool}{hd:Bool}:∀{ts:List TypeId} {vs:List Value} {ds:List (DataW H)} {ps:List MemPlace},DataW.TrodAll enc P w base sp hd ts vs ds ps→(∀p∈ps,w.sameAt w' p)→DataW.TrodAll enc P w' base sp hd ts vs ds ps
 | [],[],[],_,h,_=>h
 | t::ts,v::vs,d::ds,ps,⟨p,q,⟨n,h1⟩,h2,e⟩,hs=>⟨p,q,⟨n,DataW.trod_carry n _ _ _ h1 fun x hx=>hs x (by rw[e];exact List.mem_append_left _ hx)⟩,nB h2 fun x hx=>hs x (by rw[e];exact List.mem_append_right _ hx),e⟩
theorem kept_of{w w':World}(h:Kp w w')(may:MemPlace→Prop):w.keptBut w' may:=by
 refine⟨h.os,h.output,fun i hi=>?_⟩
 have hb:=h.block i hi
 rw[hb]
 rcases hq:w.heap[i]? with _|o
 ·simp
 ·cases o<;>simp
theorem yj{T:TypeId→Prop}(K:Kids P T)(hz:∀t e,T t→P.underlying t=some (.slice e)→0<P.cellsOf e){f:Func}{s:ChangeSpec}{W W':World}{args:Array Value}{ds gs:List (DataW H)}{before:List MemPlace}{tb:TypeId}
  (hT:∀t∈f.params.toList,T t) (hvars:s.vars=[]) (hr:f.resultTypes=#[tb]) (hb:P.underlying tb=some .bool)
  (hfn:gs=[]→(s.fn H (ds++gs)).results=[.lit (.bool true)]∧(s.fn H (ds++gs)).args=ds∧(s.fn H (ds++gs)).vars=[])
  (hW:DataW.Whole enc P f.params.toList s.vars false W args.toList ds gs before) (hk:Kp W W'):s.post enc P f false true false false W args (.bool true) W':=by
 have hW0:=hW
 obtain⟨p,q,hA,hV,rfl,hfz,_⟩:=hW
 rw[hvars]at hV
 have hgs:gs=[]∧q=[]:=by
  cases gs with
  | nil=>exact⟨rfl,hV⟩
  | cons x r=>exact hV.elim
 obtain⟨rfl,rfl⟩:=hgs
 obtain⟨h1,h2,h3⟩:=hfn rfl
 have hlt:=hW0.lt
 have hsame:∀x∈p,W.sameAt W' x:=fun x hx=>by
  have hb:=hk.block x.block (hlt x (by simpa using hx))
  cases x with
  | cell b o=>exact World.cell?_of_block hb
  | map b=>exact hb
 have hA':=nB hA hsame
 refine⟨ds,[],p++[],[],p,[],hW0,?_,?_,?_,kept_of hk _,fun h=>by cases h⟩
 ·rw[h1,hr]
  exact⟨[],[],shut_bool hb true,rfl,rfl⟩
 ·rw[h2]
  exact DataW.TrodAll.respare K hz hT hA' fun x hx=>by simpa using hlt x (by simpa using hx)
 ·rw[h3,hvars];rfl
end
end
section
open Go.ChangeShapes Go.WideShapes Go.ChangeAt Go.RowKit
theorem own:ownKnob Tryz.prog.godebug=none:=by kernel_rfl
theorem kids:Kids Tryz.prog (·<Tryz.prog.types.size):=kids_rows (by kernel_rfl) (by kernel_rfl)
theorem full:∀t e,t<Tryz.prog.types.size→Tryz.prog.underlying t=some (.slice e)→0<Tryz.prog.cellsOf e:=slices_full_of Tryz.prog (by kernel_rfl)
def shI(k:IntKind)(n:Int):Prop:=(Lit.int k n).wf=true
theorem eR{k:IntKind}{d:D}(h:ue (.int k) d):∃n,d=.val (.int k n)∧shI k n:=by cases h with|int h=>exact⟨_,rfl,h⟩
theorem fit_sl{z:Nat}{es:List Sh}{d:D}(h:ue (.sl z es) d):∃n f,d=.sl z n f∧n≤maxLen∧∀i,i<n→ii es (f i):=by cases h with|sl hn h=>exact⟨_,_,rfl,hn,h⟩
theorem bl{s:Sh}{ss:List Sh}{ds:List D}(h:ii (s::ss) ds):∃d r,ds=d::r∧ue s d∧ii ss r:=by cases h with|cons h t=>exact⟨_,_,rfl,h,t⟩
theorem i6{ds:List D}(h:ii [] ds):ds=[]:=by cases h;rfl
theorem wf_u8{n:Int}(h:shI .u8 n):0≤n∧n≤255:=by simpa[shI,Lit.wf,IntKind.min,IntKind.max,IntKind.signed,IntKind.bits]using h
theorem mq{n:Int}(h:shI .i64 n):-9223372036854775808≤n∧n≤9223372036854775807:=by simpa[shI,Lit.wf,IntKind.min,IntKind.max,IntKind.signed,IntKind.bits]using h
structure TLe(d d':D):Prop where
 out:∀w Im v,RD w Im d v→RD w Im d' v
theorem TLe.rfl(d:D):TLe d d:=⟨fun _ _ _ h=>h⟩
theorem TLe.sv{d d':D}(h:TLe d d'):SV.Le (.d d) (.d d'):=⟨fun E nx w v hv=>by cases hv with|d _ _ hv=>exact .d _ _ (h.out _ _ _ hv)⟩
structure rf(ds ds':List D):Prop where
 len:ds.length=ds'.length
 out:∀(j:Nat) (d d':D),ds[j]?=some d→ds'[j]?=some d'→TLe d d'
theorem rf.nil:rf [] []:=⟨_root_.rfl,fun j d d' h=>by simp at h⟩
theorem rf.cons{d d':D}{ds ds':List D}(h:TLe d d')(t:rf ds ds'):rf (d::ds) (d'::ds') :=
 ⟨by simp[t.len],fun j x y hx hy=>by
  cases j with
  | zero=>simp at hx hy;subst hx hy;exact h
  | succ j=>simp at hx hy;exact t.out j x y hx hy⟩
theorem TLe.sl{z n:Nat}{f g:Nat→List D}(h:∀i,i<n→rf (f i) (g i)):TLe (.sl z n f) (.sl z n g):=by
 refine⟨fun w Im v hv=>?_⟩
 cases hv with
 | sl _ _ _ a cap gv hc hm hl ha hg =>
  refine .sl z n g a cap gv hc hm (fun i hi=>by rw[← (h i hi).len];exact hl i hi) ha fun i j hi hj=>?_
  have hj':j<(f i).length:=by rw[(h i hi).len];exact hj
  exact((h i hi).out j _ _ (Q0 hj') (Q0 hj)).out _ _ _ (hg i j hi hj')
theorem list_of{α:Type}[Inhabited α]{enc:α→List D}{p:α→Prop}{n:Nat}{f:Nat→List D}(h:∀i,i<n→∃x,rf (f i) (enc x)∧p x):∃xs:List α,xs.length=n∧(∀i,i<n→rf (f i) (enc (xs.getD i default)))∧∀x∈xs,p x:=by
 induction n with
 | zero=>exact⟨[],rfl,fun i hi=>by omega,fun x hx=>by simp at hx⟩
 | succ n ih =>
  obtain⟨xs,h1,h2,h3⟩:=ih fun i hi=>h i (by omega)
  obtain⟨x,h4,h5⟩:=h n (by omega)
  refine⟨xs++[x],by simp[h1],fun i hi=>?_,fun y hy=>?_⟩
  ·by_cases hin:i<n
   ·have:=h2 i hin
    rw[show(xs++[x]).getD i default=xs.getD i default by simp[List.getD,Q11 (show i<xs.length by omega)]]
    exact this
   ·obtain rfl:i=n:=by omega
    rw[show(xs++[x]).getD i default=x by simp[List.getD,h1]]
    exact h4
  ·rcases List.mem_append.1 hy with hy|hy
   ·exact h3 y hy
   ·simp at hy;subst hy;exact h5
theorem ic{α:Type}[Inhabited α]{enc:α→List D}{p:α→Prop}{z:Nat}{es:List Sh}{d:D}(h:ue (.sl z es) d)(hp:∀ds,ii es ds→∃x,rf ds (enc x)∧p x) :
  ∃xs:List α,TLe d (am z enc xs)∧xs.length≤maxLen∧∀x∈xs,p x:=by
 obtain⟨n,f,rfl,hn,hf⟩:=fit_sl h
 obtain⟨xs,h1,h2,h3⟩:=list_of (enc:=enc) (p:=p) fun i hi=>hp _ (hf i hi)
 subst h1
 exact⟨xs,TLe.sl fun i hi=>h2 i hi,hn,h3⟩
theorem yB{k:IntKind}{d:D}(h:ue (.sl 1 [.int k]) d):∃xs:List Int,TLe d (am 1 (aM k) xs)∧xs.length≤maxLen∧∀x∈xs,shI k x :=
 ic h fun ds hd=>by
  obtain⟨d,r,rfl,h1,h2⟩:=bl hd
  obtain⟨n,rfl,hn⟩:=eR h1
  obtain rfl:=i6 h2
  exact⟨n,.cons (.rfl _) .nil,hn⟩
theorem argA{H:Type}{enc:TypeId×Value→H}{W:World}{t:TypeId}{cs:Array Value}{d:DataW H}{p:List MemPlace}{ss:List Sh}(h:DataW.Trod enc Tryz.prog W 0 (fun _=>true) true t (.agg cs) d p)(hs:shT Tryz.prog 8 t=some ss) :
  ∃ds,ii ss ds∧∀E:Env,E.Im=(fun b=>b<W.heap.size)→RS E 0 W (.agg (ds.map SV.d)) (.agg cs):=by
 obtain⟨n,h⟩:=h
 obtain⟨ds,h1,h2⟩:=zh 8 n t _ _ _ h hs
 have hl:ds.length=cs.size:=by simpa[Value.cells]using h2.len
 have hout:∀j (hj:j<ds.length),RD W (fun b=>b<W.heap.size) ds[j] (cs.getD j undef):=fun j hj=>by
  have hj':j<cs.size:=by omega
  exact h2.out j _ _ (Q0 hj) (by simp[Value.cells,Array.getD,hj'])
 refine⟨ds,h1,fun E hE=>.agg _ _ (by simp[hl]) (fun j hj=>(hout j (by omega)).one) fun j hj=>?_⟩
 have hj':j<ds.length:=by simpa using hj
 rw[List.getElem_map]
 exact .d _ _ (by rw[hE];exact hout j hj')
end
section
namespace Dir
structure Ent where
 key:List Int
 val:Int
deriving DecidableEq,Inhabited
structure Res where
 done:Bool
 e:Int
 n:Int
deriving DecidableEq,Inhabited
structure Kc where
 op:Int
 key:List Int
 val:Int
deriving DecidableEq,Inhabited
inductive CS where
 | none
 | k0 (c:Kc)
 | kE (c:Kc) (w:Nat)
 | kF (c:Kc) (lv w:Nat)
 | kG (c:Kc) (lv w:Nat) (v:Int) (h:List Ent)
 | kH (c:Kc) (lv w:Nat) (h:List Ent)
 | kL (c:Kc) (lv w:Nat) (h:List Ent)
 | kS (c:Kc) (w:Nat) (v:Int) (m:List Ent) (n:Int)
 | s0
 | sM (lv:Nat)
 | sF (lv i:Nat)
 | sG (lv i:Nat) (v:Int) (h:List Ent)
 | sH (lv i:Nat) (up:Bool) (h:List Ent)
 | sL (lv i:Nat) (up:Bool) (h:List Ent)
 | sV (lv:Nat)
deriving Inhabited
abbrev FZ:Int:=4611686018427387904
structure Mc where
 W:Nat→Int
 Hd:Nat→List Ent
def upd{α:Type}(f:Nat→α)(i:Nat)(x:α):Nat→α:=fun j=>if j=i then x else f j
def Mc.set(M:Mc)(w:Nat)(v:Int)(h:List Ent):Mc:=⟨upd M.W w v,upd M.Hd w h⟩
structure Ops where
 sum:List Int→Int
 cut:List Ent→Nat→Nat→List Ent
 fnd:Kc→List Ent→Res ⊕ (List Ent×Int)
def plc(lv:Nat)(s:Int):Nat:=2^lv+(s%2^lv).toNat
def r0:Res:=⟨false,0,0⟩
section
variable(P:Ops)
def found(c:Kc)(w:Nat)(v:Int)(h:List Ent):CS×Res :=
 match P.fnd c h with
 | .inl r=>(.none,r)
 | .inr (m,n)=>(.kS c w v m n,r0)
def entered(c:Kc)(w:Nat)(v:Int)(h:List Ent):CS×Res :=
 if v=0∨FZ≤v then(.k0 c,r0)else found P c w v h
def toH(c:Kc)(lv:Nat)(h:List Ent):CS:=.kH c (lv+1) (plc (lv+1) (P.sum c.key)) h
def move(lv i:Nat):CS:=if i=2^lv then .sV lv else .sF lv i
def upW(lv i:Nat)(up:Bool):Nat:=2^(lv+1)+(if up then i+2^lv else i)
def on(lv i:Nat)(up:Bool)(h:List Ent):CS:=if up then move lv (i+1)else .sH lv i true h
def step(M:Mc):CS→Mc×CS×Res
 | .none=>(M,.none,r0)
 | .k0 c=>(M,if M.W 0%2=0 then .kE c (plc (M.W 0/2).toNat (P.sum c.key))else .kF c (M.W 0/2).toNat (plc (M.W 0/2).toNat (P.sum c.key)),r0)
 | .kE c w=>(M,entered P c w (M.W w) (M.Hd w))
 | .kF c lv w=>(M,if FZ≤M.W w then toH P c lv (M.Hd w)else .kG c lv w (M.W w) (M.Hd w),r0)
 | .kG c lv w v h=>if M.W w=v then(M.set w (v+FZ) h,toH P c lv h,r0)else(M,.kF c lv w,r0)
 | .kH c lv w h=>if M.W w=0 then(M,.kL c lv w h,r0)else(M,entered P c w (M.W w) (M.Hd w))
 | .kL c lv w h=>(if M.W w=0 then M.set w 1 (P.cut h lv (w-2^lv))else M,.kE c w,r0)
 | .kS c w v m n=>if M.W w=v then(M.set w (v+1) m,.none,⟨true,0,n⟩)else(M,.k0 c,r0)
 | .s0=>if M.W 0%2=1 then(M,.sF (M.W 0/2).toNat 0,r0)else if M.W 0/2=4 then(M,.none,⟨true,5,0⟩)else(M,.sM (M.W 0/2).toNat,r0)
 | .sM lv=>if M.W 0=2*lv then(M.set 0 (2*lv+1) [],.sF lv 0,r0)else(M,.s0,r0)
 | .sF lv i=>(M,if FZ≤M.W (2^lv+i)then .sH lv i false (M.Hd (2^lv+i))else .sG lv i (M.W (2^lv+i)) (M.Hd (2^lv+i)),r0)
 | .sG lv i v h=>if M.W (2^lv+i)=v then(M.set (2^lv+i) (v+FZ) h,.sH lv i false h,r0)else(M,.sF lv i,r0)
 | .sH lv i up h=>(M,if M.W (upW lv i up)=0 then .sL lv i up h else on lv i up h,r0)
 | .sL lv i up h=>(if M.W (upW lv i up)=0 then M.set (upW lv i up) 1 (P.cut h (lv+1) (upW lv i up-2^(lv+1)))else M,on lv i up h,r0)
 | .sV lv=>(if M.W 0=2*lv+1 then M.set 0 (2*lv+2) []else M,.none,⟨true,0,0⟩)
end
def okW(D:Int)(lv:Nat)(x low:Int)(B:Int):Prop :=
 0≤x∧(x<FZ→x≤B)∧(2*(lv:Int)+1<D→FZ≤x)∧(D=2*(lv:Int)+1→x≠0)∧(D=2*(lv:Int)→0<x∧x<FZ)∧(D+1=2*(lv:Int)→x=0∨(0<x∧x<FZ∧FZ≤low))∧(D+1<2*(lv:Int)→x=0)
def dj(W:Nat→Int)(lv i:Nat):Int:=W (2^(lv-1)+i%2^(lv-1))
structure Iw(W:Nat→Int)(B:Int):Prop where
 d:0≤W 0∧W 0≤8
 w:∀lv i,lv≤4→i<2^lv→okW (W 0) lv (W (2^lv+i)) (dj W lv i) B
def Cw(P:Ops)(W:Nat→Int):CS→Prop
 | .none=>True
 | .k0 _=>True
 | .kE _ w=>1≤w∧w<32
 | .kF c lv w=>lv≤3∧w=plc lv (P.sum c.key)∧2*(lv:Int)+1≤W 0
 | .kG c lv w v _=>lv≤3∧w=plc lv (P.sum c.key)∧2*(lv:Int)+1≤W 0∧v<FZ
 | .kH c lv w _=>1≤lv∧lv≤4∧w=plc lv (P.sum c.key)∧2*(lv:Int)-1≤W 0∧FZ≤W (plc (lv-1) (P.sum c.key))
 | .kL c lv w _=>1≤lv∧lv≤4∧w=plc lv (P.sum c.key)∧2*(lv:Int)-1≤W 0∧FZ≤W (plc (lv-1) (P.sum c.key))
 | .kS _ w v _ _=>1≤w∧w<32∧0<v∧v<FZ
 | .s0=>True
 | .sM lv=>lv≤3
 | .sF lv i=>lv≤3∧i<2^lv∧2*(lv:Int)+1≤W 0∧gone W lv i
 | .sG lv i v _=>lv≤3∧i<2^lv∧2*(lv:Int)+1≤W 0∧gone W lv i∧v<FZ
 | .sH lv i up _=>lv≤3∧i<2^lv∧2*(lv:Int)+1≤W 0∧gone W lv i∧FZ≤W (2^lv+i)∧(up=true→W (2^(lv+1)+i)≠0)
 | .sL lv i up _=>lv≤3∧i<2^lv∧2*(lv:Int)+1≤W 0∧gone W lv i∧FZ≤W (2^lv+i)∧(up=true→W (2^(lv+1)+i)≠0)
 | .sV lv=>lv≤3∧2*(lv:Int)+1≤W 0∧gone W lv (2^lv)
where
 gone (W:Nat→Int) (lv i:Nat):Prop:=∀j,j<i→FZ≤W (2^lv+j)∧W (2^(lv+1)+j)≠0∧W (2^(lv+1)+(j+2^lv))≠0
end Dir
end
namespace Dir
theorem upd_same{α:Type}(f:Nat→α)(i:Nat)(x:α):upd f i x i=x:=by simp[upd]
theorem upd_ne{α:Type}(f:Nat→α){i j:Nat}(x:α)(h:j≠i):upd f i x j=f j:=by simp[upd,h]
theorem rQ{lv l0 i:Nat}(hi:i<2^lv)(h:lv<l0):2^lv+i<2^l0:=by
 have:2^(lv+1)≤2^l0:=Q16 (by omega) h
 rw[Nat.pow_succ]at this;omega
theorem b5{lv l0 i i0:Nat}(hi:i<2^lv)(hi0:i0<2^l0)(h:2^lv+i=2^l0+i0):lv=l0∧i=i0:=by
 rcases Nat.lt_trichotomy lv l0 with h1|h1|h1
 ·have:=rQ hi h1;omega
 ·subst h1;omega
 ·have:=rQ hi0 h1;omega
theorem pow_pos2(n:Nat):0<2^n:=Nat.pow_pos (by omega)
theorem sh_32{lv i:Nat}(hl:lv≤4)(hi:i<2^lv):1≤2^lv+i∧2^lv+i<32:=by
 have h1:=rQ (l0:=5) hi (by omega)
 have:=pow_pos2 lv
 omega
theorem plc_sh(lv:Nat)(s:Int):∃i,i<2^lv∧plc lv s=2^lv+i:=by
 refine⟨(s%2^lv).toNat,?_,rfl⟩
 have hp:(0:Int)<2^lv:=by exact_mod_cast pow_pos2 lv
 have h1:=Int.emod_nonneg s (by omega:(2^lv:Int)≠0)
 have h2:=Int.emod_lt_of_pos s hp
 have e:((2^lv:Nat):Int)=2^lv:=by norm_cast
 omega
theorem bB(lv:Nat)(s:Int):2^lv+(plc (lv+1) s-2^(lv+1))%2^lv=plc lv s:=by
 unfold plc
 congr 1
 rw[Nat.add_sub_cancel_left]
 have hp:(0:Int)<2^lv:=by exact_mod_cast pow_pos2 lv
 have e:((2^lv:Nat):Int)=2^lv:=by norm_cast
 have e2:(2^(lv+1):Int)=2^lv*2:=by rw[Int.pow_succ]
 have h1:=Int.emod_nonneg s (by omega:(2^lv:Int)≠0)
 have h2:=Int.emod_nonneg s (by omega:(2^(lv+1):Int)≠0)
 have h3:(s%2^(lv+1))%2^lv=s%2^lv:=Int.emod_emod_of_dvd s ⟨2,e2⟩
 have h4:(((s%2^(lv+1)).toNat%2^lv:Nat):Int)=s%2^lv:=by
  rw[Int.natCast_emod,Int.toNat_of_nonneg h2,e,h3]
 omega
theorem okW.low{D:Int}{lv:Nat}{x low low' B B':Int}(h:okW D lv x low B)(hl:FZ≤low→FZ≤low')(hB:B≤B'):okW D lv x low' B':=by
 unfold okW at h⊢;omega
theorem Iw.sh{W:Nat→Int}{B:Int}(h:Iw W B){lv i:Nat}(hl:lv≤4)(hi:i<2^lv):okW (W 0) lv (W (2^lv+i)) (dj W lv i) B:=h.w lv i hl hi
theorem Iw.mono{W:Nat→Int}{B B':Int}(h:Iw W B)(hB:B≤B'):Iw W B':=⟨h.d,fun lv i hl hi=>(h.w lv i hl hi).low (fun h=>h) hB⟩
theorem Iw.set_sh{W:Nat→Int}{B B':Int}(h:Iw W B){l0 i0:Nat}{x:Int}(hl0:l0≤4)(hi0:i0<2^l0)(hB:B≤B')(hx:okW (W 0) l0 x (dj W l0 i0) B')(hfz:FZ≤W (2^l0+i0)→FZ≤x):Iw (upd W (2^l0+i0) x) B':=by
 have h00:=sh_32 hl0 hi0
 have e0:upd W (2^l0+i0) x 0=W 0:=upd_ne _ _ (by omega)
 have hlow:∀j,FZ≤W j→FZ≤upd W (2^l0+i0) x j:=fun j hj=>by
  unfold upd
  by_cases e:j=2^l0+i0
  ·rw[if_pos e];subst e;exact hfz hj
  ·rw[if_neg e];exact hj
 refine⟨by rw[e0];exact h.d,fun lv i hl hi=>?_⟩
 rw[e0]
 by_cases e:2^lv+i=2^l0+i0
 ·obtain⟨rfl,rfl⟩:=b5 hi hi0 e
  rw[upd_same]
  exact hx.low (hlow _) (Int.le_refl _)
 ·rw[upd_ne _ _ e]
  exact(h.w lv i hl hi).low (hlow _) hB
theorem Iw.set_d{W:Nat→Int}{B d:Int}(h:Iw W B)(hd:0≤d∧d≤8)(hw:∀lv i,lv≤4→i<2^lv→okW (W 0) lv (W (2^lv+i)) (dj W lv i) B→okW d lv (W (2^lv+i)) (dj W lv i) B):Iw (upd W 0 d) B:=by
 refine⟨by rw[upd_same];exact hd,fun lv i hl hi=>?_⟩
 have h1:=sh_32 hl hi
 have h2:upd W 0 d (2^lv+i)=W (2^lv+i):=upd_ne _ _ (by omega)
 have h3:dj (upd W 0 d) lv i=dj W lv i:=upd_ne _ _ (by have:=pow_pos2 (lv-1);omega)
 rw[h2,h3,upd_same]
 exact hw lv i hl hi (h.w lv i hl hi)
theorem Iw.begin{W:Nat→Int}{B:Int}(h:Iw W B){k:Nat}(hk:k≤3)(e:W 0=2*k):Iw (upd W 0 (2*k+1)) B:=by
 refine h.set_d (by omega) fun lv i hl hi ho=>?_
 unfold okW at ho⊢;omega
theorem Iw.fin{W:Nat→Int}{B:Int}(h:Iw W B){k:Nat}(hk:k≤3)(e:W 0=2*k+1)(hg:Cw.gone W k (2^k)):Iw (upd W 0 (2*k+2)) B:=by
 refine h.set_d (by omega) fun lv i hl hi ho=>?_
 by_cases e1:lv=k
 ·subst e1
  have:=(hg i hi).1
  unfold okW at ho⊢;omega
 ·by_cases e2:lv=k+1
  ·subst e2
   have hne:W (2^(k+1)+i)≠0:=by
    by_cases hlt:i<2^k
    ·exact(hg i hlt).2.1
    ·have hj:i-2^k<2^k:=by rw[Nat.pow_succ]at hi;omega
     have:=(hg _ hj).2.2
     rwa [Nat.sub_add_cancel (by omega)]at this
   unfold okW at ho⊢;omega
  ·unfold okW at ho⊢;omega
structure Gr(W W':Nat→Int):Prop where
 d:W 0≤W' 0
 fz:∀w,FZ≤W w→FZ≤W' w
 ne:∀w,W w≠0→W' w≠0
theorem Gr.refl(W:Nat→Int):Gr W W:=⟨Int.le_refl _,fun _ h=>h,fun _ h=>h⟩
theorem Gr.set{W:Nat→Int}{w:Nat}{x:Int}(hd:w=0→W 0≤x)(hf:FZ≤W w→FZ≤x)(hn:W w≠0→x≠0):Gr W (upd W w x):=by
 refine⟨?_,fun j hj=>?_,fun j hj=>?_⟩
 ·unfold upd
  by_cases e:0=w
  ·rw[if_pos e];exact hd e.symm
  ·rw[if_neg e];exact Int.le_refl _
 ·unfold upd
  by_cases e:j=w
  ·rw[if_pos e];subst e;exact hf hj
  ·rw[if_neg e];exact hj
 ·unfold upd
  by_cases e:j=w
  ·rw[if_pos e];subst e;exact hn hj
  ·rw[if_neg e];exact hj
inductive Chg(W W':Nat→Int)(s':CS)(r:Res):Prop
 | no (h:W'=W)
 | d (h1:W'=upd W 0 (W 0+1)) (h2:W 0<8)
 | fz (w:Nat) (h0:1≤w∧w<16) (h1:0<W w∧W w<FZ) (h2:W'=upd W w (W w+FZ))
 | lay (w:Nat) (h0:1≤w∧w<32) (h1:W w=0) (h2:W'=upd W w 1)
 | key (w:Nat) (h0:1≤w∧w<32) (h1:0<W w∧W w<FZ) (h2:W'=upd W w (W w+1)) (h3:s'=.none) (h4:r.done=true)
theorem sh_16{lv i:Nat}(hl:lv≤3)(hi:i<2^lv):1≤2^lv+i∧2^lv+i<16:=by
 have h1:=rQ (l0:=4) hi (by omega)
 have:=pow_pos2 lv
 omega
theorem aN{w:Nat}(h:1≤w∧w<32):∃lv i,lv≤4∧i<2^lv∧w=2^lv+i:=by
 by_cases h1:w<2
 ·exact⟨0,w-1,by omega,by omega,by omega⟩
 by_cases h2:w<4
 ·exact⟨1,w-2,by omega,by omega,by omega⟩
 by_cases h3:w<8
 ·exact⟨2,w-4,by omega,by omega,by omega⟩
 by_cases h4:w<16
 ·exact⟨3,w-8,by omega,by omega,by omega⟩
 ·exact⟨4,w-16,by omega,by omega,by omega⟩
theorem cY{W:Nat→Int}{B:Int}(h:Iw W B){lv i:Nat}(hl:lv≤3)(hi:i<2^lv)(hd:2*(lv:Int)+1≤W 0){v:Int}(hv:v<FZ)(e:W (2^lv+i)=v) :
  (0<v)∧W 0=2*lv+1∧Iw (upd W (2^lv+i) (v+FZ)) B:=by
 have ho:=h.sh (by omega:lv≤4) hi
 rw[e]at ho
 have h1:0<v∧W 0=2*lv+1:=by unfold okW at ho;omega
 refine⟨h1.1,h1.2,h.set_sh (by omega) hi (Int.le_refl _) ?_ (by rw[e];omega)⟩
 unfold okW at ho⊢;omega
theorem sN{W:Nat→Int}{B:Int}(h:Iw W B)(hB:1≤B){lv i:Nat}(h1:1≤lv)(hl:lv≤4)(hi:i<2^lv)(hd:2*(lv:Int)-1≤W 0)(hlow:FZ≤dj W lv i)(e:W (2^lv+i)=0) :
  Iw (upd W (2^lv+i) 1) B:=by
 have ho:=h.sh hl hi
 rw[e]at ho
 have hF:FZ=4611686018427387904:=rfl
 refine h.set_sh hl hi (Int.le_refl _) ?_ (by rw[e];omega)
 unfold okW at ho⊢;omega
theorem n7{W:Nat→Int}{B:Int}(h:Iw W B){w:Nat}(hw:1≤w∧w<32)(hB:B+1<FZ)(hv:0<W w∧W w<FZ):Iw (upd W w (W w+1)) (B+1):=by
 obtain⟨lv,i,hl,hi,rfl⟩:=aN hw
 have ho:=h.sh hl hi
 refine h.set_sh hl hi (by omega) ?_ (by omega)
 unfold okW at ho⊢;omega
end Dir
namespace Dir
structure mg(P:Ops)(W:Nat→Int)(B:Int)(M':Mc)(s':CS)(r:Res):Prop where
 iw:Iw M'.W (B+1)
 cw:Cw P M'.W s'
 gr:Gr W M'.W
 chg:Chg W M'.W s' r
theorem upW_sh{lv i:Nat}{up:Bool}(hi:i<2^lv):∃j,j<2^(lv+1)∧upW lv i up=2^(lv+1)+j∧j%2^lv=i:=by
 have hp:=Nat.pow_succ 2 lv
 unfold upW
 cases up with
 | true=>exact⟨i+2^lv,by omega,rfl,by rw[Nat.add_mod_right,Nat.mod_eq_of_lt hi]⟩
 | false=>exact⟨i,by omega,rfl,Nat.mod_eq_of_lt hi⟩
end Dir
namespace Dir
def sumN(n:Nat)(f:Nat→Nat):Nat :=
 match n with
 | 0=>0
 | n+1=>sumN n f+f n
def remW(x:Int)(w:Nat):Nat:=if w=0 then(8-x).toNat else if w<16 then(if x=0 then 2 else if x<FZ then 1 else 0)else if x=0 then 1 else 0
def rem(W:Nat→Int):Nat:=sumN 32 fun w=>remW (W w) w
def TH(x:Int):Nat:=if x=0 then 4 else if x<FZ then 2 else 8
def TF(x y:Int):Nat:=TH y+if x<FZ then 2 else 1
def TE(x:Int):Nat:=if x≠0∧x<FZ then 2 else 8
def U(lv i:Nat):Nat:=6*(2^lv-i)+1
def T(P:Ops)(W:Nat→Int):CS→Nat
 | .none=>53
 | .k0 _=>if W 0%2=0 then 3 else 7
 | .kE _ w=>TE (W w)
 | .kF c lv w=>TF (W w) (W (plc (lv+1) (P.sum c.key)))
 | .kG c lv w v _=>if W w=v then 1+TH (W (plc (lv+1) (P.sum c.key)))else 1+TF (W w) (W (plc (lv+1) (P.sum c.key)))
 | .kH _ _ w _=>TH (W w)
 | .kL _ _ w _=>1+if W w=0 then 2 else TE (W w)
 | .kS _ w v _ _=>if W w=v then 1 else 8
 | .s0=>52
 | .sM lv=>if W 0=2*lv then 51 else 53
 | .sF lv i=>U lv i
 | .sG lv i v _=>if W (2^lv+i)=v then U lv i-1 else U lv i+1
 | .sH lv i up _=>U lv i-(if up then 4 else 2)
 | .sL lv i up _=>U lv i-(if up then 5 else 3)
 | .sV _=>1
end Dir
section
namespace Core
open Dir (FZ plc upd upW)
structure X where
 op:Int
 pol:Int
 key:List Int
 n:Int
 sum:Int
 res:Bool
 ser:Int
deriving Inhabited
inductive Fc where
 | key
 | ev (j sh:Nat) (g:Int)
deriving Inhabited
structure Fd where
 w:Nat
 v:Int
 h:List Cel
 at':Nat
 there:Bool
 cell:Cel
deriving Inhabited
inductive Bk where
 | lv (r:Rpl)
 | ev (j sh:Nat) (g:Int)
deriving Inhabited
inductive CS where
 | none
 | k0 (f:Fc)
 | kE (f:Fc) (w:Nat)
 | kF (f:Fc) (lv w:Nat)
 | kG (f:Fc) (lv w:Nat) (v:Int) (h:List Cel)
 | kH (f:Fc) (lv w:Nat) (h:List Cel)
 | kL (f:Fc) (lv w:Nat) (h:List Cel)
 | al (f:Fd)
 | pk (c:Cel)
 | a0 (f:Fd)
 | a1 (f:Fd) (u:Int)
 | p0 (f:Fd) (c:Cel) (r:Rpl)
 | p1 (f:Fd) (c:Cel) (r:Rpl) (u:Int)
 | pS (f:Fd) (c:Cel) (r:Rpl)
 | b0 (n:Int) (k:Bk)
 | b1 (n:Int) (k:Bk) (u:Int)
 | e0
 | eC (j sh:Nat) (g:Int) (w:Nat) (v:Int) (h:List Cel)
 | eS (j sh:Nat) (g:Int) (w:Nat) (v:Int) (m:List Cel) (n:Int)
 | s0
 | sM (lv:Nat)
 | sF (lv i:Nat)
 | sG (lv i:Nat) (v:Int) (h:List Cel)
 | sH (lv i:Nat) (up:Bool) (h:List Cel)
 | sL (lv i:Nat) (up:Bool) (h:List Cel)
 | sV (lv:Nat)
deriving Inhabited
structure Rs where
 done:Bool
 r:Rpl
deriving Inhabited
def z0:Rpl:=⟨0,false,0,0,0,0⟩
def r0:Rs:=⟨false,z0⟩
def er(e:Int):Rpl:=⟨e,false,0,0,0,0⟩
def gn(g:Int):Rpl:=⟨0,false,g,0,0,0⟩
structure Mc where
 W:Nat→Int
 Hd:Nat→List Cel
 clk:Int
def Mc.set(M:Mc)(w:Nat)(v:Int)(h:List Cel):Mc:=⟨upd M.W w v,upd M.Hd w h,M.clk⟩
structure Ops where
 cut:List Cel→Nat→Nat→List Cel
 fnd:List Cel→Int→List Int→Nat×Bool×Cel
 wth:List Cel→Nat→Bool→Cel→List Cel
 allow:Pol→Cel→Int→Int→Rpl×Cel
 acq:Pol→Cel→Int→Rpl×Cel
 rel:Pol→Cel→Int→Rpl×Cel
 peek:Pol→Cel→Int→Rpl
 idle:Cel→Int→Bool
 pol:Int→Pol
 room:Int
abbrev MAX:Int:=4611686018427387903
def sumF(x:X):Fc→Int
 | .key=>x.sum
 | .ev j _ _=>j
def leave(x:X)(r:Rpl):CS×Rs:=if x.res=true then(.b0 1 (.lv r),r0)else(.none,⟨true,r⟩)
def put(x:X)(f:Fd)(c:Cel)(r:Rpl):CS:=if f.there=true∨x.res=true then .pS f c r else .p0 f c r
def further(j sh:Nat)(g:Int):CS×Rs:=if j+1=sh then(.none,⟨true,gn g⟩)else(.k0 (.ev (j+1) sh g),r0)
def after(n:Int):Bk→CS×Rs
 | .lv r=>(.none,⟨true,r⟩)
 | .ev j sh g=>further j sh (g+n)
section
variable(P:Ops)
def fdOf(x:X)(w:Nat)(v:Int)(h:List Cel):Fd:=⟨w,v,h,(P.fnd h x.pol x.key).1,(P.fnd h x.pol x.key).2.1,(P.fnd h x.pol x.key).2.2⟩
def foundK(x:X)(f:Fd):CS×Rs :=
 if x.op=1 then(.al f,r0)
 else if x.op=2 then
  if(f.cell.held.length:Int)=(P.pol x.pol).permits then leave x (er 9)
  else if 0<x.ser then(put x f (P.acq (P.pol x.pol) f.cell x.ser).2 (P.acq (P.pol x.pol) f.cell x.ser).1,r0)
  else(.a0 f,r0)
 else if x.op=3 then
  if(P.rel (P.pol x.pol) f.cell x.n).1.e=0 then(put x f (P.rel (P.pol x.pol) f.cell x.n).2 (P.rel (P.pol x.pol) f.cell x.n).1,r0)
  else(.none,⟨true,(P.rel (P.pol x.pol) f.cell x.n).1⟩)
 else if(P.pol x.pol).kind=2 then(.none,⟨true,P.peek (P.pol x.pol) f.cell 0⟩)
 else(.pk f.cell,r0)
def found(x:X)(w:Nat)(v:Int)(h:List Cel):Fc→CS×Rs
 | .key=>foundK P x (fdOf P x w v h)
 | .ev j sh g=>if h.length=0 then further j sh g else(.eC j sh g w v h,r0)
def entered(x:X)(f:Fc)(w:Nat)(v:Int)(h:List Cel):CS×Rs:=if v=0∨FZ≤v then(.k0 f,r0)else found P x w v h f
def toH(x:X)(f:Fc)(lv:Nat)(h:List Cel):CS:=.kH f (lv+1) (plc (lv+1) (sumF x f)) h
def move(lv i:Nat):CS:=if i=2^lv then .sV lv else .sF lv i
def on(lv i:Nat)(up:Bool)(h:List Cel):CS:=if up then move lv (i+1)else .sH lv i true h
def dH(h:List Cel)(now:Int):List Cel:=h.filter fun c=>!P.idle c now
structure Out where
 M:Mc
 x:X
 s:CS
 r:Rs
def same(M:Mc)(x:X)(p:CS×Rs):Out:=⟨M,x,p.1,p.2⟩
def step(M:Mc)(x:X):CS→Out
 | .none=>⟨M,x,.none,r0⟩
 | .k0 f=>⟨M,x,if M.W 0%2=0 then .kE f (plc (M.W 0/2).toNat (sumF x f))else .kF f (M.W 0/2).toNat (plc (M.W 0/2).toNat (sumF x f)),r0⟩
 | .kE f w=>same M x (entered P x f w (M.W w) (M.Hd w))
 | .kF f lv w=>⟨M,x,if FZ≤M.W w then toH x f lv (M.Hd w)else .kG f lv w (M.W w) (M.Hd w),r0⟩
 | .kG f lv w v h=>if M.W w=v then⟨M.set w (v+FZ) h,x,toH x f lv h,r0⟩else⟨M,x,.kF f lv w,r0⟩
 | .kH f lv w h=>if M.W w=0 then⟨M,x,.kL f lv w h,r0⟩else same M x (entered P x f w (M.W w) (M.Hd w))
 | .kL f lv w h=>⟨if M.W w=0 then M.set w 1 (P.cut h lv (w-2^lv))else M,x,.kE f w,r0⟩
 | .al f =>
  let q:=P.allow (P.pol x.pol) f.cell M.clk x.n
  if q.1.g=false∨x.n=0 then same M x (leave x q.1)else⟨M,x,put x f q.2 q.1,r0⟩
 | .pk c=>⟨M,x,.none,⟨true,P.peek (P.pol x.pol) c M.clk⟩⟩
 | .a0 f=>if M.W 33=MAX then same M x (leave x (er 5))else⟨M,x,.a1 f (M.W 33),r0⟩
 | .a1 f u =>
  if M.W 33=u then
   let q:=P.acq (P.pol x.pol) f.cell (u+1)
   ⟨M.set 33 (u+1) [],{ x with ser:=u+1 },put x f q.2 q.1,r0⟩
  else⟨M,x,.a0 f,r0⟩
 | .p0 f c r=>if M.W 32=P.room then⟨M,x,.none,⟨true,er 10⟩⟩else⟨M,x,.p1 f c r (M.W 32),r0⟩
 | .p1 f c r u=>if M.W 32=u then⟨M.set 32 (u+1) [],{ x with res:=true },.pS f c r,r0⟩else⟨M,x,.p0 f c r,r0⟩
 | .pS f c r =>
  if M.W f.w=f.v then same (M.set f.w (f.v+1) (P.wth f.h f.at' f.there c)) x (if f.there=true then leave x r else(.none,⟨true,r⟩))
  else⟨M,x,.k0 .key,r0⟩
 | .b0 n k=>⟨M,x,.b1 n k (M.W 32),r0⟩
 | .b1 n k u=>if M.W 32=u then same (M.set 32 (u-n) []) x (after n k)else⟨M,x,.b0 n k,r0⟩
 | .e0=>⟨M,x,.k0 (.ev 0 (2^((M.W 0+1)/2).toNat) 0),r0⟩
 | .eC j sh g w v h =>
  if(dH P h M.clk).length=h.length then same M x (further j sh g)
  else⟨M,x,.eS j sh g w v (dH P h M.clk) ((h.length:Int)-(dH P h M.clk).length),r0⟩
 | .eS j sh g w v m n=>if M.W w=v then⟨M.set w (v+1) m,x,.b0 n (.ev j sh g),r0⟩else same M x (further j sh g)
 | .s0=>if M.W 0%2=1 then⟨M,x,.sF (M.W 0/2).toNat 0,r0⟩else if M.W 0/2=4 then⟨M,x,.none,⟨true,er 5⟩⟩else⟨M,x,.sM (M.W 0/2).toNat,r0⟩
 | .sM lv=>if M.W 0=2*lv then⟨M.set 0 (2*lv+1) [],x,.sF lv 0,r0⟩else⟨M,x,.s0,r0⟩
 | .sF lv i=>⟨M,x,if FZ≤M.W (2^lv+i)then .sH lv i false (M.Hd (2^lv+i))else .sG lv i (M.W (2^lv+i)) (M.Hd (2^lv+i)),r0⟩
 | .sG lv i v h=>if M.W (2^lv+i)=v then⟨M.set (2^lv+i) (v+FZ) h,x,.sH lv i false h,r0⟩else⟨M,x,.sF lv i,r0⟩
 | .sH lv i up h=>⟨M,x,if M.W (upW lv i up)=0 then .sL lv i up h else on lv i up h,r0⟩
 | .sL lv i up h=>⟨if M.W (upW lv i up)=0 then M.set (upW lv i up) 1 (P.cut h (lv+1) (upW lv i up-2^(lv+1)))else M,x,on lv i up h,r0⟩
 | .sV lv=>⟨if M.W 0=2*lv+1 then M.set 0 (2*lv+2) []else M,x,.none,⟨true,z0⟩⟩
end
end Core
end
section
namespace Core
open Dir (FZ plc upd upW Iw okW dj upd_same upd_ne pow_pos2 plc_sh bB sh_32 sh_16 b5 aN cY sN n7 upW_sh)
theorem iw_hi{W:Nat→Int}{B:Int}(h:Iw W B){w:Nat}(hw:32≤w)(x:Int):Iw (upd W w x) B:=by
 refine⟨by rw[upd_ne _ _ (by omega)];exact h.d,fun lv i hl hi=>?_⟩
 have h1:=sh_32 hl hi
 have h3:dj (upd W w x) lv i=dj W lv i:=upd_ne _ _ (by
  have h4:2^(lv-1)≤2^3:=Q16 (by omega) (by omega)
  have:=Nat.mod_lt i (pow_pos2 (lv-1));omega)
 rw[upd_ne _ _ (by omega),upd_ne _ _ (by omega),h3]
 exact h.w lv i hl hi
structure Gr(W W':Nat→Int):Prop where
 d:W 0≤W' 0
 fz:∀w,w<32→FZ≤W w→FZ≤W' w
 ne:∀w,w<32→W w≠0→W' w≠0
theorem Gr.refl(W:Nat→Int):Gr W W:=⟨Int.le_refl _,fun _ _ h=>h,fun _ _ h=>h⟩
theorem Gr.of{W W':Nat→Int}(h:Dir.Gr W W'):Gr W W':=⟨h.d,fun w _=>h.fz w,fun w _=>h.ne w⟩
theorem Gr.hi(W:Nat→Int){w:Nat}(hw:32≤w)(x:Int):Gr W (upd W w x) :=
 ⟨by rw[upd_ne _ _ (by omega)];exact Int.le_refl _,fun j hj h=>by rw[upd_ne _ _ (by omega)];exact h,fun j hj h=>by rw[upd_ne _ _ (by omega)];exact h⟩
def gone(W:Nat→Int)(lv i:Nat):Prop:=∀j,j<i→FZ≤W (2^lv+j)∧W (2^(lv+1)+j)≠0∧W (2^(lv+1)+(j+2^lv))≠0
def okFc:Fc→Prop
 | .key=>True
 | .ev j sh _=>j<sh∧sh≤16
def qZ(f:Fd):Prop:=1≤f.w∧f.w<32∧0<f.v∧f.v<FZ
def okBk(n:Int):Bk→Prop
 | .lv _=>n=1
 | .ev j sh _=>j<sh∧sh≤16
def okX(x:X):Prop:=x.op=2→x.ser≠0
def Cw(x:X)(W:Nat→Int):CS→Prop
 | .none=>True
 | .k0 f=>okFc f
 | .kE f w=>okFc f∧1≤w∧w<32
 | .kF f lv w=>okFc f∧lv≤3∧w=plc lv (sumF x f)∧2*(lv:Int)+1≤W 0
 | .kG f lv w v _=>okFc f∧lv≤3∧w=plc lv (sumF x f)∧2*(lv:Int)+1≤W 0∧v<FZ
 | .kH f lv w _=>okFc f∧1≤lv∧lv≤4∧w=plc lv (sumF x f)∧2*(lv:Int)-1≤W 0∧FZ≤W (plc (lv-1) (sumF x f))
 | .kL f lv w _=>okFc f∧1≤lv∧lv≤4∧w=plc lv (sumF x f)∧2*(lv:Int)-1≤W 0∧FZ≤W (plc (lv-1) (sumF x f))
 | .al f=>qZ f∧x.op=1
 | .pk _=>True
 | .a0 f=>qZ f∧x.ser=0
 | .a1 f u=>qZ f∧0≤u∧u≠MAX∧x.ser=0
 | .p0 f _ _=>qZ f∧f.there=false∧x.res=false∧okX x
 | .p1 f _ _ _=>qZ f∧f.there=false∧x.res=false∧okX x
 | .pS f _ _=>qZ f∧okX x∧(f.there=true∨x.res=true)
 | .b0 n k=>1≤n∧okBk n k
 | .b1 n k _=>1≤n∧okBk n k
 | .e0=>True
 | .eC j sh _ w v _=>j<sh∧sh≤16∧1≤w∧w<32∧0<v∧v<FZ
 | .eS j sh _ w v _ n=>j<sh∧sh≤16∧1≤w∧w<32∧0<v∧v<FZ∧1≤n
 | .s0=>True
 | .sM lv=>lv≤3
 | .sF lv i=>lv≤3∧i<2^lv∧2*(lv:Int)+1≤W 0∧gone W lv i
 | .sG lv i v _=>lv≤3∧i<2^lv∧2*(lv:Int)+1≤W 0∧gone W lv i∧v<FZ
 | .sH lv i up _=>lv≤3∧i<2^lv∧2*(lv:Int)+1≤W 0∧gone W lv i∧FZ≤W (2^lv+i)∧(up=true→W (2^(lv+1)+i)≠0)
 | .sL lv i up _=>lv≤3∧i<2^lv∧2*(lv:Int)+1≤W 0∧gone W lv i∧FZ≤W (2^lv+i)∧(up=true→W (2^(lv+1)+i)≠0)
 | .sV lv=>lv≤3∧2*(lv:Int)+1≤W 0∧gone W lv (2^lv)
theorem Gr.gone{W W':Nat→Int}(h:Gr W W'){lv i:Nat}(hl:lv≤3)(hi:i≤2^lv)(hg:gone W lv i):gone W' lv i:=fun j hj=>by
 obtain⟨a,b,c⟩:=hg j hj
 have h1:=sh_32 (by omega:lv≤4) (by omega:j<2^lv)
 have hp:=Nat.pow_succ 2 lv
 have h2:=sh_32 (by omega:lv+1≤4) (by omega:j<2^(lv+1))
 have h3:=sh_32 (by omega:lv+1≤4) (by omega:j+2^lv<2^(lv+1))
 exact⟨h.fz _ h1.2 a,h.ne _ h2.2 b,h.ne _ h3.2 c⟩
theorem Gr.cw{x:X}{W W':Nat→Int}(h:Gr W W'){s:CS}(hs:Cw x W s):Cw x W' s:=by
 have hd:=h.d
 have hp:∀lv,lv≤4→∀s:Int,plc lv s<32:=fun lv hl s=>by obtain⟨i,h1,h2⟩:=plc_sh lv s;rw[h2];exact(sh_32 hl h1).2
 have hs1:∀lv i,lv≤3→i<2^lv→2^lv+i<32:=fun lv i a b=>(sh_32 (by omega) b).2
 have hs2:∀lv i,lv≤3→i<2^lv→2^(lv+1)+i<32:=fun lv i a b=>(sh_32 (by omega) (by rw[Nat.pow_succ];omega)).2
 cases s with
 | kF f lv w=>obtain⟨z,a,b,d⟩:=hs;exact⟨z,a,b,by omega⟩
 | kG f lv w v m=>obtain⟨z,a,b,d,e⟩:=hs;exact⟨z,a,b,by omega,e⟩
 | kH f lv w m=>obtain⟨z,a,b,d,e,g⟩:=hs;exact⟨z,a,b,d,by omega,h.fz _ (hp _ (by omega) _) g⟩
 | kL f lv w m=>obtain⟨z,a,b,d,e,g⟩:=hs;exact⟨z,a,b,d,by omega,h.fz _ (hp _ (by omega) _) g⟩
 | sF lv i=>obtain⟨a,b,d,e⟩:=hs;exact⟨a,b,by omega,h.gone a (by omega) e⟩
 | sG lv i v m=>obtain⟨a,b,d,e,f⟩:=hs;exact⟨a,b,by omega,h.gone a (by omega) e,f⟩
 | sH lv i up m=>obtain⟨a,b,d,e,f,g⟩:=hs;exact⟨a,b,by omega,h.gone a (by omega) e,h.fz _ (hs1 _ _ a b) f,fun hu=>h.ne _ (hs2 _ _ a b) (g hu)⟩
 | sL lv i up m=>obtain⟨a,b,d,e,f,g⟩:=hs;exact⟨a,b,by omega,h.gone a (by omega) e,h.fz _ (hs1 _ _ a b) f,fun hu=>h.ne _ (hs2 _ _ a b) (g hu)⟩
 | sV lv=>obtain⟨a,b,d⟩:=hs;exact⟨a,by omega,h.gone a (by omega) d⟩
 | _=>exact hs
def kd:CS→Nat
 | .pS _ _ _=>1
 | .eS _ _ _ _ _ _ _=>1
 | .p1 _ _ _ _=>2
 | .b1 _ _ _=>2
 | .a1 _ _=>3
 | _=>0
inductive Chg(W W':Nat→Int)(s:CS):Prop
 | no (h:W'=W)
 | d (h1:W'=upd W 0 (W 0+1)) (h2:W 0<8)
 | fz (w:Nat) (h0:1≤w∧w<16) (h1:0<W w∧W w<FZ) (h2:W'=upd W w (W w+FZ))
 | lay (w:Nat) (h0:1≤w∧w<32) (h1:W w=0) (h2:W'=upd W w 1)
 | key (w:Nat) (h0:1≤w∧w<32) (h1:0<W w∧W w<FZ) (h2:W'=upd W w (W w+1)) (hs:kd s=1)
 | cnt (y:Int) (h2:W'=upd W 32 y) (hs:kd s=2)
 | ser (h1:W 33≠MAX) (h2:W'=upd W 33 (W 33+1)) (hs:kd s=3)
structure mg(x':X)(W:Nat→Int)(B:Int)(M':Mc)(s s':CS):Prop where
 iw:Iw M'.W (B+1)
 cw:Cw x' M'.W s'
 gr:Gr W M'.W
 chg:Chg W M'.W s
theorem mg.same{M:Mc}{x':X}{B:Int}{s s':CS}(h:Iw M.W B)(hc:Cw x' M.W s'):mg x' M.W B M s s':=⟨h.mono (by omega),hc,.refl _,.no rfl⟩
theorem gZ(x:X)(W:Nat→Int)(r:Rpl):Cw x W (leave x r).1:=by
 unfold leave;split
 ·exact⟨by omega,rfl⟩
 ·trivial
theorem oT{x:X}{W:Nat→Int}{f:Fd}{c:Cel}{r:Rpl}(hf:qZ f)(hx:okX x):Cw x W (put x f c r):=by
 unfold put;split
 ·rename_i h;exact⟨hf,hx,h⟩
 ·rename_i h
  refine⟨hf,?_,?_,hx⟩
  ·cases e:f.there with
   | true=>exact absurd (.inl e) h
   | false=>rfl
  ·cases e:x.res with
   | true=>exact absurd (.inr e) h
   | false=>rfl
theorem ec{x:X}{W:Nat→Int}{j sh:Nat}{g:Int}(h:j<sh∧sh≤16):Cw x W (further j sh g).1:=by
 unfold further;split
 ·trivial
 ·exact⟨by omega,h.2⟩
theorem y7{x:X}{W:Nat→Int}{n:Int}{k:Bk}(h:okBk n k):Cw x W (after n k).1:=by
 cases k with
 | lv r=>trivial
 | ev j sh g=>exact ec h
theorem ti{P:Ops}{x:X}{W:Nat→Int}{f:Fd}(hf:qZ f)(hser:0≤x.ser):Cw x W (foundK P x f).1:=by
 unfold foundK
 by_cases h1:x.op=1
 ·rw[if_pos h1];exact⟨hf,h1⟩
 rw[if_neg h1]
 by_cases h2:x.op=2
 ·rw[if_pos h2]
  split
  ·exact gZ _ _ _
  ·split
   ·exact oT hf fun _=>by omega
   ·exact⟨hf,by omega⟩
 rw[if_neg h2]
 split
 ·split
  ·exact oT hf fun h=>absurd h h2
  ·trivial
 ·split<;>trivial
theorem ks{P:Ops}{x:X}{W:Nat→Int}{f:Fc}{w:Nat}{v:Int}{h:List Cel}(hf:okFc f)(hw:1≤w∧w<32)(hv:0≤v)(hser:0≤x.ser):Cw x W (entered P x f w v h).1:=by
 unfold entered
 split
 ·exact hf
 ·unfold found
  cases f with
  | key=>exact ti ⟨hw.1,hw.2,by show 0<v;omega,by show v<FZ;omega⟩ hser
  | ev j sh g =>
   dsimp only
   split
   ·exact ec hf
   ·exact⟨hf.1,hf.2,hw.1,hw.2,by omega,by omega⟩
theorem move_cw{x:X}{W:Nat→Int}{lv i:Nat}(hl:lv≤3)(hi:i<2^lv)(hd:2*(lv:Int)+1≤W 0)(hg:gone W lv (i+1)):Cw x W (move lv (i+1)):=by
 unfold move
 split
 ·rename_i e;rw[e]at hg;exact⟨hl,hd,hg⟩
 ·exact⟨hl,by omega,hd,hg⟩
theorem s7{W:Nat→Int}{lv i:Nat}(h:gone W lv i)(h1:FZ≤W (2^lv+i))(h2:W (2^(lv+1)+i)≠0)(h3:W (2^(lv+1)+(i+2^lv))≠0):gone W lv (i+1):=fun j hj=>by
 by_cases e:j=i
 ·subst e;exact⟨h1,h2,h3⟩
 ·exact h j (by omega)
theorem on_cw{x:X}{W:Nat→Int}{lv i:Nat}{up:Bool}{h:List Cel}(hl:lv≤3)(hi:i<2^lv)(hd:2*(lv:Int)+1≤W 0)(hg:gone W lv i)(hf:FZ≤W (2^lv+i))
  (hu:up=true→W (2^(lv+1)+i)≠0) (hn:W (upW lv i up)≠0):Cw x W (on lv i up h):=by
 unfold on
 cases up with
 | true =>
  refine move_cw hl hi hd (s7 hg hf (hu rfl) ?_)
  simpa[upW]using hn
 | false=>exact⟨hl,hi,hd,hg,hf,fun _=>by simpa[upW]using hn⟩
theorem io{P:Ops}{M:Mc}{B:Int}(h:Iw M.W B)(hB:1≤B∧B+1<FZ){x:X}(hx:0≤x.ser)(h33:0≤M.W 33){s:CS}(hs:Cw x M.W s) :
  mg (step P M x s).x M.W B (step P M x s).M s (step P M x s).s:=by
 have hF:FZ=4611686018427387904:=rfl
 have hd:=h.d
 cases s with
 | none=>exact .same h trivial
 | k0 f =>
  have hk:(M.W 0/2).toNat≤4:=by omega
  obtain⟨i,h1,h2⟩:=plc_sh (M.W 0/2).toNat (sumF x f)
  have:=sh_32 hk h1
  refine .same h ?_
  show Cw x M.W (if _ then _ else _)
  split
  ·rw[h2];exact⟨hs,this⟩
  ·exact⟨hs,by omega,rfl,by omega⟩
 | kE f w =>
  obtain⟨lv,i,hl,hi,rfl⟩:=aN hs.2
  have:=h.sh hl hi
  exact .same h (ks hs.1 hs.2 (by unfold okW at this;omega) hx)
 | kF f lv w =>
  obtain⟨z,a,b,d⟩:=hs
  refine .same h ?_
  show Cw x M.W (if _ then _ else _)
  split
  ·exact⟨z,by omega,by omega,rfl,by omega,by rw[Nat.add_sub_cancel,← b];assumption⟩
  ·exact⟨z,a,b,d,by omega⟩
 | kG f lv w v m =>
  obtain⟨z,a,b,d,e⟩:=hs
  obtain⟨i,h1,h2⟩:=plc_sh lv (sumF x f)
  by_cases hm:M.W w=v
  ·have hb:=b
   rw[h2]at hb
   subst hb
   obtain⟨g1,g2,g3⟩:=cY h a h1 d e hm
   have g4:Dir.Gr M.W (upd M.W (2^lv+i) (v+FZ)):=.set (fun e0=>by have:=sh_16 a h1;omega) (fun _=>by omega) (fun _=>by omega)
   simp only[step,if_pos hm]
   have hd2:=g4.d
   refine⟨g3.mono (by omega),⟨z,by omega,by omega,rfl,?_,?_⟩,.of g4,.fz _ (sh_16 a h1) (by omega) (by rw[hm];rfl)⟩
   ·show _≤upd M.W _ _ 0;omega
   ·rw[Nat.add_sub_cancel,h2];show FZ≤upd M.W _ _ _;rw[upd_same];omega
  ·simp only[step,if_neg hm]
   exact .same h ⟨z,a,b,d⟩
 | kH f lv w m =>
  obtain⟨z,a,b,d,e,g⟩:=hs
  obtain⟨i,h1,h2⟩:=plc_sh lv (sumF x f)
  have hw:=sh_32 b h1
  rw[← h2,← d]at hw
  have ho:=h.sh b h1
  rw[← h2,← d]at ho
  by_cases hm:M.W w=0
  ·simp only[step,if_pos hm];exact .same h ⟨z,a,b,d,e,g⟩
  ·simp only[step,if_neg hm];exact .same h (ks z hw (by unfold okW at ho;omega) hx)
 | kL f lv w m =>
  obtain⟨z,a,b,d,e,g⟩:=hs
  obtain⟨i,h1,h2⟩:=plc_sh lv (sumF x f)
  have hw:=sh_32 b h1
  have hlow:FZ≤dj M.W lv i:=by
   have h3:=bB (lv-1) (sumF x f)
   rw[Nat.sub_add_cancel a,h2,Nat.add_sub_cancel_left]at h3
   unfold dj;rw[h3];exact g
  rw[h2]at d
  subst d
  by_cases hm:M.W (2^lv+i)=0
  ·simp only[step,if_pos hm]
   refine⟨(sN h hB.1 a b h1 e hlow hm).mono (by omega),⟨z,hw⟩,.of (.set (fun e0=>by omega) (fun _=>by omega) (fun _=>by omega)),.lay _ hw hm rfl⟩
  ·simp only[step,if_neg hm];exact .same h ⟨z,hw⟩
 | al f =>
  simp only[step]
  split
  ·exact .same h (gZ _ _ _)
  ·exact .same h (oT hs.1 fun e=>absurd ((show x.op=1 from hs.2).symm.trans e) (by decide))
 | pk c=>exact .same h trivial
 | a0 f =>
  simp only[step]
  split
  ·exact .same h (gZ _ _ _)
  ·rename_i hm;exact .same h ⟨hs.1,h33,hm,hs.2⟩
 | a1 f u =>
  obtain⟨a,b,c,e⟩:=hs
  by_cases hm:M.W 33=u
  ·simp only[step,if_pos hm]
   subst hm
   exact⟨(iw_hi h (by omega) _).mono (by omega),oT a fun _=>by show M.W 33+1≠0;omega,Gr.hi _ (by omega) _,.ser c rfl rfl⟩
  ·simp only[step,if_neg hm];exact .same h ⟨a,e⟩
 | p0 f c r =>
  simp only[step]
  split
  ·exact .same h trivial
  ·exact .same h hs
 | p1 f c r u =>
  obtain⟨a,b,e,g⟩:=hs
  by_cases hm:M.W 32=u
  ·simp only[step,if_pos hm]
   exact⟨(iw_hi h (by omega) _).mono (by omega),⟨a,g,.inr rfl⟩,Gr.hi _ (by omega) _,.cnt _ rfl rfl⟩
  ·simp only[step,if_neg hm];exact .same h ⟨a,b,e,g⟩
 | pS f c r =>
  obtain⟨⟨a,b,d,e⟩,g,k⟩:=hs
  by_cases hm:M.W f.w=f.v
  ·simp only[step,if_pos hm]
   have d':0<M.W f.w:=by omega
   have e':M.W f.w<FZ:=by omega
   refine⟨?_,?_,.of ?_,?_⟩
   ·show Iw (upd M.W f.w (f.v+1)) (B+1);rw[← hm];exact n7 h ⟨a,b⟩ hB.2 ⟨d',e'⟩
   ·show Cw x _ (if _ then _ else _:CS×Rs).1;split
    ·exact gZ _ _ _
    ·trivial
   ·show Dir.Gr M.W (upd M.W f.w (f.v+1));exact .set (fun e0=>by omega) (fun _=>by omega) (fun _=>by omega)
   ·exact .key f.w ⟨a,b⟩ ⟨d',e'⟩ (by rw[hm];rfl) rfl
  ·simp only[step,if_neg hm];exact .same h trivial
 | b0 n k=>exact .same h hs
 | b1 n k u =>
  by_cases hm:M.W 32=u
  ·simp only[step,if_pos hm]
   exact⟨(iw_hi h (by omega) _).mono (by omega),y7 hs.2,Gr.hi _ (by omega) _,.cnt _ rfl rfl⟩
  ·simp only[step,if_neg hm];exact .same h hs
 | e0 =>
  have hk:((M.W 0+1)/2).toNat≤4:=by omega
  have:2^((M.W 0+1)/2).toNat≤2^4:=Q16 (by omega) hk
  exact .same h ⟨pow_pos2 _,this⟩
 | eC j sh g w v m =>
  obtain⟨a,b,c⟩:=hs
  simp only[step]
  split
  ·exact .same h (ec ⟨a,b⟩)
  ·rename_i hm
   have hl:(dH P m M.clk).length≤m.length:=List.length_filter_le _ _
   exact .same h ⟨a,b,c.1,c.2.1,c.2.2.1,c.2.2.2,by omega⟩
 | eS j sh g w v m n =>
  obtain⟨a,b,c,d,e,e',k⟩:=hs
  by_cases hm:M.W w=v
  ·simp only[step,if_pos hm]
   have h1:0<M.W w:=by omega
   have h2:M.W w<FZ:=by omega
   refine⟨?_,⟨k,a,b⟩,.of ?_,?_⟩
   ·show Iw (upd M.W w (v+1)) (B+1);rw[← hm];exact n7 h ⟨c,d⟩ hB.2 ⟨h1,h2⟩
   ·show Dir.Gr M.W (upd M.W w (v+1));exact .set (fun e0=>by omega) (fun _=>by omega) (fun _=>by omega)
   ·exact .key w ⟨c,d⟩ ⟨h1,h2⟩ (by rw[hm];rfl) rfl
  ·simp only[step,if_neg hm];exact .same h (ec ⟨a,b⟩)
 | s0 =>
  by_cases h1:M.W 0%2=1
  ·simp only[step,if_pos h1]
   exact .same h ⟨by omega,pow_pos2 _,by omega,fun j hj=>by omega⟩
  ·by_cases h2:M.W 0/2=4
   ·simp only[step,if_neg h1,if_pos h2];exact .same h trivial
   ·simp only[step,if_neg h1,if_neg h2]
    refine .same h ?_
    show _≤_
    omega
 | sM lv =>
  by_cases hm:M.W 0=2*lv
  ·simp only[step,if_pos hm]
   have hl:lv≤3:=hs
   have g:=h.begin hl hm
   have h2:(M.set 0 (2*lv+1) []).W 0=2*lv+1:=by simp[Mc.set,upd]
   refine⟨g.mono (by omega),⟨hl,pow_pos2 _,by omega,fun j hj=>by omega⟩,.of (.set (fun _=>by omega) (fun _=>by omega) (fun _=>by omega)),.d ?_ (by omega)⟩
   rw[hm];rfl
  ·simp only[step,if_neg hm];exact .same h trivial
 | sF lv i =>
  obtain⟨a,b,d,e⟩:=hs
  refine .same h ?_
  show Cw x M.W (if _ then _ else _)
  split
  ·exact⟨a,b,d,e,by assumption,fun hf=>by simp at hf⟩
  ·exact⟨a,b,d,e,by omega⟩
 | sG lv i v m =>
  obtain⟨a,b,d,e,f⟩:=hs
  by_cases hm:M.W (2^lv+i)=v
  ·obtain⟨g1,g2,g3⟩:=cY h a b d f hm
   have g4:Dir.Gr M.W (upd M.W (2^lv+i) (v+FZ)):=.set (fun e0=>by have:=sh_16 a b;omega) (fun _=>by omega) (fun _=>by omega)
   simp only[step,if_pos hm]
   have hd2:=g4.d
   exact⟨g3.mono (by omega),⟨a,b,by show _≤upd M.W _ _ 0;omega,(Gr.of g4).gone a (by omega) e,by show FZ≤upd M.W _ _ _;rw[upd_same];omega,fun hf=>by simp at hf⟩,.of g4,.fz _ (sh_16 a b) (by omega) (by rw[hm];rfl)⟩
  ·simp only[step,if_neg hm];exact .same h ⟨a,b,d,e⟩
 | sH lv i up m =>
  obtain⟨a,b,d,e,f,g⟩:=hs
  refine .same h ?_
  show Cw x M.W (if _ then _ else _)
  split
  ·exact⟨a,b,d,e,f,g⟩
  ·exact on_cw a b d e f g (by assumption)
 | sL lv i up m =>
  obtain⟨a,b,d,e,f,g⟩:=hs
  obtain⟨j,h1,h2,h3⟩:=upW_sh (up:=up) b
  have hw:=sh_32 (by omega:lv+1≤4) h1
  by_cases hm:M.W (upW lv i up)=0
  ·simp only[step,if_pos hm]
   have hlow:FZ≤dj M.W (lv+1) j:=by unfold dj;rw[Nat.add_sub_cancel,h3];exact f
   have g4:Dir.Gr M.W (upd M.W (upW lv i up) 1):=.set (fun e0=>by omega) (fun _=>by omega) (fun _=>by omega)
   have hd2:=g4.d
   refine⟨?_,on_cw a b (by show _≤upd M.W _ _ 0;omega) ((Gr.of g4).gone a (by omega) e) (g4.fz _ f) (fun hu=>g4.ne _ (g hu)) (by show upd M.W _ _ _≠0;rw[upd_same];omega),.of g4,.lay _ (by omega) hm rfl⟩
   have:=sN h hB.1 (by omega:1≤lv+1) (by omega) h1 (by omega) hlow (by rw[← h2];exact hm)
   rw[← h2]at this
   exact this.mono (by omega)
  ·simp only[step,if_neg hm];exact .same h (on_cw a b d e f g hm)
 | sV lv =>
  obtain⟨a,b,d⟩:=hs
  by_cases hm:M.W 0=2*lv+1
  ·simp only[step,if_pos hm]
   refine⟨(h.fin a hm d).mono (by omega),trivial,.of (.set (fun _=>by omega) (fun _=>by omega) (fun _=>by omega)),.d ?_ (by omega)⟩
   rw[hm];show upd M.W 0 _=upd M.W 0 _;congr 1
  ·simp only[step,if_neg hm];exact .same h trivial
end Core
end
end Go.Proofs.YtlkccdlgnpkjpaaGreat
