/- Lemmas of Bk3, Bk4, Bk5, Bk6, Bk7a, Bk7, Bk8, Bk9, Bk10, SlLibI64, SlLibCell, Bk11, Bk12, Bk13. No condition. -/
import Derived.Test.YtlkccdlgnpkjpaaGreatMO5
import Derived.Lib.BytesEntry
import Derived.Laws.Externs
import Derived.Test.YtlkccdlgnpkjpaaGreatRows
import Derived.WalkKit
import Derived.WalkSpells
import Derived.WalkLawsBesides
import Derived.IntWalk
import Derived.BigQuiet
import Derived.Deep.QuietTactic
import Derived.StillTailTactics
import Derived.Deep.RegionWith
import Derived.Deep.RegionHeld3
import Derived.Lib.Hide
set_option linter.unusedVariables false
set_option linter.unusedSimpArgs false
set_option linter.unusedSectionVars false
set_option maxHeartbeats 80000000
set_option maxRecDepth 100000
namespace Go.Proofs.YtlkccdlgnpkjpaaGreat
open Go.RowKit
def md(a b:Int):Int:=if cq a&&cq b then 0 else 1
theorem mc(a b:Int):md a b=0↔(0≤a∧a≤4611686018427387903)∧0≤b∧b≤4611686018427387903:=by simp[md,cq];omega
theorem zo(T tau:Int):limE T tau=0↔(1≤T∧T≤4611686018427387903)∧0≤tau∧tau≤4611686018427387903:=by simp[limE,cq];omega
theorem mr(a b:Int):Pure TC 85 [.i .i64 a,.i .i64 b] (.i .i64 (md a b)):=by
 refine Pure.mk' Tryz.func85 rfl rfl zN ?_
 (repeat' (first|((first|refine Wp.any ac rfl ?_|(with_reducible first|refine Go.mk ?_|apply ai.of|refine ab.pure (cp _) rfl rfl ?_));conv=>whnf)|((refine aq (fun hc=>?_) (fun hc=>?_))<;>(try simp only[wz9]at hc)<;>(try (exfalso;omega))<;>(conv=>whnf))))
 all_goals exact .i (by simp[md, *])
def cA(n:Int):Int:=min (max n 0) 4611686018427387903
theorem jJ(n:Int):Pure TC 86 [.i .i64 n] (.i .i64 (cA n)):=by
 refine Pure.mk' Tryz.func86 rfl rfl zN ?_
 (repeat' (first|((first|refine Wp.any ac rfl ?_|(with_reducible first|refine Go.mk ?_|apply ai.of));conv=>whnf)))
 all_goals exact .i (by unfold cA;omega)
def uD(a b:Int):Int:=if md a b=0 then max (a-b) 0 else 0
theorem uE(a b:Int):Pure TC 58 [.i .i64 a,.i .i64 b] (.tup [.i .i64 (uD a b),.i .i64 (md a b)]):=by
 refine Pure.mk' Tryz.func58 rfl rfl zN ?_
 (repeat' (first|((first|refine Wp.any ac rfl ?_|(with_reducible first|refine Go.mk ?_|apply ai.of|refine Ov.ok zO ?_|refine ab.pure (mr _ _) rfl rfl ?_|refine ab.pure (jJ _) rfl rfl ?_));conv=>whnf)|((refine aq (fun hc=>?_) (fun hc=>?_))<;>(try simp only[wz9,mc]at hc)<;>(try (exfalso;omega))<;>(conv=>whnf))))
 ·exact .of_eq (by rw[uD,if_neg (by rw[mc];omega)])
 ·exact .of_eq (by rw[uD,if_pos (by rw[mc];omega),show md a b=0 by rw[mc];omega,show cA (a-b)=max (a-b) 0 by unfold cA;omega])
theorem mG(a T:Int)(ha:0≤a)(hT:1≤T):0≤a/T∧a/T≤a:=⟨Int.ediv_nonneg ha (by omega),Int.ediv_le_self _ ha⟩
def dG(T tau tat now:Int):Int:=if tau<max tat now-now then 0 else min ((tau-(max tat now-now))/T+1) ((4611686018427387903-max tat now)/T)
theorem mX(T tau tat now:Int)(hT:1≤T)(hT2:T≤4611686018427387903)(h1:0≤tau)(h2:tau≤4611686018427387903)(h3:0≤tat)(h4:tat≤4611686018427387903)(h5:0≤now)(h6:now≤4611686018427387903) :
  Pure TC 84 [.agg [.i .i64 T,.i .i64 tau],.i .i64 tat,.i .i64 now] (.i .i64 (dG T tau tat now)):=by
 have q1:¬(if now>tat then now else tat)-now>tau→_:=fun h=>mG (tau-((if now>tat then now else tat)-now)) T (by omega) hT
 have q2:=mG (4611686018427387903-(if now>tat then now else tat)) T (by omega) hT
 refine Pure.mk' Tryz.func84 rfl rfl zN ?_
 (repeat' (first|((first|refine Wp.any ac rfl ?_|(with_reducible first|refine Go.mk ?_|apply ai.of|refine Ov.ok zO ?_|refine Ov.quo (by omega) (by omega) (by omega) (fun _ _=>?_))|refine zV ?_|with_reducible refine And.intro zC ?_);conv=>whnf)|((refine aq (fun hc=>?_) (fun hc=>?_))<;>(try simp only[wz9]at hc)<;>(try (exfalso;omega))<;>(conv=>whnf))))
 ·exact .i (by unfold dG;omega)
 ·refine .i ?_
  have e:max tat now=if now>tat then now else tat:=by omega
  rw[dG,e,if_neg (show ¬tau<(if now>tat then now else tat)-now by omega)]
  omega
theorem zj{x y:Int}(hx:0≤x)(hx2:x≤4611686018427387903)(hy:0≤y)(hy2:y≤4611686018427387903):0≤x*y∧x*y≤4611686018427387903*4611686018427387903 :=
 ⟨Int.mul_nonneg hx hy,Int.mul_le_mul hx2 hy2 hy (by omega)⟩
def jl(T n:Int):Int:=IntKind.i64.wrap (loI ((n-1)*T))
theorem hi_0{p:Int}(h:0≤p):(hiI p=0→loI p=p)∧(hiI p≠0→18446744073709551616≤p):=by unfold hiI loI;omega
theorem qz(T tau n:Int)(hT:1≤T)(hT2:T≤4611686018427387903)(h1:0≤tau)(h2:tau≤4611686018427387903)(h3:1≤n)(h4:n≤4611686018427387903) :
  Pure TC 151 [.agg [.i .i64 T,.i .i64 tau],.i .i64 n] (.tup [.i .i64 (jl T n),.b (decide ((n-1)*T≤tau))]):=by
 obtain⟨m1,m2⟩:=zj (x:=n-1) (y:=T) (by omega) (by omega) (by omega) hT2
 refine Pure.mk' Tryz.func151 rfl rfl zN ?_
 (repeat' (first|((first|refine Wp.any ac rfl ?_|(with_reducible first|refine Go.mk ?_|apply ai.of|refine Ov.ok zO ?_)|refine zV ?_|(with_reducible first|refine ab.pure (bits_Mul64 _ _ (by omega) (by omega) (by omega) (by omega)) rfl rfl ?_|refine Ov.mk ?_));conv=>whnf)|((refine aq (fun hc=>?_) (fun hc=>?_))<;>(try simp only[wz9]at hc)<;>(try (exfalso;omega))<;>(conv=>whnf))))
 ·rw[(hi_0 m1).1 hc]
  exact .of_eq (by unfold jl;rw[(hi_0 m1).1 hc])
 ·have:=(hi_0 m1).2 hc
  exact .of_eq (by rw[show decide ((n-1)*T≤tau)=false by simp;omega];rfl)
def rk(T tau tat now n:Int):Int :=
 if(n-1)*T≤tau∧n≤(4611686018427387903-max tat now)/T then tat-now-(tau-(n-1)*T)else 4611686018427387903
theorem y5{T tau n:Int}(h0:0≤(n-1)*T)(h:(n-1)*T≤tau)(ht:tau≤4611686018427387903):jl T n=(n-1)*T:=by
 unfold jl loI
 generalize (n-1)*T=p at *
 rw[show p%18446744073709551616=p by omega,IntWalk.i64_in _ (by omega)]
theorem tc(T tau tat now n:Int)(hT:1≤T)(hT2:T≤4611686018427387903)(h1:0≤tau)(h2:tau≤4611686018427387903)(h3:0≤tat)(h4:tat≤4611686018427387903)(h5:0≤now)(h6:now≤4611686018427387903)(h7:1≤n)(h8:n≤4611686018427387903) :
  Pure TC 118 [.agg [.i .i64 T,.i .i64 tau],.i .i64 tat,.i .i64 now,.i .i64 n] (.i .i64 (rk T tau tat now n)):=by
 obtain⟨m1,m2⟩:=zj (x:=n-1) (y:=T) (by omega) (by omega) (by omega) hT2
 have q2:=mG (4611686018427387903-(if now>tat then now else tat)) T (by omega) hT
 have q3:(n-1)*T≤tau→jl T n=(n-1)*T:=fun h=>y5 m1 h h2
 refine Pure.mk' Tryz.func118 rfl rfl zN ?_
 have e:max tat now=if now>tat then now else tat:=by omega
 (repeat' (first|((first|refine Wp.any ac rfl ?_|(with_reducible first|refine Go.mk ?_|apply ai.of|refine Ov.ok zO ?_|refine Ov.quo (by omega) (by omega) (by omega) (fun _ _=>?_)|refine And.intro zC ?_|refine ab.pure (qz T tau n hT hT2 h1 h2 h7 h8) rfl rfl ?_));conv=>whnf)|((refine aq (fun hc=>?_) (fun hc=>?_))<;>(try simp only[wz9]at hc)<;>(try (exfalso;omega))<;>(conv=>whnf))))
 ·exact .i (by rw[rk,if_neg (by omega)])
 ·exact .i (by rw[rk,e,if_neg (show ¬((n-1)*T≤tau∧n≤(4611686018427387903-(if now>tat then now else tat))/T)by omega)])
 ·exact .i (by rw[rk,e,if_pos (show(n-1)*T≤tau∧n≤(4611686018427387903-(if now>tat then now else tat))/T by omega),q3 (by omega)])
structure Ans where
 g:Bool
 tat:Int
 wait:Int
 left:Int
def Ans.S(a:Ans):SV:=.agg [.b a.g,.i .i64 a.tat,.i .i64 a.wait,.i .i64 a.left]
def tatI(T tau tat now n:Int):Int:=if n≤dG T tau tat now∧0<n then max tat now+n*T else tat
def decI(T tau tat now n:Int):Ans :=
 {g:=decide (n≤dG T tau tat now),tat:=tatI T tau tat now n
  wait:=if n≤dG T tau tat now then 0 else rk T tau tat now n,left:=dG T tau (tatI T tau tat now n) now }
theorem yi{T tau tat now:Int}(hT:1≤T)(h3:0≤tat)(h4:tat≤4611686018427387903)(h5:0≤now)(h6:now≤4611686018427387903){n:Int}(hn:n≤dG T tau tat now)(h0:0<n) :
  0≤n*T∧max tat now+n*T≤4611686018427387903:=by
 unfold dG at hn
 split at hn
 ·omega
 ·have h:n≤(4611686018427387903-max tat now)/T:=by omega
  rw[Int.le_ediv_iff_mul_le (by omega)]at h
  exact⟨Int.mul_nonneg (by omega) (by omega),by omega⟩
theorem mN{T tau tat now:Int}(hT:1≤T)(h3:0≤tat)(h4:tat≤4611686018427387903)(h5:0≤now)(h6:now≤4611686018427387903):0≤dG T tau tat now∧dG T tau tat now≤4611686018427387903:=by
 unfold dG
 split
 ·omega
 ·have h1:=mG (tau-(max tat now-now)) T (by omega) hT
  have h2:=mG (4611686018427387903-max tat now) T (by omega) hT
  omega
theorem og(T tau tat now n:Int)(hT:1≤T)(hT2:T≤4611686018427387903)(h1:0≤tau)(h2:tau≤4611686018427387903)(h3:0≤tat)(h4:tat≤4611686018427387903)(h5:0≤now)(h6:now≤4611686018427387903)(h7:0≤n)(h8:n≤4611686018427387903) :
  Pure TC 87 [.agg [.i .i64 T,.i .i64 tau],.i .i64 tat,.i .i64 now,.i .i64 n] (decI T tau tat now n).S:=by
 have hl0:=mN (tau:=tau) hT h3 h4 h5 h6
 have hl1:n≤dG T tau tat now→0<n→_:=yi (n:=n) (tau:=tau) hT h3 h4 h5 h6
 have e:max tat now=if now>tat then now else tat:=by omega
 refine Pure.mk' Tryz.func87 rfl rfl zN ?_
 (repeat' (first|((first|refine Wp.any ac rfl ?_|(with_reducible first|refine Go.mk ?_|apply ai.of|refine Ov.ok zO ?_|refine ab.pure (mX _ _ _ _ hT hT2 h1 h2 (by omega) (by omega) h5 h6) rfl rfl ?_|refine ab.pure (tc _ _ _ _ _ hT hT2 h1 h2 (by omega) (by omega) h5 h6 (by omega) (by omega)) rfl rfl ?_));conv=>whnf)|((refine aq (fun hc=>?_) (fun hc=>?_))<;>(try simp only[wz9]at hc)<;>(try (exfalso;omega))<;>(conv=>whnf))))
 all_goals refine .of_eq ?_
 ·simp[Ans.S,decI,tatI,hc]
 ·have h9:n≤dG T tau tat now∧0<n:=by omega
  simp[Ans.S,decI,tatI,h9,e]
 ·have h9:¬(n≤dG T tau tat now∧0<n):=by omega
  have h8:n≤dG T tau tat now:=by omega
  simp only[Ans.S,decI,tatI,if_neg h9,if_pos h8]
def rb(T tau:Int)(xs:List Int):Int:=if xs.all cq then limE T tau else 1
theorem kh(T tau:Int)(xs:List Int):Pure TC 83 [.agg [.i .i64 T,.i .i64 tau],.d (am 1 (aM .i64) xs)] (.i .i64 (rb T tau xs)):=by
 refine Pure.lens (.mk Tryz.func83 rfl rfl) fun hlen=>?_
 have hlen:=hlen xs.length (by simp[dB,am])
 refine Pure.mk' Tryz.func83 rfl rfl zN ?_
 (repeat' (first|((first|refine Wp.any ac rfl ?_|(with_reducible first|refine Go.mk ?_|apply ai.of));conv=>whnf)))
 refine Wp.loopP (fun k=>k≤xs.length∧(xs.take k).all cq=true) (fun k=>⟨⟨Tryz.f83.ntmps,0⟩,1,[(2,.ptr 0 0),(7,.d (am 1 (aM .i64) xs)),(8,.i .i64 xs.length),(9,.i .i64 k)],[(0,some (.cells [.i .i64 T,.i .i64 tau]))]⟩) (fun k=>xs.length-k) 0 ⟨by simp,by simp⟩ ?_ ?_
 ·(refine Le.by [0] rfl rfl rfl rfl ?_ ?_<;>(conv=>whnf)<;>(repeat' (first|exact trivial|exact ae.rfl rfl|exact ae.ptr rfl|((with_reducible refine And.intro ?_ ?_)<;>(conv=>whnf)))))
 ·rintro k ⟨hk,hall⟩
  (repeat' (first|((first|refine Wp.any ac rfl ?_|(with_reducible first|refine Go.mk ?_|apply ai.of|refine Ov.ok zO ?_|refine And.intro zC ?_|refine ab.pure (cp _) rfl rfl ?_|refine ab.pure (jW _ _) rfl rfl ?_));conv=>whnf)|((refine aq (fun hc=>?_) (fun hc=>?_))<;>(try simp only[wz9]at hc)<;>(try (exfalso;omega))<;>(conv=>whnf))))
  ·exact .i (by rw[rb,sn (k:=k) (by omega) (by simpa using hc)];rfl)
  ·refine⟨k+1,⟨by omega,fL (by omega) hall (by simpa using hc)⟩,by dsimp only;omega,?_⟩
   (refine Le.by [0] rfl rfl rfl rfl ?_ ?_<;>(conv=>whnf)<;>(repeat' (first|exact trivial|exact ae.rfl rfl|exact ae.ptr rfl|((with_reducible refine And.intro ?_ ?_)<;>(conv=>whnf)))))
  ·rw[Q21 (by omega)]at hall
   exact .i (by rw[rb,hall];rfl)
theorem pO(T tau a b c:Int):rb T tau [a,b,c]=0↔((1≤T∧T≤4611686018427387903)∧0≤tau∧tau≤4611686018427387903)∧(0≤a∧a≤4611686018427387903)∧(0≤b∧b≤4611686018427387903)∧0≤c∧c≤4611686018427387903:=by
 rw[← zo];unfold rb
 simp only[List.all_cons,List.all_nil,Bool.and_true,Q5,eZ]
 split<;>omega
theorem pP(T tau a b:Int):rb T tau [a,b]=0↔((1≤T∧T≤4611686018427387903)∧0≤tau∧tau≤4611686018427387903)∧(0≤a∧a≤4611686018427387903)∧0≤b∧b≤4611686018427387903:=by
 rw[← zo];unfold rb
 simp only[List.all_cons,List.all_nil,Bool.and_true,Q5,eZ]
 split<;>omega
def decA(T tau tat now n:Int):Ans:=if rb T tau [tat,now,n]=0 then decI T tau tat now n else⟨false,0,0,0⟩
theorem oh(T tau tat now n:Int):Pure TC 59 [.agg [.i .i64 T,.i .i64 tau],.i .i64 tat,.i .i64 now,.i .i64 n] (.tup [(decA T tau tat now n).S,.i .i64 (rb T tau [tat,now,n])]):=by
 refine Pure.mk' Tryz.func59 rfl rfl zN ?_
 (repeat' (first|((first|refine Wp.any ac rfl ?_|(with_reducible first|refine Go.mk ?_|apply ai.of));conv=>whnf)|((with_reducible refine ab.pureI (kh T tau [tat,now,n]) rfl ?_);(conv=>whnf);(repeat' ((with_reducible refine And.intro (by omega) ?_);(conv=>whnf)));(refine And.intro (by(repeat' (first|exact zA9|with_reducible refine Les.cons ?_ ?_))) ?_);(conv=>whnf))|((with_reducible refine ab.pure (og T tau tat now n (by omega) (by omega) (by omega) (by omega) (by omega) (by omega) (by omega) (by omega) (by omega) (by omega)) rfl rfl ?_);conv=>whnf)|((refine aq (fun hc=>?_) (fun hc=>?_))<;>(try simp only[wz9,pO]at hc)<;>(try (exfalso;omega))<;>(conv=>whnf))))
 ·exact .of_eq (by rw[decA,if_neg (by rw[pO];exact hc)];rfl)
 ·exact .of_eq (by rw[decA,if_pos (by rw[pO];exact hc),(pO ..).2 hc];rfl)
theorem td(T tau tat now:Int):Pure TC 57 [.agg [.i .i64 T,.i .i64 tau],.i .i64 tat,.i .i64 now] (.tup [.i .i64 (if rb T tau [tat,now]=0 then dG T tau tat now else 0),.i .i64 (rb T tau [tat,now])]):=by
 refine Pure.mk' Tryz.func57 rfl rfl zN ?_
 (repeat' (first|((first|refine Wp.any ac rfl ?_|(with_reducible first|refine Go.mk ?_|apply ai.of));conv=>whnf)|((with_reducible refine ab.pureI (kh T tau [tat,now]) rfl ?_);(conv=>whnf);(repeat' ((with_reducible refine And.intro (by omega) ?_);(conv=>whnf)));(refine And.intro (by(repeat' (first|exact zA9|with_reducible refine Les.cons ?_ ?_))) ?_);(conv=>whnf))|((with_reducible refine ab.pure (mX T tau tat now (by omega) (by omega) (by omega) (by omega) (by omega) (by omega) (by omega) (by omega)) rfl rfl ?_);conv=>whnf)|((refine aq (fun hc=>?_) (fun hc=>?_))<;>(try simp only[wz9,pP]at hc)<;>(try (exfalso;omega))<;>(conv=>whnf))))
 ·exact .of_eq (by rw[if_neg (by rw[pP];exact hc)])
 ·exact .of_eq (by rw[if_pos (by rw[pP];exact hc),(pP ..).2 hc])
theorem tJ(n:Int):Pure TC 152 [.i .i64 n] (.b false):=by
 refine Pure.mk' Tryz.func152 rfl rfl zN ?_
 (repeat' (first|((first|refine Wp.any ac rfl ?_|(with_reducible first|refine Go.mk ?_|apply ai.of));conv=>whnf)))
 all_goals exact .b (by simp)
theorem mB(n:Int):Pure TC 120 [.i .i64 n] (.b false):=by
 refine Pure.mk' Tryz.func120 rfl rfl zN ?_
 (repeat' (first|((first|refine Wp.any ac rfl ?_|(with_reducible first|refine Go.mk ?_|apply ai.of));conv=>whnf)))
 all_goals exact .b (by simp)
theorem yL(a b:Int):Pure TC 119 [.i .i64 a,.i .i64 b] (.b (decide (a<b))):=by
 refine Pure.mk' Tryz.func119 rfl rfl zN ?_
 (repeat' (first|((first|refine Wp.any ac rfl ?_|(with_reducible first|refine Go.mk ?_|apply ai.of|refine ab.pure (tJ _) rfl rfl ?_));conv=>whnf)))
 all_goals exact .b (by simp;try omega)
def dF(xs:List Int)(t:Int):Nat:=bs (fun k=>decide (xs.getD k default<t)) xs.length
def lN(xs:List Int)(t:Int):Bool:=decide (dF xs t<xs.length)&&decide (xs.getD (dF xs t) default=t)
theorem jP(xs:List Int)(t:Int)(hlen:xs.length≤4611686018427387903):Pure TC 90 [.d (am 1 (aM .i64) xs),.i .i64 t] (.tup [.i .i64 (dF xs t),.b (lN xs t)]):=by
 refine Pure.mk' Tryz.func90 rfl rfl zN ?_
 (repeat' (first|((first|refine Wp.any ac rfl ?_|(with_reducible first|refine Go.mk ?_|apply ai.of));conv=>whnf)))
 refine Wp.loopP (ι:=Nat×Nat×Nat) (fun k=>k.1≤k.2.1∧k.2.1≤xs.length∧k.2.1-k.1<k.2.2∧bsF (fun k=>decide (xs.getD k default<t)) k.2.2 k.1 k.2.1=dF xs t) (fun k=>⟨⟨Tryz.f90.ntmps,0⟩,0,[(0,.d (am 1 (aM .i64) xs)),(1,.i .i64 t),(6,.i .i64 xs.length),(7,.i .i64 k.1),(8,.i .i64 k.2.1)],[]⟩) (fun k=>k.2.1-k.1) (0,xs.length,xs.length+1) ⟨by simp,by simp,by simp,rfl⟩ ?_ ?_
 ·(refine Le.by [] rfl rfl rfl rfl ?_ ?_<;>(conv=>whnf)<;>(repeat' (first|exact trivial|exact ae.rfl rfl|((with_reducible refine And.intro ?_ ?_)<;>(conv=>whnf)))))
 ·rintro⟨i,j,q⟩ ⟨h1,h2,h3,h4⟩
  dsimp only at h1 h2 h3 h4⊢
  (repeat' (first|((first|refine Wp.any ac rfl ?_|(with_reducible first|refine Go.mk ?_|apply ai.of|refine Ov.ok zO ?_));conv=>whnf)|(with_reducible refine Ov.sh1 (by with_unfolding_all exact rfl) ?_)|((with_reducible first|refine And.intro zC ?_|refine ab.pure (yL _ _) rfl rfl ?_|refine ab.pure (mB _) rfl rfl ?_);conv=>whnf)|((refine aq (fun hc=>?_) (fun hc=>?_))<;>(try simp only[wz9]at hc)<;>(try (exfalso;omega))<;>(conv=>whnf))))
  ·rw[show(((i:Int)+j)/2).toNat=(i+j)/2 by omega]at hc
   have hh:decide (xs.getD ((i+j)/2) default<t)=true:=by simpa using hc
   refine⟨((i+j)/2+1,j,q-1),⟨by dsimp only;omega,h2,by dsimp only;omega,?_⟩,by dsimp only;omega,?_⟩
   ·rw[← h4]
    obtain⟨q,rfl⟩:∃r,q=r+1:=⟨q-1,by omega⟩
    rw[bsF,if_pos (by omega),if_pos hh];rfl
   ·(refine Le.by [] rfl rfl rfl rfl ?_ ?_<;>(conv=>whnf)<;>(repeat' (first|exact trivial|exact ae.rfl rfl|((with_reducible refine And.intro ?_ ?_)<;>(conv=>whnf)))))
  ·rw[show(((i:Int)+j)/2).toNat=(i+j)/2 by omega]at hc
   have hh:¬decide (xs.getD ((i+j)/2) default<t)=true:=by simpa using hc
   refine⟨(i,(i+j)/2,q-1),⟨by dsimp only;omega,by dsimp only;omega,by dsimp only;omega,?_⟩,by dsimp only;omega,?_⟩
   ·rw[← h4]
    obtain⟨q,rfl⟩:∃r,q=r+1:=⟨q-1,by omega⟩
    rw[bsF,if_pos (by omega),if_neg hh];rfl
   ·(refine Le.by [] rfl rfl rfl rfl ?_ ?_<;>(conv=>whnf)<;>(repeat' (first|exact trivial|exact ae.rfl rfl|((with_reducible refine And.intro ?_ ?_)<;>(conv=>whnf)))))
  all_goals rw[oB (by omega)]at h4
  all_goals subst h4
  ·exact .of_eq (by simp[lN];simp_all)
  ·exact .of_eq (by simp[lN];simp_all)
  ·exact .of_eq (by simp[lN];intros;omega)
def nP(n:Int):Bool:=decide (1≤n)&&decide (n≤4611686018427387903)
theorem iG(n:Int):Pure TC 88 [.i .i64 n] (.b (nP n)):=by
 refine Pure.mk' Tryz.func88 rfl rfl zN ?_
 (repeat' (first|((first|refine Wp.any ac rfl ?_|(with_reducible first|refine Go.mk ?_|apply ai.of));conv=>whnf)|((refine aq (fun hc=>?_) (fun hc=>?_))<;>(try simp only[wz9]at hc)<;>(try (exfalso;omega))<;>(conv=>whnf))))
 all_goals exact .b (by simp[nP];try omega)
def dE:Int→List Int→Bool
 | _,[]=>true
 | l,x::r=>nP x&&decide (l<x)&&dE x r
def gB(p:Int)(xs:List Int):Int:=if 1≤p∧p≤64∧(xs.length:Int)≤p∧dE 0 xs=true then 0 else 3
theorem dS{α:Type}[Inhabited α]{xs:List α}{k:Nat}(h:k<xs.length):xs.drop k=xs.getD k default::xs.drop (k+1):=by
 rw[List.drop_eq_getElem_cons h];simp[List.getD,Q0 h]
theorem j4(p:Int)(xs:List Int):Pure TC 89 [.agg [.i .i64 p,.d (am 1 (aM .i64) xs)]] (.i .i64 (gB p xs)):=by
 refine Pure.mk' Tryz.func89 rfl rfl zN ?_
 (repeat' (first|((first|refine Wp.any ac rfl ?_|(with_reducible first|refine Go.mk ?_|apply ai.of));conv=>whnf)|((refine aq (fun hc=>?_) (fun hc=>?_))<;>(try simp only[wz9]at hc)<;>(try (exfalso;omega))<;>(conv=>whnf))))
 ·exact .i (by rw[gB,if_neg (by omega)])
 ·exact .i (by rw[gB,if_neg (by omega)])
 ·exact .i (by rw[gB,if_neg (by omega)])
 refine Wp.loopP (ι:=Nat×Int) (fun k=>k.1≤xs.length∧dE k.2 (xs.drop k.1)=dE 0 xs) (fun k=>⟨⟨Tryz.f89.ntmps,0⟩,0,[(3,.i .i64 k.2),(23,.d (am 1 (aM .i64) xs)),(24,.i .i64 xs.length),(25,.i .i64 k.1)],[]⟩) (fun k=>xs.length-k.1) (0,0) ⟨by simp,by simp⟩ ?_ ?_
 ·(refine Le.by [] rfl rfl rfl rfl ?_ ?_<;>(conv=>whnf)<;>(repeat' (first|exact trivial|exact ae.rfl rfl|((with_reducible refine And.intro ?_ ?_)<;>(conv=>whnf)))))
 ·rintro⟨k,l⟩ ⟨h1,h2⟩
  dsimp only at h1 h2⊢
  (repeat' (first|((first|refine Wp.any ac rfl ?_|(with_reducible first|refine Go.mk ?_|apply ai.of|refine Ov.ok zO ?_|refine And.intro zC ?_|refine ab.pure (iG _) rfl rfl ?_));conv=>whnf)|((refine aq (fun hc=>?_) (fun hc=>?_))<;>(try simp only[wz9]at hc)<;>(try (exfalso;omega))<;>(conv=>whnf))))
  all_goals try simp only[Q13]at *
  ·rw[dS (by omega),dE,hc]at h2
   exact .i (by rw[gB,if_neg (by rw[← h2];simp)])
  ·rw[dS (by omega),dE,decide_eq_false (by omega)]at h2
   exact .i (by rw[gB,if_neg (by rw[← h2];simp)])
  ·rename_i hs
   rw[dS (by omega),dE,hs,decide_eq_true (by omega)]at h2
   refine⟨(k+1,xs.getD k default),⟨by dsimp only;omega,by simpa using h2⟩,by dsimp only;omega,?_⟩
   (refine Le.by [] rfl rfl rfl rfl ?_ ?_<;>(conv=>whnf)<;>(repeat' (first|exact trivial|exact ae.rfl rfl|((with_reducible refine And.intro ?_ ?_)<;>(conv=>whnf)))))
  ·rw[List.drop_eq_nil_of_le (by omega),dE]at h2
   exact .i (by rw[gB,if_pos ⟨by omega,by omega,by omega,h2.symm⟩])
structure Cel where
 pol:Int
 key:List Int
 tat:Int
 held:List Int
 deriving Inhabited
def Cel.D(c:Cel):List D:=[.val (.int .i64 c.pol),am 1 (aM .u8) c.key,.val (.int .i64 c.tat),am 1 (aM .i64) c.held]
theorem mV(xs:List Int)(hn:xs.length≤16777216):Fun TC 64 0 [.d (am 1 (aM .i64) xs)] [] 1 (.sl 0 1 0 xs.length) [(0,some (ay 2 1 (aM .i64) xs))]:=by
 refine Fun.mk' Tryz.func64 rfl rfl zN (by decide) ?_
 (repeat' (first|((first|refine Wp.any ac rfl ?_|(with_reducible first|refine Go.mk ?_|apply ai.of|refine And.intro zC ?_));conv=>whnf)|((with_reducible refine And.intro ?hb ?_);(case hb=>exact zz6);(conv=>whnf))|((with_reducible refine dK ?_ (fun hn0=>?_))<;>(conv=>whnf))))
 ·refine af.of [1] rfl (by simp) rfl ?_ ?_
  ·exact .of_eq (congrArg (SV.sl _ _ _) (Q19 _))
  ·refine⟨⟨⟨rfl,rfl,Q19 _⟩,fun i hi=>?_⟩,trivial⟩
   simp[bu]
 ·obtain rfl:=List.eq_nil_of_length_eq_zero hn0
  refine af.virt 2 1 (fun i=>(aM .i64) (([]:List Int).getD i default)) (by decide) (by decide) ?_
  refine af.of [0] rfl (by simp) rfl ?_ ?_
  ·exact .of_eq rfl
  ·exact⟨⟨⟨rfl,rfl,rfl⟩,fun i hi=>rfl⟩,trivial⟩
theorem ja(xs:List Cel)(hn:xs.length≤16777216):Fun TC 62 0 [.d (am 4 Cel.D xs)] [] 1 (.sl 0 4 0 xs.length) [(0,some (ay 89 4 Cel.D xs))]:=by
 refine Fun.mk' Tryz.func62 rfl rfl zN (by decide) ?_
 (repeat' (first|((first|refine Wp.any ac rfl ?_|(with_reducible first|refine Go.mk ?_|apply ai.of|refine And.intro zC ?_));conv=>whnf)|((with_reducible refine And.intro ?hb ?_);(case hb=>exact zz6);(conv=>whnf))|((with_reducible refine dK ?_ (fun hn0=>?_))<;>(conv=>whnf))))
 ·refine af.of [1] rfl (by simp) rfl ?_ ?_
  ·exact .of_eq (congrArg (SV.sl _ _ _) (Q19 _))
  ·refine⟨⟨⟨rfl,rfl,Q19 _⟩,fun i hi=>?_⟩,trivial⟩
   simp[bu]
 ·obtain rfl:=List.eq_nil_of_length_eq_zero hn0
  refine af.virt 89 4 (fun i=>Cel.D (([]:List Cel).getD i default)) (by decide) (by decide) ?_
  refine af.of [0] rfl (by simp) rfl ?_ ?_
  ·exact .of_eq rfl
  ·exact⟨⟨⟨rfl,rfl,rfl⟩,fun i hi=>rfl⟩,trivial⟩
theorem fI(xs:List Cel)(hn:xs.length≤16777216):Fun TC 62 1 [.sl 0 4 0 xs.length] [(0,some (ay 89 4 Cel.D xs))] 2 (.sl 1 4 0 xs.length) [(0,some (ay 89 4 Cel.D xs)),(1,some (ay 89 4 Cel.D xs))]:=by
 refine Fun.mk' Tryz.func62 rfl rfl zN (by decide) ?_
 (repeat' (first|((first|refine Wp.any ac rfl ?_|(with_reducible first|refine Go.mk ?_|apply ai.of));conv=>whnf)|with_reducible exact rfl|((with_reducible refine Ov.ok zO ?_);conv=>whnf)|(with_reducible refine Ov.sh1 (by with_unfolding_all exact rfl) ?_)|((first|with_reducible refine Ov.quo (by omega) (by omega) (by omega) (fun _ _=>?_)|refine zV ?_|with_reducible refine And.intro zC ?_);conv=>whnf)|((with_reducible refine And.intro ?hb ?_);(case hb=>exact zz6);(conv=>whnf))|((refine fP.a rfl rfl rfl rfl rfl rfl ?hb ?_);(case hb=>exact zB);(conv=>whnf))|((refine fP.b rfl rfl rfl rfl rfl rfl rfl rfl ?hb ?ho ?_);(case hb=>exact zB);(case ho=>omega);(conv=>whnf))|((refine fP.c rfl rfl rfl rfl rfl ?hb ?_);(case hb=>exact zB);(conv=>whnf))|((refine fP.d rfl rfl rfl rfl rfl rfl ?hb ?ho ?_);(case hb=>exact zB);(case ho=>omega);(conv=>whnf))|(with_reducible refine Or.inl ?_)|((with_reducible refine IxA.ptr ?_);conv=>whnf)|((with_reducible refine o4 (by omega) ?_);(conv=>whnf))|((with_reducible refine dK ?_ (fun hn0=>?_))<;>(conv=>whnf))|((refine aq (fun hc=>?_) (fun hc=>?_))<;>(try simp only[wz9]at hc)<;>(try (exfalso;omega))<;>(conv=>whnf))))
 ·refine af.of [0,2] rfl (fun i hi=>by have:i=0:=(by omega);subst this;rfl) rfl ?_ ?_
  ·exact .of_eq (congrArg (SV.sl _ _ _) (Q19 _))
  ·refine⟨⟨⟨rfl,rfl,rfl⟩,fun i hi=>rfl⟩,⟨⟨rfl,rfl,Q19 _⟩,fun i hi=>?_⟩,trivial⟩
   simp[bu]
 ·obtain rfl:=List.eq_nil_of_length_eq_zero hn0
  refine af.virt 89 4 (fun i=>Cel.D (([]:List Cel).getD i default)) (by decide) (by decide) ?_
  refine af.of [0,1] rfl (fun i hi=>by have:i=0:=(by omega);subst this;rfl) rfl ?_ ?_
  ·exact .of_eq rfl
  ·exact⟨⟨⟨rfl,rfl,rfl⟩,fun i hi=>rfl⟩,⟨⟨rfl,rfl,rfl⟩,fun i hi=>rfl⟩,trivial⟩
def cV(p:Int)(key:List Int):Int:=if p<0∨32≤p then 1 else if 255<key.length then 2 else 0
def bW(p:Int)(key:List Int):List Int:=if cV p key=0 then p::key else[]
theorem gh(p:Int)(key:List Int):Pure TC 71 [.i .i64 p,.d (am 1 (aM .u8) key)] (.tup [.d (am 1 (aM .u8) (bW p key)),.i .i64 (cV p key)]):=by
 refine Pure.mk' Tryz.func71 rfl rfl zN ?_
 (repeat' (first|((first|refine Wp.any ac rfl ?_|(with_reducible first|refine Go.mk ?_|apply ai.of|refine Ov.ok zO ?_|refine And.intro zC ?_));conv=>whnf)|((with_reducible refine And.intro ?hb ?_);(case hb=>exact zz6);(conv=>whnf))|((refine aq (fun hc=>?_) (fun hc=>?_))<;>(try simp only[wz9]at hc)<;>(try (exfalso;omega))<;>(conv=>whnf))))
 ·have hE:cV p key=1:=by rw[cV,if_pos (by omega)]
  rw[bW,hE];exact .tup (.cons .nil (.cons (.rfl _) .nil))
 ·have hE:cV p key=1:=by rw[cV,if_pos (by omega)]
  rw[bW,hE];exact .tup (.cons .nil (.cons (.rfl _) .nil))
 ·have hE:cV p key=2:=by rw[cV,if_neg (by omega),if_pos (by omega)]
  rw[bW,hE];exact .tup (.cons .nil (.cons (.rfl _) .nil))
 ·have hE:cV p key=0:=by rw[cV,if_neg (by omega),if_neg (by omega)]
  rw[bW,hE,Nat.add_comm 1]
  refine .tup (.cons (SV.Le.sl fun i hi=>?_) (.cons (.rfl _) .nil))
  rcases i with _|i
  ·rfl
  ·simp[bu]
def aH(ps:List Pol)(c:Cel)(now:Int):Bool:=if(ps.getD c.pol.toNat default).kind=2 then(c.held.length:Int)==0 else decide (c.tat≤now)
@[reducible] def Cel.S(c:Cel):SV:=.agg [.i .i64 c.pol,.d (am 1 (aM .u8) c.key),.i .i64 c.tat,.d (am 1 (aM .i64) c.held)]
theorem nA(ps:List Pol)(c:Cel)(now:Int)(h0:0≤c.pol)(h1:c.pol<ps.length):Pure TC 27 [.d (am 4 Pol.D ps),c.S,.i .i64 now] (.b (aH ps c now)):=by
 refine Pure.mk' Tryz.func27 rfl rfl zN ?_
 (repeat' (first|((first|refine Wp.any ac rfl ?_|(with_reducible first|refine Go.mk ?_|apply ai.of|refine And.intro zC ?_));conv=>whnf)|((refine aq (fun hc=>?_) (fun hc=>?_))<;>(try simp only[wz9]at hc)<;>(try (exfalso;omega))<;>(conv=>whnf))))
 ·exact .b (by rw[aH,if_pos hc])
 ·exact .b (by rw[aH,if_neg hc])
structure Rpl where
 e:Int
 g:Bool
 left:Int
 wait:Int
 serial:Int
 now:Int
 deriving Inhabited
@[reducible] def Rpl.S(r:Rpl):SV:=.agg [.i .i64 r.e,.b r.g,.i .i64 r.left,.i .i64 r.wait,.i .i64 r.serial,.i .i64 r.now]
@[reducible] def Pol.S(p:Pol):SV:=.agg [.i .u8 p.kind,.i .i64 p.T,.i .i64 p.tau,.i .i64 p.permits]
def eG(p:Pol)(c:Cel)(now n:Int):Rpl:=let a:=decA p.T p.tau c.tat now n;⟨0,a.g,a.left,a.wait,0,now⟩
def gJ(p:Pol)(c:Cel)(now n:Int):Cel:=⟨c.pol,c.key,(decA p.T p.tau c.tat now n).tat,c.held⟩
theorem kI(p:Pol)(c:Cel)(now n:Int):Pure TC 30 [p.S,c.S,.i .i64 now,.i .i64 n] (.tup [(eG p c now n).S,(gJ p c now n).S]):=by
 refine Pure.mk' Tryz.func30 rfl rfl zN ?_
 (repeat' (first|((first|refine Wp.any ac rfl ?_|(with_reducible first|refine Go.mk ?_|apply ai.of)|refine zV ?_|with_reducible refine ab.pure (oh _ _ _ _ _) rfl rfl ?_);conv=>whnf)))
 exact .of_eq rfl
def iH(p:Pol)(c:Cel)(now:Int):Rpl:=if p.kind=2 then⟨0,false,p.permits-c.held.length,0,0,0⟩else⟨0,false,if rb p.T p.tau [c.tat,now]=0 then dG p.T p.tau c.tat now else 0,uD c.tat now,0,now⟩
theorem jh(p:Pol)(c:Cel)(now:Int)(h1:p.kind=2→-4611686018427387904≤p.permits∧p.permits≤4611686018427387903)(h3:c.held.length≤4611686018427387903):Pure TC 29 [p.S,c.S,.i .i64 now] (iH p c now).S:=by
 refine Pure.mk' Tryz.func29 rfl rfl zN ?_
 (repeat' (first|((first|refine Wp.any ac rfl ?_|(with_reducible first|refine Go.mk ?_|apply ai.of|refine Ov.ok zO ?_|refine ab.pure (td _ _ _ _) rfl rfl ?_|refine ab.pure (uE _ _) rfl rfl ?_));conv=>whnf)|((refine aq (fun hc=>?_) (fun hc=>?_))<;>(try simp only[wz9]at hc)<;>(try (exfalso;omega))<;>(conv=>whnf))))
 ·exact .of_eq (by rw[iH,if_pos hc])
 ·exact .of_eq (by rw[iH,if_neg hc])
def IsB(xs:List Int):Prop:=∀x∈xs,0≤x∧x≤255
theorem IsB.cons{x:Int}{xs:List Int}(h:IsB (x::xs)):(0≤x∧x≤255)∧IsB xs:=⟨h x (by simp),fun y hy=>h y (by simp[hy])⟩
def be:List Int→List Int→Int
 | [],[]=>0
 | [],_::_=>-1
 | _::_,[]=>1
 | a::r,b::s=>if a<b then -1 else if b<a then 1 else be r s
theorem gq:∀(a b:List Int),IsB a→IsB b→Lib.compareBytes (Lib.bytesOf a) (Lib.bytesOf b)=be a b
 | [],[],_,_=>rfl
 | [],_::_,_,_=>rfl
 | _::_,[],_,_=>rfl
 | x::a,y::b,ha,hb=>by
  obtain⟨hx,ha'⟩:=ha.cons
  obtain⟨hy,hb'⟩:=hb.cons
  have ih:=gq a b ha' hb'
  have e1:(x.toNat.toUInt8<y.toNat.toUInt8)↔x<y:=by
   rw[UInt8.lt_iff_toNat_lt];simp only[Nat.toUInt8,UInt8.toNat_ofNat'];omega
  have e2:(y.toNat.toUInt8<x.toNat.toUInt8)↔y<x:=by
   rw[UInt8.lt_iff_toNat_lt];simp only[Nat.toUInt8,UInt8.toNat_ofNat'];omega
  show Lib.compareBytes (x.toNat.toUInt8::Lib.bytesOf a) (y.toNat.toUInt8::Lib.bytesOf b)=_
  simp only[Lib.compareBytes,be,e1,e2,ih]
theorem iz{P:Program}{Im:Nat→Prop}{w:World}{v:Value}{xs:List Int}(h:RD w Im (am 1 (aM .u8) xs) v):(∃a cap,v=.slice a xs.length cap)∧(Extern.Bytes.bytesOf v).run P w=.ok ⟨(Lib.bytesOf xs).toArray⟩ w:=by
 cases h with
 | sl _ _ _ a cap g hc hm hl ha hg =>
  refine⟨⟨a,cap,rfl⟩,?_⟩
  cases a with
  | none =>
   cases xs with
   | nil=>simp[Extern.Bytes.bytesOf,Lib.bytesOf];rfl
   | cons x r=>obtain⟨b,o,e,_⟩:=ha (by simp);cases e
  | some ad =>
   have:=Lib.run_loadBytesX (P:=P) w xs ad .empty (fun j x hj=>by
    have hjl:=(Q3 hj).1
    obtain⟨b,o,e,_,hcell⟩:=ha (by omega)
    cases e
    have h1:=hcell j 0 hjl (by omega)
    have h2:=hg j 0 hjl (by simp[aM])
    have h3:(aM .u8 (xs.getD j default))[0]'(by simp[aM])=.val (.int .u8 x):=by
     simp[aM,List.getD,hj]
    rw[h3]at h2
    have h4:g j 0=.int .u8 x:=by generalize g j 0=y at h2;cases h2;rfl
    rw[h4]at h1
    rw[Addr.add_lit]
    simpa using h1)
   simp only[Extern.Bytes.bytesOf,this]
   simp
theorem ma(a b:List Int)(ba:IsB a)(bb:IsB b):Pure TC 115 [.d (am 1 (aM .u8) a),.d (am 1 (aM .u8) b)] (.i .i64 (be a b)):=by
 refine⟨.mk Tryz.func115 rfl rfl,fun E w vs hIm hsz hargs=>?_⟩
 obtain⟨va,vb,rfl⟩:∃va vb,vs=#[va,vb]:=⟨vs[0]'(by simp at hsz;omega),vs[1]'(by simp at hsz;omega),by
  apply Array.ext (by simpa using hsz)
  intro i h1 h2
  have:i=0∨i=1:=by simp at h2;omega
  rcases this with rfl|rfl<;>rfl⟩
 have ha:RD w E.Im (am 1 (aM .u8) a) va:=by
  have:=hargs 0 (by simp)
  cases this with|d _ _ h=>exact h
 have hb:RD w E.Im (am 1 (aM .u8) b) vb:=by
  have:=hargs 1 (by simp)
  cases this with|d _ _ h=>exact h
 obtain⟨⟨a1,c1,rfl⟩,h1⟩:=iz (P:=Tryz.prog) ha
 obtain⟨⟨a2,c2,rfl⟩,h2⟩:=iz (P:=Tryz.prog) hb
 have hr:(callFunc 150 #[.slice a1 a.length c1,.slice a2 b.length c2]).run Tryz.prog w=.ok (.value (.int .i64 (be a b))) w:=by
  rw[run_callFunc_extern Tryz.func150 (by kernel_rfl) (by kernel_rfl) (by kernel_rfl) (e:=Extern.BytealgCompare.compare) (by kernel_rfl)]
  have h3:(Extern.BytealgCompare.compare #[.slice a1 a.length c1,.slice a2 b.length c2]).run Tryz.prog w=.ok (.int .i64 (be a b)) w:=by
   change Sem.run Tryz.prog (do pure (goInt (Extern.BytealgCompare.cmp (← Extern.Bytes.bytesOf (.slice a1 a.length c1)) (← Extern.Bytes.bytesOf (.slice a2 b.length c2))))) w=_
   simp only[Sem.run_bind,h1,h2,Result.andThen_ok,Sem.run_pure,Lib.cmp_eq]
   rw[gq a b ba bb]
   rfl
  rw[h3];rfl
 have hc:Calls Tryz.prog 115 #[.slice a1 a.length c1,.slice a2 b.length c2] w fun e w'=>e=.returned (.int .i64 (be a b))∧w=w':=by
  clear ha hb ba bb h1 h2 hargs hIm hsz
  go_enter Tryz.func115,Tryz.ntmps115
  go_wp2_with (rw[hr])
  go_ret
  exact⟨rfl,rfl⟩
 refine hc.mono ?_
 rintro e w' ⟨rfl,rfl⟩
 exact⟨_,rfl,Kp.refl _,.d _ _ (.val _ rfl)⟩
theorem qy(a b:List Int)(ba:IsB a)(bb:IsB b):Pure TC 80 [.d (am 1 (aM .u8) a),.d (am 1 (aM .u8) b)] (.i .i64 (be a b)):=by
 refine Pure.mk' Tryz.func80 rfl rfl zN ?_
 (repeat' (first|((first|refine Wp.any ac rfl ?_|(with_reducible first|refine Go.mk ?_|apply ai.of|refine ab.pure (ma a b ba bb) rfl rfl ?_));conv=>whnf)))
 exact .i rfl
theorem pt{p:Int}{key:List Int}(h:IsB key):IsB (bW p key):=by
 by_cases h0:cV p key=0
 ·rw[bW,if_pos h0]
  unfold cV at h0
  intro x hx
  rcases Q22 hx with rfl|hx
  ·split at h0<;>omega
  ·exact h x hx
 ·rw[bW,if_neg h0];intro x hx;simp at hx
def jq(a b:Cel):Int:=be (bW a.pol a.key) (bW b.pol b.key)
theorem gu(a b:Cel)(ha:IsB a.key)(hb:IsB b.key):Pure TC 51 [a.S,b.S] (.i .i64 (jq a b)):=by
 refine Pure.mk' Tryz.func51 rfl rfl zN ?_
 (repeat' (first|((first|refine Wp.any ac rfl ?_|(with_reducible first|refine Go.mk ?_|apply ai.of|refine ab.pure (gh _ _) rfl rfl ?_|refine ab.pure (qy _ _ (pt ha) (pt hb)) rfl rfl ?_));conv=>whnf)))
 exact .i rfl
def bo(xs:List Cel)(t:Cel):Nat:=bs (fun k=>decide (jq (xs.getD k default) t<0)) xs.length
def cH(xs:List Cel)(t:Cel):Bool:=decide (bo xs t<xs.length)&&decide (jq (xs.getD (bo xs t) default) t=0)
theorem qk(xs:List Cel)(t:Cel)(hlen:xs.length≤4611686018427387903)(hx:∀k,IsB (xs.getD k default).key)(ht:IsB t.key) :
  Fun TC 56 1 [.sl 0 4 0 xs.length,t.S,.d (.fn (.func 51) [])] [(0,some (ay 89 4 Cel.D xs))] 1 (.tup [.i .i64 (bo xs t),.b (cH xs t)]) [(0,some (ay 89 4 Cel.D xs))]:=by
 refine Fun.mk' Tryz.func56 rfl rfl zN (by decide) ?_
 (repeat' (first|((first|refine Wp.any ac rfl ?_|(with_reducible first|refine Go.mk ?_|apply ai.of));conv=>whnf)|with_reducible exact rfl|((with_reducible refine Ov.ok zO ?_);conv=>whnf)|(with_reducible refine Ov.sh1 (by with_unfolding_all exact rfl) ?_)|((first|with_reducible refine Ov.quo (by omega) (by omega) (by omega) (fun _ _=>?_)|refine zV ?_|with_reducible refine And.intro zC ?_);conv=>whnf)|((with_reducible refine And.intro ?hb ?_);(case hb=>exact zz6);(conv=>whnf))|((refine fP.a rfl rfl rfl rfl rfl rfl ?hb ?_);(case hb=>exact zB);(conv=>whnf))|((refine fP.b rfl rfl rfl rfl rfl rfl rfl rfl ?hb ?ho ?_);(case hb=>exact zB);(case ho=>omega);(conv=>whnf))|((refine fP.c rfl rfl rfl rfl rfl ?hb ?_);(case hb=>exact zB);(conv=>whnf))|((refine fP.d rfl rfl rfl rfl rfl rfl ?hb ?ho ?_);(case hb=>exact zB);(case ho=>omega);(conv=>whnf))|(with_reducible refine Or.inl ?_)|((with_reducible refine IxA.ptr ?_);conv=>whnf)|((with_reducible refine o4 (by omega) ?_);(conv=>whnf))|((with_reducible refine dK ?_ (fun hn0=>?_))<;>(conv=>whnf))|((refine aq (fun hc=>?_) (fun hc=>?_))<;>(try simp only[wz9]at hc)<;>(try (exfalso;omega))<;>(conv=>whnf))))
 refine Wp.loopP (ι:=Nat×Nat×Nat) (fun k=>k.1≤k.2.1∧k.2.1≤xs.length∧k.2.1-k.1<k.2.2∧bsF (fun k=>decide (jq (xs.getD k default) t<0)) k.2.2 k.1 k.2.1=bo xs t) (fun k=>⟨⟨Tryz.f56.ntmps,1⟩,2,[(0,.sl 0 4 0 xs.length),(2,.d (.fn (.func 51) [])),(4,.ptr 1 0),(8,.i .i64 xs.length),(9,.i .i64 k.1),(10,.i .i64 k.2.1)],[(0,some (ay 89 4 Cel.D xs)),(1,some (.cells [.i .i64 t.pol,.d (am 1 (aM .u8) t.key),.i .i64 t.tat,.d (am 1 (aM .i64) t.held)]))]⟩) (fun k=>k.2.1-k.1) (0,xs.length,xs.length+1) ⟨by simp,by simp,by simp,rfl⟩ ?_ ?_
 ·(refine Le.by [0,1] rfl rfl rfl rfl ?_ ?_<;>(conv=>whnf)<;>(repeat' (first|exact trivial|exact ae.rfl rfl|exact ae.ptr rfl|exact ae.sl rfl|((with_reducible refine ae.fn ?_);(conv=>whnf))|((refine ae.iref ?_);(conv=>whnf))|exact⟨rfl,rfl,rfl⟩|exact fun i hi=>rfl|((with_reducible refine And.intro ?_ ?_)<;>(conv=>whnf)))))
 ·rintro⟨i,j,q⟩ ⟨h1,h2,h3,h4⟩
  dsimp only at h1 h2 h3 h4⊢
  (repeat' (first|((first|refine Wp.any ac rfl ?_|(with_reducible first|refine Go.mk ?_|apply ai.of));conv=>whnf)|with_reducible exact rfl|((with_reducible refine Ov.ok zO ?_);conv=>whnf)|(with_reducible refine Ov.sh1 (by with_unfolding_all exact rfl) ?_)|((first|with_reducible refine Ov.quo (by omega) (by omega) (by omega) (fun _ _=>?_)|refine zV ?_|with_reducible refine And.intro zC ?_);conv=>whnf)|((with_reducible refine And.intro ?hb ?_);(case hb=>exact zz6);(conv=>whnf))|((refine fP.a rfl rfl rfl rfl rfl rfl ?hb ?_);(case hb=>exact zB);(conv=>whnf))|((refine fP.b rfl rfl rfl rfl rfl rfl rfl rfl ?hb ?ho ?_);(case hb=>exact zB);(case ho=>omega);(conv=>whnf))|((refine fP.c rfl rfl rfl rfl rfl ?hb ?_);(case hb=>exact zB);(conv=>whnf))|((refine fP.d rfl rfl rfl rfl rfl rfl ?hb ?ho ?_);(case hb=>exact zB);(case ho=>omega);(conv=>whnf))|(with_reducible refine Or.inl ?_)|((with_reducible refine IxA.ptr ?_);conv=>whnf)|((with_reducible refine o4 (by omega) ?_);(conv=>whnf))|((with_reducible refine dK ?_ (fun hn0=>?_))<;>(conv=>whnf))|((with_reducible first|refine ab.pure (gu (xs.getD _ default) t (hx _) ht) rfl rfl ?_|refine ag.pure (gu (xs.getD _ default) t (hx _) ht) rfl rfl ?_);conv=>whnf)|((refine aq (fun hc=>?_) (fun hc=>?_))<;>(try simp only[wz9]at hc)<;>(try (exfalso;omega))<;>(conv=>whnf))))
  ·rw[show 0+(((i:Int)+j)/2).toNat=(i+j)/2 by omega]at hc
   have hh:decide (jq (xs.getD ((i+j)/2) default) t<0)=true:=by simpa using hc
   refine⟨((i+j)/2+1,j,q-1),⟨by dsimp only;omega,h2,by dsimp only;omega,?_⟩,by dsimp only;omega,?_⟩
   ·rw[← h4]
    obtain⟨q,rfl⟩:∃r,q=r+1:=⟨q-1,by omega⟩
    rw[bsF,if_pos (by omega),if_pos hh];rfl
   ·(refine Le.by [0,1] rfl rfl rfl rfl ?_ ?_<;>(conv=>whnf)<;>(repeat' (first|exact trivial|exact ae.rfl rfl|exact ae.ptr rfl|exact ae.sl rfl|((with_reducible refine ae.fn ?_);(conv=>whnf))|((refine ae.iref ?_);(conv=>whnf))|exact⟨rfl,rfl,rfl⟩|exact fun i hi=>rfl|((with_reducible refine And.intro ?_ ?_)<;>(conv=>whnf)))))
  ·rw[show 0+(((i:Int)+j)/2).toNat=(i+j)/2 by omega]at hc
   have hh:¬decide (jq (xs.getD ((i+j)/2) default) t<0)=true:=by simpa using hc
   refine⟨(i,(i+j)/2,q-1),⟨by dsimp only;omega,by dsimp only;omega,by dsimp only;omega,?_⟩,by dsimp only;omega,?_⟩
   ·rw[← h4]
    obtain⟨q,rfl⟩:∃r,q=r+1:=⟨q-1,by omega⟩
    rw[bsF,if_pos (by omega),if_neg hh];rfl
   ·(refine Le.by [0,1] rfl rfl rfl rfl ?_ ?_<;>(conv=>whnf)<;>(repeat' (first|exact trivial|exact ae.rfl rfl|exact ae.ptr rfl|exact ae.sl rfl|((with_reducible refine ae.fn ?_);(conv=>whnf))|((refine ae.iref ?_);(conv=>whnf))|exact⟨rfl,rfl,rfl⟩|exact fun i hi=>rfl|((with_reducible refine And.intro ?_ ?_)<;>(conv=>whnf)))))
  all_goals rw[oB (by omega)]at h4
  all_goals subst h4
  all_goals refine af.of [0] rfl (fun i hi=>by have:i=0:=(by omega);subst this;rfl) rfl ?_ ⟨⟨⟨rfl,rfl,rfl⟩,fun i hi=>rfl⟩,trivial⟩
  all_goals(conv=>whnf)
  ·rw[show 0+((bo xs t:Nat):Int).toNat=bo xs t by omega]
   exact .of_eq (by rw[show cH xs t=(jq (xs.getD (bo xs t) default) t==0)by
    unfold cH;rw[decide_eq_true (by omega),Bool.true_and];rfl])
  ·exact .of_eq (by rw[show cH xs t=false by unfold cH;rw[decide_eq_false (by omega),Bool.false_and]])
def newC(pol:Int)(key:List Int):Cel:=⟨pol,key,0,[]⟩
def bL(xs:List Cel)(pol:Int)(key:List Int):Cel:=if cH xs (newC pol key)=true then xs.getD (bo xs (newC pol key)) default else newC pol key
theorem cW(xs:List Cel)(t:Cel):cH xs t=true↔bo xs t<xs.length∧jq (xs.getD (bo xs t) default) t=0:=by simp[cH]
theorem zt(xs:List Cel)(t:Cel):cH xs t=false↔¬(bo xs t<xs.length∧jq (xs.getD (bo xs t) default) t=0):=by rw[← cW];simp
theorem tV(xs:List Cel)(pol:Int)(key:List Int)(hlen:xs.length≤4611686018427387903)(hx:∀k,IsB (xs.getD k default).key)(ht:IsB key) :
  Fun TC 28 1 [.sl 0 4 0 xs.length,.i .i64 pol,.d (am 1 (aM .u8) key)] [(0,some (ay 89 4 Cel.D xs))] 1
   (.tup [.i .i64 (bo xs (newC pol key)),.b (cH xs (newC pol key)),(bL xs pol key).S]) [(0,some (ay 89 4 Cel.D xs))]:=by
 refine Fun.mk' Tryz.func28 rfl rfl zN (by decide) ?_
 (repeat' (first|((first|refine Wp.any ac rfl ?_|(with_reducible first|refine Go.mk ?_|apply ai.of)|refine zV ?_|with_reducible refine And.intro zC ?_);conv=>whnf)|((refine ab.fn (qk xs (newC pol key) hlen hx ht) [0] rfl rfl rfl rfl rfl ?ha ?hh ?_);(case ha=>exact⟨ae.sl rfl,ae.free (.agg (.cons (.rfl _) (.cons (.rfl _) (.cons (.rfl _) (.cons .nil .nil))))) rfl,ae.rfl rfl,trivial⟩);(case hh=>exact zH);(conv=>whnf))|((refine aq (fun hc=>?_) (fun hc=>?_))<;>(try simp only[wz9,cW,zt]at hc)<;>(try (exfalso;omega))<;>(conv=>whnf))))
 all_goals refine af.of [0] rfl (fun i hi=>by have:i=0:=(by omega);subst this;rfl) rfl ?_ ⟨⟨⟨rfl,rfl,rfl⟩,fun i hi=>rfl⟩,trivial⟩
 all_goals(conv=>whnf)
 ·rw[show 0+((bo xs (newC pol key):Nat):Int).toNat=bo xs (newC pol key)by omega,show bL xs pol key=xs.getD (bo xs (newC pol key)) default by rw[bL,if_pos ((cW ..).2 hc)]]
  exact .rfl _
 ·rw[show bL xs pol key=newC pol key by rw[bL,if_neg (by rw[cW];exact hc)]]
  exact .tup (.cons (.rfl _) (.cons (.rfl _) (.cons (.agg (.cons (.rfl _) (.cons (.rfl _) (.cons (.rfl _) (.cons .nil .nil))))) .nil)))
@[reducible] def qR(ps:List Pol)(room:Int)(xs:List Cel):List (Nat×Option Blk) :=
 [(0,some (.cells [.d (am 4 Pol.D ps),.i .i64 room,.sl 1 4 0 xs.length])),(1,some (ay 89 4 Cel.D xs))]
def c9(ps:List Pol)(op pol:Int)(key:List Int)(n now serial:Int):Int :=
 if cq now=false∨(op=2∧(serial<1∨4611686018427387903<serial))then 1 else l7 ps op pol key n
theorem kD(ps:List Pol)(room:Int)(xs:List Cel)(op pol:Int)(key:List Int)(n now serial:Int):Fun TC 24 2 [.ptr 0 0,.agg [.i .u8 op,.i .i64 pol,.d (am 1 (aM .u8) key),.i .i64 n],.i .i64 now,.i .i64 serial] (qR ps room xs) 2 (.i .i64 (c9 ps op pol key n now serial)) (qR ps room xs):=by
 refine Fun.mk' Tryz.func24 rfl rfl zN (by decide) ?_
 (repeat' (first|((first|refine Wp.any ac rfl ?_|(with_reducible first|refine Go.mk ?_|apply ai.of|refine ab.pure (cp _) rfl rfl ?_|refine ab.pure (aV _ _ _ _ _) rfl rfl ?_));conv=>whnf)|((refine aq (fun hc=>?_) (fun hc=>?_))<;>(try simp only[wz9]at hc)<;>(try (exfalso;omega))<;>(conv=>whnf))))
 all_goals refine af.of [0,1] rfl (fun i hi=>by have:i=0∨i=1:=(by omega);rcases this with h|h<;>subst h<;>rfl) rfl ?_ ?_
 all_goals first|((conv=>whnf);repeat' (first|exact zB9|((with_reducible refine And.intro ?_ ?_)<;>(conv=>whnf))))|skip
 all_goals(conv=>whnf)
 all_goals exact .i (by
  unfold c9
  repeat' split
  all_goals first|rfl|omega|(exfalso;simp_all;try omega)|simp_all)
theorem p7:(Tryz.prog.info? 2).map (fun i=>(i.zero,i.size,i.bytes))=some (some (.int .i64 0),1,8):=by kernel_rfl
theorem y9(w:World):(sizeOf 2).run Tryz.prog w=.ok 1 w:=by kernel_rfl
theorem qU(B:Nat)(v:Value)(n i vb cv:Nat)(vcur:Array Value)(xs vs:List Value)(w:World)(hin:i≤n)(hown:w.ownsRow B 2 1 v n xs)(hB:B≤w.heap.size)(hn:n≤16777216)
  (hvl:vs.length=1) (hvb:w.heap[vb]?=some (.cells vcur 2 (0,0))) (hvc:∀(j:Nat) (u:Value),vs[j]?=some u→vcur[j]?=some u) (hne:v.ownBlock≠some vb) (hv1:∀u∈vs,u.oneCell'=true) (hx1:∀u∈xs,u.oneCell'=true) :
  Calls Tryz.prog 91 #[v,.int .i64 i,.slice (some ⟨vb,0,none⟩) 1 cv] w fun e w' =>
   ∃v',e=.returned v'∧w'.ownsRow B 2 1 v' (n+1) (xs.take (i*1)++vs++xs.drop (i*1))∧w.grownBy w' v.ownBlock∧∀k,v'.ownBlock=some k→v.ownBlock=some k∨w.heap.size≤k:=by
 have hv2:=hown.2
 obtain⟨i0,hi0,hz0,hz1,hz2⟩:=info_parts p7
 have hxl:=hown.1
 have hvcell:∀j u,vs[j]?=some u→w.cell? ⟨vb,j,none⟩=some u:=fun j u hj=>by simp[World.cell?,hvb];exact hvc j u hj
 have hvlt:vb<w.heap.size:=(Q17 hvb).1
 have append_end:∀(W:World),W=w→n=i→Calls Tryz.prog 91 #[v,.int .i64 i,.slice (some ⟨vb,0,none⟩) 1 cv] w fun e w' =>
   ∃v',e=.returned v'∧w'.ownsRow B 2 1 v' (n+1) (xs++vs)∧w.grownBy w' v.ownBlock∧∀k,v'.ownBlock=some k→v.ownBlock=some k∨w.heap.size≤k:=by
  intro W _ hni
  subst hni
  have Hown:=Lib.hid hown
  have hva:∀j u,vs[j]?=some u→w.cell? ((⟨vb,0,none⟩:Addr).add j)=some u:=fun j u hj=>by
   have:=hvcell j u hj
   unfold Addr.add;split
   ·rename_i h;subst h;exact this
   ·simpa using this
  have Hva:=Lib.hid hva;have Hl:=Lib.hid hvl;have Hne:=Lib.hid hne
  clear hva hvcell hvb hvc hvl hne hxl
  rcases hv2 with⟨rfl,rfl⟩|⟨g,cap,cur,rfl,hBg,hg,hnc,hcm,hcs,htk⟩
  ·clear hown
   go_enter Tryz.func91,Tryz.ntmps91
   go_wp2_with (first|(at_builtin;refine bt _ rfl _ _ 87 rfl B 2 i0 (.int .i64 0) 1 8 Tryz.underlying87 hi0 hz0 hz1 hz2 rfl (by decide) _ _ _ rfl Hown.out ⟨vb,0,none⟩ 1 _ vs rfl (by rw[Hl.out]) Hva.out hv1 (by unfold maxLen;omega) (by omega) hB ?_;intro v' w1 hown1 hg1 hloc1))
   go_ret
   exact⟨_,rfl,hown1,hg1,hloc1⟩
  ·unfold maxLen at hcm
   have Hg:=Lib.hid hg;clear hg
   have Hcs:=Lib.hid hcs;have Htk:=Lib.hid htk;clear hcs htk hown
   go_enter Tryz.func91,Tryz.ntmps91
   go_wp2_with (first|(at_builtin;refine bt _ rfl _ _ 87 rfl B 2 i0 (.int .i64 0) 1 8 Tryz.underlying87 hi0 hz0 hz1 hz2 rfl (by decide) _ _ _ rfl Hown.out ⟨vb,0,none⟩ 1 _ vs rfl (by rw[Hl.out]) Hva.out hv1 (by unfold maxLen;omega) (by omega) hB ?_;intro v' w1 hown1 hg1 hloc1))
   all_goals(go_ret;exact⟨_,rfl,hown1,hg1,hloc1⟩)
 by_cases hi:n=i
 ·have h:=append_end w rfl hi
  rw[Q21 (by rw[hxl,hi];exact Q4 _),List.drop_of_length_le (by rw[hxl,hi];exact Q4 _),List.append_nil]
  exact h
 ·clear append_end
  have hlt:i<n:=by omega
  rcases hv2 with⟨rfl,rfl⟩|⟨g,cap,cur,rfl,hBg,hg,hnc,hcm,hcs,htk⟩
  ·omega
  ·unfold maxLen at hcm
   have hd0:((i:Int)==n)=false:=by simp;omega
   have hcu:∀j,j<cap*1→∃u,cur[j]?=some u:=fun j hj=>⟨cur[j]'(by omega),by rw[Array.getElem?_eq_getElem (by omega)]⟩
   by_cases hroom:n+1≤cap
   ·have hov:∀lb cb,(callFunc 121 #[.slice (some ⟨vb,0,none⟩) 1 cv,.slice (some ⟨g,i+1,none⟩) lb cb]).run Tryz.prog w=.ok (.value (.bool false)) w:=fun lb cb=>by
     rw[run_callFunc_extern Tryz.func121 (by kernel_rfl) (by kernel_rfl) (by kernel_rfl) (e:=Extern.SlicesOverlaps.overlaps #[87,87] #[4]) (by kernel_rfl),
      Lib.run_overlaps_apart w 87 4 2 Tryz.underlying87 1 y9 ⟨vb,0,none⟩ ⟨g,i+1,none⟩ 1 cv lb cb (by intro h;apply hne;simp only at h;rw[h];rfl) 2 2 vcur.size cur.size
       (by simp[World.shape?,hvb]) (by simp[World.shape?,hg]) (by omega) (by simp[World.frozen?,hvb]) (by simp[World.frozen?,hvb])]
     rfl
    go_enter Tryz.func91,Tryz.ntmps91
    go_wp2_with (simp only[hov])
    have hsrc1:∀j u,(xs.drop (i*1))[j]?=some u→w.drew.cell? ((⟨g,i,none⟩:Addr).add j)=some u:=fun j u hj=>by
     show w.cell? _=_
     rw[Addr.add_lit,show w.cell? ⟨g,i+j,none⟩=cur[i+j]? from by simp[World.cell?,hg],← Array.getElem?_toList]
     rw[List.getElem?_drop,← htk,Q15]at hj
     split at hj
     ·simpa using hj
     ·cases hj
    have hw1:IntKind.i64.wrap ((i:Int)+1)=(i:Int)+1:=IntWalk.i64_in _ (by omega)
    have hb1:(0:Int)≤(i:Int)+1:=by omega
    have htn:((i:Int)+1).toNat=i+1:=by omega
    have hb2:¬(cap=i+1):=by omega
    have hb3:(i:Int)≤(n:Int)+1:=by omega
    have hb4:¬(cap=i):=by omega
    have hmul:i*1+1≤n*1:=by omega
    have hdl:(xs.drop (i*1)).length=(n-i)*1:=by rw[List.length_drop,hxl];omega
    have L:=po cur.toList xs vs (i*1) (n*1) 1 (cap*1) (by simpa using hcs) htk hvl (by omega) (by omega)
    obtain⟨C1,hC1⟩:∃C1:Array Value,C1=(cur.toList.take (i+1)++xs.drop (i*1)++cur.toList.drop (i+1+(xs.drop (i*1)).length)).toArray:=⟨_,rfl⟩
    obtain⟨C2,hC2⟩:∃C2:Array Value,C2=(C1.toList.take (i*1)++vs++C1.toList.drop (i*1+vs.length)).toArray:=⟨_,rfl⟩
    have hC1s:C1.size=cap*1:=by rw[hC1];simp;omega
    have HC1:=Lib.hid hC1;have HC2:=Lib.hid hC2
    have hcp2:∀ty dc,(Builtin.copy_ #[87,87] ty #[.slice (some ⟨g,i,none⟩) (n+1-i) dc,.slice (some ⟨vb,0,none⟩) 1 cv]).run Tryz.prog (w.drew.setRow g C1)=.ok (goInt ((1:Nat):Int)) ((w.drew.setRow g C1).setRow g C2):=by
     intro ty dc
     have hm:Nat.min 1 (n+1-i)=1:=by simp only[Nat.min_def];split<;>omega
     have hgn:vb≠g:=by intro h;apply hne;rw[h];rfl
     have:=bU (P:=Tryz.prog) (w.drew.setRow g C1) 87 87 ty 2 i0 g (i) (n+1-i) dc ⟨vb,0,none⟩ 1 cv C1 2 vs Tryz.underlying87 hi0 (setRow_heap _ g _ _ _ _ hg) (by rw[hvl,hm,hz1])
      (fun j u hj=>by rw[Addr.add_lit,cell_setRow_other _ _ _ _ hgn];simpa using hvcell j u hj) (by rw[hvl,hC1s];omega) hv1
     rw[hm]at this
     rw[this,hC2];try simp only[Nat.mul_one]
    have Hcp2:=Lib.hid hcp2;clear hcp2
    have hcp1:∀ty dc sc,(Builtin.copy_ #[87,87] ty #[.slice (some ⟨g,i+1,none⟩) (n-i) dc,.slice (some ⟨g,i,none⟩) (n+1-i) sc]).run Tryz.prog w.drew=.ok (goInt ((n-i:Nat):Int)) (w.drew.setRow g C1):=by
     intro ty dc sc
     have hm:Nat.min (n+1-i) (n-i)=n-i:=by simp only[Nat.min_def];split<;>omega
     have:=bU (P:=Tryz.prog) w.drew 87 87 ty 2 i0 g (i+1) (n-i) dc ⟨g,i,none⟩ (n+1-i) sc cur 2 (xs.drop (i*1)) Tryz.underlying87 hi0 hg (by rw[hdl,hm,hz1]) hsrc1 (by rw[hdl];omega) (fun u hu=>hx1 u (List.mem_of_mem_drop hu))
     rw[hm]at this;rw[this,hC1]
    have Hcp1:=Lib.hid hcp1;clear hcp1 hC1 hC2
    go_region_law (refine b7 rfl _ _ 87 87 rfl _ _ (by simp[Act.eval,Act.put]) (by simp[Act.eval,Act.put]) (Hcp1.out _ (cap-(i+1)) (cap-i)) ?_)
    go_wp2_with (refine bv _ rfl _ _ 87 87 rfl _ _ rfl rfl (Hcp2.out _ (cap-i)) ?_)
    go_ret
    have e1:i+1=i*1+1:=by omega
    have h1:=HC1.out;have h2:=HC2.out
    rw[e1]at h1
    rw[h1]at h2
    simp only[List.toList_toArray]at h2
    obtain⟨L1,L2⟩:=L
    refine⟨_,rfl,⟨?_,Or.inr ⟨g,cap,C2,rfl,hBg,setRow_heap _ g _ _ _ _ (setRow_heap _ g _ _ _ _ hg),hroom,by unfold maxLen;omega,?_,?_⟩⟩,?_⟩
    ·simp only[Q9,Q10,List.length_drop,hxl,hvl];omega
    ·rw[h2];simpa using L1
    ·rw[h2,show(n+1)*1=n*1+1 from by omega];simpa using L2
    ·exact⟨az (az bQ (br _) (fun x hx=>by cases hx;exact Or.inl rfl)) (br _) (fun x hx=>by cases hx;exact Or.inl rfl),fun k hk=>Or.inl hk⟩
   ·have hcap:cap=n:=by omega
    have hk1:0<n+1-i:=by omega
    have holds:(Builtin.firstCells i0.size i (.slice (some ⟨g,0,none⟩) i cap)).run Tryz.prog w.drew=.ok (xs.take (i*1)).toArray w.drew:=by
     have:=run_firstCells_some (P:=Tryz.prog) w.drew i0.size i ⟨g,0,none⟩ i cap (xs.take (i*1)) (by rw[Q10,hz1];omega) (fun j u hj=>by
      show w.cell? _=_
      rw[Addr.add_lit,show w.cell? ⟨g,0+j,none⟩=cur[0+j]? from by simp[World.cell?,hg],← Array.getElem?_toList]
      rw[← htk,Q15,Q15]at hj
      split at hj
      ·split at hj
       ·simpa using hj
       ·cases hj
      ·cases hj)
     exact this
    obtain⟨gc,hgc⟩:∃gc,gc=grownCap w (i+(n+1-i)) cap 2:=⟨_,rfl⟩
    have hgc1:n+1≤gc:=by have:=grownCap_ge w (i+(n+1-i)) cap 2;omega
    have hgc2:gc≤9223372036854775807:=by have:=grownCap_le_maxLen w (i+(n+1-i)) cap 2 (by unfold maxLen;omega);unfold maxLen at this;omega
    obtain⟨Zs,hZs⟩:∃Zs:List Value,Zs=(Builtin.zeroCells (.int .i64 0:Value).cells (n+1-i)).toList++(Builtin.zeroCells (.int .i64 0:Value).cells (gc-(n+1))).toList:=⟨_,rfl⟩
    have hzc:(.int .i64 0:Value).cells.size=1:=rfl
    have hZl:Zs.length=(gc-i)*1:=by rw[hZs];simp only[Q9,Array.length_toList,size_zeroCells,hzc];omega
    obtain⟨W1,hW1⟩:∃W1,W1=w.drew.alloc (.cells (xs.take (i*1)++Zs).toArray 2):=⟨_,rfl⟩
    have happ:∀ty,(Builtin.append_ #[87,3] ty #[.slice (some ⟨g,0,none⟩) i cap,.int .i64 ((n:Int)+1-(i:Int))]).run Tryz.prog w=.ok (.slice (some ⟨w.heap.size,0,none⟩) (n+1) gc) W1:=by
     intro ty
     have:=Lib.run_append_grow_zeros (P:=Tryz.prog) w 87 3 ty 2 i0 (.int .i64 0) .i64 .i64 Tryz.underlying87 Tryz.underlying3 hi0 hz0 (some ⟨g,0,none⟩) i cap (xs.take (i*1)) holds (n+1-i) hk1 (by rw[hz1];decide) (by omega) (by omega) (by rw[hz2];omega) (growslice_fits (by omega) (by rw[hz2];omega))
     rw[show((n:Int)+1-(i:Int))=((n+1-i:Nat):Int)from by omega,this,hW1,← hgc,hZs,show i+(n+1-i)=n+1 from by omega]
     congr 3
     apply Array.ext'
     simp[List.append_assoc]
    have hW1a:W1.heap[w.heap.size]?=some (.cells (xs.take (i*1)++Zs).toArray 2 (0,0)):=by rw[hW1];exact aB w.drew _
    have hW1b:∀k,k<w.heap.size→W1.heap[k]?=w.heap[k]?:=fun k hk=>by rw[hW1];exact heap_alloc_old w.drew _ hk
    have hW1g:w.grownBy W1 none:=by rw[hW1];exact az bQ (World.grownBy_alloc _ _ none) (fun x hx=>by cases hx)
    have hglt:g<w.heap.size:=(Q17 hg).1
    obtain⟨A1,hA1⟩:∃A1:Array Value,A1=((xs.take (i*1)++Zs).take (i)++vs++(xs.take (i*1)++Zs).drop (i+vs.length)).toArray:=⟨_,rfl⟩
    obtain⟨W2,hW2⟩:∃W2,W2=W1.setRow w.heap.size A1:=⟨_,rfl⟩
    have hcpA:∀ty dc,(Builtin.copy_ #[87,87] ty #[.slice (some ⟨w.heap.size,i,none⟩) (n+1-i) dc,.slice (some ⟨vb,0,none⟩) 1 cv]).run Tryz.prog W1=.ok (goInt ((1:Nat):Int)) W2:=by
     intro ty dc
     have hm:Nat.min 1 (n+1-i)=1:=by simp only[Nat.min_def];split<;>omega
     have:=bU (P:=Tryz.prog) W1 87 87 ty 2 i0 w.heap.size (i) (n+1-i) dc ⟨vb,0,none⟩ 1 cv _ 2 vs Tryz.underlying87 hi0 hW1a (by rw[hvl,hm,hz1])
      (fun j u hj=>by rw[Addr.add_lit,World.cell?_of_block (hW1b vb hvlt)];simpa using hvcell j u hj) (by rw[hvl];simp only[List.size_toArray,Q9,Q10,hZl,hxl];omega) hv1
     rw[hm]at this
     rw[this,hW2,hA1]
    have hA1s:A1.size=gc*1:=by rw[hA1];simp only[List.size_toArray,Q9,Q10,List.length_drop,hZl,hxl,hvl];omega
    have hW2a:W2.heap[w.heap.size]?=some (.cells A1 2 (0,0)):=by rw[hW2];exact setRow_heap _ _ _ _ _ _ hW1a
    have hW2b:∀k,k<w.heap.size→W2.heap[k]?=w.heap[k]?:=fun k hk=>by rw[hW2,setRow_other _ _ _ _ (by omega)];exact hW1b k hk
    have hdl:(xs.drop (i*1)).length=(n-i)*1:=by rw[List.length_drop,hxl];omega
    obtain⟨A2,hA2⟩:∃A2:Array Value,A2=(A1.toList.take (i+1)++xs.drop (i*1)++A1.toList.drop (i+1+(xs.drop (i*1)).length)).toArray:=⟨_,rfl⟩
    obtain⟨W3,hW3⟩:∃W3,W3=W2.drew.setRow w.heap.size A2:=⟨_,rfl⟩
    have hcpB:∀ty dc sc,(Builtin.copy_ #[87,87] ty #[.slice (some ⟨w.heap.size,i+1,none⟩) (n-i) dc,.slice (some ⟨g,i,none⟩) (n-i) sc]).run Tryz.prog W2.drew=.ok (goInt ((n-i:Nat):Int)) W3:=by
     intro ty dc sc
     have hm:Nat.min (n-i) (n-i)=n-i:=Nat.min_self _
     have:=bU (P:=Tryz.prog) W2.drew 87 87 ty 2 i0 w.heap.size (i+1) (n-i) dc ⟨g,i,none⟩ (n-i) sc A1 2 (xs.drop (i*1)) Tryz.underlying87 hi0 hW2a (by rw[hdl,hm,hz1])
      (fun j u hj=>by
       show W2.cell? _=_
       rw[Addr.add_lit,World.cell?_of_block (hW2b g hglt),show w.cell? ⟨g,i+j,none⟩=cur[i+j]? from by simp[World.cell?,hg],← Array.getElem?_toList]
       rw[List.getElem?_drop,← htk,Q15]at hj
       split at hj
       ·simpa using hj
       ·cases hj) (by rw[hdl,hA1s];omega) (fun u hu=>hx1 u (List.mem_of_mem_drop hu))
     rw[hm]at this
     rw[this,hW3,hA2]
    have L:=sY xs vs Zs (i*1) (n*1) 1 (by rw[hxl]) hvl (by omega) (by rw[hZl];omega)
    have hW3a:W3.heap[w.heap.size]?=some (.cells A2 2 (0,0)):=by rw[hW3];exact setRow_heap _ _ _ _ _ _ hW2a
    have hW3g:w.grownBy W3 (some g):=by
     rw[hW3,hW2]
     exact az (az (az (r:=some g) (⟨hW1g.os,hW1g.tape,hW1g.output,hW1g.size,fun k hk _=>hW1b k hk⟩) (br _) (fun x hx=>by cases hx;exact Or.inr (Q4 _))) bQ (s:=none) (fun x hx=>by cases hx)) (br _) (fun x hx=>by cases hx;exact Or.inr (Q4 _))
    have HA1:=Lib.hid hA1;have HA2:=Lib.hid hA2;have Happ:=Lib.hid happ;have HcpA:=Lib.hid hcpA;have HcpB:=Lib.hid hcpB;have HL:=Lib.hid L;have HW3a:=Lib.hid hW3a;have HW3g:=Lib.hid hW3g;have Hxl:=Lib.hid hxl;have Hvl:=Lib.hid hvl;have HZl:=Lib.hid hZl
    clear hA1 hA2 happ hcpA hcpB L hW3a hW3g hW1 hW2 hW3 hZs hgc holds hW1a hW1b hW1g hA1s hW2a hW2b hdl hzc hZl hxl hvl hown htk hcs hcu hvb hvc hvcell hx1 hv1 hne hg
    have hw1:IntKind.i64.wrap ((i:Int)+1)=(i:Int)+1:=IntWalk.i64_in _ (by omega)
    have hb1:(0:Int)≤(i:Int)+1:=by omega
    have htn:((i:Int)+1).toNat=i+1:=by omega
    have hb2:¬(gc=i+1):=by omega
    have hb3:(i:Int)≤(n:Int)+1:=by omega
    have hb4:¬(gc=i):=by omega
    have hb5:¬(cap=i):=by omega
    clear hcap
    go_enter Tryz.func91,Tryz.ntmps91
    go_wp2_with (first|(at_builtin;refine Lib.wpList_append_run _ rfl _ _ 87 3 rfl _ _ rfl rfl _ _ (Happ.out _) ?_)|(refine bv _ rfl _ _ 87 87 rfl _ _ rfl rfl (HcpA.out _ (gc-i)) ?_))
    go_region_law (refine b7 rfl _ _ 87 87 rfl _ _ (by simp[Act.eval,Act.put]) (by simp[Act.eval,Act.put]) (HcpB.out _ (gc-(i+1)) (cap-i)) ?_)
    go_wp2
    go_ret
    have e1:i+1=i*1+1:=by omega
    have h1:A1=((xs.take (i*1)++Zs).take (i*1)++vs++(xs.take (i*1)++Zs).drop (i*1+vs.length)).toArray:=by have:=HA1.out;simpa only[Nat.mul_one]using this
    have h2:=HA2.out
    rw[e1,h1]at h2
    simp only[List.toList_toArray]at h2
    obtain⟨L1,L2⟩:=HL.out
    refine⟨_,rfl,⟨?_,Or.inr ⟨w.heap.size,gc,A2,rfl,hB,HW3a.out,hgc1,by unfold maxLen;omega,?_,?_⟩⟩,HW3g.out,fun k hk=>by cases hk;exact Or.inr (Q4 _)⟩
    ·simp only[Q9,Q10,List.length_drop,Hxl.out,Hvl.out];omega
    ·rw[h2];simp only[List.size_toArray];rw[L1,HZl.out];omega
    ·rw[h2,show(n+1)*1=n*1+1 from by omega];simpa using L2
theorem qV(B:Nat)(v:Value)(n i:Nat)(xs:List Value)(w:World)(hin:i<n)(hown:w.ownsRow B 2 1 v n xs)(hn:n≤16777216)(hx1:∀u∈xs,u.oneCell'=true) :
  Calls Tryz.prog 92 #[v,.int .i64 i,.int .i64 ((i:Int)+1)] w fun e w' =>
   ∃v',e=.returned v'∧w'.ownsRow B 2 1 v' (n-1) (xs.take (i*1)++xs.drop (i*1+1))∧w.grownBy w' v.ownBlock∧∃cap,v'=.slice (v.ownBlock.map fun k=>⟨k,0,none⟩) (n-1) cap∧0<cap:=by
 have hv2:=hown.2
 obtain⟨i0,hi0,hz0,hz1,hz2⟩:=info_parts p7
 have hxl:=hown.1
 rcases hv2 with⟨rfl,rfl⟩|⟨g,cap,cur,rfl,hBg,hg,hnc,hcm,hcs,htk⟩
 ·omega
 ·unfold maxLen at hcm
  have hd0:((i:Int)==(i:Int)+1)=false:=by simp;omega
  obtain⟨Zs,hZs⟩:∃Zs:List Value,Zs=(Builtin.zeroCells (.int .i64 0:Value).cells 1).toList:=⟨_,rfl⟩
  have hzc:(.int .i64 0:Value).cells.size=1:=rfl
  have hZl:Zs.length=1:=by rw[hZs];simp only[Array.length_toList,size_zeroCells,hzc]
  have hdl:(xs.drop (i*1+1)).length=(n-(i+1))*1:=by rw[List.length_drop,hxl];omega
  have L:=yJ cur.toList xs Zs (i*1) (n*1) 1 (cap*1) (by simpa using hcs) htk hZl (by omega) (by omega)
  obtain⟨C1,hC1⟩:∃C1:Array Value,C1=(cur.toList.take (i*1)++xs.drop (i*1+1)++cur.toList.drop (i*1+(xs.drop (i*1+1)).length)).toArray:=⟨_,rfl⟩
  have hC1s:C1.size=cap*1:=by rw[hC1];simp only[List.size_toArray,Q9,Q10,List.length_drop,Array.length_toList,hdl,hxl];omega
  obtain⟨W1,hW1⟩:∃W1,W1=w.drew.setRow g C1:=⟨_,rfl⟩
  have happ:∀ty (a:Addr) c,(n-(i+1)≠0→a=⟨g,i+1,none⟩)→(Builtin.append_ #[87,87] ty #[.slice (some ⟨g,0,none⟩) i cap,.slice (some a) (n-(i+1)) c]).run Tryz.prog w.drew=.ok (.slice (some ⟨g,0,none⟩) (n-1) cap) W1:=by
   intro ty a c ha
   have:=run_append_room (P:=Tryz.prog) w.drew 87 ty 2 i0 Tryz.underlying87 hi0 g i cap cur hg a (n-(i+1)) c (xs.drop (i*1+1)) (by rw[hdl,hz1]) (fun j u hj=>by
     have hjl:=(Q3 hj).1
     rw[hdl]at hjl
     rw[ha (by omega)]
     show w.cell? _=_
     rw[Addr.add_lit,show w.cell? ⟨g,i+1+j,none⟩=cur[i+1+j]? from by simp[World.cell?,hg],← Array.getElem?_toList]
     rw[List.getElem?_drop,← htk,Q15]at hj
     split at hj
     ·rw[← hj];congr 1;omega
     ·cases hj) (fun u hu=>hx1 u (List.mem_of_mem_drop hu)) (by omega) (by rw[hdl,hz1,hcs];omega)
   rw[this,hW1,hC1,hz1,show i+(n-(i+1))=n-1 from by omega]
  obtain⟨C2,hC2⟩:∃C2:Array Value,C2=(C1.toList.take ((n-1)*1)++Zs++C1.toList.drop ((n-1)*1+1)).toArray:=⟨_,rfl⟩
  obtain⟨W2,hW2⟩:∃W2,W2=W1.setRow g C2:=⟨_,rfl⟩
  have hclr:∀ty c,(Builtin.clear_ #[87] ty #[.slice (some ⟨g,n-1,none⟩) (n-(n-1)) c]).run Tryz.prog W1=.ok (.tuple #[]) W2:=by
   intro ty c
   have hW1g:W1.heap[g]?=some (.cells C1 2 (0,0)):=by rw[hW1];exact setRow_heap _ _ _ _ _ _ hg
   have:=jR (P:=Tryz.prog) W1 87 ty 2 i0 (.int .i64 0) g (n-1) 1 c C1 2 Tryz.underlying87 hi0 hz0 (by rw[hz1];rfl) (by decide) hW1g (by rw[hz1,hC1s];omega)
   rw[show n-(n-1)=1 from by omega,this,hW2,hC2,hZs,hz1];try simp only[Nat.mul_one,Nat.one_mul]
  have hgr:w.grownBy W2 (some g):=by
   rw[hW2,hW1]
   exact az (az bQ (br _) (fun x hx=>by cases hx;exact Or.inl rfl)) (br _) (fun x hx=>by cases hx;exact Or.inl rfl)
  have hW2a:W2.heap[g]?=some (.cells C2 2 (0,0)):=by rw[hW2];exact setRow_heap _ _ _ _ _ _ (by rw[hW1];exact setRow_heap _ _ _ _ _ _ hg)
  have fin:W2.ownsRow B 2 1 (.slice (some ⟨g,0,none⟩) (n-1) cap) (n-1) (xs.take (i*1)++xs.drop (i*1+1)):=by
   rw[hC1]at hC2
   simp only[List.toList_toArray]at hC2
   rw[show(n-1)*1=n*1-1 from by omega]at hC2
   obtain⟨L1,L2⟩:=L
   refine⟨?_,Or.inr ⟨g,cap,C2,rfl,hBg,hW2a,by omega,by unfold maxLen;omega,?_,?_⟩⟩
   ·rw[Q9,hdl,Q10,hxl];omega
   ·rw[hC2];simpa using L1
   ·rw[hC2,show(n-1)*1=n*1-1 from by omega];simpa using L2
  have Happ:=Lib.hid happ;have Hclr:=Lib.hid hclr;have Hgr:=Lib.hid hgr;have Hfin:=Lib.hid fin
  clear happ hclr hgr fin hW1 hW2 hC1 hC2 hW2a L hZs hZl hdl hzc hC1s hxl hx1 hown htk hcs hg
  have hw1:IntKind.i64.wrap ((i:Int)+1)=(i:Int)+1:=IntWalk.i64_in _ (by omega)
  have hb1:(0:Int)≤(i:Int)+1:=by omega
  have htn:((i:Int)+1).toNat=i+1:=by omega
  have hb3:(i:Int)+1≤(n:Int):=by omega
  have hb4:¬(cap=n-1):=by omega
  have hb6:¬(n=i):=by omega
  have hb7:¬(cap=i):=by omega
  have hb8:((n-1:Nat):Int)≤(n:Int):=by omega
  have hb9:(n:Int)≤(cap:Int):=by omega
  have hb10:(i:Int)≤(cap:Int):=by omega
  have hb11:(i:Int)+1≤(cap:Int):=by omega
  have hb12:(i:Int)<(n:Int):=by omega
  by_cases hb2:cap=i+1
  ·have Happ2:=fun ty c=>Happ.out ty ⟨g,0,none⟩ c (fun h=>absurd h (by omega))
   have hn0:n-(i+1)=0:=by omega
   rw[hn0]at Happ2
   have HA:=Lib.hid Happ2;clear Happ Happ2 hn0
   subst hb2
   have hb13:(i:Int)≤(i:Int)+1:=by omega
   go_enter Tryz.func92,Tryz.ntmps92
   go_wp2_with fail
   go_region_law (refine dJ rfl _ _ 87 87 rfl _ _ (by simp[Act.eval,Act.put]) (by simp[Act.eval,Act.put]) (HA.out _ 0) ?_)
   go_wp2_with (refine dA _ rfl _ 87 rfl _ rfl (Hclr.out _ (i+1-(n-1))) ?_)
   go_ret
   exact⟨_,rfl,Hfin.out,Hgr.out,_,rfl,by omega⟩
  ·have Happ2:=fun ty c=>Happ.out ty ⟨g,i+1,none⟩ c (fun _=>rfl)
   have HA:=Lib.hid Happ2;clear Happ Happ2
   go_enter Tryz.func92,Tryz.ntmps92
   go_wp2_with fail
   go_region_law (refine dJ rfl _ _ 87 87 rfl _ _ (by simp[Act.eval,Act.put]) (by simp[Act.eval,Act.put]) (HA.out _ (cap-(i+1))) ?_)
   go_wp2_with (refine dA _ rfl _ 87 rfl _ rfl (Hclr.out _ (cap-(n-1))) ?_)
   go_ret
   exact⟨_,rfl,Hfin.out,Hgr.out,_,rfl,by omega⟩
theorem uj:(Tryz.prog.info? 89).map (fun i=>(i.zero,i.size,i.bytes))=some (some (.agg #[.int .i64 0,.slice none 0 0,.int .i64 0,.slice none 0 0]),4,64):=by kernel_rfl
theorem ug(w:World):(sizeOf 89).run Tryz.prog w=.ok 4 w:=by kernel_rfl
theorem oD(B:Nat)(v:Value)(n i vb cv:Nat)(vcur:Array Value)(xs vs:List Value)(w:World)(hin:i≤n)(hown:w.ownsRow B 89 4 v n xs)(hB:B≤w.heap.size)(hn:n≤16777216)
  (hvl:vs.length=4) (hvb:w.heap[vb]?=some (.cells vcur 89 (0,0))) (hvc:∀(j:Nat) (u:Value),vs[j]?=some u→vcur[j]?=some u) (hne:v.ownBlock≠some vb) (hv1:∀u∈vs,u.oneCell'=true) (hx1:∀u∈xs,u.oneCell'=true) :
  Calls Tryz.prog 63 #[v,.int .i64 i,.slice (some ⟨vb,0,none⟩) 1 cv] w fun e w' =>
   ∃v',e=.returned v'∧w'.ownsRow B 89 4 v' (n+1) (xs.take (i*4)++vs++xs.drop (i*4))∧w.grownBy w' v.ownBlock∧∀k,v'.ownBlock=some k→v.ownBlock=some k∨w.heap.size≤k:=by
 have hv2:=hown.2
 obtain⟨i0,hi0,hz0,hz1,hz2⟩:=info_parts uj
 have hxl:=hown.1
 have hvcell:∀j u,vs[j]?=some u→w.cell? ⟨vb,j,none⟩=some u:=fun j u hj=>by simp[World.cell?,hvb];exact hvc j u hj
 have hvlt:vb<w.heap.size:=(Q17 hvb).1
 have append_end:∀(W:World),W=w→n=i→Calls Tryz.prog 63 #[v,.int .i64 i,.slice (some ⟨vb,0,none⟩) 1 cv] w fun e w' =>
   ∃v',e=.returned v'∧w'.ownsRow B 89 4 v' (n+1) (xs++vs)∧w.grownBy w' v.ownBlock∧∀k,v'.ownBlock=some k→v.ownBlock=some k∨w.heap.size≤k:=by
  intro W _ hni
  subst hni
  have Hown:=Lib.hid hown
  have hva:∀j u,vs[j]?=some u→w.cell? ((⟨vb,0,none⟩:Addr).add j)=some u:=fun j u hj=>by
   have:=hvcell j u hj
   unfold Addr.add;split
   ·rename_i h;subst h;exact this
   ·simpa using this
  have Hva:=Lib.hid hva;have Hl:=Lib.hid hvl;have Hne:=Lib.hid hne
  clear hva hvcell hvb hvc hvl hne hxl
  rcases hv2 with⟨rfl,rfl⟩|⟨g,cap,cur,rfl,hBg,hg,hnc,hcm,hcs,htk⟩
  ·clear hown
   go_enter Tryz.func63,Tryz.ntmps63
   go_wp2_with (first|(at_builtin;refine bt _ rfl _ _ 34 rfl B 89 i0 (.agg #[.int .i64 0,.slice none 0 0,.int .i64 0,.slice none 0 0]) 4 64 Tryz.underlying34 hi0 hz0 hz1 hz2 rfl (by decide) _ _ _ rfl Hown.out ⟨vb,0,none⟩ 1 _ vs rfl (by rw[Hl.out]) Hva.out hv1 (by unfold maxLen;omega) (by omega) hB ?_;intro v' w1 hown1 hg1 hloc1))
   go_ret
   exact⟨_,rfl,hown1,hg1,hloc1⟩
  ·unfold maxLen at hcm
   have Hg:=Lib.hid hg;clear hg
   have Hcs:=Lib.hid hcs;have Htk:=Lib.hid htk;clear hcs htk hown
   go_enter Tryz.func63,Tryz.ntmps63
   go_wp2_with (first|(at_builtin;refine bt _ rfl _ _ 34 rfl B 89 i0 (.agg #[.int .i64 0,.slice none 0 0,.int .i64 0,.slice none 0 0]) 4 64 Tryz.underlying34 hi0 hz0 hz1 hz2 rfl (by decide) _ _ _ rfl Hown.out ⟨vb,0,none⟩ 1 _ vs rfl (by rw[Hl.out]) Hva.out hv1 (by unfold maxLen;omega) (by omega) hB ?_;intro v' w1 hown1 hg1 hloc1))
   all_goals(go_ret;exact⟨_,rfl,hown1,hg1,hloc1⟩)
 by_cases hi:n=i
 ·have h:=append_end w rfl hi
  rw[Q21 (by rw[hxl,hi];exact Q4 _),List.drop_of_length_le (by rw[hxl,hi];exact Q4 _),List.append_nil]
  exact h
 ·clear append_end
  have hlt:i<n:=by omega
  rcases hv2 with⟨rfl,rfl⟩|⟨g,cap,cur,rfl,hBg,hg,hnc,hcm,hcs,htk⟩
  ·omega
  ·unfold maxLen at hcm
   have hd0:((i:Int)==n)=false:=by simp;omega
   have hcu:∀j,j<cap*4→∃u,cur[j]?=some u:=fun j hj=>⟨cur[j]'(by omega),by rw[Array.getElem?_eq_getElem (by omega)]⟩
   by_cases hroom:n+1≤cap
   ·have hov:∀lb cb,(callFunc 93 #[.slice (some ⟨vb,0,none⟩) 1 cv,.slice (some ⟨g,(i+1)*4,none⟩) lb cb]).run Tryz.prog w=.ok (.value (.bool false)) w:=fun lb cb=>by
     rw[run_callFunc_extern Tryz.func93 (by kernel_rfl) (by kernel_rfl) (by kernel_rfl) (e:=Extern.SlicesOverlaps.overlaps #[34,34] #[4]) (by kernel_rfl),
      Lib.run_overlaps_apart w 34 4 89 Tryz.underlying34 4 ug ⟨vb,0,none⟩ ⟨g,(i+1)*4,none⟩ 1 cv lb cb (by intro h;apply hne;simp only at h;rw[h];rfl) 89 89 vcur.size cur.size
       (by simp[World.shape?,hvb]) (by simp[World.shape?,hg]) (by omega) (by simp[World.frozen?,hvb]) (by simp[World.frozen?,hvb])]
     rfl
    go_enter Tryz.func63,Tryz.ntmps63
    go_wp2_with (simp only[hov])
    have hsrc1:∀j u,(xs.drop (i*4))[j]?=some u→w.drew.cell? ((⟨g,i*4,none⟩:Addr).add j)=some u:=fun j u hj=>by
     show w.cell? _=_
     rw[Addr.add_lit,show w.cell? ⟨g,i*4+j,none⟩=cur[i*4+j]? from by simp[World.cell?,hg],← Array.getElem?_toList]
     rw[List.getElem?_drop,← htk,Q15]at hj
     split at hj
     ·simpa using hj
     ·cases hj
    have hw1:IntKind.i64.wrap ((i:Int)+1)=(i:Int)+1:=IntWalk.i64_in _ (by omega)
    have hb1:(0:Int)≤(i:Int)+1:=by omega
    have htn:((i:Int)+1).toNat=i+1:=by omega
    have hb2:¬(cap=i+1):=by omega
    have hb3:(i:Int)≤(n:Int)+1:=by omega
    have hb4:¬(cap=i):=by omega
    have hmul:i*4+4≤n*4:=by omega
    have hdl:(xs.drop (i*4)).length=(n-i)*4:=by rw[List.length_drop,hxl];omega
    have L:=po cur.toList xs vs (i*4) (n*4) 4 (cap*4) (by simpa using hcs) htk hvl (by omega) (by omega)
    obtain⟨C1,hC1⟩:∃C1:Array Value,C1=(cur.toList.take ((i+1)*4)++xs.drop (i*4)++cur.toList.drop ((i+1)*4+(xs.drop (i*4)).length)).toArray:=⟨_,rfl⟩
    obtain⟨C2,hC2⟩:∃C2:Array Value,C2=(C1.toList.take (i*4)++vs++C1.toList.drop (i*4+vs.length)).toArray:=⟨_,rfl⟩
    have hC1s:C1.size=cap*4:=by rw[hC1];simp;omega
    have HC1:=Lib.hid hC1;have HC2:=Lib.hid hC2
    have hcp2:∀ty dc,(Builtin.copy_ #[34,34] ty #[.slice (some ⟨g,i*4,none⟩) (n+1-i) dc,.slice (some ⟨vb,0,none⟩) 1 cv]).run Tryz.prog (w.drew.setRow g C1)=.ok (goInt ((1:Nat):Int)) ((w.drew.setRow g C1).setRow g C2):=by
     intro ty dc
     have hm:Nat.min 1 (n+1-i)=1:=by simp only[Nat.min_def];split<;>omega
     have hgn:vb≠g:=by intro h;apply hne;rw[h];rfl
     have:=bU (P:=Tryz.prog) (w.drew.setRow g C1) 34 34 ty 89 i0 g (i*4) (n+1-i) dc ⟨vb,0,none⟩ 1 cv C1 89 vs Tryz.underlying34 hi0 (setRow_heap _ g _ _ _ _ hg) (by rw[hvl,hm,hz1])
      (fun j u hj=>by rw[Addr.add_lit,cell_setRow_other _ _ _ _ hgn];simpa using hvcell j u hj) (by rw[hvl,hC1s];omega) hv1
     rw[hm]at this
     rw[this,hC2];try simp only[Nat.mul_one]
    have Hcp2:=Lib.hid hcp2;clear hcp2
    have hcp1:∀ty dc sc,(Builtin.copy_ #[34,34] ty #[.slice (some ⟨g,(i+1)*4,none⟩) (n-i) dc,.slice (some ⟨g,i*4,none⟩) (n+1-i) sc]).run Tryz.prog w.drew=.ok (goInt ((n-i:Nat):Int)) (w.drew.setRow g C1):=by
     intro ty dc sc
     have hm:Nat.min (n+1-i) (n-i)=n-i:=by simp only[Nat.min_def];split<;>omega
     have:=bU (P:=Tryz.prog) w.drew 34 34 ty 89 i0 g ((i+1)*4) (n-i) dc ⟨g,i*4,none⟩ (n+1-i) sc cur 89 (xs.drop (i*4)) Tryz.underlying34 hi0 hg (by rw[hdl,hm,hz1]) hsrc1 (by rw[hdl];omega) (fun u hu=>hx1 u (List.mem_of_mem_drop hu))
     rw[hm]at this;rw[this,hC1]
    have Hcp1:=Lib.hid hcp1;clear hcp1 hC1 hC2
    go_region_law (refine b7 rfl _ _ 34 34 rfl _ _ (by simp[Act.eval,Act.put]) (by simp[Act.eval,Act.put]) (Hcp1.out _ (cap-(i+1)) (cap-i)) ?_)
    go_wp2_with (refine bv _ rfl _ _ 34 34 rfl _ _ rfl rfl (Hcp2.out _ (cap-i)) ?_)
    go_ret
    have e1:(i+1)*4=i*4+4:=by omega
    have h1:=HC1.out;have h2:=HC2.out
    rw[e1]at h1
    rw[h1]at h2
    simp only[List.toList_toArray]at h2
    obtain⟨L1,L2⟩:=L
    refine⟨_,rfl,⟨?_,Or.inr ⟨g,cap,C2,rfl,hBg,setRow_heap _ g _ _ _ _ (setRow_heap _ g _ _ _ _ hg),hroom,by unfold maxLen;omega,?_,?_⟩⟩,?_⟩
    ·simp only[Q9,Q10,List.length_drop,hxl,hvl];omega
    ·rw[h2];simpa using L1
    ·rw[h2,show(n+1)*4=n*4+4 from by omega];simpa using L2
    ·exact⟨az (az bQ (br _) (fun x hx=>by cases hx;exact Or.inl rfl)) (br _) (fun x hx=>by cases hx;exact Or.inl rfl),fun k hk=>Or.inl hk⟩
   ·have hcap:cap=n:=by omega
    have hk1:0<n+1-i:=by omega
    have holds:(Builtin.firstCells i0.size i (.slice (some ⟨g,0,none⟩) i cap)).run Tryz.prog w.drew=.ok (xs.take (i*4)).toArray w.drew:=by
     have:=run_firstCells_some (P:=Tryz.prog) w.drew i0.size i ⟨g,0,none⟩ i cap (xs.take (i*4)) (by rw[Q10,hz1];omega) (fun j u hj=>by
      show w.cell? _=_
      rw[Addr.add_lit,show w.cell? ⟨g,0+j,none⟩=cur[0+j]? from by simp[World.cell?,hg],← Array.getElem?_toList]
      rw[← htk,Q15,Q15]at hj
      split at hj
      ·split at hj
       ·simpa using hj
       ·cases hj
      ·cases hj)
     exact this
    obtain⟨gc,hgc⟩:∃gc,gc=grownCap w (i+(n+1-i)) cap 89:=⟨_,rfl⟩
    have hgc1:n+1≤gc:=by have:=grownCap_ge w (i+(n+1-i)) cap 89;omega
    have hgc2:gc≤9223372036854775807:=by have:=grownCap_le_maxLen w (i+(n+1-i)) cap 89 (by unfold maxLen;omega);unfold maxLen at this;omega
    obtain⟨Zs,hZs⟩:∃Zs:List Value,Zs=(Builtin.zeroCells (.agg #[.int .i64 0,.slice none 0 0,.int .i64 0,.slice none 0 0]:Value).cells (n+1-i)).toList++(Builtin.zeroCells (.agg #[.int .i64 0,.slice none 0 0,.int .i64 0,.slice none 0 0]:Value).cells (gc-(n+1))).toList:=⟨_,rfl⟩
    have hzc:(.agg #[.int .i64 0,.slice none 0 0,.int .i64 0,.slice none 0 0]:Value).cells.size=4:=rfl
    have hZl:Zs.length=(gc-i)*4:=by rw[hZs];simp only[Q9,Array.length_toList,size_zeroCells,hzc];omega
    obtain⟨W1,hW1⟩:∃W1,W1=w.drew.alloc (.cells (xs.take (i*4)++Zs).toArray 89):=⟨_,rfl⟩
    have happ:∀ty,(Builtin.append_ #[34,3] ty #[.slice (some ⟨g,0,none⟩) i cap,.int .i64 ((n:Int)+1-(i:Int))]).run Tryz.prog w=.ok (.slice (some ⟨w.heap.size,0,none⟩) (n+1) gc) W1:=by
     intro ty
     have:=Lib.run_append_grow_zeros (P:=Tryz.prog) w 34 3 ty 89 i0 (.agg #[.int .i64 0,.slice none 0 0,.int .i64 0,.slice none 0 0]) .i64 .i64 Tryz.underlying34 Tryz.underlying3 hi0 hz0 (some ⟨g,0,none⟩) i cap (xs.take (i*4)) holds (n+1-i) hk1 (by rw[hz1];decide) (by omega) (by omega) (by rw[hz2];omega) (growslice_fits (by omega) (by rw[hz2];omega))
     rw[show((n:Int)+1-(i:Int))=((n+1-i:Nat):Int)from by omega,this,hW1,← hgc,hZs,show i+(n+1-i)=n+1 from by omega]
     congr 3
     apply Array.ext'
     simp[List.append_assoc]
    have hW1a:W1.heap[w.heap.size]?=some (.cells (xs.take (i*4)++Zs).toArray 89 (0,0)):=by rw[hW1];exact aB w.drew _
    have hW1b:∀k,k<w.heap.size→W1.heap[k]?=w.heap[k]?:=fun k hk=>by rw[hW1];exact heap_alloc_old w.drew _ hk
    have hW1g:w.grownBy W1 none:=by rw[hW1];exact az bQ (World.grownBy_alloc _ _ none) (fun x hx=>by cases hx)
    have hglt:g<w.heap.size:=(Q17 hg).1
    obtain⟨A1,hA1⟩:∃A1:Array Value,A1=((xs.take (i*4)++Zs).take (i*4)++vs++(xs.take (i*4)++Zs).drop (i*4+vs.length)).toArray:=⟨_,rfl⟩
    obtain⟨W2,hW2⟩:∃W2,W2=W1.setRow w.heap.size A1:=⟨_,rfl⟩
    have hcpA:∀ty dc,(Builtin.copy_ #[34,34] ty #[.slice (some ⟨w.heap.size,i*4,none⟩) (n+1-i) dc,.slice (some ⟨vb,0,none⟩) 1 cv]).run Tryz.prog W1=.ok (goInt ((1:Nat):Int)) W2:=by
     intro ty dc
     have hm:Nat.min 1 (n+1-i)=1:=by simp only[Nat.min_def];split<;>omega
     have:=bU (P:=Tryz.prog) W1 34 34 ty 89 i0 w.heap.size (i*4) (n+1-i) dc ⟨vb,0,none⟩ 1 cv _ 89 vs Tryz.underlying34 hi0 hW1a (by rw[hvl,hm,hz1])
      (fun j u hj=>by rw[Addr.add_lit,World.cell?_of_block (hW1b vb hvlt)];simpa using hvcell j u hj) (by rw[hvl];simp only[List.size_toArray,Q9,Q10,hZl,hxl];omega) hv1
     rw[hm]at this
     rw[this,hW2,hA1]
    have hA1s:A1.size=gc*4:=by rw[hA1];simp only[List.size_toArray,Q9,Q10,List.length_drop,hZl,hxl,hvl];omega
    have hW2a:W2.heap[w.heap.size]?=some (.cells A1 89 (0,0)):=by rw[hW2];exact setRow_heap _ _ _ _ _ _ hW1a
    have hW2b:∀k,k<w.heap.size→W2.heap[k]?=w.heap[k]?:=fun k hk=>by rw[hW2,setRow_other _ _ _ _ (by omega)];exact hW1b k hk
    have hdl:(xs.drop (i*4)).length=(n-i)*4:=by rw[List.length_drop,hxl];omega
    obtain⟨A2,hA2⟩:∃A2:Array Value,A2=(A1.toList.take ((i+1)*4)++xs.drop (i*4)++A1.toList.drop ((i+1)*4+(xs.drop (i*4)).length)).toArray:=⟨_,rfl⟩
    obtain⟨W3,hW3⟩:∃W3,W3=W2.drew.setRow w.heap.size A2:=⟨_,rfl⟩
    have hcpB:∀ty dc sc,(Builtin.copy_ #[34,34] ty #[.slice (some ⟨w.heap.size,(i+1)*4,none⟩) (n-i) dc,.slice (some ⟨g,i*4,none⟩) (n-i) sc]).run Tryz.prog W2.drew=.ok (goInt ((n-i:Nat):Int)) W3:=by
     intro ty dc sc
     have hm:Nat.min (n-i) (n-i)=n-i:=Nat.min_self _
     have:=bU (P:=Tryz.prog) W2.drew 34 34 ty 89 i0 w.heap.size ((i+1)*4) (n-i) dc ⟨g,i*4,none⟩ (n-i) sc A1 89 (xs.drop (i*4)) Tryz.underlying34 hi0 hW2a (by rw[hdl,hm,hz1])
      (fun j u hj=>by
       show W2.cell? _=_
       rw[Addr.add_lit,World.cell?_of_block (hW2b g hglt),show w.cell? ⟨g,i*4+j,none⟩=cur[i*4+j]? from by simp[World.cell?,hg],← Array.getElem?_toList]
       rw[List.getElem?_drop,← htk,Q15]at hj
       split at hj
       ·simpa using hj
       ·cases hj) (by rw[hdl,hA1s];omega) (fun u hu=>hx1 u (List.mem_of_mem_drop hu))
     rw[hm]at this
     rw[this,hW3,hA2]
    have L:=sY xs vs Zs (i*4) (n*4) 4 (by rw[hxl]) hvl (by omega) (by rw[hZl];omega)
    have hW3a:W3.heap[w.heap.size]?=some (.cells A2 89 (0,0)):=by rw[hW3];exact setRow_heap _ _ _ _ _ _ hW2a
    have hW3g:w.grownBy W3 (some g):=by
     rw[hW3,hW2]
     exact az (az (az (r:=some g) (⟨hW1g.os,hW1g.tape,hW1g.output,hW1g.size,fun k hk _=>hW1b k hk⟩) (br _) (fun x hx=>by cases hx;exact Or.inr (Q4 _))) bQ (s:=none) (fun x hx=>by cases hx)) (br _) (fun x hx=>by cases hx;exact Or.inr (Q4 _))
    have HA1:=Lib.hid hA1;have HA2:=Lib.hid hA2;have Happ:=Lib.hid happ;have HcpA:=Lib.hid hcpA;have HcpB:=Lib.hid hcpB;have HL:=Lib.hid L;have HW3a:=Lib.hid hW3a;have HW3g:=Lib.hid hW3g;have Hxl:=Lib.hid hxl;have Hvl:=Lib.hid hvl;have HZl:=Lib.hid hZl
    clear hA1 hA2 happ hcpA hcpB L hW3a hW3g hW1 hW2 hW3 hZs hgc holds hW1a hW1b hW1g hA1s hW2a hW2b hdl hzc hZl hxl hvl hown htk hcs hcu hvb hvc hvcell hx1 hv1 hne hg
    have hw1:IntKind.i64.wrap ((i:Int)+1)=(i:Int)+1:=IntWalk.i64_in _ (by omega)
    have hb1:(0:Int)≤(i:Int)+1:=by omega
    have htn:((i:Int)+1).toNat=i+1:=by omega
    have hb2:¬(gc=i+1):=by omega
    have hb3:(i:Int)≤(n:Int)+1:=by omega
    have hb4:¬(gc=i):=by omega
    have hb5:¬(cap=i):=by omega
    clear hcap
    go_enter Tryz.func63,Tryz.ntmps63
    go_wp2_with (first|(at_builtin;refine Lib.wpList_append_run _ rfl _ _ 34 3 rfl _ _ rfl rfl _ _ (Happ.out _) ?_)|(refine bv _ rfl _ _ 34 34 rfl _ _ rfl rfl (HcpA.out _ (gc-i)) ?_))
    go_region_law (refine b7 rfl _ _ 34 34 rfl _ _ (by simp[Act.eval,Act.put]) (by simp[Act.eval,Act.put]) (HcpB.out _ (gc-(i+1)) (cap-i)) ?_)
    go_wp2
    go_ret
    have e1:(i+1)*4=i*4+4:=by omega
    have h1:A1=((xs.take (i*4)++Zs).take (i*4)++vs++(xs.take (i*4)++Zs).drop (i*4+vs.length)).toArray:=by have:=HA1.out;simpa only[Nat.mul_one]using this
    have h2:=HA2.out
    rw[e1,h1]at h2
    simp only[List.toList_toArray]at h2
    obtain⟨L1,L2⟩:=HL.out
    refine⟨_,rfl,⟨?_,Or.inr ⟨w.heap.size,gc,A2,rfl,hB,HW3a.out,hgc1,by unfold maxLen;omega,?_,?_⟩⟩,HW3g.out,fun k hk=>by cases hk;exact Or.inr (Q4 _)⟩
    ·simp only[Q9,Q10,List.length_drop,Hxl.out,Hvl.out];omega
    ·rw[h2];simp only[List.size_toArray];rw[L1,HZl.out];omega
    ·rw[h2,show(n+1)*4=n*4+4 from by omega];simpa using L2
theorem qt(xs:List Int)(i:Nat)(x:Int)(hi:i≤xs.length)(hn:xs.length≤16777215) :
  Fun TC 91 2 [.sl 0 1 0 xs.length,.i .i64 i,.sl 1 1 0 1] [(0,some (ay 2 1 (aM .i64) xs)),(1,some (ay 2 1 (aM .i64) [x]))] 3 (.sl 2 1 0 (bP xs i x).length) [(0,none),(1,none),(2,some (ay 2 1 (aM .i64) (bP xs i x)))]:=by
 by_cases hlt:i<xs.length
 ·refine zr (C:=TC) (z:=1) (enc:=(aM .i64)) zN (.mk Tryz.func91 rfl rfl) (fun x=>rfl) xs i x hlt ?_
  intro v vb cv vcur F vs w h1 h2 h3 h4 h5 h6 h7
  exact qU 0 v xs.length i vb cv vcur F vs w hi h1 (Nat.zero_le _) (by omega) h2 h3 h4 h5 h6 h7
 ·obtain rfl:i=xs.length:=by omega
  refine Fun.mk' Tryz.func91 rfl rfl zN (by decide) ?_
  (repeat' (first|((first|refine Wp.any ac rfl ?_|(with_reducible first|refine Go.mk ?_|apply ai.of|refine Ov.ok zO ?_|refine And.intro zC ?_));conv=>whnf)|((with_reducible refine And.intro ?hb ?_);(case hb=>exact zz6);(conv=>whnf))|((refine aq (fun hc=>?_) (fun hc=>?_))<;>(try simp only[wz9]at hc)<;>(try (exfalso;omega))<;>(conv=>whnf))))
  all_goals try exact absurd trivial hc
  refine af.of [0,1,2] rfl (fun i hi=>by have:i=0∨i=1:=(by omega);rcases this with h|h<;>subst h<;>rfl) rfl ?_ ?_
  ·exact .of_eq (congrArg (SV.sl _ _ _) (aY xs _ x (by omega)).symm)
  ·refine⟨⟨⟨rfl,rfl,(aY xs _ x (by omega)).symm⟩,fun i hi=>?_⟩,trivial⟩
   dsimp only
   rw[f9 xs _ x (by omega)]
   simp only[bu]
   by_cases h:i<xs.length
   ·rw[if_pos h,if_pos h]
   ·rw[if_neg h,if_neg h,if_pos (by omega),show i-xs.length=0 by omega];rfl
theorem kC(xs:List Cel)(i:Nat)(x:Cel)(hi:i≤xs.length)(hn:xs.length≤16777215) :
  Fun TC 63 2 [.sl 0 4 0 xs.length,.i .i64 i,.sl 1 4 0 1] [(0,some (ay 89 4 Cel.D xs)),(1,some (ay 89 4 Cel.D [x]))] 3 (.sl 2 4 0 (bP xs i x).length) [(0,none),(1,none),(2,some (ay 89 4 Cel.D (bP xs i x)))]:=by
 by_cases hlt:i<xs.length
 ·refine zr (C:=TC) (z:=4) (enc:=Cel.D) zN (.mk Tryz.func63 rfl rfl) (fun x=>rfl) xs i x hlt ?_
  intro v vb cv vcur F vs w h1 h2 h3 h4 h5 h6 h7
  exact oD 0 v xs.length i vb cv vcur F vs w hi h1 (Nat.zero_le _) (by omega) h2 h3 h4 h5 h6 h7
 ·obtain rfl:i=xs.length:=by omega
  refine Fun.mk' Tryz.func63 rfl rfl zN (by decide) ?_
  (repeat' (first|((first|refine Wp.any ac rfl ?_|(with_reducible first|refine Go.mk ?_|apply ai.of|refine Ov.ok zO ?_|refine And.intro zC ?_));conv=>whnf)|((with_reducible refine And.intro ?hb ?_);(case hb=>exact zz6);(conv=>whnf))|((refine aq (fun hc=>?_) (fun hc=>?_))<;>(try simp only[wz9]at hc)<;>(try (exfalso;omega))<;>(conv=>whnf))))
  all_goals try exact absurd trivial hc
  refine af.of [0,1,2] rfl (fun i hi=>by have:i=0∨i=1:=(by omega);rcases this with h|h<;>subst h<;>rfl) rfl ?_ ?_
  ·exact .of_eq (congrArg (SV.sl _ _ _) (aY xs _ x (by omega)).symm)
  ·refine⟨⟨⟨rfl,rfl,(aY xs _ x (by omega)).symm⟩,fun i hi=>?_⟩,trivial⟩
   dsimp only
   rw[f9 xs _ x (by omega)]
   simp only[bu]
   by_cases h:i<xs.length
   ·rw[if_pos h,if_pos h]
   ·rw[if_neg h,if_neg h,if_pos (by omega),show i-xs.length=0 by omega];rfl
theorem qu(xs:List Int)(i:Nat)(hi:i<xs.length)(hn:xs.length≤16777215) :
  Fun TC 92 1 [.sl 0 1 0 xs.length,.i .i64 i,.i .i64 ((i:Int)+1)] [(0,some (ay 2 1 (aM .i64) xs))] 2 (.sl 1 1 0 (cR xs i).length) [(0,none),(1,some (ay 2 1 (aM .i64) (cR xs i)))]:=by
 refine delFun (C:=TC) (z:=1) (enc:=aM .i64) zN (.mk Tryz.func92 rfl rfl) (fun x=>rfl) xs i hi (by unfold maxLen;omega) ?_
 intro v F w h1 h2
 exact qV 0 v xs.length i F w hi h1 (by omega) h2
theorem tS(lt:Nat→Bool):∀(q i j:Nat),i≤j→i≤bsF lt q i j∧bsF lt q i j≤j
 | 0,i,j,h=>⟨Q4 _,h⟩
 | q+1,i,j,h=>by
  unfold bsF
  split
  ·split
   ·have:=tS lt q ((i+j)/2+1) j (by omega);omega
   ·have:=tS lt q i ((i+j)/2) (by omega);omega
  ·omega
theorem bs_le(lt:Nat→Bool)(n:Nat):bs lt n≤n:=(tS lt (n+1) 0 n (Nat.zero_le _)).2
theorem li(xs:List Int)(n:Int):dF xs n≤xs.length:=bs_le _ _
theorem nU(xs:List Cel)(t:Cel):bo xs t≤xs.length:=bs_le _ _
theorem lM{xs:List Int}{n:Int}(h:lN xs n=true):dF xs n<xs.length:=by simp[lN]at h;exact h.1
theorem k9(p:Int)(xs:List Int):gB p xs=0→1≤p∧p≤64∧(xs.length:Int)≤p:=by
 unfold gB;split
 ·intro _;omega
 ·intro h;omega
def bN(p:Int)(xs:List Int)(n:Int):Int:=if nP n=false then 1 else if gB p xs≠0 then gB p xs else if lN xs n=true then 8 else if(xs.length:Int)=p then 9 else 0
def eK(p:Int)(xs:List Int)(n:Int):List Int:=if bN p xs n=0 then bP xs (dF xs n) n else[]
def qc(p:Int)(xs:List Int)(n:Int):Int:=if bN p xs n=0 then p else 0
theorem sa(p:Int)(xs:List Int)(n:Int):Pure TC 60 [.agg [.i .i64 p,.d (am 1 (aM .i64) xs)],.i .i64 n] (.tup [.agg [.i .i64 (qc p xs n),.d (am 1 (aM .i64) (eK p xs n))],.i .i64 (bN p xs n)]):=by
 have hb:=k9 p xs
 have hp:=li xs n
 refine Pure.mk' Tryz.func60 rfl rfl zN ?_
 (repeat' (first|((first|refine Wp.any ac rfl ?_|(with_reducible first|refine Go.mk ?_|apply ai.of));conv=>whnf)|with_reducible exact rfl|((first|refine zV ?_|with_reducible refine And.intro zC ?_);conv=>whnf)|(with_reducible refine Or.inl ?_)|((with_reducible first|refine ab.pure (iG _) rfl rfl ?_|refine ab.pure (j4 _ _) rfl rfl ?_|refine ab.pure (jP _ _ (by omega)) rfl rfl ?_);conv=>whnf)|((refine ag.new (mV xs (by omega)) [] [] rfl rfl rfl rfl rfl rfl ?ha ?hh ?hs ?_);(case ha=>exact zA);(case hh=>exact zH);(case hs=>exact zK);(conv=>whnf))|((refine ag.new (qt xs (dF xs n) n (by omega) (by omega)) [6,9] [] rfl rfl rfl rfl rfl rfl ?ha ?hh ?hs ?_);(case ha=>exact zA);(case hh=>exact zH);(case hs=>exact zK);(conv=>whnf))|((refine aq (fun hc=>?_) (fun hc=>?_))<;>(try simp only[wz9]at hc)<;>(try (exfalso;omega))<;>(conv=>whnf))))
 ·have h:bN p xs n=1:=by simp[bN,hc]
  rw[qc,eK,h];exact .tup (.cons (.agg (.cons (.rfl _) (.cons .nil .nil))) (.cons (.rfl _) .nil))
 ·rename_i h1
  have h:bN p xs n=gB p xs:=by simp[bN,hc,h1]
  rw[qc,eK,h,if_neg hc,if_neg hc];exact .tup (.cons (.agg (.cons (.rfl _) (.cons .nil .nil))) (.cons (.rfl _) .nil))
 ·rename_i h1 h2
  have h:bN p xs n=8:=by simp[bN,hc,h1,h2]
  rw[qc,eK,h];exact .tup (.cons (.agg (.cons (.rfl _) (.cons .nil .nil))) (.cons (.rfl _) .nil))
 ·rename_i h1 h2 h3
  have h:bN p xs n=9:=by simp[bN,hc,h1,h2,h3]
  rw[qc,eK,h];exact .tup (.cons (.agg (.cons (.rfl _) (.cons .nil .nil))) (.cons (.rfl _) .nil))
 ·rename_i h1 h2 h3
  have h:bN p xs n=0:=by simp[bN,hc,h1,h2,h3]
  rw[qc,eK,h,if_pos rfl,if_pos rfl]
  exact .tup (.cons (.agg (.cons (.rfl _) (.cons (SV.Le.sl fun i hi=>by rw[Q19]) .nil))) (.cons (.rfl _) .nil))
def cX(p:Int)(xs:List Int)(n:Int):Int:=if gB p xs≠0 then gB p xs else if lN xs n=true then 0 else 11
def iY(p:Int)(xs:List Int)(n:Int):List Int:=if cX p xs n=0 then cR xs (dF xs n)else[]
def yu(p:Int)(xs:List Int)(n:Int):Int:=if cX p xs n=0 then p else 0
theorem sb(p:Int)(xs:List Int)(n:Int):Pure TC 61 [.agg [.i .i64 p,.d (am 1 (aM .i64) xs)],.i .i64 n] (.tup [.agg [.i .i64 (yu p xs n),.d (am 1 (aM .i64) (iY p xs n))],.i .i64 (cX p xs n)]):=by
 have hb:=k9 p xs
 have hp:=li xs n
 have hl:=lM (xs:=xs) (n:=n)
 refine Pure.mk' Tryz.func61 rfl rfl zN ?_
 (repeat' (first|((first|refine Wp.any ac rfl ?_|(with_reducible first|refine Go.mk ?_|apply ai.of|refine Ov.ok zO ?_)|refine zV ?_|(with_reducible first|refine And.intro zC ?_|refine ab.pure (j4 _ _) rfl rfl ?_|refine ab.pure (jP _ _ (by omega)) rfl rfl ?_));conv=>whnf)|((refine ag.new (mV xs (by omega)) [] [] rfl rfl rfl rfl rfl rfl ?ha ?hh ?hs ?_);(case ha=>exact zA);(case hh=>exact zH);(case hs=>exact zK);(conv=>whnf))|((refine ag.new (qu xs (dF xs n) (hl (by assumption)) (by omega)) [6] [] rfl rfl rfl rfl rfl rfl ?ha ?hh ?hs ?_);(case ha=>exact zA);(case hh=>exact zH);(case hs=>exact zK);(conv=>whnf))|((refine aq (fun hc=>?_) (fun hc=>?_))<;>(try simp only[wz9]at hc)<;>(try (exfalso;omega))<;>(conv=>whnf))))
 ·have h:cX p xs n=gB p xs:=by simp[cX,hc]
  have h0:¬cX p xs n=0:=by rw[h];exact hc
  rw[yu,iY,if_neg h0,if_neg h0,h];exact .tup (.cons (.agg (.cons (.rfl _) (.cons .nil .nil))) (.cons (.rfl _) .nil))
 ·rename_i h1
  have h:cX p xs n=11:=by simp[cX,hc,h1]
  rw[yu,iY,h];exact .tup (.cons (.agg (.cons (.rfl _) (.cons .nil .nil))) (.cons (.rfl _) .nil))
 ·rename_i h1
  have h:cX p xs n=0:=by simp[cX,hc,h1]
  rw[yu,iY,h,if_pos rfl,if_pos rfl]
  exact .tup (.cons (.agg (.cons (.rfl _) (.cons (SV.Le.sl fun i hi=>by rw[Q19]) .nil))) (.cons (.rfl _) .nil))
def jm(p:Pol)(c:Cel)(n:Int):Rpl:=if bN p.permits c.held n=0 then⟨0,true,p.permits-(eK p.permits c.held n).length,0,n,0⟩else⟨bN p.permits c.held n,false,0,0,0,0⟩
def fR(p:Pol)(c:Cel)(n:Int):Cel:=if bN p.permits c.held n=0 then⟨c.pol,c.key,c.tat,eK p.permits c.held n⟩else c
def jo(p:Pol)(c:Cel)(n:Int):Rpl:=if cX p.permits c.held n=0 then⟨0,true,p.permits-(iY p.permits c.held n).length,0,0,0⟩else⟨cX p.permits c.held n,false,0,0,0,0⟩
def jp(p:Pol)(c:Cel)(n:Int):Cel:=if cX p.permits c.held n=0 then⟨c.pol,c.key,c.tat,iY p.permits c.held n⟩else c
theorem nJ{p:Int}{xs:List Int}{n:Int}:bN p xs n=0↔nP n=true∧gB p xs=0∧lN xs n=false∧¬(xs.length:Int)=p:=by
 unfold bN
 by_cases h1:nP n=false
 ·rw[if_pos h1];simp[h1]
 ·rw[if_neg h1]
  by_cases h2:gB p xs=0
  ·rw[if_neg (fun h=>h h2)]
   by_cases h3:lN xs n=true
   ·rw[if_pos h3];simp[h3]
   ·rw[if_neg h3]
    by_cases h4:(xs.length:Int)=p
    ·rw[if_pos h4];simp[h4]
    ·rw[if_neg h4];simp_all
  ·rw[if_pos h2];simp[h2]
theorem oe{p:Int}{xs:List Int}{n:Int}:cX p xs n=0↔gB p xs=0∧lN xs n=true:=by
 unfold cX
 by_cases h2:gB p xs=0
 ·rw[if_neg (fun h=>h h2)]
  by_cases h3:lN xs n=true
  ·rw[if_pos h3];simp[h2,h3]
  ·rw[if_neg h3];simp[h3]
 ·rw[if_pos h2];simp[h2]
theorem gP{p:Int}{xs:List Int}{n:Int}(h:bN p xs n=0):1≤p∧p≤64∧((eK p xs n).length:Int)≤p:=by
 obtain⟨_,h1,_,h2⟩:=nJ.1 h
 have hb:=k9 p xs h1
 rw[eK,if_pos h,aY _ _ _ (li _ _)]
 omega
theorem ia{p:Int}{xs:List Int}{n:Int}(h:cX p xs n=0):1≤p∧p≤64∧((iY p xs n).length:Int)<p:=by
 obtain⟨h1,hh⟩:=oe.1 h
 have hb:=k9 p xs h1
 have:=lM hh
 rw[iY,if_pos h,dV _ _ this]
 omega
theorem dX(p:Pol)(c:Cel)(n:Int):Pure TC 31 [p.S,c.S,.i .i64 n] (.tup [(jm p c n).S,(fR p c n).S]):=by
 have hb:=gP (p:=p.permits) (xs:=c.held) (n:=n)
 refine Pure.mk' Tryz.func31 rfl rfl zN ?_
 (repeat' (first|((first|refine Wp.any ac rfl ?_|(with_reducible first|refine Go.mk ?_|apply ai.of|refine Ov.ok zO ?_)|refine zV ?_|with_reducible refine ab.pure (sa _ _ _) rfl rfl ?_);conv=>whnf)|((refine aq (fun hc=>?_) (fun hc=>?_))<;>(try simp only[wz9]at hc)<;>(try (exfalso;omega))<;>(conv=>whnf))))
 ·rw[jm,fR,if_neg hc,if_neg hc];exact .rfl _
 ·rw[jm,fR,if_pos hc,if_pos hc];exact .rfl _
theorem dW(p:Pol)(c:Cel)(n:Int):Pure TC 32 [p.S,c.S,.i .i64 n] (.tup [(jo p c n).S,(jp p c n).S]):=by
 have hb:=ia (p:=p.permits) (xs:=c.held) (n:=n)
 refine Pure.mk' Tryz.func32 rfl rfl zN ?_
 (repeat' (first|((first|refine Wp.any ac rfl ?_|(with_reducible first|refine Go.mk ?_|apply ai.of|refine Ov.ok zO ?_)|refine zV ?_|with_reducible refine ab.pure (sb _ _ _) rfl rfl ?_);conv=>whnf)|((refine aq (fun hc=>?_) (fun hc=>?_))<;>(try simp only[wz9]at hc)<;>(try (exfalso;omega))<;>(conv=>whnf))))
 ·rw[jo,jp,if_neg hc,if_neg hc];exact .rfl _
 ·rw[jo,jp,if_pos hc,if_pos hc];exact .rfl _
theorem au(xs:List Int)(hn:xs.length≤16777216):Pure TC 45 [.d (am 1 (aM .u8) xs)] (.d (am 1 (aM .u8) xs)):=by
 refine Pure.mk' Tryz.func45 rfl rfl zN ?_
 (repeat' (first|((first|refine Wp.any ac rfl ?_|(with_reducible first|refine Go.mk ?_|apply ai.of|refine And.intro zC ?_));conv=>whnf)|((with_reducible refine And.intro ?hb ?_);(case hb=>exact zz6);(conv=>whnf))|((with_reducible refine dK ?_ (fun hn0=>?_))<;>(conv=>whnf))))
 ·rw[Q19];exact SV.Le.sl fun i hi=>by simp[bu]
 ·obtain rfl:=List.eq_nil_of_length_eq_zero hn0
  exact SV.Le.nil
theorem kg(xs:List Int)(hn:xs.length≤16777216):Pure TC 64 [.d (am 1 (aM .i64) xs)] (.d (am 1 (aM .i64) xs)):=by
 refine Pure.mk' Tryz.func64 rfl rfl zN ?_
 (repeat' (first|((first|refine Wp.any ac rfl ?_|(with_reducible first|refine Go.mk ?_|apply ai.of|refine And.intro zC ?_));conv=>whnf)|((with_reducible refine And.intro ?hb ?_);(case hb=>exact zz6);(conv=>whnf))|((with_reducible refine dK ?_ (fun hn0=>?_))<;>(conv=>whnf))))
 ·rw[Q19];exact SV.Le.sl fun i hi=>by simp[bu]
 ·obtain rfl:=List.eq_nil_of_length_eq_zero hn0
  exact SV.Le.nil
theorem jY(xs:List Pol)(hn:xs.length≤16777216):Pure TC 23 [.d (am 4 Pol.D xs)] (.d (am 4 Pol.D xs)):=by
 refine Pure.mk' Tryz.func23 rfl rfl zN ?_
 (repeat' (first|((first|refine Wp.any ac rfl ?_|(with_reducible first|refine Go.mk ?_|apply ai.of|refine And.intro zC ?_));conv=>whnf)|((with_reducible refine And.intro ?hb ?_);(case hb=>exact zz6);(conv=>whnf))|((with_reducible refine dK ?_ (fun hn0=>?_))<;>(conv=>whnf))))
 ·rw[Q19];exact SV.Le.sl fun i hi=>by simp[bu]
 ·obtain rfl:=List.eq_nil_of_length_eq_zero hn0
  exact SV.Le.nil
def bM(xs:List Cel)(at':Nat)(there:Bool)(c:Cel):List Cel:=if there=true then xs.set at' c else bP xs at' c
theorem jg(xs:List Cel)(at':Nat)(there:Bool)(c:Cel)(hn:xs.length≤16777215)(hk:c.key.length≤16777216)(h1:at'≤xs.length)(h2:there=true→at'<xs.length) :
  Fun TC 33 1 [.sl 0 4 0 xs.length,.i .i64 at',.b there,c.S] [(0,some (ay 89 4 Cel.D xs))] 2 (.sl 1 4 0 (bM xs at' there c).length) [(0,some (ay 89 4 Cel.D xs)),(1,some (ay 89 4 Cel.D (bM xs at' there c)))]:=by
 cases there with
 | true =>
  have h2:=h2 rfl
  refine Fun.mk' Tryz.func33 rfl rfl zN (by decide) ?_
  (repeat' (first|((first|refine Wp.any ac rfl ?_|(with_reducible first|refine Go.mk ?_|apply ai.of|refine And.intro zC ?_));conv=>whnf)|((refine ab.fn (fI xs (by omega)) [0] rfl rfl rfl rfl rfl ?ha ?hh ?_);(case ha=>exact zA);(case hh=>exact zH);(conv=>whnf))))
  refine af.of [0,2] rfl (fun i hi=>by obtain rfl:i=0:=(by omega);rfl) rfl ?_ ?_
  ·exact .of_eq (congrArg (SV.sl _ _ _) (by simp[bM]))
  ·refine⟨⟨⟨rfl,rfl,rfl⟩,fun i hi=>rfl⟩,⟨⟨rfl,rfl,by simp[bM]⟩,fun i hi=>?_⟩,trivial⟩
   simp only[bM,if_true,Q1,List.getElem?_set]
   by_cases h:at'=i
   ·subst h;simp[h2];rfl
   ·rw[if_neg h,if_neg (fun e=>h (by omega))]
 | false =>
  refine Fun.mk' Tryz.func33 rfl rfl zN (by decide) ?_
  (repeat' (first|((first|refine Wp.any ac rfl ?_|(with_reducible first|refine Go.mk ?_|apply ai.of));conv=>whnf)|((refine ab.fn (fI xs (by omega)) [0] rfl rfl rfl rfl rfl ?ha ?hh ?_);(case ha=>exact zA);(case hh=>exact zH);(conv=>whnf))|((with_reducible refine ab.pure (au _ (by omega)) rfl rfl ?_);conv=>whnf)|((refine ab.fn (kC xs at' c (by omega) (by omega)) [2,3] rfl rfl rfl rfl rfl ?ha ?hh ?_);(case ha=>exact zA);(case hh=>exact zH);(conv=>whnf))))
  refine af.of [0,4] rfl (fun i hi=>by obtain rfl:i=0:=(by omega);rfl) rfl ?_ ?_
  ·exact .rfl _
  ·exact⟨⟨⟨rfl,rfl,rfl⟩,fun i hi=>rfl⟩,⟨⟨rfl,rfl,rfl⟩,fun i hi=>rfl⟩,trivial⟩
end Go.Proofs.YtlkccdlgnpkjpaaGreat
