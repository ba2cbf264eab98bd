/- Lemmas of Cs2, Cs3, Cs4, Cs5, Dp5, Cq9, Sx23, Dr1, Cc0, Sx25, Sx28, Cc1, Dr3, Cc2, Cc3. No condition. -/
import Derived.Test.YtlkccdlgnpkjpaaGreatMO8
set_option linter.unusedVariables false
set_option linter.unusedSimpArgs false
set_option linter.unusedSectionVars false
set_option maxHeartbeats 80000000
set_option maxRecDepth 100000
namespace Go.Proofs.YtlkccdlgnpkjpaaGreat
open Go.RowKit
section
namespace Core
open Dir (FZ upd upd_same upd_ne)
variable{P:Ops}
theorem step_none{M:Mc}{x:X}{s:CS}(hr:(Core.step P M x s).r.done=true):(Core.step P M x s).s=.none:=by
 have lv:∀r,(leave x r).2.done=true→(leave x r).1=.none:=fun r h=>by unfold leave at h⊢;split at h<;>simp_all [r0]
 have fu:∀j sh g,(further j sh g).2.done=true→(further j sh g).1=.none:=fun j sh g h=>by unfold further at h⊢;split at h<;>simp_all [r0]
 have hfk:∀f,(foundK P x f).2.done=true→(foundK P x f).1=.none:=fun f h=>by
  unfold foundK at h⊢
  by_cases h1:x.op=1
  ·rw[if_pos h1]at h;simp[r0]at h
  rw[if_neg h1]at h⊢
  by_cases h2:x.op=2
  ·rw[if_pos h2]at h⊢
   by_cases h3:(f.cell.held.length:Int)=(P.pol x.pol).permits
   ·rw[if_pos h3]at h⊢;exact lv _ h
   rw[if_neg h3]at h⊢
   by_cases h4:0<x.ser
   ·rw[if_pos h4]at h;simp[r0]at h
   ·rw[if_neg h4]at h;simp[r0]at h
  rw[if_neg h2]at h⊢
  by_cases h5:x.op=3
  ·rw[if_pos h5]at h⊢
   by_cases h6:(P.rel (P.pol x.pol) f.cell x.n).1.e=0
   ·rw[if_pos h6]at h;simp[r0]at h
   ·rw[if_neg h6]
  rw[if_neg h5]at h⊢
  by_cases h7:(P.pol x.pol).kind=2
  ·rw[if_pos h7]
  ·rw[if_neg h7]at h;simp[r0]at h
 have hen:∀f w v hh,(entered P x f w v hh).2.done=true→(entered P x f w v hh).1=.none:=fun f w v hh h=>by
  unfold entered at h⊢
  split at h
  ·simp[r0]at h
  ·rename_i e;rw[if_neg e]
   cases f with
   | key=>exact hfk _ h
   | ev j sh g =>
    simp only[found]at h⊢
    split at h
    ·rename_i e;rw[if_pos e];exact fu _ _ _ h
    ·simp[r0]at h
 cases s with
 | none=>rfl
 | k0 f=>simp[step,r0]at hr
 | kE f w=>exact hen _ _ _ _ hr
 | kF f lv w=>simp[step,r0]at hr
 | kG f lv w v m=>simp only[step]at hr;split at hr<;>simp[r0]at hr
 | kH f lv w m =>
  by_cases e:M.W w=0
  ·simp[step,if_pos e,r0]at hr
  ·simp only[step,if_neg e]at hr⊢;exact hen _ _ _ _ hr
 | kL f lv w m=>simp[step,r0]at hr
 | al f =>
  simp only[step]at hr⊢
  split at hr<;>rename_i e
  ·rw[if_pos e];exact lv _ hr
  ·simp[r0]at hr
 | pk c=>rfl
 | a0 f =>
  simp only[step]at hr⊢
  split at hr<;>rename_i e
  ·rw[if_pos e];exact lv _ hr
  ·simp[r0]at hr
 | a1 f u=>simp only[step]at hr;split at hr<;>simp[r0]at hr
 | p0 f c r =>
  simp only[step]at hr⊢
  split at hr<;>rename_i e
  ·rw[if_pos e]
  ·simp[r0]at hr
 | p1 f c r u=>simp only[step]at hr;split at hr<;>simp[r0]at hr
 | pS f c r =>
  simp only[step]at hr⊢
  split at hr<;>rename_i e
  ·rw[if_pos e]
   simp only[same]at hr⊢
   split at hr<;>rename_i e2
   ·rw[if_pos e2];exact lv _ hr
   ·rw[if_neg e2]
  ·simp[r0]at hr
 | b0 n k=>simp[step,r0]at hr
 | b1 n k u =>
  simp only[step]at hr⊢
  split at hr<;>rename_i e
  ·rw[if_pos e]
   cases k with
   | lv r=>rfl
   | ev j sh g=>exact fu _ _ _ hr
  ·simp[r0]at hr
 | e0=>simp[step,r0]at hr
 | eC j sh g w v m =>
  simp only[step]at hr⊢
  split at hr<;>rename_i e
  ·rw[if_pos e];exact fu _ _ _ hr
  ·simp[r0]at hr
 | eS j sh g w v m n =>
  simp only[step]at hr⊢
  split at hr<;>rename_i e
  ·simp[r0]at hr
  ·rw[if_neg e];exact fu _ _ _ hr
 | s0 =>
  simp only[step]at hr⊢
  split at hr<;>rename_i e
  ·simp[r0]at hr
  ·rw[if_neg e]
   split at hr<;>rename_i e2
   ·rw[if_pos e2]
   ·simp[r0]at hr
 | sM lv=>simp only[step]at hr;split at hr<;>simp[r0]at hr
 | sF lv i=>simp[step,r0]at hr
 | sG lv i v m=>simp only[step]at hr;split at hr<;>simp[r0]at hr
 | sH lv i up m=>simp[step,r0]at hr
 | sL lv i up m=>simp[step,r0]at hr
 | sV lv=>rfl
structure Sers(M:Mc)(S:Nat→Wk)(G:List Int):Prop where
 le:∀i,(S i).x.ser≤M.W 33
 ne:∀i j,i≠j→(S i).s≠.none→(S j).s≠.none→(S i).x.ser≠0→(S i).x.ser≠(S j).x.ser
 gv:∀g∈G,1≤g∧g≤M.W 33∧∀i,(S i).s≠.none→(S i).x.ser≠g
 nd:G.Nodup
 sr:∀i,Sr (S i).x (S i).s
end Core
end
section
namespace Core
open Dir (FZ upd upd_same upd_ne)
variable{P:Ops}
end Core
end
section
namespace Core
open Dir (FZ upd upd_same upd_ne)
variable{P:Ops}
def pd(k:Wk):Int:=match k.s with
 | .none=>0
 | _=>if k.x.op=2∧k.x.ser=0 then 1 else 0
def pend(S:Nat→Wk):Int:=sumI 64 fun i=>pd (S i)
end Core
end
section
namespace Core
open Dir (FZ upd upW upd_same upd_ne pow_pos2 sh_32 upW_sh)
variable{P:Ops}
def Sp(d w0:Int):CS→Prop
 | .s0=>w0=d
 | .sM lv=>w0=2*lv∧d=2*lv
 | .sF lv _=>w0=2*lv+1∧d/2=lv
 | .sG lv _ _ _=>w0=2*lv+1∧d/2=lv
 | .sH lv _ _ _=>w0=2*lv+1∧d/2=lv
 | .sL lv _ _ _=>w0=2*lv+1∧d/2=lv
 | .sV lv=>w0=2*lv+1∧d/2=lv
 | _=>False
theorem on_sp{d w0:Int}{lv i:Nat}{up:Bool}{m:List Cel}(h:w0=2*lv+1∧d/2=lv):Sp d w0 (on lv i up m):=by
 unfold on move;(repeat' split)<;>exact h
theorem split_step{M:Mc}{x:X}{s:CS}{d:Int}(hd:0≤d∧d≤8)(hs:Cw x M.W s)(h:Sp d (M.W 0) s) :
  ((Core.step P M x s).r.done=false∧Sp d ((Core.step P M x s).M.W 0) (Core.step P M x s).s) ∨
  ((Core.step P M x s).r=⟨true,er 5⟩∧d=8∧(Core.step P M x s).M.W 0=8) ∨
  ((Core.step P M x s).r=⟨true,z0⟩∧d<8∧(Core.step P M x s).M.W 0=2*(d/2)+2):=by
 cases s with
 | s0 =>
  replace h:M.W 0=d:=h
  by_cases h1:M.W 0%2=1
  ·left;simp only[step,if_pos h1];exact⟨rfl,by omega,by omega⟩
  ·by_cases h2:M.W 0/2=4
   ·right;left;simp only[step,if_neg h1,if_pos h2];exact⟨trivial,by omega,by omega⟩
   ·left;simp only[step,if_neg h1,if_neg h2];exact⟨rfl,by omega,by omega⟩
 | sM lv =>
  obtain⟨a,b⟩:=h
  left
  simp only[step,if_pos a]
  refine⟨rfl,?_,by omega⟩
  simp[Mc.set,upd]
 | sF lv i=>left;refine⟨rfl,?_⟩;simp only[step];split<;>exact h
 | sG lv i v m =>
  left
  have hw:=(sh_32 (by have:=hs.1;omega:lv≤4) hs.2.1).1
  by_cases hm:M.W (2^lv+i)=v
  ·simp only[step,if_pos hm]
   refine⟨rfl,?_⟩
   show upd M.W _ _ 0=_∧_
   rw[upd_ne _ _ (by omega)];exact h
  ·simp only[step,if_neg hm];exact⟨rfl,h⟩
 | sH lv i up m =>
  left;refine⟨rfl,?_⟩;simp only[step];split
  ·exact h
  ·exact on_sp h
 | sL lv i up m =>
  left
  refine⟨rfl,?_⟩
  obtain⟨j,h1,h2,h3⟩:=upW_sh (up:=up) hs.2.1
  have hw:=(sh_32 (by have:=hs.1;omega:lv+1≤4) h1).1
  show Sp d ((if _ then _ else _:Mc).W 0) (on lv i up m)
  split
  ·rw[show(M.set (upW lv i up) 1 (P.cut m (lv+1) (upW lv i up-2^(lv+1)))).W 0=M.W 0 from upd_ne _ _ (by omega)];exact on_sp h
  ·exact on_sp h
 | sV lv =>
  obtain⟨a,b⟩:=h
  right;right
  have hl:lv≤3:=hs.1
  refine⟨rfl,by omega,?_⟩
  show(if _ then _ else _:Mc).W 0=_
  rw[if_pos a]
  have e:(M.set 0 (2*(lv:Int)+2) []).W 0=2*(lv:Int)+2:=by simp[Mc.set,upd]
  rw[e];omega
 | _=>exact absurd h (by simp[Sp])
end Core
end
namespace Dir
def left(P:Ops)(W:Nat→Int)(cs:Nat→CS):Nat:=sumN 8 (fun j=>T P W (cs j))+56*rem W
structure Inv(P:Ops)(M:Mc)(cs:Nat→CS)(B:Int):Prop where
 iw:Iw M.W B
 b:1≤B
 cw:∀j,Cw P M.W (cs j)
def M0:Mc:=⟨fun w=>if w=1 then 1 else 0,fun _=>[]⟩
theorem Inv.zero(P:Ops):Inv P M0 (fun _=>.none) 1:=by
 refine⟨⟨by simp[M0],fun lv i hl hi=>?_⟩,by omega,fun j=>trivial⟩
 have hF:FZ=4611686018427387904:=rfl
 have h0:M0.W 0=0:=rfl
 rw[h0]
 by_cases e:lv=0
 ·subst e
  obtain rfl:i=0:=by omega
  show okW 0 0 1 _ 1
  unfold okW;omega
 ·have:M0.W (2^lv+i)=0:=by
   have:2^1≤2^lv:=Q16 (by omega) (by omega)
   simp only[M0];rw[if_neg (by omega)]
  rw[this];unfold okW;omega
end Dir
section
namespace Core
open Dir (FZ plc upd upW Iw okW dj upd_same upd_ne pow_pos2)
variable{sm:List Int→Int}{P:Ops}
def M0:Mc:=⟨Dir.M0.W,fun _=>[],0⟩
def first(x:X):CS:=if x.op=6 then .s0 else if x.op=5 then .e0 else .k0 .key
def okNew(sm:List Int→Int)(x:X):Prop:=x.res=false∧x.ser=0∧(x.op=5∨x.op=6∨K sm x)
theorem sumI_zero:∀{n:Nat},sumI n (fun _=>0)=0
 | 0=>rfl
 | n+1=>by simp only[sumI];rw[sumI_zero (n:=n)];rfl
theorem t9:allE P M0=[]:=rfl
theorem All.zero(h:0≤P.room):All sm P M0 (fun _=>⟨default,.none⟩) 1:=by
 have hi:=Dir.Inv.zero ⟨fun _=>0,fun _ _ _=>[],fun _ _=>.inl Dir.r0⟩
 refine⟨⟨hi.iw,by omega,by show(0:Int)≤Dir.M0.W 33;decide,fun _=>trivial,fun _=>by show(0:Int)≤(default:X).ser;decide⟩,fun lv i _ _=>⟨⟨(fun c hc=>nomatch hc),List.Pairwise.nil⟩,(fun c hc=>nomatch hc)⟩,fun _=>trivial,fun _=>⟨(fun h=>nomatch h),trivial⟩,fun _=>trivial,?_,h⟩
 show Dir.M0.W 32=((allE P M0).length:Int)+sumI 64 fun _=>0
 rw[t9,sumI_zero];rfl
theorem All.start{M:Mc}{S:Nat→Wk}{B:Int}(h:All sm P M S B){i:Nat}(hi:i<64)(hn:(S i).s=.none){x:X}(hx:okNew sm x):All sm P M (upd S i ⟨x,first x⟩) B:=by
 obtain⟨h1,h2,h3⟩:=hx
 have at_:∀{q:Wk→Prop},q ⟨x,first x⟩→(∀j,q (S j))→∀j,q (upd S i ⟨x,first x⟩ j):=fun {q} g1 g2 j=>by
  by_cases e:j=i
  ·rw[e,upd_same];exact g1
  ·rw[upd_ne _ _ e];exact g2 j
 have hcw:Cw x M.W (first x):=by unfold first;(repeat' split)<;>trivial
 have how:owes x (first x)=0:=by unfold first;(repeat' split)<;>simp[owes,h1]
 have hsum:=kV (f:=fun j=>owes (S j).x (S j).s) (g:=fun j=>owes (upd S i ⟨x,first x⟩ j).x (upd S i ⟨x,first x⟩ j).s) (i:=i) (n:=64) hi fun j _ hne=>by
  show owes (upd S i ⟨x,first x⟩ j).x (upd S i ⟨x,first x⟩ j).s=_
  rw[upd_ne _ _ hne]
 have e1:owes (S i).x (S i).s=0:=by rw[hn];rfl
 have e2:owes (upd S i ⟨x,first x⟩ i).x (upd S i ⟨x,first x⟩ i).s=0:=by rw[upd_same];exact how
 replace hsum:sumI 64 (fun j=>owes (upd S i ⟨x,first x⟩ j).x (upd S i ⟨x,first x⟩ j).s)=sumI 64 (fun j=>owes (S j).x (S j).s)+owes (upd S i ⟨x,first x⟩ i).x (upd S i ⟨x,first x⟩ i).s-owes (S i).x (S i).s:=hsum
 rw[e1,e2]at hsum
 refine⟨h.inv.start i hcw (by rw[h2];omega),h.ih,at_ (q:=fun k=>Ch sm P k.x M k.s) ?_ h.ch,at_ (q:=fun k=>Rx k.x k.s) ⟨fun e=>absurd (h1.symm.trans e) (by decide),?_⟩ h.rx,at_ (q:=fun k=>Ru P k.s) ?_ h.ru,?_,h.room⟩
 ·show Ch sm P x M (first x)
  unfold first
  split
  ·trivial
  ·split
   ·trivial
   ·rcases h3 with h3|h3|h3
    ·contradiction
    ·contradiction
    ·exact h3
 ·show Rs' x (first x)
  unfold first;(repeat' split)<;>first|exact h1|trivial
 ·show Ru P (first x)
  unfold first;(repeat' split)<;>trivial
 ·have:=h.cnt
  rw[hsum];omega
theorem All.tick{M:Mc}{S:Nat→Wk}{B:Int}(h:All sm P M S B){t:Int}(ht:M.clk≤t):All sm P ⟨M.W,M.Hd,t⟩ S B :=
 ⟨⟨h.inv.iw,h.inv.b,h.inv.c33,h.inv.cw,h.inv.ser⟩,h.ih,fun i=>(kM.tick M ht).ch (h.inv.cw i) (h.ch i),h.rx,h.ru,h.cnt,h.room⟩
theorem alone_T{M:Mc}{S:Nat→Wk}{B:Int}(h:Inv M S B){i:Nat}(hn:(S i).s≠.none)(hr:(Core.step P M (S i).x (S i).s).r.done=false) :
  (nx P M S i i).s≠.none∧T (nx P M S i i).x (mx P M S i).W (nx P M S i i).s+1≤T (S i).x M.W (S i).s:=by
 have h1:=step_T (P:=P) h.iw (h.ser i) hn (h.cw i) hr
 have h2:=step_some (P:=P) hn hr
 unfold nx;rw[upd_same]
 exact⟨h2,h1⟩
end Core
end
theorem pZ(k:IntKind)(hk:k.bits=64)(x:Int)(n:Nat)(hn:n≤30):bits .and k x (2^n-1)=x%2^n:=by
 have hp:(0:Int)<2^n:=Int.pow_pos (by decide)
 have hle:(2:Nat)^n≤2^30:=Q16 (by decide) hn
 have hpe:((2^n:Nat):Int)=2^n:=by simp
 have e1:(BitVec.ofInt k.bits ((2:Int)^n-1)).toNat=2^n-1:=by
  rw[BitVec.toNat_ofInt,hk]
  have:((2:Int)^n-1)%((2^64:Nat):Int)=2^n-1:=Int.emod_eq_of_lt (by omega) (by omega)
  rw[this];omega
 have e2:((BitVec.ofInt k.bits x&&&BitVec.ofInt k.bits ((2:Int)^n-1)).toNat:Int)=x%2^n:=by
  rw[BitVec.toNat_and,e1,Nat.and_two_pow_sub_one_eq_mod,BitVec.toNat_ofInt,hk]
  have h0:0≤x%((2^64:Nat):Int):=Int.emod_nonneg _ (by decide)
  rw[Int.natCast_emod,Int.toNat_of_nonneg h0,hpe]
  refine Int.emod_emod_of_dvd x ?_
  obtain⟨d,hd⟩:∃d,64=n+d:=⟨64-n,by omega⟩
  rw[hd]
  exact⟨2^d,by rw[← Int.pow_add];norm_cast⟩
 have h1:=Int.emod_nonneg x (by omega:(2^n:Int)≠0)
 have h2:=Int.emod_lt_of_pos x hp
 unfold bits
 simp only
 rw[e2]
 have hw:∀v:Int,0≤v→v<2^30→k.wrap v=v:=by
  intro v h3 h4
  cases k<;>first|(exact IntWalk.i64_in _ (by omega))|(exact IntWalk.u64_in _ (by omega))|(simp[IntKind.bits]at hk)|(unfold IntKind.wrap;simp[IntKind.bits,IntKind.signed];omega)
 exact hw _ h1 (by omega)
theorem uz(s:Int)(n:Nat)(hn:n≤30):IntKind.i64.wrap s%2^n=s%2^n:=by
 have hw:∃q:Int,IntKind.i64.wrap s=s+2^64*q:=by
  have hdef:=Int.emod_def s (2^64)
  show ∃q:Int,(if(IntKind.i64.signed&&decide (s%2^64≥2^63))=true then s%2^64-2^64 else s%2^64)=_
  split
  ·exact⟨-(s/2^64)-1,by rw[hdef,Int.mul_sub,Int.mul_neg];omega⟩
  ·exact⟨-(s/2^64),by rw[hdef,Int.mul_neg];omega⟩
 obtain⟨q,hq⟩:=hw
 rw[hq]
 obtain⟨d,hd⟩:∃d,64=n+d:=⟨64-n,by omega⟩
 rw[hd,Int.pow_add,Int.mul_assoc,Int.add_mul_emod_self_left]
theorem bG(n:Int):Pure TC 48 [.i .i64 n] (.b (decide (0≤n)&&decide (n<64))):=by
 refine Pure.mk' Tryz.func48 rfl rfl zN ?_
 (repeat' (first|((first|refine Wp.any ac rfl ?_|(with_reducible first|refine Go.mk ?_|apply ai.of));conv=>whnf)|((refine aq (fun hc=>?_) (fun hc=>?_))<;>(try simp only[wz9]at hc)<;>(try (exfalso;omega))<;>(conv=>whnf))))
 all_goals exact .b (by simp;omega)
theorem dh(who word words:Int):Pure TC 116 [.i .i64 who,.i .i64 word,.i .i64 words] (.i .i64 (if(0≤who∧who<64)∧0≤word∧word<words then 0 else 1)):=by
 refine Pure.mk' Tryz.func116 rfl rfl zN ?_
 (repeat' (first|((first|refine Wp.any ac rfl ?_|(with_reducible first|refine Go.mk ?_|apply ai.of));conv=>whnf)|((refine aq (fun hc=>?_) (fun hc=>?_))<;>(try simp only[wz9]at hc)<;>(try (exfalso;omega))<;>(conv=>whnf))))
 all_goals first|exact .i (by rw[if_pos (by omega)])|exact .i (by rw[if_neg (by omega)])
theorem r7(lv:Nat)(hl:lv≤4)(s:Int):IntKind.i64.wrap (IntKind.i64.wrap (1*2^min ((lv:Nat):Int).toNat IntKind.i64.bits)+bits .and .i64 (IntKind.i64.wrap s) (IntKind.i64.wrap (IntKind.i64.wrap (1*2^min ((lv:Nat):Int).toNat IntKind.i64.bits)-1)))=Dir.plc lv s:=by
 have e1:IntKind.i64.wrap (1*2^min ((lv:Nat):Int).toNat IntKind.i64.bits)=2^lv∧IntKind.i64.wrap (2^lv-1)=2^lv-1∧(2:Int)^lv≤16∧(0:Int)<2^lv:=by
  have hlv:lv=0∨lv=1∨lv=2∨lv=3∨lv=4:=by omega
  rcases hlv with rfl|rfl|rfl|rfl|rfl<;>decide
 obtain⟨e1,e2,e3,e4⟩:=e1
 rw[e1,e2,pZ .i64 rfl _ lv (by omega),uz s lv (by omega)]
 have h1:=Int.emod_nonneg s (by omega:(2^lv:Int)≠0)
 have h2:=Int.emod_lt_of_pos s e4
 rw[IntWalk.i64_in _ (by omega)]
 unfold Dir.plc
 have:((2^lv:Nat):Int)=2^lv:=by simp
 omega
theorem cj(lv:Nat)(hl:lv≤4)(s:Int):Pure TC 70 [.i .i64 lv,.i .u64 s] (.i .i64 (Dir.plc lv s)):=by
 refine Pure.mk' Tryz.func70 rfl rfl zN ?_
 (repeat' (first|((first|refine Wp.any ac rfl ?_|(with_reducible first|refine Go.mk ?_|apply ai.of|refine And.intro zC ?_|refine Ov.mk ?_));conv=>whnf)))
 exact .i (r7 lv hl s)
def sumF(h:Int):List Int→Int
 | []=>h
 | x::r=>sumF (IntKind.u64.wrap (bits .xor .u64 h (IntKind.u64.wrap x)*1099511628211)) r
def cC(key:List Int):Int:=sumF 14695981039346656037 key
theorem rC(h:Int)(x:Int):∀l:List Int,sumF h (l++[x])=IntKind.u64.wrap (bits .xor .u64 (sumF h l) (IntKind.u64.wrap x)*1099511628211):=by
 intro l
 induction l generalizing h with
 | nil=>rfl
 | cons y r ih=>exact ih _
theorem rB(h:Int){p:List Int}{k:Nat}(hk:k<p.length):sumF h (p.take (k+1))=IntKind.u64.wrap (bits .xor .u64 (sumF h (p.take k)) (IntKind.u64.wrap (p.getD (k:Int).toNat default))*1099511628211):=by
 rw[List.take_succ_eq_append_getElem hk,rC,Q13,Q1,Q0 hk];rfl
theorem n9(h:Int)(p:List Int):Pure TC 125 [.i .u64 h,.d (am 1 (aM .u8) p)] (.i .u64 (sumF h p)):=by
 refine Pure.lens (.mk Tryz.func125 rfl rfl) fun hlen=>?_
 have ha:=hlen p.length (by simp[dB,am])
 clear hlen
 refine Pure.mk' Tryz.func125 rfl rfl zN ?_
 (repeat' (first|((first|refine Wp.any ac rfl ?_|(with_reducible first|refine Go.mk ?_|apply ai.of));conv=>whnf)))
 refine Wp.loopP (ι:=Nat) (fun k=>k≤p.length) (fun k=>⟨⟨Tryz.f125.ntmps,0⟩,0,[(0,.i .u64 (sumF h (p.take k))),(7,.d (am 1 (aM .u8) p)),(8,.i .i64 p.length),(9,.i .i64 k)],[]⟩) (fun k=>p.length-k) 0 (Nat.zero_le _) ?_ ?_
 ·(refine Le.by [] rfl rfl rfl rfl ?_ ?_<;>(conv=>whnf)<;>(repeat' (first|exact trivial|exact ae.rfl rfl|((with_reducible refine And.intro ?_ ?_)<;>(conv=>whnf)))))
 ·rintro k h1
  (repeat' (first|((first|refine Wp.any ac rfl ?_|(with_reducible first|refine Go.mk ?_|apply ai.of|refine Ov.ok zO ?_|refine And.intro zC ?_|refine Ov.mk ?_));conv=>whnf)|((refine aq (fun hc=>?_) (fun hc=>?_))<;>(try simp only[wz9]at hc)<;>(try (exfalso;omega))<;>(conv=>whnf))))
  ·refine⟨k+1,by dsimp only;omega,by dsimp only;omega,?_⟩
   dsimp only
   rw[rB h (by omega)]
   (refine Le.by [] rfl rfl rfl rfl ?_ ?_<;>(conv=>whnf)<;>(repeat' (first|exact trivial|exact ae.rfl rfl|((with_reducible refine And.intro ?_ ?_)<;>(conv=>whnf)))))
  ·obtain rfl:k=p.length:=by omega
   rw[List.take_length];exact .i rfl
theorem pv(p:List Int):Pure TC 97 [.d (am 1 (aM .u8) p)] (.i .u64 (cC p)):=by
 refine Pure.mk' Tryz.func97 rfl rfl zN ?_
 (repeat' (first|((first|refine Wp.any ac rfl ?_|(with_reducible first|refine Go.mk ?_|apply ai.of|refine ab.pure (n9 14695981039346656037 p) rfl rfl ?_));conv=>whnf)))
 exact .i (by unfold cC;rfl)
theorem rP(lv:Nat)(hl:lv≤4)(s:Int):IntKind.i64.wrap (bits .and .u64 s (IntKind.u64.wrap (IntKind.u64.wrap (1*2^min ((lv:Nat):Int).toNat IntKind.u64.bits)-1)))=s%2^lv:=by
 have e1:IntKind.u64.wrap (1*2^min ((lv:Nat):Int).toNat IntKind.u64.bits)=2^lv∧IntKind.u64.wrap (2^lv-1)=2^lv-1∧(2:Int)^lv≤16∧(0:Int)<2^lv:=by
  have hlv:lv=0∨lv=1∨lv=2∨lv=3∨lv=4:=by omega
  rcases hlv with rfl|rfl|rfl|rfl|rfl<;>decide
 obtain⟨e1,e2,e3,e4⟩:=e1
 rw[e1,e2,pZ .u64 rfl _ lv (by omega)]
 have h1:=Int.emod_nonneg s (by omega:(2^lv:Int)≠0)
 have h2:=Int.emod_lt_of_pos s e4
 exact IntWalk.i64_in _ (by omega)
theorem qx(p:List Int)(lv:Nat)(hl:lv≤4):Pure TC 72 [.d (am 1 (aM .u8) p),.i .i64 lv] (.tup [.i .i64 (cC p%2^lv),.i .i64 0]):=by
 refine Pure.mk' Tryz.func72 rfl rfl zN ?_
 (repeat' (first|((first|refine Wp.any ac rfl ?_|(with_reducible first|refine Go.mk ?_|apply ai.of)|refine zV ?_|(with_reducible first|refine And.intro zC ?_|refine ag.pure (pv _) rfl rfl ?_|refine Ov.mk ?_));conv=>whnf)|((refine aq (fun hc=>?_) (fun hc=>?_))<;>(try simp only[wz9]at hc)<;>(try (exfalso;omega))<;>(conv=>whnf))))
 all_goals try (exfalso;omega)
 exact .tup (.cons (.i (rP lv hl _)) (.cons (.rfl _) .nil))
section
def s4(lv sh:Nat)(c:Cel):Bool:=decide (cC (bW c.pol c.key)%2^lv=(sh:Int))
def gL(xs:List Cel)(lv sh:Nat):List Cel:=xs.filter (s4 lv sh)
def aa(ps:List Pol)(room:Int):Core.Ops where
 cut:=gL
 fnd h pol key:=(bo h (newC pol key),cH h (newC pol key),bL h pol key)
 wth:=bM
 allow p c t n:=(eG p c t n,gJ p c t n)
 acq p c n:=(jm p c n,fR p c n)
 rel p c n:=(jo p c n,jp p c n)
 peek:=iH
 idle c t:=aH ps c t
 pol i:=ps.getD i.toNat default
 room:=room
theorem bR(ps:List Pol)(room:Int):Core.OpsOk cC (aa ps room) where
 cut h lv i hs:=by
  refine⟨hs.filter _,fun c=>?_⟩
  show c∈h.filter _↔_
  rw[List.mem_filter]
  refine and_congr_right fun hc=>?_
  unfold s4
  rw[fl (hs.ok c hc)]
  show decide (cC (idn c)%2^lv=(i:Int))=true↔_
  rw[decide_eq_true_iff]
 fnd h pol key hs hi:=by
  have h1:=od hs (t:=newC pol key) hi
  have h2:=m9 hs hi
  exact⟨h1,h2⟩
 wth h pol key c hs hi e:=by
  have e':idn c=idn (newC pol key):=e
  have hc:fQ c.pol c.key:=by
   have h1:c.pol=pol∧c.key=key:=by simpa[idn]using e
   rw[h1.1,h1.2];exact hi
  have h1:=gM hs hc e'
  refine⟨h1.1,fun i=>?_⟩
  have h2:=mp hs hc e' i
  rw[e]at h2
  exact h2
 allow p c t n:=rfl
 acq p c n:=by show idn (fR p c n)=_;unfold fR;split<;>rfl
 rel p c n:=by show idn (jp p c n)=_;unfold jp;split<;>rfl
 rel0 p c n h:=by
  replace h:(jo p c n).e=0:=h
  unfold jo at h
  intro e
  by_cases h0:cX p.permits c.held n=0
  ·have:=lM (oe.1 h0).2
   rw[e]at this;simp at this
  ·rw[if_neg h0]at h;exact h0 h
theorem qa{xs:List Cel}{p:Nat}{t:Bool}{c:Cel}(h:p≤xs.length):(bM xs p t c).length≤xs.length+1:=by
 unfold bM;split
 ·simp
 ·rw[aY _ _ _ h];omega
structure eH(ps:List Pol)(c:Cel):Prop where
 byt:IsB c.key
 key:c.key.length≤255
 held:c.held.length≤64
 pol:0≤c.pol∧c.pol<ps.length
structure Hc(ps:List Pol)(n:Nat)(h:List Cel):Prop where
 len:h.length≤n
 cel:∀c∈h,eH ps c
variable{ps:List Pol}{room:Int}
theorem Hc.mono{n m:Nat}{h:List Cel}(x:Hc ps n h)(e:n≤m):Hc ps m h:=⟨Nat.le_trans x.len e,x.cel⟩
theorem Hc.nil{n:Nat}:Hc ps n []:=⟨Nat.zero_le _,by simp⟩
theorem Hc.filter{n:Nat}{h:List Cel}(x:Hc ps n h)(q:Cel→Bool):Hc ps n (h.filter q):=⟨Nat.le_trans (List.length_filter_le _ _) x.len,fun c hc=>x.cel c (List.mem_filter.1 hc).1⟩
theorem Hc.get{n:Nat}{h:List Cel}(x:Hc ps n h){k:Nat}(hk:k<h.length):eH ps (h.getD k default):=x.cel _ (dp hk)
theorem Hc.byt{n:Nat}{h:List Cel}(x:Hc ps n h)(k:Nat):IsB (h.getD k default).key:=by
 by_cases hk:k<h.length
 ·exact(x.get hk).byt
 ·rw[Q1,List.getElem?_eq_none (by omega)];intro y hy;exact absurd hy (by simp[default,instInhabitedCel.default])
theorem Hc.find{n:Nat}{h:List Cel}(x:Hc ps n h){pol:Int}{key:List Int}(hk:eH ps (newC pol key)):eH ps (bL h pol key):=by
 unfold bL
 split
 ·rename_i e
  refine x.get ?_
  have:=(cW _ _).1 e
  exact this.1
 ·exact hk
theorem Hc.wth{n:Nat}{h:List Cel}(x:Hc ps n h){a:Nat}(ha:a≤h.length){b:Bool}{c:Cel}(hc:eH ps c):Hc ps (n+1) (bM h a b c):=by
 refine⟨Nat.le_trans (qa ha) (by have:=x.len;omega),fun d hd=>?_⟩
 unfold bM at hd
 split at hd
 ·rcases List.mem_or_eq_of_mem_set hd with hd|rfl
  ·exact x.cel d hd
  ·exact hc
 ·unfold bP at hd
  rcases List.mem_append.1 hd with hd|hd
  ·rcases List.mem_append.1 hd with hd|hd
   ·exact x.cel d (List.mem_of_mem_take hd)
   ·rw[List.mem_singleton]at hd;subst hd;exact hc
  ·exact x.cel d (List.mem_of_mem_drop hd)
theorem eH.allow{c:Cel}(h:eH ps c)(p:Pol)(t n:Int):eH ps (gJ p c t n):=⟨h.byt,h.key,h.held,h.pol⟩
theorem eH.acq{c:Cel}(h:eH ps c)(p:Pol)(n:Int):eH ps (fR p c n):=by
 unfold fR
 split
 ·rename_i h0
  have:=gP h0
  exact⟨h.byt,h.key,by show(eK p.permits c.held n).length≤64;omega,h.pol⟩
 ·exact h
theorem eH.rel{c:Cel}(h:eH ps c)(p:Pol)(n:Int):eH ps (jp p c n):=by
 unfold jp
 split
 ·rename_i h0
  have:=ia h0
  exact⟨h.byt,h.key,by show(iY p.permits c.held n).length≤64;omega,h.pol⟩
 ·exact h
namespace Core
def Kx(ps:List Pol)(x:X):Prop:=eH ps (newC x.pol x.key)
structure Fdk(ps:List Pol)(n:Nat)(x:X)(f:Fd):Prop where
 k:Kx ps x
 h:Hc ps n f.h
 a:f.at'≤f.h.length
 c:eH ps f.cell
 t:f.there=true→f.at'<f.h.length
def fcK(ps:List Pol)(x:X):Fc→Prop
 | .key=>Kx ps x
 | .ev _ _ _=>True
def okH(ps:List Pol)(n:Nat)(x:X):CS→Prop
 | .none=>True
 | .k0 f=>fcK ps x f
 | .kE f _=>fcK ps x f
 | .kF f _ _=>fcK ps x f
 | .kG f _ _ v h=>fcK ps x f∧Hc ps n h∧0≤v
 | .kH f _ _ h=>fcK ps x f∧Hc ps n h
 | .kL f _ _ h=>fcK ps x f∧Hc ps n h
 | .al f=>Fdk ps n x f
 | .pk c=>Kx ps x∧eH ps c
 | .a0 f=>Fdk ps n x f
 | .a1 f _=>Fdk ps n x f
 | .p0 f c _=>Fdk ps n x f∧eH ps c
 | .p1 f c _ _=>Fdk ps n x f∧eH ps c
 | .pS f c _=>Fdk ps n x f∧eH ps c
 | .eC _ _ _ _ _ h=>Hc ps n h
 | .eS _ _ _ _ _ m _=>Hc ps n m
 | .sG _ _ v h=>Hc ps n h∧0≤v
 | .sH _ _ _ h=>Hc ps n h
 | .sL _ _ _ h=>Hc ps n h
 | _=>True
theorem Fdk.mono{n m:Nat}(e:n≤m){x:X}{f:Fd}(h:Fdk ps n x f):Fdk ps m x f:=⟨h.k,h.h.mono e,h.a,h.c,h.t⟩
theorem Fdk.ser{n:Nat}{x:X}{f:Fd}(h:Fdk ps n x f)(k:Int):Fdk ps n { x with ser:=k } f:=⟨h.k,h.h,h.a,h.c,h.t⟩
theorem Fdk.res{n:Nat}{x:X}{f:Fd}(h:Fdk ps n x f)(b:Bool):Fdk ps n { x with res:=b } f:=⟨h.k,h.h,h.a,h.c,h.t⟩
theorem okH.mono{n m:Nat}(e:n≤m){x:X}{s:CS}(h:okH ps n x s):okH ps m x s:=by
 cases s<;>first|trivial|exact h|exact Fdk.mono e h|exact Hc.mono h e|exact⟨h.1,h.2.1.mono e,h.2.2⟩|exact⟨Fdk.mono e h.1,h.2⟩|exact⟨Hc.mono h.1 e,h.2⟩|exact⟨h.1,h.2.mono e⟩
theorem lD{n:Nat}(x:X)(r:Rpl):okH ps n x (leave x r).1:=by unfold leave;split<;>trivial
theorem fp{n:Nat}(x:X)(j sh:Nat)(g:Int):okH ps n x (further j sh g).1:=by unfold further;split<;>trivial
theorem after_H{n:Nat}(x:X)(k:Int)(b:Bk):okH ps n x (after k b).1:=by
 cases b with
 | lv r=>trivial
 | ev j sh g=>exact fp x j sh _
theorem xX{n:Nat}{x:X}{f:Fd}{c:Cel}{r:Rpl}(h:Fdk ps n x f)(hc:eH ps c)(y:X):okH ps n x (put y f c r):=by unfold put;split<;>exact⟨h,hc⟩
theorem fdOf_H{n:Nat}{x:X}(hk:Kx ps x)(w:Nat)(v:Int){h:List Cel}(hh:Hc ps n h):Fdk ps n x (fdOf (aa ps room) x w v h) :=
 ⟨hk,hh,nU _ _,hh.find hk,fun e=>((cW _ _).1 e).1⟩
theorem yx{n:Nat}{x:X}{f:Fd}(h:Fdk ps n x f):okH ps n x (foundK (aa ps room) x f).1:=by
 unfold foundK
 split
 ·exact h
 split
 ·split
  ·exact lD _ _
  ·split
   ·exact xX h (h.c.acq _ _) _
   ·exact h
 split
 ·split
  ·exact xX h (h.c.rel _ _) _
  ·trivial
 split
 ·trivial
 ·exact⟨h.k,h.c⟩
theorem ng{n:Nat}{x:X}{f:Fc}(hf:fcK ps x f)(w:Nat)(v:Int){h:List Cel}(hh:Hc ps n h):okH ps n x (entered (aa ps room) x f w v h).1:=by
 unfold entered
 split
 ·exact hf
 ·unfold found
  split
  ·exact yx (fdOf_H hf w v hh)
  ·split
   ·exact fp _ _ _ _
   ·exact hh
theorem on_H{n lv i:Nat}{up:Bool}{x:X}{h:List Cel}(hh:Hc ps n h):okH ps n x (on lv i up h):=by
 unfold on move
 split
 ·split<;>trivial
 ·exact hh
theorem upd_H{n:Nat}{f:Nat→List Cel}(hf:∀w,Hc ps n (f w)){w:Nat}{h:List Cel}(hh:Hc ps n h):∀j,Hc ps n (Dir.upd f w h j):=fun j=>by
 unfold Dir.upd;split
 ·exact hh
 ·exact hf j
open Dir (Iw plc plc_sh) in
theorem step_H{n:Nat}{M:Mc}{B:Int}(hI:Iw M.W B)(hM:∀w,Hc ps n (M.Hd w)){x:X}{s:CS}(hs:Cw x M.W s)(h:okH ps n x s) :
    (∀w,Hc ps (n+1) ((step (aa ps room) M x s).M.Hd w))∧okH ps (n+1) (step (aa ps room) M x s).x (step (aa ps room) M x s).s:=by
  have hM':∀w,Hc ps (n+1) (M.Hd w):=fun w=>(hM w).mono (by omega)
  have h':okH ps (n+1) x s:=h.mono (Nat.le_succ n)
  have hw:∀lv,lv≤4→∀q:Int,0≤M.W (plc lv q):=fun lv hl q=>by
    obtain⟨i,h1,h2⟩:=plc_sh lv q
    rw[h2];exact(hI.w lv i hl h1).1
  cases s with
  | none=>exact⟨hM',trivial⟩
  | k0 f=>exact⟨hM',by simp only[step];split<;>exact h⟩
  | kE f w=>exact⟨hM',ng h _ _ (hM' w)⟩
  | kF f lv w =>
    refine⟨hM',?_⟩
    have:=hw lv (by have:=hs.2.1;omega) (sumF x f)
    rw[← hs.2.2.1]at this
    simp only[step];split
    ·exact⟨h,hM' w⟩
    ·exact⟨h,hM' w,this⟩
  | kG f lv w v l =>
    simp only[step];split
    ·exact⟨upd_H hM' h'.2.1,h.1,h'.2.1⟩
    ·exact⟨hM',h.1⟩
  | kH f lv w l =>
    simp only[step];split
    ·exact⟨hM',h'⟩
    ·exact⟨hM',ng h.1 _ _ (hM' w)⟩
  | kL f lv w l =>
    refine⟨?_,h.1⟩
    simp only[step];split
    ·exact upd_H hM' (h'.2.filter _)
    ·exact hM'
  | al f =>
    simp only[step];split
    ·exact⟨hM',lD _ _⟩
    ·exact⟨hM',xX h' (eH.allow h'.c _ _ _) _⟩
  | pk c=>exact⟨hM',trivial⟩
  | a0 f =>
    simp only[step];split
    ·exact⟨hM',lD _ _⟩
    ·exact⟨hM',h'⟩
  | a1 f u =>
    simp only[step];split
    ·exact⟨upd_H hM' .nil,xX (Fdk.ser h' _) (eH.acq h'.c _ _) _⟩
    ·exact⟨hM',h'⟩
  | p0 f c r =>
    simp only[step];split
    ·exact⟨hM',trivial⟩
    ·exact⟨hM',h'⟩
  | p1 f c r u =>
    simp only[step];split
    ·exact⟨upd_H hM' .nil,Fdk.res h'.1 _,h'.2⟩
    ·exact⟨hM',h'⟩
  | pS f c r =>
    simp only[step];split
    · refine⟨upd_H hM' (h.1.h.wth h.1.a h.2),?_⟩
      show okH ps (n+1) x (if f.there=true then leave x r else(.none,⟨true,r⟩)).1
      split
      ·exact lD _ _
      ·trivial
    ·exact⟨hM',h'.1.k⟩
  | b0 k b=>exact⟨hM',trivial⟩
  | b1 k b u =>
    simp only[step];split
    ·exact⟨upd_H hM' .nil,after_H _ _ _⟩
    ·exact⟨hM',trivial⟩
  | e0=>exact⟨hM',trivial⟩
  | eC j sh g w v l =>
    simp only[step];split
    ·exact⟨hM',fp _ _ _ _⟩
    ·exact⟨hM',Hc.filter h' _⟩
  | eS j sh g w v m k =>
    simp only[step];split
    ·exact⟨upd_H hM' h',trivial⟩
    ·exact⟨hM',fp _ _ _ _⟩
  | s0 => simp only[step];split
          ·exact⟨hM',trivial⟩
          ·split<;>exact⟨hM',trivial⟩
  | sM lv => simp only[step];split
             ·exact⟨upd_H hM' .nil,trivial⟩
             ·exact⟨hM',trivial⟩
  | sF lv i =>
    refine⟨hM',?_⟩
    have hw:0≤M.W (2^lv+i):=(hI.w lv i (by have:=hs.1;omega) hs.2.1).1
    simp only[step];split
    ·exact hM' _
    ·exact⟨hM' _,hw⟩
  | sG lv i v l =>
    simp only[step];split
    ·exact⟨upd_H hM' h'.1,h'.1⟩
    ·exact⟨hM',trivial⟩
  | sH lv i up l =>
    simp only[step];split
    ·exact⟨hM',h'⟩
    ·exact⟨hM',on_H h'⟩
  | sL lv i up l =>
    refine⟨?_,on_H h'⟩
    simp only[step];split
    ·exact upd_H hM' (Hc.filter h' _)
    ·exact hM'
  | sV lv =>
    refine⟨?_,trivial⟩
    simp only[step];split
    ·exact upd_H hM' .nil
    ·exact hM'
end Core
end
theorem SV.Lt.mono{m n:Nat}(hmn:m≤n){x:SV}(h:SV.Lt m x):SV.Lt n x:=by
 induction h with
 | any=>exact .any
 | d x=>exact .d x
 | ptr l o h=>exact .ptr l o (by omega)
 | rp l e i o h=>exact .rp l e i o (by omega)
 | sl l e i o h=>exact .sl l e i o (by omega)
 | agg vs _ ih=>exact .agg vs ih
 | tup vs _ ih=>exact .tup vs ih
 | fn f vs _ ih=>exact .fn f vs ih
 | iref vs o _ ih=>exact .iref vs o ih
mutual
def lu(l:Nat):SV→Bool
 | .ptr m _=>Nat.beq m l
 | .rp m _ _ _=>Nat.beq m l
 | .sl m _ _ _=>Nat.beq m l
 | .d _=>false
 | .any=>false
 | .agg vs=>ls l vs
 | .tup vs=>ls l vs
 | .fn _ _=>false
 | .iref vs _=>ls l vs
def ls(l:Nat):List SV→Bool
 | []=>false
 | x::r=>lu l x||ls l r
end
mutual
def qD(n:Nat):SV→Prop
 | .fn f vs=>SV.Lt n (.fn f vs)
 | .agg vs=>oo n vs
 | .tup vs=>oo n vs
 | .iref vs _=>oo n vs
 | _=>True
def oo(n:Nat):List SV→Prop
 | []=>True
 | x::r=>qD n x∧oo n r
end
mutual
theorem sA{n l:Nat}(hl:n≤l):∀{x:SV},SV.Lt n x→bJ l x=false
 | .any,_=>by unfold bJ;rfl
 | .d _,_=>by unfold bJ;rfl
 | .ptr _ _,h=>by cases h with|ptr _ _ h=>unfold bJ;cases e:Nat.beq _ l with|false=>rfl|true=>have:=Q2 e;omega
 | .rp _ _ _ _,h=>by cases h with|rp _ _ _ _ h=>unfold bJ;cases e:Nat.beq _ l with|false=>rfl|true=>have:=Q2 e;omega
 | .sl _ _ _ _,h=>by cases h with|sl _ _ _ _ h=>unfold bJ;cases e:Nat.beq _ l with|false=>rfl|true=>have:=Q2 e;omega
 | .agg vs,h=>by cases h with|agg _ h=>unfold bJ;exact fg hl h
 | .tup vs,h=>by cases h with|tup _ h=>unfold bJ;exact fg hl h
 | .fn _ vs,h=>by cases h with|fn _ _ h=>unfold bJ;exact fg hl h
 | .iref vs _,h=>by cases h with|iref _ _ h=>unfold bJ;exact fg hl h
theorem fg{n l:Nat}(hl:n≤l):∀{xs:List SV},(∀x∈xs,SV.Lt n x)→bV l xs=false
 | [],_=>by unfold bV;rfl
 | x::r,h=>by
  have h1:bJ l x=false:=sA hl (h x (by simp))
  have h2:bV l r=false:=fg hl (fun y hy=>h y (by simp[hy]))
  unfold bV;rw[h1,h2];rfl
end
mutual
theorem lr{n l:Nat}(hl:n≤l):∀{x:SV},qD n x→lu l x=false→bJ l x=false
 | .any,_,h=>by unfold bJ;rfl
 | .d _,_,h=>by unfold bJ;rfl
 | .ptr _ _,_,h=>by unfold lu at h;unfold bJ;exact h
 | .rp _ _ _ _,_,h=>by unfold lu at h;unfold bJ;exact h
 | .sl _ _ _ _,_,h=>by unfold lu at h;unfold bJ;exact h
 | .agg vs,hf,h=>by unfold lu at h;unfold qD at hf;unfold bJ;exact ff hl hf h
 | .tup vs,hf,h=>by unfold lu at h;unfold qD at hf;unfold bJ;exact ff hl hf h
 | .fn _ vs,hf,h=>by unfold qD at hf;exact sA hl hf
 | .iref vs _,hf,h=>by unfold lu at h;unfold qD at hf;unfold bJ;exact ff hl hf h
theorem ff{n l:Nat}(hl:n≤l):∀{xs:List SV},oo n xs→ls l xs=false→bV l xs=false
 | [],_,_=>by unfold bV;rfl
 | x::r,hf,h=>by
  unfold oo at hf;unfold ls at h
  rw[Bool.or_eq_false_iff]at h
  have h1:bJ l x=false:=lr hl hf.1 h.1
  have h2:bV l r=false:=ff hl hf.2 h.2
  unfold bV;rw[h1,h2];rfl
end
def fnOKB(n:Nat):Option Blk→Prop
 | some (.cells cs)=>oo n cs
 | _=>True
def nX(l:Nat):Option Blk→Bool
 | some (.cells cs)=>ls l cs
 | some (.cf m _ _)=>Nat.blt l m
 | some (.obj _ m _ _ _)=>Nat.blt l m
 | _=>false
theorem iL(l:Nat):∀(cs:List SV),cs.any (mem1 l)=bV l cs
 | []=>by unfold bV;rfl
 | x::r=>by unfold bV;rw[List.any_cons,iL l r]
theorem ye{n l:Nat}(hl:n≤l){b:Option Blk}(hf:fnOKB n b)(h:nX l b=false):nY l b=false:=by
 cases b with
 | none=>rfl
 | some b =>
  cases b with
  | cells cs=>show cs.any (mem1 l)=false;rw[iL];exact ff hl hf h
  | row _ _ _ _=>rfl
  | cf m _ _=>exact h
  | obj _ m _ _ _=>exact h
def l6(pre:List Nat)(ops:List Oper)(n0 i j:Nat)(labs:List Nat)(p q:Pt):Bool :=
 (match p.1.dst,q.1.dst with|some a,some b=>!Nat.beq a b|_,_=>true) &&
 (p.2.ed.all (fun x=>q.2.ed.all fun y=>!Nat.beq x.1 y.1)||j8 pre i j) &&
 ((match q.1.dst with|some d=>(n4 ops p.1).all fun t=>!Nat.beq d t|none=>true)||j8 pre i j) &&
 ((labs.all (fun l=>q.2.ed.all fun y=>!Nat.beq y.1 l)&&p.2.rd.all (fun l=>q.2.ed.all fun y=>!Nat.beq y.1 l))||j8 pre i j) &&
 (!cP p.1.op||(!lu (n0+i) q.2.val&&q.2.ed.all (fun y=>!Nat.beq y.1 (n0+i)&&!nX (n0+i) y.2))||(Nat.blt i j&&j8 pre i j))
def l4(pre:List Nat)(ops:List Oper)(n0 i:Nat)(labs:List Nat)(p:Pt):List Pt→Nat→Bool
 | [],_=>true
 | q::r,j=>(Nat.beq i j||l6 pre ops n0 i j labs p q)&&l4 pre ops n0 i labs p r (j+1)
def l9(pre:List Nat)(ops:List Oper)(n0:Nat)(all:List Pt)(S0:St):List Pt→Nat→St→Bool
 | [],_,_=>true
 | p::r,i,S=>l4 pre ops n0 i (gC S p.1.op) p all 0&&(!cP p.1.op||(S0.fr.all (fun x=>!lu (n0+i) x.2)&&S0.hp.all (fun x=>!Nat.beq x.1 (n0+i)&&!nX (n0+i) x.2))) &&
   (p.1.after.toList.all fun e=>!Region.binds .any e||Nat.blt e.on i)&&(match p.1.dst with|some n=>Nat.blt n S0.nt.n|none=>true)&&l9 pre ops n0 all S0 r (i+1) (S.step p.1.dst p.2)
def jE(ops:List Oper)(efs:List Ef)(n0:Nat)(S0:St):Bool:=l9 (eA ops []) ops n0 (ops.zip efs) S0 (ops.zip efs) 0 S0
def gj(n:Nat):List (Nat×Option Blk)→Prop
 | []=>True
 | x::r=>fnOKB n x.2∧gj n r
def ot(n:Nat):List (Nat×SV)→Prop
 | []=>True
 | x::r=>qD n x.2∧ot n r
def yz(n:Nat):List Ef→Prop
 | []=>True
 | x::r=>qD n x.val∧gj n x.ed∧yz n r
theorem py{n:Nat}:∀{l:List (Nat×Option Blk)},gj n l→∀x∈l,fnOKB n x.2
 | [],_,x,hx=>by simp at hx
 | y::r,h,x,hx=>by
  unfold gj at h
  rcases Q22 hx with rfl|hx
  ·exact h.1
  ·exact py h.2 x hx
theorem lR{n:Nat}:∀{l:List (Nat×SV)},ot n l→∀x∈l,qD n x.2
 | [],_,x,hx=>by simp at hx
 | y::r,h,x,hx=>by
  unfold ot at h
  rcases Q22 hx with rfl|hx
  ·exact h.1
  ·exact lR h.2 x hx
theorem pA{n:Nat}:∀{l:List Ef},yz n l→∀x∈l,qD n x.val∧gj n x.ed
 | [],_,x,hx=>by simp at hx
 | y::r,h,x,hx=>by
  unfold yz at h
  rcases Q22 hx with rfl|hx
  ·exact⟨h.1,h.2.1⟩
  ·exact pA h.2.2 x hx
theorem tz{n l:Nat}(hl:n≤l){ed:List (Nat×Option Blk)}(hf:gj n ed)(h:ed.all (fun y=>!Nat.beq y.1 l&&!nX l y.2)=true):ed.all (fun y=>!Nat.beq y.1 l&&!nY l y.2)=true:=by
 rw[Q23]at h⊢
 intro y hy
 have:=h y hy
 rw[Q5]at this⊢
 refine⟨this.1,?_⟩
 have h2:=this.2
 rw[Bool.not_eq_true']at h2⊢
 exact ye hl (py hf y hy) h2
theorem oA{pre:List Nat}{ops:List Oper}{n0 i j:Nat}{labs:List Nat}{p q:Pt}(hv:qD n0 q.2.val)(he:gj n0 q.2.ed)(h:l6 pre ops n0 i j labs p q=true):bS pre ops n0 i j labs p q=true:=by
 unfold l6 at h;unfold bS
 rw[Q5]at h⊢
 refine⟨h.1,?_⟩
 have h:=h.2
 rw[Q20,Q20,Q5]at h⊢
 rcases h with(h|h)|h
 ·exact .inl (.inl h)
 ·refine .inl (.inr ⟨?_,tz (by omega) he h.2⟩)
  have h1:=h.1
  rw[Bool.not_eq_true']at h1⊢
  exact lr (by omega) hv h1
 ·exact .inr h
theorem kz{pre:List Nat}{ops:List Oper}{n0 i:Nat}{labs:List Nat}{p:Pt}:∀(l:List Pt) (k:Nat),(∀q∈l,qD n0 q.2.val∧gj n0 q.2.ed)→l4 pre ops n0 i labs p l k=true→eB pre ops n0 i labs p l k=true
 | [],_,_,_=>by unfold eB;rfl
 | q::r,k,hf,h=>by
  unfold l4 at h;unfold eB
  rw[Q5,Q20]at h⊢
  refine⟨?_,kz r (k+1) (fun q hq=>hf q (List.mem_cons_of_mem _ hq)) h.2⟩
  rcases h.1 with h1|h1
  ·exact .inl h1
  ·exact .inr (oA (hf q (List.mem_cons_self ..)).1 (hf q (List.mem_cons_self ..)).2 h1)
theorem kB{pre:List Nat}{ops:List Oper}{n0:Nat}{all:List Pt}{S0:St}(ha:∀q∈all,qD n0 q.2.val∧gj n0 q.2.ed)(hF:ot n0 S0.fr)(hH:gj n0 S0.hp) :
  ∀(l:List Pt) (i:Nat) (S:St),l9 pre ops n0 all S0 l i S=true→eD pre ops n0 all S0 l i S=true
 | [],_,_,_=>by unfold eD;rfl
 | p::r,i,S,h=>by
  unfold l9 at h;unfold eD
  rw[Q5,Q5,Q5,Q5]at h⊢
  obtain⟨⟨⟨⟨h1,h2⟩,h3⟩,h4⟩,h5⟩:=h
  refine⟨⟨⟨⟨kz all 0 ha h1,?_⟩,h3⟩,h4⟩,kB ha hF hH r (i+1) _ h5⟩
  rw[Q20,Q5]at h2⊢
  rcases h2 with h2|h2
  ·exact .inl h2
  ·refine .inr ⟨?_,tz (by omega) hH h2.2⟩
   have h6:=h2.1
   rw[Q23]at h6⊢
   intro x hx
   have h7:=h6 x hx
   rw[Bool.not_eq_true']at h7⊢
   exact lr (by omega) (lR hF x hx) h7
theorem cg{ops:List Oper}{efs:List Ef}{n0:Nat}{S0:St}(h:jE ops efs n0 S0=true)(hE:yz n0 efs)(hF:ot n0 S0.fr)(hH:gj n0 S0.hp):dU ops efs n0 S0=true:=by
 refine kB (fun q hq=>?_) hF hH _ 0 S0 h
 exact pA hE q.2 (List.of_mem_zip hq).2
mutual
theorem SV.ren_same{π:Nat→Nat}{m:Nat}(hπ:∀l,l<m→π l=l):∀{x:SV},SV.Lt m x→SV.ren π x=x
 | .any,_=>by unfold SV.ren;rfl
 | .d _,_=>by unfold SV.ren;rfl
 | .ptr _ _,h=>by cases h with|ptr _ _ h=>unfold SV.ren;rw[hπ _ h]
 | .rp _ _ _ _,h=>by cases h with|rp _ _ _ _ h=>unfold SV.ren;rw[hπ _ h]
 | .sl _ _ _ _,h=>by cases h with|sl _ _ _ _ h=>unfold SV.ren;rw[hπ _ h]
 | .agg vs,h=>by cases h with|agg _ h=>unfold SV.ren;rw[SV.renL_same hπ h]
 | .tup vs,h=>by cases h with|tup _ h=>unfold SV.ren;rw[SV.renL_same hπ h]
 | .fn _ vs,h=>by cases h with|fn _ _ h=>unfold SV.ren;rw[SV.renL_same hπ h]
 | .iref vs _,h=>by cases h with|iref _ _ h=>unfold SV.ren;rw[SV.renL_same hπ h]
theorem SV.renL_same{π:Nat→Nat}{m:Nat}(hπ:∀l,l<m→π l=l):∀{xs:List SV},(∀x∈xs,SV.Lt m x)→SV.renL π xs=xs
 | [],_=>rfl
 | x::r,h=>by
  have h1:SV.ren π x=x:=SV.ren_same hπ (h x (by simp))
  have h2:SV.renL π r=r:=SV.renL_same hπ (fun y hy=>h y (by simp[hy]))
  unfold SV.renL;rw[h1,h2]
end
theorem RS.unrenX{E:Env}{nx:Nat}{w:World}{π1 π2:Nat→Nat}{L:List Nat}{m:Nat}(H:∀l,l<m→π2 l<L.length∧L.getD (π2 l) 0=π1 l) :
  ∀{x:SV},SV.Lt m x→∀{v:Value},RS E nx w (SV.ren π1 x) v→RS ⟨fun i=>E.ρ (L.getD i 0),fun i=>E.κ (L.getD i 0),E.Im⟩ L.length w (SV.ren π2 x) v:=by
 intro x hx
 induction hx with
 | any=>intro v _;exact .any v
 | d x=>intro v h;cases h with|d _ _ h=>exact .d _ _ h
 | ptr l off hl =>
  intro v h
  cases h with
  | ptr _ _ h =>
   obtain⟨h1,h2⟩:=H l hl
   have:=RS.ptr (E:=⟨fun i=>E.ρ (L.getD i 0),fun i=>E.κ (L.getD i 0),E.Im⟩) (w:=w) (π2 l) off h1
   simp only[h2]at this;exact this
 | rp l esz i off hl =>
  intro v h
  cases h with
  | rp _ _ _ _ h =>
   obtain⟨h1,h2⟩:=H l hl
   have:=RS.rp (E:=⟨fun i=>E.ρ (L.getD i 0),fun i=>E.κ (L.getD i 0),E.Im⟩) (w:=w) (π2 l) esz i off h1
   simp only[h2]at this;exact this
 | sl l esz off len hl =>
  intro v h
  cases h with
  | sl _ _ _ _ a cap h hc hm ha h0 =>
   obtain⟨h1,h2⟩:=H l hl
   exact .sl _ _ _ _ a cap h1 hc hm (by simp only[h2];exact ha) (by simp only[h2];exact h0)
 | agg vs hv ih =>
  intro v h
  simp only[SV.ren,SV.renL_map]at h⊢
  cases h with
  | agg _ us hs h1 hh =>
   refine .agg _ _ (by simpa using hs) h1 fun j hj=>?_
   have hj':j<vs.length:=by simpa using hj
   rw[List.getElem_map]
   refine ih _ (Q14 hj') ?_
   have:=hh j (by simpa using hj')
   rwa [List.getElem_map]at this
 | tup vs hv ih =>
  intro v h
  simp only[SV.ren,SV.renL_map]at h⊢
  cases h with
  | tup _ us hs hh =>
   refine .tup _ _ (by simpa using hs) fun j hj=>?_
   have hj':j<vs.length:=by simpa using hj
   rw[List.getElem_map]
   refine ih _ (Q14 hj') ?_
   have:=hh j (by simpa using hj')
   rwa [List.getElem_map]at this
 | fn f vs hv ih =>
  intro v h
  simp only[SV.ren,SV.renL_map]at h⊢
  cases h with
  | fn _ _ us hs hh =>
   refine .fn _ _ _ (by simpa using hs) fun j hj=>?_
   have hj':j<vs.length:=by simpa using hj
   rw[List.getElem_map]
   refine ih _ (Q14 hj') ?_
   have:=hh j (by simpa using hj')
   rwa [List.getElem_map]at this
 | iref vs off hv ih =>
  intro v h
  simp only[SV.ren,SV.renL_map]at h⊢
  cases h with
  | iref _ _ b o g hb hcell h1 hh =>
   refine .iref _ _ b o g hb (by simpa using hcell) (by simpa using h1) fun j hj=>?_
   have hj':j<vs.length:=by simpa using hj
   rw[List.getElem_map]
   refine ih _ (Q14 hj') ?_
   have:=hh j (by simpa using hj')
   rwa [List.getElem_map]at this
theorem ae.renX{π1 π2:Nat→Nat}{L:List Nat}{m:Nat}{x:SV}(hx:SV.Lt m x)(H:∀l,l<m→π2 l<L.length∧L.getD (π2 l) 0=π1 l):ae L (SV.ren π1 x) (SV.ren π2 x):=⟨fun _ _ _ _ h=>h.unrenX H hx⟩
theorem aj.renX{S:St}{π1 π2:Nat→Nat}{L:List Nat}{m:Nat}{x:SV}(hx:SV.Lt m x)(H:∀l,l<m→π2 l<L.length∧L.getD (π2 l) 0=π1 l):aj S L (SV.ren π1 x) (SV.ren π2 x) :=
 ⟨fun O E a w v hs hv=>RS.mono (E:=⟨fun i=>E.ρ (L.getD i 0),fun i=>E.κ (L.getD i 0),E.Im⟩) (E':=E.end S L) (w:=w) (fun _ _=>⟨rfl,rfl⟩) (Q4 _) (fun b hb=>Or.inl hb) (fun _ _=>rfl) (hv.unrenX H hx)⟩
def qw(S:St)(L V:List Nat):List (Nat×Option Blk)→Prop
 | []=>True
 | (_,none)::r=>qw S L V r
 | (i,some b)::r=>bif Nat.blt i L.length then(bif V.any (Nat.beq i)then(match b with|.cf m n _=>m≤L.length∧n=0|_=>False)else blkS S L (lkh S.hp (L.getD i 0)) b)∧qw S L V r else False
def fb(L V:List Nat):List (Nat×Option Blk)→List Nat
 | []=>[]
 | (_,none)::r=>fb L V r
 | (i,some _)::r=>bif V.any (Nat.beq i)then fb L V r else L.getD i 0::fb L V r
theorem iX{S:St}{L V:List Nat}:∀{H:List (Nat×Option Blk)},qw S L V H→∀i b,lkh H i=some b→i<L.length∧((V.any (Nat.beq i)=true∧∃m g,b=.cf m 0 g∧m≤L.length)∨(V.any (Nat.beq i)=false∧blkS S L (lkh S.hp (L.getD i 0)) b))
 | [],_,i,b,h=>by simp[lkh]at h
 | (j,none)::r,hk,i,b,h=>iX (H:=r) hk i b (aG h).2
 | (j,some b')::r,hk,i,b,h=>by
  unfold qw at hk
  cases hb:Nat.blt j L.length with
  | false=>simp[hb]at hk
  | true =>
   simp only[hb,cond_true]at hk
   rw[ah]at h
   by_cases e:j=i
   ·subst e;rw[if_pos rfl]at h;cases h
    refine⟨by simpa using hb,?_⟩
    cases hv:V.any (Nat.beq j)with
    | true =>
     left
     rw[hv,cond_true]at hk
     refine⟨rfl,?_⟩
     have h1:=hk.1
     split at h1
     ·obtain⟨h2,rfl⟩:=h1;exact⟨_,_,rfl,h2⟩
     ·exact h1.elim
    | false =>
     right
     rw[hv,cond_false]at hk
     exact⟨rfl,hk.1⟩
   ·rw[if_neg e]at h;exact iX hk.2 i b h
theorem n6:∀{H:List (Nat×Option Blk)} {i:Nat} {b:Blk},lkh H i=some b→(i,some b)∈H
 | [],i,b,h=>by simp[lkh]at h
 | (j,o)::r,i,b,h=>by
  rw[ah]at h
  by_cases e:j=i
  ·subst e;rw[if_pos rfl]at h;subst h;simp
  ·rw[if_neg e]at h;exact List.mem_cons_of_mem _ (n6 h)
theorem iC{L V:List Nat}:∀{H:List (Nat×Option Blk)} {i:Nat} {b:Blk},(i,some b)∈H→V.any (Nat.beq i)=false→L.getD i 0∈fb L V H
 | (j,none)::r,i,b,h,hv=>by
  unfold fb
  rcases Q22 h with h|h
  ·cases h
  ·exact iC h hv
 | (j,some c)::r,i,b,h,hv=>by
  unfold fb
  rcases Q22 h with h|h
  ·cases h;rw[hv,cond_false];simp
  ·have:=iC (L:=L) (V:=V) h hv
   cases V.any (Nat.beq j)with
   | true=>exact this
   | false=>exact List.mem_cons_of_mem _ this
theorem lf{L V:List Nat}:∀{H:List (Nat×Option Blk)},bq (fb L V H)=true→∀{i j:Nat} {b c:Blk},(i,some b)∈H→(j,some c)∈H→V.any (Nat.beq i)=false→V.any (Nat.beq j)=false→i≠j→L.getD i 0≠L.getD j 0
 | (q,none)::r,hd,i,j,b,c,hi,hj,vi,vj,hne=>by
  unfold fb at hd
  rcases Q22 hi with hi|hi
  ·cases hi
  ·rcases Q22 hj with hj|hj
   ·cases hj
   ·exact lf hd hi hj vi vj hne
 | (q,some d)::r,hd,i,j,b,c,hi,hj,vi,vj,hne=>by
  unfold fb at hd
  have key:∀{k:Nat} {e:Blk},V.any (Nat.beq q)=false→(k,some e)∈r→V.any (Nat.beq k)=false→L.getD q 0≠L.getD k 0:=by
   intro k e hq hk vk h
   rw[hq,cond_false]at hd
   unfold bq at hd
   cases h1:(fb L V r).any (Nat.beq (L.getD q 0))with
   | true=>rw[h1]at hd;exact absurd hd (by simp)
   | false =>
    rw[List.any_eq_false]at h1
    exact h1 _ (iC (L:=L) hk vk) (by rw[h];exact Nat.beq_refl _)
  have hd':bq (fb L V r)=true:=by
   cases hq:V.any (Nat.beq q)with
   | true=>rw[hq,cond_true]at hd;exact hd
   | false =>
    rw[hq,cond_false]at hd
    unfold bq at hd
    cases h1:(fb L V r).any (Nat.beq (L.getD q 0))with
    | true=>rw[h1]at hd;exact absurd hd (by simp)
    | false=>rw[h1]at hd;exact hd
  rcases Q22 hi with hi'|hi'
  ·cases hi'
   rcases Q22 hj with hj'|hj'
   ·cases hj';exact absurd rfl hne
   ·exact key vi hj' vj
  ·rcases Q22 hj with hj'|hj'
   ·cases hj';exact(key vj hi' vi).symm
   ·exact lf hd' hi' hj' vi vj hne
theorem af.sealC{m m':Nat}{S:St}{x r:SV}{H':List (Nat×Option Blk)}(L V:List Nat)(hlen:L.length=m')(hmm:idP L m=true)(hd:bq (fb L V H')=true)(hx:aj S L x r)(hH:qw S L V H'):af m S x m' r H':=by
 have hm:∀i,i<m→L.getD i 0=i:=fun i hi=>by unfold idP at hmm;rw[Q23]at hmm;exact Q2 (hmm i (by simpa using hi))
 refine⟨fun O E a w v hO hs hv=>?_⟩
 subst hlen
 have hblk:∀i b,lkh H' i=some b→i<L.length∧(b.real (E.κ (L.getD i 0))→∃b0,V.any (Nat.beq i)=false∧lkh S.hp (L.getD i 0)=some b0∧b0.real (E.κ (L.getD i 0)))∧BS (E.end S L) L.length w i b:=by
  intro i b hb
  obtain⟨g1,g2⟩:=iX hH i b hb
  rcases g2 with⟨_,m,g,rfl,hm'⟩|⟨hV,g2⟩
  ·exact⟨g1,fun h=>absurd h (Nat.lt_irrefl 0),hm',fun h=>absurd h (Nat.lt_irrefl 0)⟩
  unfold blkS at g2
  split at g2
  ·rename_i cs cs' hl
   refine⟨g1,fun _=>⟨_,hV,hl,trivial⟩,?_⟩
   obtain⟨vs,T,k1,k2,k3⟩:=hs.hp _ _ hl
   have hlen:=g2.out.1
   refine⟨vs,T,k1,by omega,fun j hj=>?_⟩
   obtain⟨q1,q2⟩:=g2.at hj
   exact⟨q2.out O E a w _ hs (k3 j q1).1,(k3 j q1).2⟩
  ·rename_i e z n f e' z' n' f' hl
   obtain⟨⟨rfl,rfl,rfl⟩,g3⟩:=g2
   refine⟨g1,fun h=>⟨_,hV,hl,h⟩,?_⟩
   obtain⟨k1,k2,k3,k4,k5⟩:=hs.hp _ _ hl
   refine⟨k1,k2,k3,fun i hi=>by rw[← (g3 i hi).out.1];exact k4 i hi,fun hk=>?_⟩
   obtain⟨vs,q1,q2,q3,q4⟩:=k5 hk
   refine⟨vs,q1,q2,q3,fun i j hi hj=>?_⟩
   obtain⟨p1,p2⟩:=(g3 i hi).out
   exact((p2 j (by omega) hj).out _ _ _ (q4 i j hi (by omega))).mono (fun b hb=>Or.inl hb) fun _ _=>rfl
  ·rename_i m n g m' n' g' hl
   obtain⟨⟨rfl,hm'⟩,g3⟩:=g2
   refine⟨g1,fun h=>⟨_,hV,hl,h⟩,?_⟩
   obtain⟨k0,hh⟩:=hs.hp _ _ hl
   refine⟨hm',fun hp=>?_⟩
   obtain⟨vs,T,k1,k2,k3⟩:=hh hp
   exact⟨vs,T,k1,k2,fun j hj=>⟨(g3 j hj).2,(g3 j hj).1.out O E a w _ hs (k3 j hj).2.1,(k3 j hj).2.2⟩⟩
  ·rename_i cs m' n' g' hl
   obtain⟨hm',g3,g4⟩:=g2
   refine⟨g1,fun _=>⟨_,hV,hl,trivial⟩,?_⟩
   obtain⟨vs,T,k1,k2,k3⟩:=hs.hp _ _ hl
   have hlen:=g3.out.1
   refine⟨hm',fun _=>⟨vs,T,k1,by simp at hlen;omega,fun j hj=>?_⟩⟩
   obtain⟨q1,q2⟩:=g3.at (j:=j) (by simpa using hj)
   simp only[List.getElem_map,List.getElem_range]at q2
   exact⟨g4 j hj,q2.out O E a w _ hs (k3 j q1).1,(k3 j q1).2⟩
  ·exact g2.elim
 have hmem:∀i,i<L.length→L.getD i 0∈L:=fun i hi=>by simp[List.getD,Q0 hi]
 refine⟨E.end S L,⟨fun i b hb=>(hblk i b hb).2.2,fun i b hb=>(hblk i b hb).1,?_,?_⟩,fun l hl=>by simp only[Env.end];rw[hm l hl];exact⟨rfl,rfl⟩,?_,?_,fun b hb=>Or.inl hb,hx.out O E a w v hs hv⟩
 ·intro i j b b' hi hj hr hr' hne
  obtain⟨b0,v0,g2,g3⟩:=(hblk i b hi).2.1 hr
  obtain⟨b1,v1,g5,g6⟩:=(hblk j b' hj).2.1 hr'
  exact hs.inj _ _ _ _ g2 g5 g3 g6 (lf hd (n6 hi) (n6 hj) v0 v1 hne)
 ·intro b hb
  rcases hb with hb|⟨l,y,hl,hr,rfl,hn⟩
  ·obtain⟨k1,_,k3⟩:=hs.im b hb
   refine⟨k1,fun i z hz hzr=>?_⟩
   obtain⟨b0,v0,g2,g3⟩:=(hblk i z hz).2.1 hzr
   exact k3 _ _ g2 g3
  ·refine⟨(hs.hp _ _ hl).lt hr,fun i z hz hzr=>?_⟩
   obtain⟨b0,v0,g2,g3⟩:=(hblk i z hz).2.1 hzr
   exact hs.inj _ _ _ _ g2 hl g3 hr (fun e=>hn (e▸hmem i (hblk i z hz).1))
 ·rintro b ⟨i,z,hz,hzr,rfl⟩
  obtain⟨b0,v0,g2,g3⟩:=(hblk i z hz).2.1 hzr
  exact⟨_,_,g2,g3,rfl⟩
 ·rintro b (hb|⟨l,y,hl,hr,rfl,hn⟩)
  ·exact Or.inl hb
  ·exact Or.inr ⟨l,y,hl,hr,rfl⟩
theorem SV.Le.sl'{z n m:Nat}{f g:Nat→List D}(e:n=m)(h:∀i,i<m→f i=g i):SV.Le (.d (.sl z n f)) (.d (.sl z m g)):=by
 subst e;exact SV.Le.sl h
theorem ci(pol:Int)(key:List Int):Pure TC 74 [.i .i64 pol,.d (am 1 (aM .u8) key)] (.i .u64 (cC (bW pol key))):=by
 refine Pure.mk' Tryz.func74 rfl rfl zN ?_
 (repeat' (first|((first|refine Wp.any ac rfl ?_|(with_reducible first|refine Go.mk ?_|apply ai.of|refine ab.pure (gh _ _) rfl rfl ?_|refine ab.pure (pv _) rfl rfl ?_));conv=>whnf)))
 exact .i rfl
theorem y4(zs:List Cel)(c:Cel):∀k,k<zs.length+1→bu zs.length (fun i=>Cel.D (zs.getD i default)) (fun i=>bm (Cel.D c) 4 (0+i)) k=Cel.D ((zs++[c]).getD k default):=fun k hk=>by
 simp only[bu]
 by_cases e:k<zs.length
 ·rw[if_pos e,Q1,Q1,Q11 e]
 ·rw[if_neg e]
  obtain rfl:k=zs.length:=by omega
  have:(zs++[c]).getD zs.length default=c:=by simp
  rw[Nat.sub_self,this];rfl
theorem getCC{xs:List Cel}{k:Nat}(h:k<xs.length):xs.getD (k:Int).toNat default=xs[k]:=by
 rw[Q13,Q1,Q0 h];rfl
theorem nj{xs:List Cel}{lv sh j:Nat}(h:j<xs.length):gL (xs.take (j+1)) lv sh=if cC (bW (xs.getD (j:Int).toNat default).pol (xs.getD (j:Int).toNat default).key)%2^lv=(sh:Int)then gL (xs.take j) lv sh++[xs.getD (j:Int).toNat default]else gL (xs.take j) lv sh:=by
 rw[getCC h]
 unfold gL
 rw[List.take_succ_eq_append_getElem h,List.filter_append]
 split
 ·rename_i e;rw[List.filter_cons_of_pos (by simpa[s4]using e)];simp
 ·rename_i e;rw[List.filter_cons_of_neg (by simpa[s4]using e)];simp
theorem ig(xs:List Cel)(lv sh:Nat)(hlv:lv≤4)(hl:xs.length≤16777216):Pure TC 43 [.d (am 4 Cel.D xs),.i .i64 lv,.i .i64 sh] (.d (am 4 Cel.D (gL xs lv sh))):=by
 refine Pure.mk' Tryz.func43 rfl rfl zN ?_
 (repeat' (first|((first|refine Wp.any ac rfl ?_|(with_reducible first|refine Go.mk ?_|apply ai.of));conv=>whnf)))
 refine Wp.le (Le.virt 7 89 4 (fun i=>Cel.D (([]:List Cel).getD i default)) (by decide) rfl) ?_
 refine Wp.loopP (ι:=Nat) (fun j=>j≤xs.length) (fun j=>⟨⟨Tryz.f43.ntmps,0⟩,1,[(1,.i .i64 lv),(2,.i .i64 sh),(7,.sl 0 4 0 (gL (xs.take j) lv sh).length),(14,.d (am 4 Cel.D xs)),(15,.i .i64 xs.length),(16,.i .i64 j)],[(0,some (ay 89 4 Cel.D (gL (xs.take j) lv sh)))]⟩) (fun j=>xs.length-j) 0 (Nat.zero_le _) ?_ ?_
 ·(refine Le.by [0] rfl rfl rfl rfl ?_ ?_<;>(conv=>whnf)<;>(repeat' (first|exact trivial|exact ae.rfl rfl|exact ae.sl rfl|exact⟨rfl,rfl,rfl⟩|exact fun i hi=>rfl|((with_reducible refine And.intro ?_ ?_)<;>(conv=>whnf)))))
 ·rintro j h1
  have hfl:(gL (xs.take j) lv sh).length≤16777216:=by
   have q1:=List.length_filter_le (s4 lv sh) (xs.take j)
   rw[Q10]at q1
   unfold gL;omega
  (repeat' (first|((first|refine Wp.any ac rfl ?_|(with_reducible first|refine Go.mk ?_|apply ai.of|refine Ov.ok zO ?_|refine And.intro zC ?_));conv=>whnf)|((with_reducible refine And.intro ?hb ?_);(case hb=>exact zz6);(conv=>whnf))|((with_reducible first|refine ab.pure (gh _ _) rfl rfl ?_|refine ab.pure (qx _ lv hlv) rfl rfl ?_);conv=>whnf)|((refine aq (fun hc=>?_) (fun hc=>?_))<;>(try simp only[wz9]at hc)<;>(try (exfalso;omega))<;>(conv=>whnf))))
  ·refine⟨j+1,by dsimp only;omega,by dsimp only;omega,?_⟩
   dsimp only
   rw[nj (by omega),if_pos hc]
   (refine Le.by [3] rfl rfl rfl rfl ?_ ?_<;>(conv=>whnf)<;>(repeat' (first|exact trivial|exact ae.rfl rfl|((with_reducible refine And.intro ?_ ?_)<;>(conv=>whnf)))))
   ·rw[Q9];exact ae.sl rfl
   all_goals first|exact y4 _ _|rfl|(simp;done)
  ·refine⟨j+1,by dsimp only;omega,by dsimp only;omega,?_⟩
   dsimp only
   rw[nj (by omega),if_neg hc]
   (refine Le.by [0] rfl rfl rfl rfl ?_ ?_<;>(conv=>whnf)<;>(repeat' (first|exact trivial|exact ae.rfl rfl|exact ae.sl rfl|exact⟨rfl,rfl,rfl⟩|exact fun i hi=>rfl|((with_reducible refine And.intro ?_ ?_)<;>(conv=>whnf)))))
  ·obtain rfl:j=xs.length:=by omega
   rw[List.take_length]
   exact SV.Le.sl fun j hj=>by simp only[Q19]
theorem nQ(xs:List Cel)(t:Cel)(hlen:xs.length≤4611686018427387903)(hx:∀k,IsB (xs.getD k default).key)(ht:IsB t.key) :
  Pure TC 56 [.d (am 4 Cel.D xs),t.S,.d (.fn (.func 51) [])] (.tup [.i .i64 (bo xs t),.b (cH xs t)]):=by
 refine Pure.mk' Tryz.func56 rfl rfl zN ?_
 (repeat' (first|((first|refine Wp.any ac rfl ?_|(with_reducible first|refine Go.mk ?_|apply ai.of));conv=>whnf)))
 refine Wp.loopP (ι:=Nat×Nat×Nat) (fun k=>k.1≤k.2.1∧k.2.1≤xs.length∧k.2.1-k.1<k.2.2∧bsF (fun k=>decide (jq (xs.getD k default) t<0)) k.2.2 k.1 k.2.1=bo xs t) (fun k=>⟨⟨Tryz.f56.ntmps,0⟩,1,[(0,.d (am 4 Cel.D xs)),(2,.d (.fn (.func 51) [])),(4,.ptr 0 0),(8,.i .i64 xs.length),(9,.i .i64 k.1),(10,.i .i64 k.2.1)],[(0,some (.cells [.i .i64 t.pol,.d (am 1 (aM .u8) t.key),.i .i64 t.tat,.d (am 1 (aM .i64) t.held)]))]⟩) (fun k=>k.2.1-k.1) (0,xs.length,xs.length+1) ⟨by simp,by simp,by simp,rfl⟩ ?_ ?_
 ·(refine Le.by [0] rfl rfl rfl rfl ?_ ?_<;>(conv=>whnf)<;>(repeat' (first|exact trivial|exact ae.rfl rfl|exact ae.ptr rfl|((with_reducible refine And.intro ?_ ?_)<;>(conv=>whnf)))))
 ·rintro⟨i,j,q⟩ ⟨h1,h2,h3,h4⟩
  dsimp only at h1 h2 h3 h4⊢
  (repeat' (first|((first|refine Wp.any ac rfl ?_|(with_reducible first|refine Go.mk ?_|apply ai.of|refine Ov.ok zO ?_));conv=>whnf)|(with_reducible refine Ov.sh1 (by with_unfolding_all exact rfl) ?_)|((first|refine zV ?_|(with_reducible first|refine And.intro zC ?_|refine ag.pure (gu (xs.getD _ default) t (hx _) ht) rfl rfl ?_));conv=>whnf)|((refine aq (fun hc=>?_) (fun hc=>?_))<;>(try simp only[wz9]at hc)<;>(try (exfalso;omega))<;>(conv=>whnf))))
  ·rw[show(((i:Int)+j)/2).toNat=(i+j)/2 by omega]at hc
   have hh:decide (jq (xs.getD ((i+j)/2) default) t<0)=true:=by simpa using hc
   refine⟨((i+j)/2+1,j,q-1),⟨by dsimp only;omega,h2,by dsimp only;omega,?_⟩,by dsimp only;omega,?_⟩
   ·rw[← h4]
    obtain⟨q,rfl⟩:∃r,q=r+1:=⟨q-1,by omega⟩
    rw[bsF,if_pos (by omega),if_pos hh];rfl
   ·(refine Le.by [0] rfl rfl rfl rfl ?_ ?_<;>(conv=>whnf)<;>(repeat' (first|exact trivial|exact ae.rfl rfl|exact ae.ptr rfl|((with_reducible refine And.intro ?_ ?_)<;>(conv=>whnf)))))
  ·rw[show(((i:Int)+j)/2).toNat=(i+j)/2 by omega]at hc
   have hh:¬decide (jq (xs.getD ((i+j)/2) default) t<0)=true:=by simpa using hc
   refine⟨(i,(i+j)/2,q-1),⟨by dsimp only;omega,by dsimp only;omega,by dsimp only;omega,?_⟩,by dsimp only;omega,?_⟩
   ·rw[← h4]
    obtain⟨q,rfl⟩:∃r,q=r+1:=⟨q-1,by omega⟩
    rw[bsF,if_pos (by omega),if_neg hh];rfl
   ·(refine Le.by [0] rfl rfl rfl rfl ?_ ?_<;>(conv=>whnf)<;>(repeat' (first|exact trivial|exact ae.rfl rfl|exact ae.ptr rfl|((with_reducible refine And.intro ?_ ?_)<;>(conv=>whnf)))))
  all_goals rw[oB (by omega)]at h4
  all_goals subst h4
  ·rw[show((bo xs t:Nat):Int).toNat=bo xs t by omega]
   exact .of_eq (by rw[show cH xs t=(jq (xs.getD (bo xs t) default) t==0)by
    unfold cH;rw[decide_eq_true (by omega),Bool.true_and];rfl])
  ·exact .of_eq (by rw[show cH xs t=false by unfold cH;rw[decide_eq_false (by omega),Bool.false_and]])
theorem Pure.le'{C:Cx}{g:Nat}{args args':List SV}{r:SV}(h:Pure C g args' r)(ha:Les args args'):Pure C g args r :=
 ⟨h.ent,fun E w vs hIm hsz hargs=>h.out E w vs hIm (hsz.trans ha.len) fun j hj=>(ha.out j (by rw[ha.len];exact hj) hj).out _ _ _ _ (hargs j (by rw[ha.len];exact hj))⟩
theorem qO(xs:List Cel)(pol:Int)(key:List Int)(hlen:xs.length≤4611686018427387903)(hx:∀k,IsB (xs.getD k default).key)(ht:IsB key) :
  Pure TC 28 [.d (am 4 Cel.D xs),.i .i64 pol,.d (am 1 (aM .u8) key)] (.tup [.i .i64 (bo xs (newC pol key)),.b (cH xs (newC pol key)),(bL xs pol key).S]):=by
 refine Pure.mk' Tryz.func28 rfl rfl zN ?_
 have hS:Pure TC 56 [.d (am 4 Cel.D xs),.agg [.i .i64 pol,.d (am 1 (aM .u8) key),.i .i64 0,.d (.val (.slice none 0 0))],.d (.fn (.func 51) [])] (.tup [.i .i64 (bo xs (newC pol key)),.b (cH xs (newC pol key))]) :=
  (nQ xs (newC pol key) hlen hx ht).le' (.cons (.rfl _) (.cons (.agg (.cons (.rfl _) (.cons (.rfl _) (.cons (.rfl _) (.cons .nil .nil))))) (.cons (.rfl _) .nil)))
 (repeat' (first|((first|refine Wp.any ac rfl ?_|(with_reducible first|refine Go.mk ?_|apply ai.of)|refine zV ?_|(with_reducible first|refine And.intro zC ?_|refine ab.pure (hS) rfl rfl ?_));conv=>whnf)|((refine aq (fun hc=>?_) (fun hc=>?_))<;>(try simp only[wz9,cW,zt]at hc)<;>(try (exfalso;omega))<;>(conv=>whnf))))
 ·rw[show((bo xs (newC pol key):Nat):Int).toNat=bo xs (newC pol key)by omega,show bL xs pol key=xs.getD (bo xs (newC pol key)) default by rw[bL,if_pos ((cW ..).2 hc)]]
  exact .rfl _
 ·rw[show bL xs pol key=newC pol key by rw[bL,if_neg (by rw[cW];exact hc)]]
  exact .tup (.cons (.rfl _) (.cons (.rfl _) (.cons (.agg (.cons (.rfl _) (.cons (.rfl _) (.cons (.rfl _) (.cons .nil .nil))))) .nil)))
theorem qN(xs:List Cel)(at':Nat)(there:Bool)(c:Cel)(hn:xs.length≤16777215)(hk:c.key.length≤16777216)(h1:at'≤xs.length)(h2:there=true→at'<xs.length) :
  Pure TC 33 [.d (am 4 Cel.D xs),.i .i64 at',.b there,c.S] (.d (am 4 Cel.D (bM xs at' there c))):=by
 cases there with
 | true =>
  have h2:=h2 rfl
  refine Pure.mk' Tryz.func33 rfl rfl zN ?_
  (repeat' (first|((first|refine Wp.any ac rfl ?_|(with_reducible first|refine Go.mk ?_|apply ai.of|refine And.intro zC ?_));conv=>whnf)|((refine ab.fn (ja xs (by omega)) [] rfl rfl rfl rfl rfl ?ha ?hh ?_);(case ha=>exact zA);(case hh=>exact zH);(conv=>whnf))))
  have hl:xs.length=(bM xs at' true c).length:=by simp[bM]
  refine SV.Le.sl' hl fun i hi=>?_
  simp only[Q19,bM,if_true,Q1,List.getElem?_set]
  by_cases h:at'=i
  ·subst h;simp[h2];rfl
  ·rw[if_neg h,if_neg (fun e=>h (by omega))]
 | false =>
  refine Pure.mk' Tryz.func33 rfl rfl zN ?_
  (repeat' (first|((first|refine Wp.any ac rfl ?_|(with_reducible first|refine Go.mk ?_|apply ai.of|refine And.intro zC ?_));conv=>whnf)|((refine ab.fn (ja xs (by omega)) [] rfl rfl rfl rfl rfl ?ha ?hh ?_);(case ha=>exact zA);(case hh=>exact zH);(conv=>whnf))|((with_reducible refine ab.pure (au _ (by omega)) rfl rfl ?_);conv=>whnf)|((refine ab.fn (kC xs at' c (by omega) (by omega)) [1,2] rfl rfl rfl rfl rfl ?ha ?hh ?_);(case ha=>exact zA);(case hh=>exact zH);(conv=>whnf))))
  exact SV.Le.sl fun i hi=>by simp only[Q19];rfl
def cu(lw ll nw nl:Nat)(clk cnt:Int):Blk:=.cells [.sl lw 1 0 nw,.i .i64 clk,.i .i64 cnt,.sl ll 6 0 nl]
def co(nw:Nat)(W:Nat→Int):Blk:=.row 60 1 nw fun i=>aM .u64 (W i)
def bK(nl:Nat)(f:Nat→List D):Blk:=.row 216 6 nl f
def bZ(who kind word old new:Int)(done:Bool):List D:=[.val (.int .i64 who),.val (.int .u8 kind),.val (.int .i64 word),.val (.int .u64 old),.val (.int .u64 new),.val (.bool done)]
def aC(nl:Nat):Nat:=if nl+1≤128 then nl+1 else 64
def bO(nl:Nat)(f:Nat→List D)(a:List D):Nat→List D:=if nl+1≤128 then bu nl f fun _=>a else fun i=>bu nl f (fun _=>a) (nl+1-64+i)
theorem ya{nl:Nat}(h:nl≤128):aC nl≤128:=by unfold aC;split<;>omega
theorem ub(n o m:Nat)(f:Nat→List D)(hn:n≤1000)(ho:o+m≤n)(hm:0<m):Fun TC 155 1 [.sl 0 6 o m] [(0,some (bK n f))] 2 (.sl 1 6 0 m) [(0,some (bK n f)),(1,some (bK m fun i=>f (o+i)))]:=by
 refine Fun.mk' Tryz.func155 rfl rfl zN (by decide) ?_
 (repeat' (first|((first|refine Wp.any ac rfl ?_|(with_reducible first|refine Go.mk ?_|apply ai.of|refine And.intro zC ?_));conv=>whnf)|((with_reducible refine And.intro ?hb ?_);(case hb=>exact zz6);(conv=>whnf))|((with_reducible refine o4 (by omega) ?_);(conv=>whnf))))
 all_goals try exact absurd trivial hc
 refine af.of [0,2] rfl (fun i hi=>by have:i=0:=(by omega);subst this;rfl) rfl ?_ ?_
 ·exact .of_eq (congrArg (SV.sl _ _ _) (Q19 _))
 ·refine⟨⟨⟨rfl,rfl,rfl⟩,fun i hi=>rfl⟩,⟨⟨rfl,rfl,Q19 _⟩,fun i hi=>?_⟩,trivial⟩
  simp[bu]
theorem fj(nw nl:Nat)(W:Nat→Int)(f:Nat→List D)(clk cnt who kind word old new:Int)(done:Bool)(hl:nl≤128)(hc0:0≤cnt)(hc1:cnt≤4611686018427387903) :
  Fun TC 124 3 [.ptr 0 0,.agg [.i .i64 who,.i .u8 kind,.i .i64 word,.i .u64 old,.i .u64 new,.b done]] [(0,some (cu 1 2 nw nl clk cnt)),(1,some (co nw W)),(2,some (bK nl f))]
   4 (.tup []) [(0,some (cu 1 3 nw (aC nl) clk (cnt+1))),(1,some (co nw W)),(2,none),(3,some (bK (aC nl) (bO nl f (bZ who kind word old new done))))]:=by
 refine Fun.mk' Tryz.func124 rfl rfl zN (by decide) ?_
 (repeat' (first|((first|refine Wp.any ac rfl ?_|(with_reducible first|refine Go.mk ?_|apply ai.of));conv=>whnf)|with_reducible exact rfl|((first|with_reducible refine Ov.ok zO ?_|refine zV ?_|with_reducible refine And.intro zC ?_);conv=>whnf)|((refine fP.b rfl rfl rfl rfl rfl rfl rfl rfl ?hb ?ho ?_);(case hb=>exact zB);(case ho=>omega);(conv=>whnf))|(with_reducible refine Or.inl ?_)|((refine ag.new (ub (nl+1) (0+(((nl+1:Nat):Int)-64).toNat) (nl+1-(((nl+1:Nat):Int)-64).toNat) (bu nl f fun i=>bm (bZ who kind word old new done) 6 (0+i)) (by omega) (by omega) (by omega)) [11] [11] rfl rfl rfl rfl rfl rfl ?ha ?hh ?hs ?_);(case ha=>exact zA);(case hh=>exact zH);(case hs=>exact zK);(conv=>whnf))|((refine aq (fun hc=>?_) (fun hc=>?_))<;>(try simp only[wz9]at hc)<;>(try (exfalso;omega))<;>(conv=>whnf))))
 ·have hN:aC nl=nl+1-(((nl+1:Nat):Int)-64).toNat:=by unfold aC;rw[if_neg (by omega)];omega
  rw[hN]
  refine af.sealB [0,1,2,27] rfl rfl rfl (aj.tup trivial) ?_
  conv=>whnf
  (repeat' (first|exact zE|((refine And.intro ?_ ?_)<;>(conv=>whnf))))
  intro i hi
  refine gy.of ?_
  unfold bO
  rw[if_neg (by omega)]
  show bu nl f _ (0+(((nl+1:Nat):Int)-64).toNat+i)=bu nl f _ (nl+1-64+i)
  rw[show 0+(((nl+1:Nat):Int)-64).toNat+i=nl+1-64+i by omega]
  unfold bu
  by_cases h:nl+1-64+i<nl
  ·rw[if_pos h,if_pos h]
  ·rw[if_neg h,if_neg h,show nl+1-64+i-nl=0 by omega];rfl
 ·have hN:aC nl=nl+1:=by unfold aC;rw[if_pos (by omega)]
  rw[hN]
  refine af.sealB [0,1,2,11] rfl rfl rfl (aj.tup trivial) ?_
  conv=>whnf
  (repeat' (first|exact zE|((refine And.intro ?_ ?_)<;>(conv=>whnf))))
  intro i hi
  refine gy.of ?_
  unfold bO
  rw[if_pos (by omega)]
  unfold bu
  by_cases h:i<nl
  ·rw[if_pos h,if_pos h]
  ·rw[if_neg h,if_neg h,show i-nl=0 by omega];rfl
theorem ite_row{i q:Nat}{k:IntKind}{x y:Int}:(if i=q then[D.val (.int k x)]else aM k y)=aM k (if i=q then x else y):=by split<;>rfl
theorem wat(w:Nat):0+((w:Nat):Int).toNat=w:=by omega
theorem sE(nw nl:Nat)(W:Nat→Int)(f:Nat→List D)(clk cnt who:Int)(word:Nat)(hl:nl≤128)(hc0:0≤cnt)(hc1:cnt≤4611686018427387903)(hw0:0≤who)(hw1:who<64)(hw:word<nw) :
  Fun TC 156 3 [.ptr 0 0,.i .i64 who,.i .i64 word] [(0,some (cu 1 2 nw nl clk cnt)),(1,some (co nw W)),(2,some (bK nl f))]
   4 (.tup [.i .u64 (W word),.i .i64 0]) [(0,some (cu 1 3 nw (aC nl) clk (cnt+1))),(1,some (co nw W)),(2,none),(3,some (bK (aC nl) (bO nl f (bZ who 1 word (W word) 0 true))))]:=by
 refine Fun.mk' Tryz.func156 rfl rfl zN (by decide) ?_
 (repeat' (first|((first|refine Wp.any ac rfl ?_|(with_reducible first|refine Go.mk ?_|apply ai.of|refine And.intro zC ?_));conv=>whnf)|(with_reducible refine ab.inline Tryz.func117 rfl rfl rfl (zzb rfl) ?_)|((with_reducible refine ab.pure (dh _ _ _) rfl rfl ?_);conv=>whnf)|((refine ab.fn (fj nw nl W f clk cnt who 1 word (W (0+((word:Nat):Int).toNat)) 0 true hl hc0 hc1) [0,1,2] rfl rfl rfl rfl rfl ?ha ?hh ?_);(case ha=>exact zA);(case hh=>exact zH);(conv=>whnf))|((refine aq (fun hc=>?_) (fun hc=>?_))<;>(try simp only[wz9]at hc)<;>(try (exfalso;omega))<;>(conv=>whnf))))
 simp only[wat]
 (refine af.sealB [0,1,2,3] rfl rfl rfl ?_ ?_);(focus((conv=>whnf);(repeat' (first|exact zE))));(focus((conv=>whnf);(repeat' (first|exact zE|((refine And.intro ?_ ?_)<;>(conv=>whnf))))))
theorem sC(nw nl:Nat)(W:Nat→Int)(f:Nat→List D)(clk cnt who old new:Int)(word:Nat)(hl:nl≤128)(hc0:0≤cnt)(hc1:cnt≤4611686018427387903)(hw0:0≤who)(hw1:who<64)(hw:word<nw) :
  Fun TC 96 3 [.ptr 0 0,.i .i64 who,.i .i64 word,.i .u64 old,.i .u64 new] [(0,some (cu 1 2 nw nl clk cnt)),(1,some (co nw W)),(2,some (bK nl f))]
   4 (.tup [.b (decide (W word=old)),.i .i64 0]) [(0,some (cu 1 3 nw (aC nl) clk (cnt+1))),(1,some (co nw (if W word=old then Dir.upd W word new else W))),(2,none),(3,some (bK (aC nl) (bO nl f (bZ who 2 word old new (decide (W word=old))))))]:=by
 refine Fun.mk' Tryz.func96 rfl rfl zN (by decide) ?_
 (repeat' (first|((first|refine Wp.any ac rfl ?_|(with_reducible first|refine Go.mk ?_|apply ai.of|refine And.intro zC ?_));conv=>whnf)|(with_reducible refine ab.inline Tryz.func117 rfl rfl rfl (zzb rfl) ?_)|((with_reducible refine ab.pure (dh _ _ _) rfl rfl ?_);conv=>whnf)|((refine ab.fn (fj nw nl (fun j=>if j=0+((word:Nat):Int).toNat then new else W j) f clk cnt who 2 word old new (W (0+((word:Nat):Int).toNat)==old) hl hc0 hc1) [0,1,2] rfl rfl rfl rfl rfl ?ha ?hh ?_);(case ha=>exact zA);(case hh=>exact zz24);(conv=>whnf))|((refine ab.fn (fj nw nl W f clk cnt who 2 word old new (W (0+((word:Nat):Int).toNat)==old) hl hc0 hc1) [0,1,2] rfl rfl rfl rfl rfl ?ha ?hh ?_);(case ha=>exact zA);(case hh=>exact zz24);(conv=>whnf))|((refine aq (fun hc=>?_) (fun hc=>?_))<;>(try simp only[wz9]at hc)<;>(try (exfalso;omega))<;>(conv=>whnf))))
 all_goals simp only[wat]at hc⊢
 all_goals rw[show(W word==old)=decide (W word=old)from rfl]
 ·rw[if_pos hc]
  (refine af.sealB [0,1,2,3] rfl rfl rfl ?_ ?_);(focus((conv=>whnf);(repeat' (first|exact zE))));(focus((conv=>whnf);(repeat' (first|exact zE|((refine And.intro ?_ ?_)<;>(conv=>whnf))))))
 ·rw[if_neg hc]
  (refine af.sealB [0,1,2,3] rfl rfl rfl ?_ ?_);(focus((conv=>whnf);(repeat' (first|exact zE))));(focus((conv=>whnf);(repeat' (first|exact zE|((refine And.intro ?_ ?_)<;>(conv=>whnf))))))
theorem qs(nw nl:Nat)(W:Nat→Int)(f:Nat→List D)(clk cnt who:Int)(hl:nl≤128)(hc0:0≤cnt)(hc1:cnt≤4611686018427387903)(hw0:0≤who)(hw1:who<64) :
  Fun TC 168 3 [.ptr 0 0,.i .i64 who] [(0,some (cu 1 2 nw nl clk cnt)),(1,some (co nw W)),(2,some (bK nl f))]
   4 (.tup [.i .i64 clk,.i .i64 0]) [(0,some (cu 1 3 nw (aC nl) clk (cnt+1))),(1,some (co nw W)),(2,none),(3,some (bK (aC nl) (bO nl f (bZ who 3 0 (IntKind.u64.wrap clk) 0 true))))]:=by
 refine Fun.mk' Tryz.func168 rfl rfl zN (by decide) ?_
 (repeat' (first|((first|refine Wp.any ac rfl ?_|(with_reducible first|refine Go.mk ?_|apply ai.of|refine ab.pure (dh _ _ _) rfl rfl ?_));conv=>whnf)|((refine ab.fn (fj nw nl W f clk cnt who 3 0 (IntKind.u64.wrap clk) 0 true hl hc0 hc1) [0,1,2] rfl rfl rfl rfl rfl ?ha ?hh ?_);(case ha=>exact zA);(case hh=>exact zH);(conv=>whnf))|((with_reducible refine Ov.mk ?_);conv=>whnf)|((refine aq (fun hc=>?_) (fun hc=>?_))<;>(try simp only[wz9]at hc)<;>(try (exfalso;omega))<;>(conv=>whnf))))
 (refine af.sealB [0,1,2,3] rfl rfl rfl ?_ ?_);(focus((conv=>whnf);(repeat' (first|exact zE))));(focus((conv=>whnf);(repeat' (first|exact zE|((refine And.intro ?_ ?_)<;>(conv=>whnf))))))
theorem uF(a b:Int)(ha:0≤a)(hb:0≤b)(ha1:a≤4611686018427387903)(hb1:b≤4611686018427387903):Pure TC 73 [.i .i64 a,.i .i64 b] (.tup [.i .i64 (min (a+b) 4611686018427387903),.i .i64 0]):=by
 have hE:md a b=0:=by unfold md cq;simp[ha,hb,ha1,hb1]
 refine Pure.mk' Tryz.func73 rfl rfl zN ?_
 have hB:=mr a b
 rw[hE]at hB
 (repeat' (first|((first|refine Wp.any ac rfl ?_|(with_reducible first|refine Go.mk ?_|apply ai.of|refine Ov.ok zO ?_|refine ab.pure (hB) rfl rfl ?_|refine ab.pure (jJ _) rfl rfl ?_));conv=>whnf)))
 exact .tup (.cons (.i (by unfold cA;omega)) (.cons (.rfl _) .nil))
theorem sB(nw nl:Nat)(W:Nat→Int)(f:Nat→List D)(clk cnt n:Int)(h0:0≤clk)(h1:clk≤4611686018427387903)(hn:0≤n)(hn1:n≤4611686018427387903) :
  Fun TC 44 3 [.ptr 0 0,.i .i64 n] [(0,some (cu 1 2 nw nl clk cnt)),(1,some (co nw W)),(2,some (bK nl f))]
   3 (.tup [.i .i64 (min (clk+n) 4611686018427387903),.i .i64 0]) [(0,some (cu 1 2 nw nl (min (clk+n) 4611686018427387903) cnt)),(1,some (co nw W)),(2,some (bK nl f))]:=by
 have hT:=cp n
 rw[show cq n=true by simp[cq];omega]at hT
 refine Fun.mk' Tryz.func44 rfl rfl zN (by decide) ?_
 (repeat' (first|((first|refine Wp.any ac rfl ?_|(with_reducible first|refine Go.mk ?_|apply ai.of|refine ab.pure (hT) rfl rfl ?_|refine ab.pure (uF clk n h0 hn h1 hn1) rfl rfl ?_));conv=>whnf)))
 (refine af.sealB [0,1,2] rfl rfl rfl ?_ ?_);(focus((conv=>whnf);(repeat' (first|exact zE))));(focus((conv=>whnf);(repeat' (first|exact zE|((refine And.intro ?_ ?_)<;>(conv=>whnf))))))
def ji(m h:Nat):SV:=.iref [.ptr m 0,.sl h 1 0 34] 0
def gK(Hd:Nat→List Cel):Blk:=.row 34 1 34 fun i=>[am 4 Cel.D (Hd i)]
theorem yk{i q:Nat}{x:List Cel}{Hd:Nat→List Cel}:(if i=q then[am 4 Cel.D x]else[am 4 Cel.D (Hd i)])=[am 4 Cel.D (Dir.upd Hd q x i)]:=by unfold Dir.upd;split<;>rfl
theorem aK(nl:Nat)(W:Nat→Int)(Hd:Nat→List Cel)(f:Nat→List D)(clk cnt who:Int)(word:Nat)(hl:nl≤128)(hc0:0≤cnt)(hc1:cnt≤4611686018427387903)(hw0:0≤who)(hw1:who<64)(hw:word<34) :
  Fun TC 127 4 [ji 0 2,.i .i64 who,.i .i64 word] [(0,some (cu 1 3 34 nl clk cnt)),(1,some (co 34 W)),(2,some (gK Hd)),(3,some (bK nl f))]
   5 (.tup [.i .u64 (W word),.d (am 4 Cel.D (Hd word))]) [(0,some (cu 1 4 34 (aC nl) clk (cnt+1))),(1,some (co 34 W)),(2,some (gK Hd)),(3,none),(4,some (bK (aC nl) (bO nl f (bZ who 1 word (W word) 0 true))))]:=by
 refine Fun.mk' Tryz.func127 rfl rfl zN (by decide) ?_
 (repeat' (first|((first|refine Wp.any ac rfl ?_|(with_reducible first|refine Go.mk ?_|apply ai.of)|refine zV ?_|with_reducible refine And.intro zC ?_);conv=>whnf)|((refine ab.fn (sE 34 nl W f clk cnt who word hl hc0 hc1 hw0 hw1 hw) [0,1,3] rfl rfl rfl rfl rfl ?ha ?hh ?_);(case ha=>exact zA);(case hh=>exact zH);(conv=>whnf))))
 simp only[wat]
 (refine af.sealB [0,1,2,3,4] rfl rfl rfl ?_ ?_);(focus((conv=>whnf);(repeat' (first|exact zE))));(focus((conv=>whnf);(repeat' (first|exact zE|((refine And.intro ?_ ?_)<;>(conv=>whnf))))))
theorem aF(nl:Nat)(W:Nat→Int)(Hd:Nat→List Cel)(f:Nat→List D)(clk cnt who old new:Int)(word:Nat)(h:List Cel)(hl:nl≤128)(hc0:0≤cnt)(hc1:cnt≤4611686018427387903)(hw0:0≤who)(hw1:who<64)(hw:word<34) :
  Fun TC 69 4 [ji 0 2,.i .i64 who,.i .i64 word,.i .u64 old,.i .u64 new,.d (am 4 Cel.D h)] [(0,some (cu 1 3 34 nl clk cnt)),(1,some (co 34 W)),(2,some (gK Hd)),(3,some (bK nl f))]
   5 (.b (decide (W word=old))) [(0,some (cu 1 4 34 (aC nl) clk (cnt+1))),(1,some (co 34 (if W word=old then Dir.upd W word new else W))),(2,some (gK (if W word=old then Dir.upd Hd word h else Hd))),(3,none),(4,some (bK (aC nl) (bO nl f (bZ who 2 word old new (decide (W word=old))))))]:=by
 refine Fun.mk' Tryz.func69 rfl rfl zN (by decide) ?_
 (repeat' (first|((first|refine Wp.any ac rfl ?_|(with_reducible first|refine Go.mk ?_|apply ai.of|refine And.intro zC ?_));conv=>whnf)|((refine ab.fn (sC 34 nl W f clk cnt who old new word hl hc0 hc1 hw0 hw1 hw) [0,1,3] rfl rfl rfl rfl rfl ?ha ?hh ?_);(case ha=>exact zA);(case hh=>exact zH);(conv=>whnf))|((refine aq (fun hc=>?_) (fun hc=>?_))<;>(try simp only[wz9]at hc)<;>(try (exfalso;omega))<;>(conv=>whnf))))
 ·try simp only[wat]
  rw[if_pos hc,if_pos hc]
  (refine af.sealB [0,1,2,3,4] rfl rfl rfl ?_ ?_);(focus((conv=>whnf);(repeat' (first|exact zE))));(focus((conv=>whnf);(repeat' (first|exact zE|((refine And.intro ?_ ?_)<;>(conv=>whnf))))))
  exact fun i hi=>gy.of yk
 ·try simp only[wat]
  rw[if_neg hc,if_neg hc]
  (refine af.sealB [0,1,2,3,4] rfl rfl rfl ?_ ?_);(focus((conv=>whnf);(repeat' (first|exact zE))));(focus((conv=>whnf);(repeat' (first|exact zE|((refine And.intro ?_ ?_)<;>(conv=>whnf))))))
theorem cm(nl:Nat)(W:Nat→Int)(Hd:Nat→List Cel)(f:Nat→List D)(clk cnt:Int)(word:Nat)(hw:word<34) :
  Fun TC 53 4 [ji 0 2,.i .i64 word] [(0,some (cu 1 3 34 nl clk cnt)),(1,some (co 34 W)),(2,some (gK Hd)),(3,some (bK nl f))]
   4 (.tup [.i .u64 (W word),.d (am 4 Cel.D (Hd word))]) [(0,some (cu 1 3 34 nl clk cnt)),(1,some (co 34 W)),(2,some (gK Hd)),(3,some (bK nl f))]:=by
 refine Fun.mk' Tryz.func53 rfl rfl zN (by decide) ?_
 (repeat' (first|((first|refine Wp.any ac rfl ?_|(with_reducible first|refine Go.mk ?_|apply ai.of)|refine zV ?_|with_reducible refine And.intro zC ?_);conv=>whnf)|(with_reducible refine ab.inline Tryz.func81 rfl rfl rfl (zzb rfl) ?_)|(with_reducible refine ab.inline Tryz.func117 rfl rfl rfl (zzb rfl) ?_)|((with_reducible refine ab.pure (dh _ _ _) rfl rfl ?_);conv=>whnf)|((refine aq (fun hc=>?_) (fun hc=>?_))<;>(try simp only[wz9]at hc)<;>(try (exfalso;omega))<;>(conv=>whnf))))
 simp only[wat]
 (refine af.sealB [0,1,2,3] rfl rfl rfl ?_ ?_);(focus((conv=>whnf);(repeat' (first|exact zE))));(focus((conv=>whnf);(repeat' (first|exact zE|((refine And.intro ?_ ?_)<;>(conv=>whnf))))))
section
abbrev bx(x:SV):SV:=.iref [x] 0
def ar:SV:=.iref [ji 1 3,.d (.fn (.func 43) [])] 0
def qY:SV:=.iref [.b false,.i .i64 0,.b false,.i .i64 0,.i .i64 0,.i .i64 0,.i .i64 0] 0
def ox:SV:=.d (.fn (.func 99) [])
def eN:SV:=.d (.val .nilFunc)
def xS:SV:=bx (.ptr 4 0)
def xZ(p:Pol):SV:=.iref [.i .u8 p.kind,.i .i64 p.T,.i .i64 p.tau,.i .i64 p.permits] 0
def yO(c:Cel):SV:=.iref [.i .i64 c.pol,.d (am 1 (aM .u8) c.key),.i .i64 c.tat,.d (am 1 (aM .i64) c.held)] 0
def rplB(r:Rpl):SV:=.iref [.i .i64 r.e,.b r.g,.i .i64 r.left,.i .i64 r.wait,.i .i64 r.serial,.i .i64 r.now] 0
def fdB(f:Core.Fd):SV:=.iref [.i .i64 f.w,.i .u64 f.v,.d (am 4 Cel.D f.h)] 0
def furS(j sh:Nat):SV:=.fn (.func 130) [bx (.i .i64 j),bx (.i .i64 sh),xS]
def thnS(p:Pol):Core.Fc→SV
 | .key=>.fn (.func 140) [xS,xZ p]
 | .ev j sh g=>.fn (.func 133) [bx (furS j sh),bx (.i .i64 g),xS]
def rv(f:Core.Fd)(c:Cel)(r:Rpl):SV:=.fn (.func 176) [xS,fdB f,bx (.i .i64 f.at'),bx (.b f.there),yO c,rplB r]
def mvS(word by' stop:Int)(stopped thn:SV):SV:=.fn (.func 187) [xS,bx (.i .i64 word),bx (.i .u64 stop),bx stopped,bx (.i .u64 by'),bx thn]
def mwS(word v by' stop:Int)(stopped thn:SV):SV:=.fn (.func 188) [xS,bx (.i .i64 word),bx (.i .u64 v),bx (.i .u64 by'),bx (.i .u64 stop),bx stopped,bx thn]
def yv:SV:=.d (.fn (.func 177) [])
def rsvS(sw:SV):SV:=.fn (.func 178) [xS,bx sw]
def bkS(n:Int):Core.Bk→SV
 | .lv r=>.fn (.func 190) [rplB r]
 | .ev j sh g=>.fn (.func 139) [bx (furS j sh),bx (.i .i64 g),bx (.i .i64 n)]
def y2(n:Int)(k:Core.Bk):SV:=.fn (.func 170) [bx (bkS n k)]
def acqS(p:Pol)(f:Core.Fd):SV:=.fn (.func 173) [xZ p,yO f.cell,xS,fdB f,bx (.i .i64 f.at'),bx (.b f.there)]
def jM:SV:=.fn (.func 174) [xS]
def serS(p:Pol)(f:Core.Fd):SV:=.fn (.func 175) [xS,bx (acqS p f)]
def fe(n:Int):Int:=IntKind.u64.wrap (0-n)
abbrev ud:Int:=18446744073709551615
def findS(who s:Int)(t:SV):SV:=.fn (.func 163) [bx ar,bx (.i .i64 who),bx (.i .u64 s),bx t]
def zx(who s:Int)(w:Nat)(t:SV):SV:=.fn (.func 186) [bx ar,bx (.i .i64 who),bx (.i .i64 w),bx (.i .u64 s),bx t]
def ol(who:Int)(w:Nat)(t:SV):SV:=.fn (.func 182) [bx ar,bx (.i .i64 who),bx (.i .i64 w),bx t]
def tf(who:Int)(w:Nat)(v:Int)(h:List Cel)(t:SV):SV:=.fn (.func 183) [bx ar,bx (.i .i64 who),bx (.i .i64 w),bx (.i .u64 v),bx (.d (am 4 Cel.D h)),bx t,qY]
def halfS(who:Int)(lv w:Nat)(h:List Cel)(t:SV):SV:=.fn (.func 184) [bx ar,bx (.i .i64 who),bx (.i .i64 w),bx t,bx (.d (am 4 Cel.D h)),bx (.i .i64 lv)]
def layS(who:Int)(lv w:Nat)(h:List Cel)(t:SV):SV:=.fn (.func 185) [bx ar,bx (.i .i64 who),bx (.i .i64 w),bx (.d (am 4 Cel.D h)),bx (.i .i64 lv),bx t,bx .any]
def tfK(who sm:Int)(lv:Nat)(t:SV):SV:=.fn (.func 165) [bx ar,bx (.i .i64 who),bx (.i .i64 lv),bx (.i .u64 sm),bx t,qY]
def thK(who sm:Int)(t:SV):SV:=.fn (.func 166) [bx ar,bx (.i .i64 who),bx (.i .u64 sm),bx t,qY]
def tfS(who:Int)(lv i:Nat):SV:=.fn (.func 159) [bx ar,bx (.i .i64 who),bx (.i .i64 lv),bx (.i .i64 i),bx ox,qY]
def thS(who:Int)(lv i:Nat)(up:Bool)(h:List Cel):SV :=
 if up then .fn (.func 162) [bx ar,bx (.i .i64 who),bx (.i .i64 lv),bx (.i .i64 i),bx ox,qY]
 else .fn (.func 161) [bx ar,bx (.i .i64 who),bx (.i .i64 lv),bx (.i .i64 i),bx (.d (am 4 Cel.D h)),bx ox,qY]
section
variable(P:Core.Ops)(who:Int)(x:Core.X)
def thn(f:Core.Fc):SV:=thnS (P.pol x.pol) f
def cl:Core.CS→SV
 | .none=>eN
 | .k0 f=>findS who (Core.sumF x f) (thn P x f)
 | .kE f w=>zx who (Core.sumF x f) w (thn P x f)
 | .kF f lv w=>ol who w (tfK who (Core.sumF x f) lv (thn P x f))
 | .kG f lv w v h=>tf who w v h (tfK who (Core.sumF x f) lv (thn P x f))
 | .kH f lv w h=>halfS who lv w h (thK who (Core.sumF x f) (thn P x f))
 | .kL f lv w h=>layS who lv w h (thK who (Core.sumF x f) (thn P x f))
 | .al f=>.fn (.func 171) [xZ (P.pol x.pol),yO f.cell,xS,fdB f,bx (.i .i64 f.at'),bx (.b f.there)]
 | .pk c=>.fn (.func 144) [xZ (P.pol x.pol),yO c,xS]
 | .a0 f=>mvS 33 1 4611686018427387903 jM (serS (P.pol x.pol) f)
 | .a1 f u=>mwS 33 u 1 4611686018427387903 jM (serS (P.pol x.pol) f)
 | .p0 f c r=>mvS 32 1 P.room yv (rsvS (rv f c r))
 | .p1 f c r u=>mwS 32 u 1 P.room yv (rsvS (rv f c r))
 | .pS f c r=>rv f c r
 | .b0 n k=>mvS 32 (fe n) ud eN (y2 n k)
 | .b1 n k u=>mwS 32 u (fe n) ud eN (y2 n k)
 | .e0=>.fn (.func 100) [xS]
 | .eC j sh g w v h=>.fn (.func 134) [xS,bx (.d (am 4 Cel.D h)),bx (furS j sh),bx (.i .i64 g),bx (.i .i64 w),bx (.i .u64 v)]
 | .eS j sh g w v m n=>.fn (.func 137) [xS,bx (.i .i64 w),bx (.i .u64 v),bx (.d (am 4 Cel.D m)),bx (furS j sh),bx (.i .i64 g),bx (.i .i64 n)]
 | .s0=>.fn (.func 126) [bx ar,bx (.i .i64 who),bx ox]
 | .sM lv=>.fn (.func 129) [bx ar,bx (.i .i64 who),bx (.i .u64 (2*lv)),bx ox,qY,bx (.i .i64 lv)]
 | .sF lv i=>ol who (2^lv+i) (tfS who lv i)
 | .sG lv i v h=>tf who (2^lv+i) v h (tfS who lv i)
 | .sH lv i up h=>halfS who (lv+1) (Dir.upW lv i up) h (thS who lv i up h)
 | .sL lv i up h=>layS who (lv+1) (Dir.upW lv i up) h (thS who lv i up h)
 | .sV lv=>.fn (.func 157) [bx ar,bx (.i .i64 who),bx (.i .i64 lv),bx ox]
end
theorem ez(P:Core.Ops)(who:Int)(x:Core.X)(s:Core.CS):SV.Lt 5 (cl P who x s):=by
 cases s with
 | sH lv i up h=>cases up<;>exact .of rfl
 | sL lv i up h=>cases up<;>exact .of rfl
 | k0 f=>cases f<;>exact .of rfl
 | kE f w=>cases f<;>exact .of rfl
 | kF f lv w=>cases f<;>exact .of rfl
 | kG f lv w v h=>cases f<;>exact .of rfl
 | kH f lv w h=>cases f<;>exact .of rfl
 | kL f lv w h=>cases f<;>exact .of rfl
 | b0 n k=>cases k<;>exact .of rfl
 | b1 n k u=>cases k<;>exact .of rfl
 | _=>exact .of rfl
def xF(who:Int)(x:Core.X):Nat→SV
 | 0=>.i .u8 x.op
 | 1=>.i .i64 x.pol
 | 2=>.d (am 1 (aM .u8) x.key)
 | 3=>.i .i64 x.n
 | 4=>.ptr 0 0
 | 5=>.i .i64 who
 | 6=>.i .u64 x.sum
 | 7=>.b x.res
 | _=>.i .i64 x.ser
structure XB where
 n:Nat
 f:Nat→SV
def av(ps:List Pol)(room:Int)(g:Nat→SV):Nat→SV
 | 0=>.d (am 4 Pol.D ps)
 | 1=>.i .u64 room
 | 2=>ar
 | j+3=>g j
def coreB(ps:List Pol)(room:Int)(g:Nat→SV):Blk:=.cf 13 67 (av ps room g)
def xB(o:XB):Blk:=.cf 1 o.n o.f
@[reducible] def coreT(ps:List Pol)(room:Int)(g:Nat→SV)(M:Core.Mc)(o:Nat→XB)(l nl:Nat)(cnt:Int)(r:List (Nat×Option Blk)):List (Nat×Option Blk) :=
 [(0,some (coreB ps room g)),(1,some (cu 2 l 34 nl M.clk cnt)),(2,some (co 34 M.W)),(3,some (gK M.Hd)),(4,some (xB (o 0))),(5,some (xB (o 1))),(6,some (xB (o 2))),(7,some (xB (o 3))),(8,some (xB (o 4))),(9,some (xB (o 5))),(10,some (xB (o 6))),(11,some (xB (o 7))),(12,some (xB (o 8)))]++r
def a8(who:Int)(x:Core.X)(o:Nat→XB):Nat→XB
 | 0=>⟨9,xF who x⟩
 | i+1=>o i
def ao(ps:List Pol)(room:Int)(g:Nat→SV)(M:Core.Mc)(o:Nat→XB)(nl:Nat)(f:Nat→List D)(cnt:Int):List (Nat×Option Blk) :=
 coreT ps room g M o 13 nl cnt [(13,some (bK nl f))]
def a6(ps:List Pol)(room:Int)(g:Nat→SV)(M:Core.Mc)(o:Nat→XB)(nl:Nat)(f:Nat→List D)(cnt:Int)(a:List D):List (Nat×Option Blk) :=
 coreT ps room g M o 14 (aC nl) (cnt+1) [(13,none),(14,some (bK (aC nl) (bO nl f a)))]
structure COK(ps:List Pol)(room who:Int)(g:Nat→SV)(M:Core.Mc)(o:Nat→XB)(nl:Nat)(cnt:Int):Prop where
 w0:0≤who
 w1:who<64
 nl:nl≤128
 c0:0≤cnt
 c1:cnt≤4611686018427387903
 g:∀j,SV.Lt 13 (g j)
 o:∀i j,SV.Lt 1 ((o i).f j)
 d0:0≤M.W 0
 d1:M.W 0≤8
 hd:∀w,Hc ps 16000000 (M.Hd w)
 ps:cr ps=0
 room:1≤room∧room≤4096
 c32:0≤M.W 32∧M.W 32≤4096
 c33:0≤M.W 33∧M.W 33≤4611686018427387903
theorem cN(who:Int)(x:Core.X)(j:Nat):SV.Lt 1 (xF who x j):=by
 unfold xF
 split<;>first|exact .of rfl
theorem aR{ps:List Pol}{room:Int}{g:Nat→SV}(hg:∀j,SV.Lt 13 (g j))(j:Nat):SV.Lt 13 (av ps room g j):=by
 rcases j with _|_|_|j
 ·exact .of rfl
 ·exact .of rfl
 ·exact .of rfl
 ·exact hg j
theorem id13{L:List Nat}{i:Nat}(hi:i<13):(0::1::2::3::4::5::6::7::8::9::10::11::12::L).getD i 0=i:=by
 rcases i with _|_|_|_|_|_|_|_|_|_|_|_|_|i<;>first|rfl|omega
theorem nk{S:St}{ps:List Pol}{room:Int}{g:Nat→SV}(hg:∀j,SV.Lt 13 (g j)){L:List Nat}:∀j,j<67→aj S (0::1::2::3::4::5::6::7::8::9::10::11::12::L) (av ps room g j) (av ps room g j)∧SV.Lt 13 (av ps room g j) :=
 fun j _=>⟨.same (aR hg j) (by simp) fun i hi=>id13 hi,aR hg j⟩
theorem qH{S:St}{ps:List Pol}{room:Int}{g:Nat→SV}(hg:∀j,SV.Lt 13 (g j)){L:List Nat}{π:Nat→Nat}(hπ:∀l,l<13→π l=l):∀j,j<67→aj S (0::1::2::3::4::5::6::7::8::9::10::11::12::L) (SV.ren π (av ps room g j)) (av ps room g j)∧SV.Lt 13 (av ps room g j) :=
 fun j hj=>⟨by rw[SV.ren_same hπ (aR hg j)];exact(nk hg j hj).1,aR hg j⟩
theorem em{ps:List Pol}{room:Int}{g:Nat→SV}(hg:∀j,SV.Lt 13 (g j)){L:List Nat}:∀j,j<67→ae (0::1::2::3::4::5::6::7::8::9::10::11::12::L) (av ps room g j) (av ps room g j)∧SV.Lt 13 (av ps room g j) :=
 fun j _=>⟨.same (aR hg j) (by simp) fun i hi=>id13 hi,aR hg j⟩
theorem c7{ps:List Pol}{room:Int}{g:Nat→SV}(hg:∀j,SV.Lt 13 (g j)){L:List Nat}{π:Nat→Nat}(hπ:∀l,l<13→π l=l):∀j,j<67→ae (0::1::2::3::4::5::6::7::8::9::10::11::12::L) (SV.ren π (av ps room g j)) (av ps room g j)∧SV.Lt 13 (av ps room g j) :=
 fun j hj=>⟨by rw[SV.ren_same hπ (aR hg j)];exact(em hg j hj).1,aR hg j⟩
theorem a7{S:St}{n:Nat}{f:Nat→SV}(hf:∀j,SV.Lt 1 (f j)){L:List Nat}:∀j,j<n→aj S (0::L) (f j) (f j)∧SV.Lt 1 (f j) :=
 fun j _=>⟨.same (hf j) (by simp) fun i hi=>by obtain rfl:i=0:=(by omega);rfl,hf j⟩
theorem ax{S:St}{n:Nat}{f:Nat→SV}(hf:∀j,SV.Lt 1 (f j)){L:List Nat}{π:Nat→Nat}(hπ:π 0=0):∀j,j<n→aj S (0::L) (SV.ren π (f j)) (f j)∧SV.Lt 1 (f j) :=
 fun j hj=>⟨by rw[SV.ren_same (m:=1) (fun l hl=>by obtain rfl:l=0:=(by omega);exact hπ) (hf j)];exact(a7 hf j hj).1,hf j⟩
theorem eY{n:Nat}{f:Nat→SV}(hf:∀j,SV.Lt 1 (f j)){L:List Nat}:∀j,j<n→ae (0::L) (f j) (f j)∧SV.Lt 1 (f j) :=
 fun j _=>⟨.same (hf j) (by simp) fun i hi=>by obtain rfl:i=0:=(by omega);rfl,hf j⟩
theorem cn{n:Nat}{f:Nat→SV}(hf:∀j,SV.Lt 1 (f j)){L:List Nat}{π:Nat→Nat}(hπ:π 0=0):∀j,j<n→ae (0::L) (SV.ren π (f j)) (f j)∧SV.Lt 1 (f j) :=
 fun j hj=>⟨by rw[SV.ren_same (m:=1) (fun l hl=>by obtain rfl:l=0:=(by omega);exact hπ) (hf j)];exact(eY hf j hj).1,hf j⟩
theorem rj{S:St}{who:Int}(x:Core.X)(π:Nat→Nat){L:List Nat}(hπ:π 0=0:=by rfl):∀j,j<9→aj S (0::L) (bif Nat.beq j 7 then .b true else SV.ren π (xF who x j)) (xF who { x with res:=true } j)∧SV.Lt 1 (xF who { x with res:=true } j):=fun j hj=>by
 have h:=ax (S:=S) (n:=9) (cN who x) (L:=L) hπ
 refine⟨?_,cN _ _ _⟩
 by_cases e:j=7
 ·subst e;exact aj.lt0 (SV.Lt.of rfl)
 ·have e2:Nat.beq j 7=false:=by
   cases h:Nat.beq j 7 with
   | false=>rfl
   | true=>exact absurd (Q2 h) e
  have e3:xF who { x with res:=true } j=xF who x j:=by
   rcases j with _|_|_|_|_|_|_|_|j<;>first|rfl|exact absurd rfl e
  rw[e2,e3];exact(h j hj).1
theorem af.seal14{S:St}{x r:SV}{H':List (Nat×Option Blk)}{l:Nat}(hH:n8 S [0,1,2,3,4,5,6,7,8,9,10,11,12,13,l] H')(hx:aj S [0,1,2,3,4,5,6,7,8,9,10,11,12,13,l] x r)(hd:bq [0,1,2,3,4,5,6,7,8,9,10,11,12,13,l]=true):af 14 S x 15 r H' :=
 af.sealB _ rfl rfl hd hx hH
theorem aj.sl14{S:St}{l z o n:Nat}:aj S [0,1,2,3,4,5,6,7,8,9,10,11,12,13,l] (.sl l z o n) (.sl 14 z o n) :=
 ⟨fun O E a w v hs hv=>by
  cases hv with
  | sl _ _ _ _ ad cap hl hc hm ha h0=>exact .sl _ _ _ _ _ _ (by simp) hc hm ha h0⟩
theorem ae.sl13{l z o n:Nat}:ae [0,1,2,3,4,5,6,7,8,9,10,11,12,l] (.sl l z o n) (.sl 13 z o n):=by
 refine⟨fun E nx w v hv=>?_⟩
 cases hv with
 | sl _ _ _ _ ad cap hl hc hm ha h0=>exact .sl _ _ _ _ _ _ (by simp) hc hm ha h0
theorem ab.fn14{C:Cx}{nt:NT}{nx:Nat}{fr:List (Nat×SV)}{hp:List (Nat×Option Blk)}{g:Nat}{args:List SV}{k:St→SV→Prop}{m':Nat}{args0:List SV}{H H':List (Nat×Option Blk)}{r:SV}{l:Nat}(h:Fun C g 14 args0 H m' r H')
  (hh:aW hp [0,1,2,3,4,5,6,7,8,9,10,11,12,l] H) (ha:bn [0,1,2,3,4,5,6,7,8,9,10,11,12,l] args args0) (hd:bq [0,1,2,3,4,5,6,7,8,9,10,11,12,l]=true) (hlive:dO H 14=true) (hkeys:dP H' 14=true) (hlt:cG H' m'=true)
  (hk:k ⟨nt,nx+(m'-14),fr,bg (πf [0,1,2,3,4,5,6,7,8,9,10,11,12,l] nx) hp H'⟩ (nS (πf [0,1,2,3,4,5,6,7,8,9,10,11,12,l] nx) r)):ab C ⟨nt,nx,fr,hp⟩ g args k :=
 .fn h _ rfl hd hlive hkeys hlt ha hh hk
end
end Go.Proofs.YtlkccdlgnpkjpaaGreat
