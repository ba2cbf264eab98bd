/- Lemmas of Cc13, Cc14, Cc14b, Cd1, Cd2. No condition. -/
import Derived.Test.YtlkccdlgnpkjpaaGreatMO14
set_option linter.unusedVariables false
set_option linter.unusedSimpArgs false
set_option linter.unusedSectionVars false
set_option maxHeartbeats 80000000
set_option maxRecDepth 100000
namespace Go.Proofs.YtlkccdlgnpkjpaaGreat
open Go.RowKit
section
variable{ps:List Pol}{room who:Int}{g:Nat→SV}{M:Core.Mc}{o:Nat→XB}{nl:Nat}{f:Nat→List D}{cnt:Int}{x:Core.X}{nl0:Nat}{cnt0:Int}
@[reducible] def evC(ps:List Pol)(room who:Int)(g:Nat→SV)(M:Core.Mc)(x:Core.X)(o:Nat→XB)(nl:Nat)(f:Nat→List D)(cnt now:Int)(n:Nat)(xs:List Cel):List (Nat×Option Blk) :=
 coreT ps room g M (a8 who x o) 13 nl cnt [(13,some (bK nl f)),(14,some (.cells [.i .i64 now])),(15,some (.row 89 4 n fun i=>(xs.getD i default).D))]
theorem id16{i:Nat}(hi:i<16):[0,1,2,3,4,5,6,7,8,9,10,11,12,13,14,15].getD i 0=i:=by
 rcases i with _|_|_|_|_|_|_|_|_|_|_|_|_|_|_|_|i<;>first|rfl|omega
theorem zI(hM:COK ps room who g M o nl0 cnt0)(now:Int)(n:Nat)(xs:List Cel)(c:Cel)(h0:0≤c.pol)(h1:c.pol<ps.length) :
  Fun TC 136 16 [c.S,xS,.ptr 14 0] (evC ps room who g M x o nl f cnt now n xs) 16 (.b (aH ps c now)) (evC ps room who g M x o nl f cnt now n xs):=by
 have q5:=hM.g;have qo:=hM.o
 refine Fun.mk' Tryz.func136 rfl rfl zN (by decide) ?_
 (repeat' (first|((first|refine Wp.any ac rfl ?_|(with_reducible first|refine Go.mk ?_|apply ai.of)|refine zV ?_);conv=>whnf)|((with_reducible refine At.mk' _ rfl ?_);(refine And.intro zN ?_);conv=>whnf)|((with_reducible refine ag.pure (nA ps c now h0 h1) rfl rfl ?_);conv=>whnf)))
 ((refine af.sealB [0,1,2,3,4,5,6,7,8,9,10,11,12,13,14,15] rfl rfl rfl ?_ ?_);(focus((conv=>whnf);(repeat' (first|exact aj.d))));(focus((conv=>whnf);(repeat' (first|exact zD9|exact a7 (qo _)|((refine And.intro ?_ ?_)<;>(conv=>whnf)))))))
theorem nC(hM:COK ps room who g M o nl0 cnt0)(now:Int)(xs:List Cel)(hp:∀j,j<xs.length→0≤(xs.getD j default).pol∧(xs.getD j default).pol<ps.length)(hlen:xs.length≤4611686018427387903) :
  Fun TC 55 16 [.sl 15 4 0 xs.length,.fn (.func 136) [xS,.ptr 14 0]] (evC ps room who g M x o nl f cnt now xs.length xs) 16 (.i .i64 (if fst (fun c=>aH ps c now) xs<xs.length then fst (fun c=>aH ps c now) xs else -1)) (evC ps room who g M x o nl f cnt now xs.length xs):=by
 have q5:=hM.g;have qo:=hM.o
 refine Fun.mk' Tryz.func55 rfl rfl zN (by decide) ?_
 (repeat' (first|((first|refine Wp.any ac rfl ?_|(with_reducible first|refine Go.mk ?_|apply ai.of));conv=>whnf)))
 refine Wp.loopP (ι:=Nat) (fun i=>i≤xs.length∧∀j,j<i→aH ps (xs.getD j default) now=false) (fun i=>⟨⟨Tryz.f55.ntmps,16⟩,16,[(0,.sl 15 4 0 xs.length),(1,.fn (.func 136) [xS,.ptr 14 0]),(7,.i .i64 xs.length),(8,.i .i64 i)],evC ps room who g M x o nl f cnt now xs.length xs⟩) (fun i=>xs.length-i) 0 ⟨by simp,by simp⟩ ?_ ?_
 ·(refine Le.by [0,1,2,3,4,5,6,7,8,9,10,11,12,13,14,15] rfl rfl rfl rfl ?_ ?_<;>(conv=>whnf)<;>(repeat' (first|exact trivial|exact ae.rfl rfl|exact ae.ptr rfl|exact ae.sl rfl|((refine ae.fn ?_);(conv=>whnf))|((refine ae.iref ?_);(conv=>whnf))|exact⟨rfl,rfl,rfl⟩|exact⟨rfl,zzb rfl⟩|exact em (by assumption)|exact eY (qo _)|exact eY (cN _ _)|exact fun i hi=>rfl|((with_reducible refine And.intro ?_ ?_)<;>(conv=>whnf)))))
 ·rintro i ⟨h1,h2⟩
  (repeat' (first|((first|refine Wp.any ac rfl ?_|(with_reducible first|refine Go.mk ?_|apply ai.of|refine Ov.ok zO ?_|refine And.intro zC ?_));conv=>whnf)|((refine ab.fn (zI (x:=x) (nl:=nl) (f:=f) (cnt:=cnt) hM now xs.length xs (xs.getD (0+(i:Int).toNat) default) (hp _ (by omega)).1 (hp _ (by omega)).2) [0,1,2,3,4,5,6,7,8,9,10,11,12,13,14,15] rfl rfl rfl rfl rfl ?ha ?hh ?_);(case ha=>exact zz18);(case hh=>exact zz1);(conv=>whnf))|((refine aq (fun hc=>?_) (fun hc=>?_))<;>(try simp only[wz9]at hc)<;>(try (exfalso;omega))<;>(conv=>whnf))))
  ·simp only[Q13,Q19]at hc
   have hf:fst (fun c=>aH ps c now) xs=i:=by
    rw[fq _ xs i h1 h2,dS (by omega),fst,if_pos hc];rfl
   refine af.of [0,1,2,3,4,5,6,7,8,9,10,11,12,13,14,15] rfl (fun i hi=>id16 hi) rfl ?_ ?_
   ·exact .i (by rw[hf,if_pos (by omega)])
   ·((conv=>whnf);repeat' (first|exact zH9|exact cn (qo _) rfl|((with_reducible refine And.intro ?_ ?_)<;>(conv=>whnf))))
  ·simp only[Q13,Q19]at hc
   refine⟨i+1,⟨by omega,fun j hj=>?_⟩,by dsimp only;omega,?_⟩
   ·by_cases e:j=i
    ·subst e;exact hc
    ·exact h2 j (by omega)
   ·(refine Le.by [0,1,2,3,4,5,6,7,8,9,10,11,12,13,14,15] rfl rfl rfl rfl ?_ ?_<;>(conv=>whnf)<;>(repeat' (first|exact trivial|exact ae.rfl rfl|exact ae.ptr rfl|exact ae.sl rfl|((refine ae.fn ?_);(conv=>whnf))|((refine ae.iref ?_);(conv=>whnf))|exact⟨rfl,rfl,rfl⟩|exact⟨rfl,zzb rfl⟩|exact c7 (by assumption) (fun l hl=>by rcases l with _|_|_|_|_|_|_|_|_|_|_|_|_|l<;>first|rfl|omega)|exact cn (qo _) rfl|exact cn (cN _ _) rfl|exact fun i hi=>rfl|((with_reducible refine And.intro ?_ ?_)<;>(conv=>whnf)))))
  ·have hf:fst (fun c=>aH ps c now) xs=xs.length:=by
    rw[fq _ xs i h1 h2,List.drop_eq_nil_of_le (by omega),fst];omega
   refine af.of [0,1,2,3,4,5,6,7,8,9,10,11,12,13,14,15] rfl (fun i hi=>id16 hi) rfl ?_ ?_
   ·exact .i (by rw[hf,if_neg (by omega)])
   ·((conv=>whnf);repeat' (first|exact zH9|exact eY (qo _)|((with_reducible refine And.intro ?_ ?_)<;>(conv=>whnf))))
theorem mi(hM:COK ps room who g M o nl0 cnt0)(now:Int)(xs:List Cel)(hp:∀j,j<xs.length→0≤(xs.getD j default).pol∧(xs.getD j default).pol<ps.length)(hlen:xs.length≤4611686018427387903) :
  Fun TC 25 16 [.sl 15 4 0 xs.length,.fn (.func 136) [xS,.ptr 14 0]] (evC ps room who g M x o nl f cnt now xs.length xs) 16 (.sl 15 4 0 (dd ps now xs).length) (evC ps room who g M x o nl f cnt now (dd ps now xs).length (dd ps now xs)):=by
 have q5:=hM.g;have qo:=hM.o
 refine Fun.mk' Tryz.func25 rfl rfl zN (by decide) ?_
 have hfl:=te (fun c=>aH ps c now) xs
 (repeat' (first|((first|refine Wp.any ac rfl ?_|(with_reducible first|refine Go.mk ?_|apply ai.of|refine Ov.ok zO ?_));conv=>whnf)|((refine ab.fn (nC (x:=x) (nl:=nl) (f:=f) (cnt:=cnt) hM now xs hp hlen) [0,1,2,3,4,5,6,7,8,9,10,11,12,13,14,15] rfl rfl rfl rfl rfl ?ha ?hh ?_);(case ha=>exact zz19);(case hh=>exact zz1);(conv=>whnf))|((refine aq (fun hc=>?_) (fun hc=>?_))<;>(try simp only[wz9]at hc)<;>(try (exfalso;omega))<;>(conv=>whnf))))
 ·have hf:fst (fun c=>aH ps c now) xs=xs.length:=by
   by_cases h:fst (fun c=>aH ps c now) xs<xs.length
   ·rw[if_pos h]at hc;omega
   ·omega
  have hst:dd ps now xs=xs:=by
   have:=gN (fun c=>aH ps c now) xs xs.length (by omega)
   rw[List.take_length]at this;exact this
  rw[hst]
  refine af.of [0,1,2,3,4,5,6,7,8,9,10,11,12,13,14,15] rfl (fun i hi=>id16 hi) rfl ?_ ?_
  ·exact .rfl _
  ·((conv=>whnf);repeat' (first|exact zH9|exact cn (qo _) rfl|((with_reducible refine And.intro ?_ ?_)<;>(conv=>whnf))))
 ·have hlt:fst (fun c=>aH ps c now) xs<xs.length:=by
   by_cases h:fst (fun c=>aH ps c now) xs<xs.length
   ·exact h
   ·rw[if_neg h]at hc;exact absurd rfl hc
  rw[if_pos hlt]
  have h0:dd ps now (xs.take (fst (fun c=>aH ps c now) xs+1))=xs.take (fst (fun c=>aH ps c now) xs):=by
   rw[aI hlt,dd,List.filter_append,gN (fun c=>aH ps c now) xs _ (Q4 _)]
   have:=oj (fun c=>aH ps c now) xs hlt
   simp only[List.filter_cons,List.filter_nil]
   rw[if_neg (by simpa using this),List.append_nil]
  generalize fst (fun c=>aH ps c now) xs=q at *
  refine Wp.loopP (ι:=Nat×Nat×List Cel) (fun k=>k.1<k.2.1∧k.2.1≤xs.length∧k.2.2.length=xs.length∧k.2.2.take k.1=dd ps now (xs.take k.2.1)∧∀j,k.2.1≤j→k.2.2.getD j default=xs.getD j default) (fun k=>⟨⟨Tryz.f25.ntmps,16⟩,16,[(0,.sl 15 4 0 xs.length),(1,.fn (.func 136) [xS,.ptr 14 0]),(5,.i .i64 k.1),(6,.i .i64 k.2.1)],evC ps room who g M x o nl f cnt now xs.length k.2.2⟩) (fun k=>xs.length-k.2.1) (q,q+1,xs) ⟨by simp,hlt,rfl,h0.symm,fun _ _=>rfl⟩ ?_ ?_
  ·(refine Le.by [0,1,2,3,4,5,6,7,8,9,10,11,12,13,14,15] rfl rfl rfl rfl ?_ ?_<;>(conv=>whnf)<;>(repeat' (first|exact trivial|exact ae.rfl rfl|exact ae.ptr rfl|exact ae.sl rfl|((refine ae.fn ?_);(conv=>whnf))|((refine ae.iref ?_);(conv=>whnf))|exact⟨rfl,rfl,rfl⟩|exact⟨rfl,zzb rfl⟩|exact c7 (by assumption) (fun l hl=>by rcases l with _|_|_|_|_|_|_|_|_|_|_|_|_|l<;>first|rfl|omega)|exact cn (qo _) rfl|exact cn (cN _ _) rfl|exact fun i hi=>rfl|((with_reducible refine And.intro ?_ ?_)<;>(conv=>whnf)))))
  ·rintro⟨i,j,zs⟩ ⟨h1,h2,h3,h4,h5⟩
   dsimp only at h1 h2 h3 h4 h5⊢
   have hpz:∀m,j≤m→m<xs.length→0≤(zs.getD m default).pol∧(zs.getD m default).pol<ps.length:=fun m hm hm2=>by rw[h5 m hm];exact hp m hm2
   (repeat' (first|((first|refine Wp.any ac rfl ?_|(with_reducible first|refine Go.mk ?_|apply ai.of|refine Ov.ok zO ?_|refine And.intro zC ?_));conv=>whnf)|((refine ab.fn (zI (x:=x) (nl:=nl) (f:=f) (cnt:=cnt) hM now xs.length zs (zs.getD (0+(j:Int).toNat) default) (hpz _ (by omega) (by omega)).1 (hpz _ (by omega) (by omega)).2) [0,1,2,3,4,5,6,7,8,9,10,11,12,13,14,15] rfl rfl rfl rfl rfl ?ha ?hh ?_);(case ha=>exact zz18);(case hh=>exact zz1);(conv=>whnf))|((refine aq (fun hc=>?_) (fun hc=>?_))<;>(try simp only[wz9]at hc)<;>(try (exfalso;omega))<;>(conv=>whnf))))
   all_goals simp only[Q13,Q19]at *
   ·rename_i hj hc0
    have hx:aH ps (xs.getD j default) now=false:=by rw[← h5 j (Q4 _)];exact hc
    have hg:∀m,(zs.set i (zs.getD j default)).getD m default=if i=m then zs.getD j default else zs.getD m default:=fun m=>by
     simp only[Q1,List.getElem?_set]
     by_cases e:i=m
     ·subst e;rw[if_pos rfl,if_pos (by omega),if_pos rfl];rfl
     ·rw[if_neg e,if_neg e]
    refine⟨(i+1,j+1,zs.set i (zs.getD j default)),⟨by dsimp only;omega,by dsimp only;omega,by simpa using h3,?_,fun m hm=>?_⟩,by dsimp only;omega,?_⟩
    ·dsimp only
     rw[aI (by rw[List.length_set];omega),List.take_set_of_le (Q4 _),h4,hg,if_pos rfl,aI (xs:=xs) (by omega),dd,dd,List.filter_append,h5 j (Q4 _)]
     congr 1
     simp only[List.filter_cons,List.filter_nil]
     rw[if_pos (by rw[hx];rfl)]
    ·dsimp only at hm⊢
     rw[hg,if_neg (by omega)];exact h5 m (by omega)
    ·(refine Le.by [0,1,2,3,4,5,6,7,8,9,10,11,12,13,14,15] rfl rfl rfl rfl ?_ ?_<;>(conv=>whnf)<;>(repeat' (first|exact trivial|exact ae.rfl rfl|exact ae.ptr rfl|exact ae.sl rfl|((refine ae.fn ?_);(conv=>whnf))|((refine ae.iref ?_);(conv=>whnf))|exact⟨rfl,rfl,rfl⟩|exact⟨rfl,zzb rfl⟩|exact c7 (by assumption) (fun l hl=>by rcases l with _|_|_|_|_|_|_|_|_|_|_|_|_|l<;>first|rfl|omega)|exact cn (qo _) rfl|exact cn (cN _ _) rfl|exact fun i hi=>rfl|((with_reducible refine And.intro ?_ ?_)<;>(conv=>whnf)))))
     intro m hm
     dsimp only
     rw[hg]
     by_cases e:i=m
     ·subst e;simp;rfl
     ·rw[if_neg e,if_neg (fun h=>e (by omega))]
   ·rename_i hj hc0
    have hx:aH ps (xs.getD j default) now=true:=by rw[← h5 j (Q4 _)];exact hc
    refine⟨(i,j+1,zs),⟨by dsimp only;omega,by dsimp only;omega,h3,?_,fun m hm=>?_⟩,by dsimp only;omega,?_⟩
    ·dsimp only
     rw[h4,aI (xs:=xs) (by omega),dd,dd,List.filter_append]
     simp only[List.filter_cons,List.filter_nil]
     rw[if_neg (by rw[hx];simp),List.append_nil]
    ·exact h5 m (by dsimp only at hm;omega)
    ·(refine Le.by [0,1,2,3,4,5,6,7,8,9,10,11,12,13,14,15] rfl rfl rfl rfl ?_ ?_<;>(conv=>whnf)<;>(repeat' (first|exact trivial|exact ae.rfl rfl|exact ae.ptr rfl|exact ae.sl rfl|((refine ae.fn ?_);(conv=>whnf))|((refine ae.iref ?_);(conv=>whnf))|exact⟨rfl,rfl,rfl⟩|exact⟨rfl,zzb rfl⟩|exact c7 (by assumption) (fun l hl=>by rcases l with _|_|_|_|_|_|_|_|_|_|_|_|_|l<;>first|rfl|omega)|exact cn (qo _) rfl|exact cn (cN _ _) rfl|exact fun i hi=>rfl|((with_reducible refine And.intro ?_ ?_)<;>(conv=>whnf)))))
   ·have hj:j=xs.length:=by omega
    subst hj
    rw[List.take_length]at h4
    have hl:(dd ps now xs).length=i:=by rw[← h4,Q10,h3];omega
    refine af.of [0,1,2,3,4,5,6,7,8,9,10,11,12,13,14,15] rfl (fun i hi=>id16 hi) rfl ?_ ?_
    ·exact .of_eq (by rw[hl];simp)
    ·((conv=>whnf);repeat' (first|exact zH9|exact eY (qo _)|((with_reducible refine And.intro ?_ ?_)<;>(conv=>whnf))))
     ·exact hl.symm
     ·intro m hm
      dsimp only
      rw[← h4]
      simp only[Q1,Q15]
      rw[if_pos (by omega)]
end
section
variable{ps:List Pol}{room who:Int}{g:Nat→SV}{M:Core.Mc}{o:Nat→XB}{nl:Nat}{f:Nat→List D}{cnt:Int}{x:Core.X}
theorem shl_e0{d:Int}(h0:0≤d)(h8:d≤8):IntKind.i64.wrap (1*2^min ((d+1)/2).toNat IntKind.i64.bits)=((2^((d+1)/2).toNat:Nat):Int):=by
 have h:d=0∨d=1∨d=2∨d=3∨d=4∨d=5∨d=6∨d=7∨d=8:=by omega
 rcases h with rfl|rfl|rfl|rfl|rfl|rfl|rfl|rfl|rfl<;>decide
theorem step_e0(hM:COK ps room who g M o nl cnt)(_:True):Fun TC 100 14 [xS] (ao ps room g M (a8 who x o) nl f cnt)
  15 (.tup [cl (aa ps room) who (Core.step (aa ps room) M x .e0).x (Core.step (aa ps room) M x .e0).s,rsS (Core.step (aa ps room) M x .e0).r])
   (a6 ps room g (Core.step (aa ps room) M x .e0).M (a8 who (Core.step (aa ps room) M x .e0).x o) nl f cnt (bZ who 1 0 (M.W 0) 0 true)):=by
 obtain⟨q0,q1,q2,q3,q4,q5,qo,q6,q7,q8⟩:=id hM
 have qr:=QR q6
 have hN:=pc (x:=x) (f:=f) hM 0 (by omega)
 have hE:=tv (x:=x) (nl:=aC nl) (f:=bO nl f (bZ who 1 0 (M.W 0) 0 true)) (cnt:=cnt+1) hM 0 (2^((M.W 0+1)/2).toNat) 0 (by omega)
 have e1:=shl_e0 q6 q7
 rw[← e1]at hE
 refine Fun.mk' Tryz.func100 rfl rfl zN (by decide) ?_
 (repeat' (first|((first|refine Wp.any ac rfl ?_|(with_reducible first|refine Go.mk ?_|apply ai.of|refine Ov.ok zO ?_|refine And.intro zC ?_));conv=>whnf)|(with_reducible refine ab.inline Tryz.func102 rfl rfl rfl (zzb rfl) ?_)|((apply ab.fn14 (h:=hN));(case hh=>exact zz1);(case ha=>exact zA);(case hd=>exact rfl);(case hlive=>exact rfl);(case hkeys=>exact rfl);(case hlt=>exact rfl);(conv=>whnf))|(with_reducible refine Ov.tdivC (by omega) ?_)|((apply ab.fn14 (h:=hE));(case hh=>exact zz17);(case ha=>exact zA);(case hd=>exact rfl);(case hlive=>exact rfl);(case hkeys=>exact rfl);(case hlt=>exact rfl);(conv=>whnf))))
 rw[show Core.step (aa ps room) M x .e0=⟨M,x,.k0 (.ev 0 (2^((M.W 0+1)/2).toNat) 0),Core.r0⟩ from rfl];dsimp only;((apply af.seal14);(case hH=>exact zz4);(case hx=>exact zz0);(case hd=>exact rfl))
theorem step_eC(hM:COK ps room who g M o nl cnt)(j sh:Nat)(gn:Int)(w:Nat)(v:Int)(h:List Cel)(hj:j<sh)(hs:sh≤16)(hh:Hc ps 16000000 h):Fun TC 134 14 [xS,bx (.d (am 4 Cel.D h)),bx (furS j sh),bx (.i .i64 gn),bx (.i .i64 w),bx (.i .u64 v)] (ao ps room g M (a8 who x o) nl f cnt)
  15 (.tup [cl (aa ps room) who (Core.step (aa ps room) M x (.eC j sh gn w v h)).x (Core.step (aa ps room) M x (.eC j sh gn w v h)).s,rsS (Core.step (aa ps room) M x (.eC j sh gn w v h)).r])
   (a6 ps room g (Core.step (aa ps room) M x (.eC j sh gn w v h)).M (a8 who (Core.step (aa ps room) M x (.eC j sh gn w v h)).x o) nl f cnt (bZ who 3 0 (IntKind.u64.wrap M.clk) 0 true)):=by
 obtain⟨q0,q1,q2,q3,q4,q5,qo,q6,q7,q8⟩:=id hM
 have qr:=QR q6
 have hN:=now_c (x:=x) (f:=f) hM
 have hF:=fm (x:=x) (nl:=aC nl) (f:=bO nl f (bZ who 3 0 (IntKind.u64.wrap M.clk) 0 true)) (cnt:=cnt+1) hM j sh gn hj hs
 have hl:=hh.len
 have hD:=mi (x:=x) (nl:=aC nl) (f:=bO nl f (bZ who 3 0 (IntKind.u64.wrap M.clk) 0 true)) (cnt:=cnt+1) hM M.clk h (fun j hj=>(hh.get hj).pol) (by omega)
 have hle:(dd ps M.clk h).length≤h.length:=List.length_filter_le _ _
 have hS:Core.step (aa ps room) M x (.eC j sh gn w v h)=if(dd ps M.clk h).length=h.length then Core.same M x (Core.further j sh gn)else⟨M,x,.eS j sh gn w v (dd ps M.clk h) ((h.length:Int)-(dd ps M.clk h).length),Core.r0⟩:=rfl
 have hC:=ja h (by omega)
 generalize dd ps M.clk h=r at hD hle hS
 rcases dt j sh gn with e|e
 all_goals
  rw[e]at hF
  refine Fun.mk' Tryz.func134 rfl rfl zN (by decide) ?_
  (repeat' (first|((first|refine Wp.any ac rfl ?_|(with_reducible first|refine Go.mk ?_|apply ai.of|refine Ov.ok zO ?_));conv=>whnf)|(with_reducible refine ab.inline Tryz.func102 rfl rfl rfl (zzb rfl) ?_)|((apply ab.fn14 (h:=hN));(case hh=>exact zz1);(case ha=>exact zA);(case hd=>exact rfl);(case hlive=>exact rfl);(case hkeys=>exact rfl);(case hlt=>exact rfl);(conv=>whnf))|((refine ab.fn (hC) [] rfl rfl rfl rfl rfl ?ha ?hh ?_);(case ha=>exact zA);(case hh=>exact zH);(conv=>whnf))|((refine ab.fn (hD) [0,1,2,3,4,5,6,7,8,9,10,11,12,15,16,17] rfl rfl rfl rfl rfl ?ha ?hh ?_);(case ha=>exact zz19);(case hh=>exact zz17);(conv=>whnf))|((apply ab.fn14 (h:=hF));(case hh=>exact zz17);(case ha=>exact zA);(case hd=>exact rfl);(case hlive=>exact rfl);(case hkeys=>exact rfl);(case hlt=>exact rfl);(conv=>whnf))|((refine aq (fun hc=>?_) (fun hc=>?_))<;>(try simp only[wz9]at hc)<;>(try (exfalso;omega))<;>(conv=>whnf))))
  ·rw[hS,if_pos (by omega),e];dsimp only[Core.same];((apply af.seal14);(case hH=>exact zz4);(case hx=>exact zz0);(case hd=>exact rfl))
  ·rw[hS,if_neg (by omega)];dsimp only;((apply af.seal14);(case hH=>exact zz4);(case hx=>exact zz7);(case hd=>exact rfl))
end
section
variable{ps:List Pol}{room who:Int}{g:Nat→SV}{M:Core.Mc}{o:Nat→XB}{nl:Nat}{f:Nat→List D}{cnt:Int}{x:Core.X}
theorem step_eS(hM:COK ps room who g M o nl cnt)(j sh:Nat)(gn:Int)(w:Nat)(v:Int)(m:List Cel)(n:Int)(hj:j<sh)(hs:sh≤16)(hw1:1≤w)(hw:w<32)(hv:0≤v∧v<4611686018427387904)(hn:1≤n∧n≤1000000000):Fun TC 137 14 [xS,bx (.i .i64 w),bx (.i .u64 v),bx (.d (am 4 Cel.D m)),bx (furS j sh),bx (.i .i64 gn),bx (.i .i64 n)] (ao ps room g M (a8 who x o) nl f cnt)
  15 (.tup [cl (aa ps room) who (Core.step (aa ps room) M x (.eS j sh gn w v m n)).x (Core.step (aa ps room) M x (.eS j sh gn w v m n)).s,rsS (Core.step (aa ps room) M x (.eS j sh gn w v m n)).r])
   (a6 ps room g (Core.step (aa ps room) M x (.eS j sh gn w v m n)).M (a8 who (Core.step (aa ps room) M x (.eS j sh gn w v m n)).x o) nl f cnt (bZ who 2 w v (v+1) (decide (M.W w=v)))):=by
 obtain⟨q0,q1,q2,q3,q4,q5,qo,q6,q7,q8⟩:=id hM
 have qr:=QR q6
 have hF:=fm (x:=x) (nl:=aC nl) (f:=bO nl f (bZ who 2 w v (v+1) (decide (M.W w=v)))) (cnt:=cnt+1) hM j sh gn hj hs
 have hS:Core.step (aa ps room) M x (.eS j sh gn w v m n)=if M.W w=v then⟨M.set w (v+1) m,x,.b0 n (.ev j sh gn),Core.r0⟩else Core.same M x (Core.further j sh gn):=rfl
 have hSw:=aF nl M.W M.Hd f M.clk cnt who v (v+1) w m q2 q3 q4 q0 q1 (by omega)
 by_cases hm:M.W w=v
 ·rw[if_pos hm]at hS
  rw[if_pos hm,if_pos hm]at hSw
  refine Fun.mk' Tryz.func137 rfl rfl zN (by decide) ?_
  (repeat' (first|((first|refine Wp.any ac rfl ?_|(with_reducible first|refine Go.mk ?_|apply ai.of|refine Ov.ok zO ?_)|refine zV ?_);conv=>whnf)|(with_reducible refine ab.inline Tryz.func102 rfl rfl rfl (zzb rfl) ?_)|(with_reducible refine ab.inline Tryz.func138 rfl rfl rfl (zzb rfl) ?_)|(with_reducible refine ab.inline Tryz.func169 rfl rfl rfl (zzb rfl) ?_)|((with_reducible refine At.mk' _ rfl ?_);(refine And.intro zN ?_);conv=>whnf)|((refine ag.new (hSw) [1,2,3,13] [] rfl rfl rfl rfl rfl rfl ?ha ?hh ?hs ?_);(case ha=>exact zA);(case hh=>exact zH);(case hs=>exact zK);(conv=>whnf))|((with_reducible refine Ov.mk ?_);conv=>whnf)|((refine aq (fun hc=>?_) (fun hc=>?_))<;>(try simp only[wz9]at hc)<;>(try (exfalso;omega))<;>(conv=>whnf))))
  rw[hS];dsimp only;((apply af.seal14);(case hH=>exact zz2);(case hx=>exact zz7);(case hd=>exact rfl))
 ·rw[if_neg hm]at hS
  rw[if_neg hm,if_neg hm]at hSw
  rcases dt j sh gn with e|e
  all_goals
   rw[e]at hF hS
   refine Fun.mk' Tryz.func137 rfl rfl zN (by decide) ?_
   (repeat' (first|((first|refine Wp.any ac rfl ?_|(with_reducible first|refine Go.mk ?_|apply ai.of|refine Ov.ok zO ?_)|refine zV ?_);conv=>whnf)|((with_reducible refine At.mk' _ rfl ?_);(refine And.intro zN ?_);conv=>whnf)|((refine ag.new (hSw) [1,2,3,13] [] rfl rfl rfl rfl rfl rfl ?ha ?hh ?hs ?_);(case ha=>exact zA);(case hh=>exact zH);(case hs=>exact zK);(conv=>whnf))|((apply ab.fn14 (h:=hF));(case hh=>exact zz1);(case ha=>exact zA);(case hd=>exact rfl);(case hlive=>exact rfl);(case hkeys=>exact rfl);(case hlt=>exact rfl);(conv=>whnf))|((refine aq (fun hc=>?_) (fun hc=>?_))<;>(try simp only[wz9]at hc)<;>(try (exfalso;omega))<;>(conv=>whnf))))
   rw[hS];dsimp only[Core.same];((apply af.seal14);(case hH=>exact zz4);(case hx=>exact zz0);(case hd=>exact rfl))
end
def okC(ps:List Pol)(M:Core.Mc)(x:Core.X):Core.CS→Prop
 | .kE f w=>w<32∧Core.fcK ps x f∧Core.okFc f
 | .kF _ lv w=>lv≤3∧w<32
 | .kG _ lv w v _=>(lv≤3∧w<32)∧0≤v∧v<4611686018427387904
 | .kH f _ w _=>w<32∧Core.fcK ps x f∧Core.okFc f
 | .kL _ lv w h=>(lv≤4∧2^lv≤w∧w<32)∧Hc ps 16000000 h
 | .pk c=>Core.Kx ps x∧eH ps c
 | .a1 _ u=>0≤u∧u<4611686018427387903
 | .p1 _ _ _ u=>0≤u∧u<4611686018427387903
 | .pS fd c _=>(Core.Kx ps x∧Core.Fdk ps 15999999 x fd∧eH ps c)∧(1≤fd.w∧fd.w<32)∧0≤fd.v∧fd.v<4611686018427387904
 | .b1 n k u=>((1≤n∧n≤4611686018427387903)∧0≤u∧u<4611686018427387903)∧(M.W 32=u→n≤u)∧Core.okBk n k∧∀j sh gn,k=.ev j sh gn→0≤gn∧gn≤1000000000
 | .eC j sh _ _ _ h=>(j<sh∧sh≤16)∧Hc ps 16000000 h
 | .eS j sh _ w v _ n=>(j<sh∧sh≤16)∧(1≤w∧w<32)∧(0≤v∧v<4611686018427387904)∧1≤n∧n≤1000000000
 | .sM lv=>lv≤3
 | .sF lv i=>lv≤3∧i<2^lv
 | .sG lv i v _=>(lv≤3∧i<2^lv)∧0≤v∧v<4611686018427387904
 | .sH lv i _ _=>lv≤3∧i<2^lv
 | .sL lv i _ h=>(lv≤3∧i<2^lv)∧Hc ps 16000000 h
 | .sV lv=>lv≤3
 | _=>True
theorem b8{ps:List Pol}{room who:Int}{g:Nat→SV}{M:Core.Mc}{o:Nat→XB}{nl:Nat}{f:Nat→List D}{cnt:Int}{x:Core.X}(hM:COK ps room who g M o nl cnt){s:Core.CS}(hn:s≠.none)(hs:okC ps M x s) :
  ∃n caps a,cl (aa ps room) who x s=.fn (.func n) caps∧Fun TC n 14 caps (ao ps room g M (a8 who x o) nl f cnt)
   15 (.tup [cl (aa ps room) who (Core.step (aa ps room) M x s).x (Core.step (aa ps room) M x s).s,rsS (Core.step (aa ps room) M x s).r])
   (a6 ps room g (Core.step (aa ps room) M x s).M (a8 who (Core.step (aa ps room) M x s).x o) nl f cnt a):=by
 cases s with
 | none=>exact absurd rfl hn
 | k0 f0=>exact⟨_,_,_,rfl,step_k0 hM f0⟩
 | kE f0 w=>exact⟨_,_,_,rfl,step_kE hM f0 w hs.1 hs.2.1 hs.2.2⟩
 | kF f0 lv w=>exact⟨_,_,_,rfl,step_kF hM f0 lv w hs.1 hs.2⟩
 | kG f0 lv w v h=>exact⟨_,_,_,rfl,step_kG hM f0 lv w v h hs.1.1 hs.1.2 hs.2.1 hs.2.2⟩
 | kH f0 lv w h=>exact⟨_,_,_,rfl,step_kH hM f0 lv w h hs.1 hs.2.1 hs.2.2⟩
 | kL f0 lv w h=>exact⟨_,_,_,rfl,step_kL hM f0 lv w h hs.1.1 hs.1.2.1 hs.1.2.2 hs.2⟩
 | al fd=>exact⟨_,_,_,rfl,step_al hM fd⟩
 | pk c=>exact⟨_,_,_,rfl,step_pk hM c hs.1 hs.2⟩
 | a0 fd=>exact⟨_,_,_,rfl,step_a0 hM fd⟩
 | a1 fd u=>exact⟨_,_,_,rfl,step_a1 hM fd u hs⟩
 | p0 fd c r=>exact⟨_,_,_,rfl,step_p0 hM fd c r⟩
 | p1 fd c r u=>exact⟨_,_,_,rfl,step_p1 hM fd c r u hs⟩
 | pS fd c r=>exact⟨_,_,_,rfl,step_pS hM fd c r hs.1.1 hs.1.2.1 hs.1.2.2 hs.2.1.1 hs.2.1.2 hs.2.2⟩
 | b0 n k=>exact⟨_,_,_,rfl,step_b0 hM n k⟩
 | b1 n k u=>exact⟨_,_,_,rfl,step_b1 hM n k u hs.1.1 hs.1.2 hs.2.1 hs.2.2.1 hs.2.2.2⟩
 | e0=>exact⟨_,_,_,rfl,step_e0 hM trivial⟩
 | eC j sh gn w v h=>exact⟨_,_,_,rfl,step_eC hM j sh gn w v h hs.1.1 hs.1.2 hs.2⟩
 | eS j sh gn w v m n=>exact⟨_,_,_,rfl,step_eS hM j sh gn w v m n hs.1.1 hs.1.2 hs.2.1.1 hs.2.1.2 hs.2.2.1 hs.2.2.2⟩
 | s0=>exact⟨_,_,_,rfl,step_s0 hM trivial⟩
 | sM lv=>exact⟨_,_,_,rfl,step_sM hM lv hs⟩
 | sF lv i=>exact⟨_,_,_,rfl,step_sF hM lv i hs.1 hs.2⟩
 | sG lv i v h=>exact⟨_,_,_,rfl,step_sG hM lv i v h hs.1.1 hs.1.2 hs.2.1 hs.2.2⟩
 | sH lv i up h=>exact⟨_,_,_,rfl,step_sH hM lv i up h hs.1 hs.2⟩
 | sL lv i up h=>exact⟨_,_,_,rfl,step_sL hM lv i up h hs.1.1 hs.1.2 hs.2⟩
 | sV lv=>exact⟨_,_,_,rfl,step_sV hM lv hs⟩
mutual
theorem SV.ren_ren{π σ:Nat→Nat}:∀x:SV,SV.ren π (SV.ren σ x)=SV.ren (fun l=>π (σ l)) x
 | .any=>rfl
 | .d _=>rfl
 | .ptr _ _=>rfl
 | .rp _ _ _ _=>rfl
 | .sl _ _ _ _=>rfl
 | .agg vs=>by simp only[SV.ren];rw[SV.renL_ren vs]
 | .tup vs=>by simp only[SV.ren];rw[SV.renL_ren vs]
 | .fn _ vs=>by simp only[SV.ren];rw[SV.renL_ren vs]
 | .iref vs _=>by simp only[SV.ren];rw[SV.renL_ren vs]
theorem SV.renL_ren{π σ:Nat→Nat}:∀xs:List SV,SV.renL π (SV.renL σ xs)=SV.renL (fun l=>π (σ l)) xs
 | []=>rfl
 | x::r=>by
  have h1:=SV.ren_ren (π:=π) (σ:=σ) x
  have h2:=SV.renL_ren (π:=π) (σ:=σ) r
  simp only[SV.renL];rw[h1,h2]
end
mutual
theorem SV.ren_congr{π σ:Nat→Nat}{m:Nat}(h:∀l,l<m→π l=σ l):∀{x:SV},SV.Lt m x→SV.ren π x=SV.ren σ x
 | .any,_=>rfl
 | .d _,_=>rfl
 | .ptr _ _,k=>by cases k with|ptr _ _ k=>simp only[SV.ren];rw[h _ k]
 | .rp _ _ _ _,k=>by cases k with|rp _ _ _ _ k=>simp only[SV.ren];rw[h _ k]
 | .sl _ _ _ _,k=>by cases k with|sl _ _ _ _ k=>simp only[SV.ren];rw[h _ k]
 | .agg vs,k=>by cases k with|agg _ k=>simp only[SV.ren];rw[SV.renL_congr h k]
 | .tup vs,k=>by cases k with|tup _ k=>simp only[SV.ren];rw[SV.renL_congr h k]
 | .fn _ vs,k=>by cases k with|fn _ _ k=>simp only[SV.ren];rw[SV.renL_congr h k]
 | .iref vs _,k=>by cases k with|iref _ _ k=>simp only[SV.ren];rw[SV.renL_congr h k]
theorem SV.renL_congr{π σ:Nat→Nat}{m:Nat}(h:∀l,l<m→π l=σ l):∀{xs:List SV},(∀x∈xs,SV.Lt m x)→SV.renL π xs=SV.renL σ xs
 | [],_=>rfl
 | x::r,k=>by
  have h1:SV.ren π x=SV.ren σ x:=SV.ren_congr h (k x (by simp))
  have h2:SV.renL π r=SV.renL σ r:=SV.renL_congr h (fun y hy=>k y (by simp[hy]))
  unfold SV.renL;rw[h1,h2]
end
theorem SV.ren_lt{π:Nat→Nat}{m k:Nat}(h:∀l,l<m→π l<k){x:SV}(hx:SV.Lt m x):SV.Lt k (SV.ren π x):=(hx.ren (π:=π)).mono (pV π h)
def at4(ℓ:Nat)(l:Nat):Nat:=bif Nat.beq l 4 then ℓ else l
def swp(q:Nat)(l:Nat):Nat:=bif Nat.beq l 4 then 4+q else bif Nat.beq l (4+q)then 4 else l
theorem eF{ℓ l:Nat}(h:l<4):at4 ℓ l=l:=by
 unfold at4
 cases e:Nat.beq l 4 with
 | true=>have:=Q2 e;omega
 | false=>rfl
theorem bH{ℓ l m:Nat}(h:l<5)(h1:ℓ<m)(h4:4≤m):at4 ℓ l<m:=by
 by_cases e:l=4
 ·subst e;exact h1
 ·rw[eF (by omega)];omega
theorem bw{q l:Nat}(h:l<4):swp q l=l:=by
 unfold swp
 cases e:Nat.beq l 4 with
 | true=>have:=Q2 e;omega
 | false =>
  cases e2:Nat.beq l (4+q)with
  | true=>have:=Q2 e2;omega
  | false=>rfl
def oq(q:Nat)(xs:Nat→XB):Nat→XB:=fun i=>bif Nat.beq (i+1) q then xs 0 else xs (i+1)
theorem np{ps:List Pol}{room:Int}{g:Nat→SV}{π:Nat→Nat}(hπ:∀l,l<4→π l=l)(j:Nat):av ps room (fun j=>SV.ren π (g j)) j=SV.ren π (av ps room g j):=by
 rcases j with _|_|_|j
 ·rfl
 ·rfl
 ·exact(SV.ren_same (m:=4) hπ (show SV.Lt 4 ar from .of rfl)).symm
 ·rfl
theorem tG{ps:List Pol}{room:Int}{g:Nat→SV}(hg:∀j,SV.Lt 13 (g j)){L:List Nat}{π:Nat→Nat}(hπ:∀l,l<4→π l=l)(H:∀l,l<13→π l<13∧L.getD (π l) 0=l)(hL:13≤L.length) :
  ∀j,j<67→ae L (av ps room g j) (av ps room (fun j=>SV.ren π (g j)) j)∧SV.Lt 13 (av ps room (fun j=>SV.ren π (g j)) j):=fun j _=>by
 rw[np hπ]
 refine⟨?_,SV.ren_lt (fun l hl=>(H l hl).1) (aR hg j)⟩
 have:=ae.renX (π1:=fun l=>l) (π2:=π) (L:=L) (aR (ps:=ps) (room:=room) hg j) fun l hl=>⟨by have:=(H l hl).1;omega,(H l hl).2⟩
 rwa [SV.ren_same (m:=13) (fun _ _=>rfl) (aR hg j)]at this
theorem tZ{ℓ:Nat}{L:List Nat}(H:∀l,l<5→l<L.length∧L.getD l 0=at4 ℓ l):∀{cs:List SV},(∀y∈cs,SV.Lt 5 y)→bn L (SV.renL (at4 ℓ) cs) cs
 | [],_=>trivial
 | y::r,h=>⟨by
   have:=ae.renX (π1:=at4 ℓ) (π2:=fun l=>l) (L:=L) (h y (by simp)) H
   rwa [SV.ren_same (π:=fun l=>l) (m:=5) (fun _ _=>rfl) (h y (by simp))]at this,tZ H fun z hz=>h z (by simp[hz])⟩
theorem lt_caps{F:Fn}{cs:List SV}{m:Nat}(h:SV.Lt m (.fn F cs)):∀y∈cs,SV.Lt m y:=by cases h with|fn _ _ h=>exact h
theorem aw{S:St}{ps:List Pol}{room:Int}{g:Nat→SV}(hg:∀j,SV.Lt 13 (g j)){L:List Nat}{w:Nat}{y y':SV}(hy:SV.Lt 13 y')(he:y=y'){π τ:Nat→Nat}(hτ:∀l,l<4→τ l=l)(hπ:∀l,l<13→π (τ l)=l) :
  ∀j,j<67→aj S (0::1::2::3::4::5::6::7::8::9::10::11::12::L) (bif Nat.beq j (w+3)then y else SV.ren π (av ps room (fun j=>SV.ren τ (g j)) j)) (av ps room (Dir.upd g w y') j)∧SV.Lt 13 (av ps room (Dir.upd g w y') j):=fun j hj=>by
 subst he
 have hl:SV.Lt 13 (av ps room (Dir.upd g w y) j):=aR (fun i=>by unfold Dir.upd;split;exact hy;exact hg i) j
 refine⟨?_,hl⟩
 have e:(bif Nat.beq j (w+3)then y else SV.ren π (av ps room (fun j=>SV.ren τ (g j)) j))=av ps room (Dir.upd g w y) j:=by
  by_cases h:j=w+3
  ·subst h
   rw[Nat.beq_refl,cond_true]
   show y=Dir.upd g w y w
   unfold Dir.upd;rw[if_pos rfl]
  ·have h0:Nat.beq j (w+3)=false:=by
    cases e:Nat.beq j (w+3)with
    | false=>rfl
    | true=>exact absurd (Q2 e) h
   rw[h0,cond_false,np hτ,SV.ren_ren,SV.ren_same hπ (aR hg j)]
   rcases j with _|_|_|j
   ·rfl
   ·rfl
   ·rfl
   ·show g j=Dir.upd g w y j
    unfold Dir.upd;rw[if_neg (by omega)]
 rw[e]
 exact .same hl (by simp) fun i hi=>id13 hi
end Go.Proofs.YtlkccdlgnpkjpaaGreat
