/- Lemmas of Cc6, Cc7, Cc8. No condition. -/
import Derived.Test.YtlkccdlgnpkjpaaGreatMO10
set_option linter.unusedVariables false
set_option linter.unusedSimpArgs false
set_option linter.unusedSectionVars false
set_option maxHeartbeats 80000000
set_option maxRecDepth 100000
namespace Go.Proofs.YtlkccdlgnpkjpaaGreat
open Go.RowKit
section
variable{ps:List Pol}{room who:Int}{g:Nat→SV}{M:Core.Mc}{o:Nat→XB}{nl:Nat}{f:Nat→List D}{cnt:Int}{x:Core.X}{nl0:Nat}{cnt0:Int}
theorem fm(hM:COK ps room who g M o nl0 cnt0)(j sh:Nat)(gn:Int)(hj:j<sh)(hs:sh≤16):Fun TC 130 14 [.i .i64 gn,bx (.i .i64 j),bx (.i .i64 sh),xS] (ao ps room g M (a8 who x o) nl f cnt)
  14 (.tup [cl (aa ps room) who x (Core.further j sh gn).1,rsS (Core.further j sh gn).2]) (ao ps room g M (a8 who x o) nl f cnt):=by
 obtain⟨q0,q1,q2,q3,q4,q5,qo,q6,q7,q8⟩:=id hM
 have hE:=tv (x:=x) (nl:=nl) (f:=f) (cnt:=cnt) hM (j+1) sh gn (by omega)
 rw[show((j+1:Nat):Int)=(j:Int)+1 from rfl]at hE
 refine Fun.mk' Tryz.func130 rfl rfl zN (by decide) ?_
 (repeat' (first|((first|refine Wp.any ac rfl ?_|(with_reducible first|refine Go.mk ?_|apply ai.of|refine Ov.ok zO ?_)|refine zV ?_);conv=>whnf)|(with_reducible refine ab.inline Tryz.func131 rfl rfl rfl (zzb rfl) ?_)|(with_reducible refine ab.inline Tryz.func102 rfl rfl rfl (zzb rfl) ?_)|((apply ab.fn14 (h:=hE));(case hh=>exact zz1);(case ha=>exact zA);(case hd=>exact rfl);(case hlive=>exact rfl);(case hkeys=>exact rfl);(case hlt=>exact rfl);(conv=>whnf))|((refine aq (fun hc=>?_) (fun hc=>?_))<;>(try simp only[wz9]at hc)<;>(try (exfalso;omega))<;>(conv=>whnf))))
 ·rw[show Core.further j sh gn=(.none,⟨true,Core.gn gn⟩)from if_pos (by omega)]
  ((refine af.sealB [0,1,2,3,4,5,6,7,8,9,10,11,12,13] rfl rfl rfl ?_ ?_);(focus((conv=>whnf);(repeat' (first|exact zD9))));(focus((conv=>whnf);(repeat' (first|exact zD9|exact a7 (qo _)|((refine And.intro ?_ ?_)<;>(conv=>whnf)))))))
 ·rw[show Core.further j sh gn=(.k0 (.ev (j+1) sh gn),Core.r0)from if_neg (by omega)]
  ((refine af.sealB [0,1,2,3,4,5,6,7,8,9,10,11,12,13] rfl rfl rfl ?_ ?_);(focus((conv=>whnf);(repeat' (first|exact zD9|((refine aj.fn ?_);(conv=>whnf))|((refine aj.tup ?_);(conv=>whnf))|((refine aj.iref ?_);(conv=>whnf))|((refine And.intro ?_ ?_)<;>(conv=>whnf))))));(focus((conv=>whnf);(repeat' (first|exact zD9|exact ax (qo _) rfl|((refine And.intro ?_ ?_)<;>(conv=>whnf)))))))
theorem qm{ps:List Pol}(h:cr ps=0):∀k,k<ps.length→lP (ps.getD k default).kind (ps.getD k default).T (ps.getD k default).tau (ps.getD k default).permits=true:=by
 intro k hk
 unfold cr at h
 split at h
 ·omega
 ·split at h
  ·rename_i h2
   rw[Q23]at h2
   refine h2 _ ?_
   rw[Q1,Q0 hk];exact Q14 hk
  ·omega
theorem rR{ps:List Pol}(h:cr ps=0){k:Int}(h0:0≤k)(h1:k<ps.length):(ps.getD k.toNat default).kind=2→1≤(ps.getD k.toNat default).permits∧(ps.getD k.toNat default).permits≤64:=by
 intro hk
 have:=qm h k.toNat (by omega)
 unfold lP at this
 rw[hk]at this
 simpa using this
section
variable{P:Core.Ops}{fd:Core.Fd}
theorem fk1(h:x.op=1):Core.foundK P x fd=(.al fd,Core.r0):=if_pos h
theorem fk2(h:x.op=2)(h2:(fd.cell.held.length:Int)=(P.pol x.pol).permits):Core.foundK P x fd=Core.leave x (Core.er 9):=by
 unfold Core.foundK;rw[if_neg (by omega),if_pos h,if_pos h2]
theorem fk3(h:x.op=2)(h2:¬(fd.cell.held.length:Int)=(P.pol x.pol).permits)(h3:0<x.ser):Core.foundK P x fd=(Core.put x fd (P.acq (P.pol x.pol) fd.cell x.ser).2 (P.acq (P.pol x.pol) fd.cell x.ser).1,Core.r0):=by
 unfold Core.foundK;rw[if_neg (by omega),if_pos h,if_neg h2,if_pos h3]
theorem fk4(h:x.op=2)(h2:¬(fd.cell.held.length:Int)=(P.pol x.pol).permits)(h3:¬0<x.ser):Core.foundK P x fd=(.a0 fd,Core.r0):=by
 unfold Core.foundK;rw[if_neg (by omega),if_pos h,if_neg h2,if_neg h3]
theorem fk5(h:x.op=3)(h2:(P.rel (P.pol x.pol) fd.cell x.n).1.e=0):Core.foundK P x fd=(Core.put x fd (P.rel (P.pol x.pol) fd.cell x.n).2 (P.rel (P.pol x.pol) fd.cell x.n).1,Core.r0):=by
 unfold Core.foundK;rw[if_neg (by omega),if_neg (by omega),if_pos h,if_pos h2]
theorem fk6(h:x.op=3)(h2:¬(P.rel (P.pol x.pol) fd.cell x.n).1.e=0):Core.foundK P x fd=(.none,⟨true,(P.rel (P.pol x.pol) fd.cell x.n).1⟩):=by
 unfold Core.foundK;rw[if_neg (by omega),if_neg (by omega),if_pos h,if_neg h2]
theorem fk7(h1:¬x.op=1)(h2:¬x.op=2)(h:¬x.op=3)(h4:(P.pol x.pol).kind=2):Core.foundK P x fd=(.none,⟨true,P.peek (P.pol x.pol) fd.cell 0⟩):=by
 unfold Core.foundK;rw[if_neg h1,if_neg h2,if_neg h,if_pos h4]
theorem fk8(h1:¬x.op=1)(h2:¬x.op=2)(h:¬x.op=3)(h4:¬(P.pol x.pol).kind=2):Core.foundK P x fd=(.pk fd.cell,Core.r0):=by
 unfold Core.foundK;rw[if_neg h1,if_neg h2,if_neg h,if_neg h4]
end
theorem found_k(hM:COK ps room who g M o nl0 cnt0)(hk:Core.Kx ps x)(w:Nat)(v:Int)(h:List Cel)(hh:Hc ps 16000000 h):Fun TC 140 14 [.i .i64 w,.i .u64 v,.d (am 4 Cel.D h),xS,xZ ((aa ps room).pol x.pol)] (ao ps room g M (a8 who x o) nl f cnt)
  14 (.tup [cl (aa ps room) who x (Core.foundK (aa ps room) x (Core.fdOf (aa ps room) x w v h)).1,rsS (Core.foundK (aa ps room) x (Core.fdOf (aa ps room) x w v h)).2]) (ao ps room g M (a8 who x o) nl f cnt):=by
 obtain⟨q0,q1,q2,q3,q4,q5,qo,q6,q7,q8⟩:=id hM
 have hp:0≤x.pol∧x.pol<ps.length:=hk.pol
 have hf:=qO h x.pol x.key (by have:=hh.len;omega) hh.byt hk.byt
 have hs:=rR hM.ps hp.1 hp.2
 have hcell:eH ps (bL h x.pol x.key):=hh.find hk
 have hhl:=hcell.held
 obtain⟨fd,hfd⟩:∃fd,fd=Core.fdOf (aa ps room) x w v h:=⟨_,rfl⟩
 have e1:fd.w=w:=by rw[hfd];rfl
 have e2:fd.v=v:=by rw[hfd];rfl
 have e3:fd.h=h:=by rw[hfd];rfl
 have e4:bo h (newC x.pol x.key)=fd.at':=by rw[hfd];rfl
 have e5:cH h (newC x.pol x.key)=fd.there:=by rw[hfd];rfl
 have e6:bL h x.pol x.key=fd.cell:=by rw[hfd];rfl
 rw[e4,e5,e6]at hf
 rw[e6]at hhl
 rw[← hfd,← e1,← e2,← e3]
 rw[← e3]at hf
 clear hfd e1 e2 e3 e4 e5 e6 hcell
 have hpol:(aa ps room).pol x.pol=ps.getD x.pol.toNat default:=rfl
 rw[← hpol]at hs
 generalize hP:(aa ps room).pol x.pol=p at hs⊢
 have hA:=xV (x:=x) (nl:=nl) (f:=f) (cnt:=cnt) hM fd (fR p fd.cell x.ser) (jm p fd.cell x.ser)
 have hR:=xV (x:=x) (nl:=nl) (f:=f) (cnt:=cnt) hM fd (jp p fd.cell x.n) (jo p fd.cell x.n)
 have hL:=lB (x:=x) (nl:=nl) (f:=f) (cnt:=cnt) hM (Core.er 9)
 have hPk:=jh p fd.cell 0 (fun e=>by have:=hs e;omega) (by omega)
 have hQ:∀c r,Core.put x fd c r=.pS fd c r∨Core.put x fd c r=.p0 fd c r:=fun c r=>by unfold Core.put;split;exact .inl rfl;exact .inr rfl
 refine Fun.mk' Tryz.func140 rfl rfl zN (by decide) ?_
 by_cases h1:x.op=1
 ·rw[fk1 h1]
  (repeat' (first|((first|refine Wp.any ac rfl ?_|(with_reducible first|refine Go.mk ?_|apply ai.of)|refine zV ?_);conv=>whnf)|(with_reducible refine ab.inline Tryz.func102 rfl rfl rfl (zzb rfl) ?_)|(with_reducible refine ab.inline Tryz.func141 rfl rfl rfl (zzb rfl) ?_)|((with_reducible refine At.mk' _ rfl ?_);(refine And.intro zN ?_);conv=>whnf)|((with_reducible refine ag.pure (hf) rfl rfl ?_);conv=>whnf)|((refine aq (fun hc=>?_) (fun hc=>?_))<;>(try simp only[wz9]at hc)<;>(try (exfalso;omega))<;>(conv=>whnf))))
  rw[show cl (aa ps room) who x (.al fd)=.fn (.func 171) [xZ p,yO fd.cell,xS,fdB fd,bx (.i .i64 fd.at'),bx (.b fd.there)]by rw[← hP];rfl]
  ((refine af.sealB [0,1,2,3,4,5,6,7,8,9,10,11,12,13] rfl rfl rfl ?_ ?_);(focus((conv=>whnf);(repeat' (first|exact zD9|((refine aj.ptr rfl rfl ?_);(conv=>whnf))|((refine aj.fn ?_);(conv=>whnf))|((refine aj.tup ?_);(conv=>whnf))|((refine And.intro ?_ ?_)<;>(conv=>whnf))))));(focus((conv=>whnf);(repeat' (first|exact zD9|exact a7 (qo _)|((refine And.intro ?_ ?_)<;>(conv=>whnf)))))))
 by_cases h2:x.op=2
 ·by_cases h3:(fd.cell.held.length:Int)=p.permits
  ·rw[fk2 h2 (by rw[hP];exact h3)]
   by_cases hr:x.res=true
   ·rw[show Core.leave x (Core.er 9)=(.b0 1 (.lv (Core.er 9)),Core.r0)from if_pos hr]at hL⊢
    (repeat' (first|((first|refine Wp.any ac rfl ?_|(with_reducible first|refine Go.mk ?_|apply ai.of)|refine zV ?_);conv=>whnf)|(with_reducible refine ab.inline Tryz.func142 rfl rfl rfl (zzb rfl) ?_)|((with_reducible refine At.mk' _ rfl ?_);(refine And.intro zN ?_);conv=>whnf)|((with_reducible refine ag.pure (hf) rfl rfl ?_);conv=>whnf)|((apply ab.fn14 (h:=hL));(case hh=>exact zz1);(case ha=>exact zA);(case hd=>exact rfl);(case hlive=>exact rfl);(case hkeys=>exact rfl);(case hlt=>exact rfl);(conv=>whnf))|((refine aq (fun hc=>?_) (fun hc=>?_))<;>(try simp only[wz9]at hc)<;>(try (exfalso;omega))<;>(conv=>whnf))))
    ((refine af.sealB [0,1,2,3,4,5,6,7,8,9,10,11,12,13] rfl rfl rfl ?_ ?_);(focus((conv=>whnf);(repeat' (first|exact zD9|((refine aj.fn ?_);(conv=>whnf))|((refine aj.tup ?_);(conv=>whnf))|((refine aj.iref ?_);(conv=>whnf))|((refine And.intro ?_ ?_)<;>(conv=>whnf))))));(focus((conv=>whnf);(repeat' (first|exact zD9|exact ax (qo _) rfl|((refine And.intro ?_ ?_)<;>(conv=>whnf)))))))
   ·rw[show Core.leave x (Core.er 9)=(.none,⟨true,Core.er 9⟩)from if_neg hr]at hL⊢
    (repeat' (first|((first|refine Wp.any ac rfl ?_|(with_reducible first|refine Go.mk ?_|apply ai.of)|refine zV ?_);conv=>whnf)|(with_reducible refine ab.inline Tryz.func142 rfl rfl rfl (zzb rfl) ?_)|((with_reducible refine At.mk' _ rfl ?_);(refine And.intro zN ?_);conv=>whnf)|((with_reducible refine ag.pure (hf) rfl rfl ?_);conv=>whnf)|((apply ab.fn14 (h:=hL));(case hh=>exact zz1);(case ha=>exact zA);(case hd=>exact rfl);(case hlive=>exact rfl);(case hkeys=>exact rfl);(case hlt=>exact rfl);(conv=>whnf))|((refine aq (fun hc=>?_) (fun hc=>?_))<;>(try simp only[wz9]at hc)<;>(try (exfalso;omega))<;>(conv=>whnf))))
    ((refine af.sealB [0,1,2,3,4,5,6,7,8,9,10,11,12,13] rfl rfl rfl ?_ ?_);(focus((conv=>whnf);(repeat' (first|exact zD9))));(focus((conv=>whnf);(repeat' (first|exact zD9|exact ax (qo _) rfl|((refine And.intro ?_ ?_)<;>(conv=>whnf)))))))
  ·by_cases h4:0<x.ser
   ·rw[show Core.foundK (aa ps room) x fd=(Core.put x fd (fR p fd.cell x.ser) (jm p fd.cell x.ser),Core.r0)by rw[fk3 h2 (by rw[hP];exact h3) h4,hP];rfl]
    rcases hQ (fR p fd.cell x.ser) (jm p fd.cell x.ser)with e|e
    all_goals
     rw[e]at hA⊢
     (repeat' (first|((first|refine Wp.any ac rfl ?_|(with_reducible first|refine Go.mk ?_|apply ai.of)|refine zV ?_);conv=>whnf)|(with_reducible refine ab.inline Tryz.func102 rfl rfl rfl (zzb rfl) ?_)|(with_reducible refine ab.inline Tryz.func142 rfl rfl rfl (zzb rfl) ?_)|(with_reducible refine ab.inline Tryz.func173 rfl rfl rfl (zzb rfl) ?_)|((with_reducible refine At.mk' _ rfl ?_);(refine And.intro zN ?_);conv=>whnf)|((with_reducible first|refine ag.pure (hf) rfl rfl ?_|refine ag.pure (dX p fd.cell x.ser) rfl rfl ?_);conv=>whnf)|((apply ab.fn14 (h:=hA));(case hh=>exact zz1);(case ha=>exact zA);(case hd=>exact rfl);(case hlive=>exact rfl);(case hkeys=>exact rfl);(case hlt=>exact rfl);(conv=>whnf))|((refine aq (fun hc=>?_) (fun hc=>?_))<;>(try simp only[wz9]at hc)<;>(try (exfalso;omega))<;>(conv=>whnf))))
     ((refine af.sealB [0,1,2,3,4,5,6,7,8,9,10,11,12,13] rfl rfl rfl ?_ ?_);(focus((conv=>whnf);(repeat' (first|exact zD9|((refine aj.fn ?_);(conv=>whnf))|((refine aj.tup ?_);(conv=>whnf))|((refine aj.iref ?_);(conv=>whnf))|((refine And.intro ?_ ?_)<;>(conv=>whnf))))));(focus((conv=>whnf);(repeat' (first|exact zD9|exact ax (qo _) rfl|((refine And.intro ?_ ?_)<;>(conv=>whnf)))))))
   ·rw[fk4 h2 (by rw[hP];exact h3) h4]
    (repeat' (first|((first|refine Wp.any ac rfl ?_|(with_reducible first|refine Go.mk ?_|apply ai.of)|refine zV ?_);conv=>whnf)|(with_reducible refine ab.inline Tryz.func102 rfl rfl rfl (zzb rfl) ?_)|(with_reducible refine ab.inline Tryz.func142 rfl rfl rfl (zzb rfl) ?_)|(with_reducible refine ab.inline Tryz.func169 rfl rfl rfl (zzb rfl) ?_)|((with_reducible refine At.mk' _ rfl ?_);(refine And.intro zN ?_);conv=>whnf)|((with_reducible refine ag.pure (hf) rfl rfl ?_);conv=>whnf)|((refine aq (fun hc=>?_) (fun hc=>?_))<;>(try simp only[wz9]at hc)<;>(try (exfalso;omega))<;>(conv=>whnf))))
    rw[show cl (aa ps room) who x (.a0 fd)=mvS 33 1 4611686018427387903 jM (serS p fd)by rw[← hP];rfl]
    ((refine af.sealB [0,1,2,3,4,5,6,7,8,9,10,11,12,13] rfl rfl rfl ?_ ?_);(focus((conv=>whnf);(repeat' (first|exact zD9|((refine aj.ptr rfl rfl ?_);(conv=>whnf))|((refine aj.fn ?_);(conv=>whnf))|((refine aj.tup ?_);(conv=>whnf))|((refine And.intro ?_ ?_)<;>(conv=>whnf))))));(focus((conv=>whnf);(repeat' (first|exact zD9|exact a7 (qo _)|((refine And.intro ?_ ?_)<;>(conv=>whnf)))))))
 by_cases h3:x.op=3
 ·by_cases h4:(jo p fd.cell x.n).e=0
  ·rw[show Core.foundK (aa ps room) x fd=(Core.put x fd (jp p fd.cell x.n) (jo p fd.cell x.n),Core.r0)by rw[fk5 h3 (by rw[hP];exact h4),hP];rfl]
   rcases hQ (jp p fd.cell x.n) (jo p fd.cell x.n)with e|e
   all_goals
    rw[e]at hR⊢
    (repeat' (first|((first|refine Wp.any ac rfl ?_|(with_reducible first|refine Go.mk ?_|apply ai.of)|refine zV ?_);conv=>whnf)|(with_reducible refine ab.inline Tryz.func102 rfl rfl rfl (zzb rfl) ?_)|((with_reducible refine At.mk' _ rfl ?_);(refine And.intro zN ?_);conv=>whnf)|((with_reducible first|refine ag.pure (hf) rfl rfl ?_|refine ag.pure (dW p fd.cell x.n) rfl rfl ?_);conv=>whnf)|((apply ab.fn14 (h:=hR));(case hh=>exact zz1);(case ha=>exact zA);(case hd=>exact rfl);(case hlive=>exact rfl);(case hkeys=>exact rfl);(case hlt=>exact rfl);(conv=>whnf))|((refine aq (fun hc=>?_) (fun hc=>?_))<;>(try simp only[wz9]at hc)<;>(try (exfalso;omega))<;>(conv=>whnf))))
    ((refine af.sealB [0,1,2,3,4,5,6,7,8,9,10,11,12,13] rfl rfl rfl ?_ ?_);(focus((conv=>whnf);(repeat' (first|exact zD9|((refine aj.fn ?_);(conv=>whnf))|((refine aj.tup ?_);(conv=>whnf))|((refine aj.iref ?_);(conv=>whnf))|((refine And.intro ?_ ?_)<;>(conv=>whnf))))));(focus((conv=>whnf);(repeat' (first|exact zD9|exact ax (qo _) rfl|((refine And.intro ?_ ?_)<;>(conv=>whnf)))))))
  ·rw[show Core.foundK (aa ps room) x fd=(.none,⟨true,jo p fd.cell x.n⟩)by rw[fk6 h3 (by rw[hP];exact h4),hP];rfl]
   (repeat' (first|((first|refine Wp.any ac rfl ?_|(with_reducible first|refine Go.mk ?_|apply ai.of)|refine zV ?_);conv=>whnf)|(with_reducible refine ab.inline Tryz.func131 rfl rfl rfl (zzb rfl) ?_)|((with_reducible refine At.mk' _ rfl ?_);(refine And.intro zN ?_);conv=>whnf)|((with_reducible first|refine ag.pure (hf) rfl rfl ?_|refine ag.pure (dW p fd.cell x.n) rfl rfl ?_);conv=>whnf)|((refine aq (fun hc=>?_) (fun hc=>?_))<;>(try simp only[wz9]at hc)<;>(try (exfalso;omega))<;>(conv=>whnf))))
   ((refine af.sealB [0,1,2,3,4,5,6,7,8,9,10,11,12,13] rfl rfl rfl ?_ ?_);(focus((conv=>whnf);(repeat' (first|exact zD9))));(focus((conv=>whnf);(repeat' (first|exact zD9|exact a7 (qo _)|((refine And.intro ?_ ?_)<;>(conv=>whnf)))))))
 by_cases h4:p.kind=2
 ·rw[show Core.foundK (aa ps room) x fd=(.none,⟨true,iH p fd.cell 0⟩)by rw[fk7 h1 h2 h3 (by rw[hP];exact h4),hP];rfl]
  (repeat' (first|((first|refine Wp.any ac rfl ?_|(with_reducible first|refine Go.mk ?_|apply ai.of)|refine zV ?_);conv=>whnf)|(with_reducible refine ab.inline Tryz.func131 rfl rfl rfl (zzb rfl) ?_)|((with_reducible refine At.mk' _ rfl ?_);(refine And.intro zN ?_);conv=>whnf)|((with_reducible first|refine ag.pure (hf) rfl rfl ?_|refine ab.pure (hPk) rfl rfl ?_);conv=>whnf)|((refine aq (fun hc=>?_) (fun hc=>?_))<;>(try simp only[wz9]at hc)<;>(try (exfalso;omega))<;>(conv=>whnf))))
  ((refine af.sealB [0,1,2,3,4,5,6,7,8,9,10,11,12,13] rfl rfl rfl ?_ ?_);(focus((conv=>whnf);(repeat' (first|exact zD9))));(focus((conv=>whnf);(repeat' (first|exact zD9|exact a7 (qo _)|((refine And.intro ?_ ?_)<;>(conv=>whnf)))))))
 ·rw[fk8 h1 h2 h3 (by rw[hP];exact h4)]
  (repeat' (first|((first|refine Wp.any ac rfl ?_|(with_reducible first|refine Go.mk ?_|apply ai.of)|refine zV ?_);conv=>whnf)|(with_reducible refine ab.inline Tryz.func102 rfl rfl rfl (zzb rfl) ?_)|((with_reducible refine At.mk' _ rfl ?_);(refine And.intro zN ?_);conv=>whnf)|((with_reducible refine ag.pure (hf) rfl rfl ?_);conv=>whnf)|((refine aq (fun hc=>?_) (fun hc=>?_))<;>(try simp only[wz9]at hc)<;>(try (exfalso;omega))<;>(conv=>whnf))))
  rw[show cl (aa ps room) who x (.pk fd.cell)=.fn (.func 144) [xZ p,yO fd.cell,xS]by rw[← hP];rfl]
  ((refine af.sealB [0,1,2,3,4,5,6,7,8,9,10,11,12,13] rfl rfl rfl ?_ ?_);(focus((conv=>whnf);(repeat' (first|exact zD9|((refine aj.ptr rfl rfl ?_);(conv=>whnf))|((refine aj.fn ?_);(conv=>whnf))|((refine aj.tup ?_);(conv=>whnf))|((refine aj.iref ?_);(conv=>whnf))|((refine And.intro ?_ ?_)<;>(conv=>whnf))))));(focus((conv=>whnf);(repeat' (first|exact zD9|exact a7 (qo _)|((refine And.intro ?_ ?_)<;>(conv=>whnf)))))))
end
section
variable{ps:List Pol}{room who:Int}{g:Nat→SV}{M:Core.Mc}{o:Nat→XB}{nl:Nat}{f:Nat→List D}{cnt:Int}{x:Core.X}{nl0:Nat}{cnt0:Int}
theorem dt(j sh:Nat)(gn:Int):Core.further j sh gn=(.none,⟨true,Core.gn gn⟩)∨Core.further j sh gn=(.k0 (.ev (j+1) sh gn),Core.r0):=by unfold Core.further;split;exact .inl rfl;exact .inr rfl
theorem found_e(hM:COK ps room who g M o nl0 cnt0)(j sh:Nat)(gn:Int)(hj:j<sh)(hs:sh≤16)(w:Nat)(v:Int)(h:List Cel):Fun TC 133 14 [.i .i64 w,.i .u64 v,.d (am 4 Cel.D h),bx (furS j sh),bx (.i .i64 gn),xS] (ao ps room g M (a8 who x o) nl f cnt)
  14 (.tup [cl (aa ps room) who x (Core.found (aa ps room) x w v h (.ev j sh gn)).1,rsS (Core.found (aa ps room) x w v h (.ev j sh gn)).2]) (ao ps room g M (a8 who x o) nl f cnt):=by
 obtain⟨q0,q1,q2,q3,q4,q5,qo,q6,q7,q8⟩:=id hM
 have hF:=fm (x:=x) (nl:=nl) (f:=f) (cnt:=cnt) hM j sh gn hj hs
 rcases dt j sh gn with e|e
 all_goals
  rw[e]at hF
  refine Fun.mk' Tryz.func133 rfl rfl zN (by decide) ?_
  (repeat' (first|((first|refine Wp.any ac rfl ?_|(with_reducible first|refine Go.mk ?_|apply ai.of));conv=>whnf)|(with_reducible refine ab.inline Tryz.func102 rfl rfl rfl (zzb rfl) ?_)|((apply ab.fn14 (h:=hF));(case hh=>exact zz1);(case ha=>exact zA);(case hd=>exact rfl);(case hlive=>exact rfl);(case hkeys=>exact rfl);(case hlt=>exact rfl);(conv=>whnf))|((refine aq (fun hc=>?_) (fun hc=>?_))<;>(try simp only[wz9]at hc)<;>(try (exfalso;omega))<;>(conv=>whnf))))
  ·rw[show Core.found (aa ps room) x w v h (.ev j sh gn)=Core.further j sh gn from if_pos (by omega),e]
   ((refine af.sealB [0,1,2,3,4,5,6,7,8,9,10,11,12,13] rfl rfl rfl ?_ ?_);(focus((conv=>whnf);(repeat' (first|exact zD9|((refine aj.fn ?_);(conv=>whnf))|((refine aj.tup ?_);(conv=>whnf))|((refine aj.iref ?_);(conv=>whnf))|((refine And.intro ?_ ?_)<;>(conv=>whnf))))));(focus((conv=>whnf);(repeat' (first|exact zD9|exact ax (qo _) rfl|((refine And.intro ?_ ?_)<;>(conv=>whnf)))))))
  ·rw[show Core.found (aa ps room) x w v h (.ev j sh gn)=(.eC j sh gn w v h,Core.r0)from if_neg (by omega)]
   ((refine af.sealB [0,1,2,3,4,5,6,7,8,9,10,11,12,13] rfl rfl rfl ?_ ?_);(focus((conv=>whnf);(repeat' (first|exact zD9|((refine aj.ptr rfl rfl ?_);(conv=>whnf))|((refine aj.fn ?_);(conv=>whnf))|((refine aj.tup ?_);(conv=>whnf))|((refine aj.iref ?_);(conv=>whnf))|((refine And.intro ?_ ?_)<;>(conv=>whnf))))));(focus((conv=>whnf);(repeat' (first|exact zD9|exact a7 (qo _)|((refine And.intro ?_ ?_)<;>(conv=>whnf)))))))
theorem cK(P:Core.Ops)(who:Int)(x:Core.X)(s:Core.CS):cl P who x s=eN∨∃n cs,cl P who x s=.fn (.func n) cs∧SV.Lt 5 (.fn (.func n) cs):=by
 have h:=ez P who x s
 cases s with
 | none=>exact .inl rfl
 | sH lv i up m=>cases up<;>exact .inr ⟨_,_,rfl,h⟩
 | sL lv i up m=>cases up<;>exact .inr ⟨_,_,rfl,h⟩
 | _=>exact .inr ⟨_,_,rfl,h⟩
theorem lO(hM:COK ps room who g M o nl0 cnt0)(f0:Core.Fc)(h1:Core.fcK ps x f0)(h2:Core.okFc f0)(w:Nat)(v:Int)(h:List Cel)(hh:Hc ps 16000000 h){n:Nat}{cs:List SV}(e:thn (aa ps room) x f0=.fn (.func n) cs) :
  Fun TC n 14 ([.i .i64 w,.i .u64 v,.d (am 4 Cel.D h)]++cs) (ao ps room g M (a8 who x o) nl f cnt)
   14 (.tup [cl (aa ps room) who x (Core.found (aa ps room) x w v h f0).1,rsS (Core.found (aa ps room) x w v h f0).2]) (ao ps room g M (a8 who x o) nl f cnt):=by
 cases f0 with
 | key=>cases e;exact found_k hM h1 w v h hh
 | ev j sh gn=>cases e;exact found_e hM j sh gn h2.1 h2.2 w v h
theorem rX{π:Nat→Nat}{m:Nat}(hπ:∀l,l<m→π l=l){F:Fn}{cs:List SV}(h:SV.Lt m (.fn F cs)):ren1 π (.fn F cs)=.fn F cs:=SV.ren_same hπ h
theorem ab.fn14F{C:Cx}{nt:NT}{nx:Nat}{fr:List (Nat×SV)}{hp:List (Nat×Option Blk)}{g:Nat}{args:List SV}{k:St→SV→Prop}{m':Nat}{args0:List SV}{H H':List (Nat×Option Blk)}{F:Fn}{cs:List SV}{r:Core.Rs}{l:Nat}(h:Fun C g 14 args0 H m' (.tup [.fn F cs,rsS r]) H')
  (hF:SV.Lt 5 (.fn F cs)) (hh:aW hp [0,1,2,3,4,5,6,7,8,9,10,11,12,l] H) (ha:bn [0,1,2,3,4,5,6,7,8,9,10,11,12,l] args args0) (hd:bq [0,1,2,3,4,5,6,7,8,9,10,11,12,l]=true) (hlive:dO H 14=true) (hkeys:dP H' 14=true) (hlt:cG H' m'=true)
  (hk:k ⟨nt,nx+(m'-14),fr,bg (πf [0,1,2,3,4,5,6,7,8,9,10,11,12,l] nx) hp H'⟩ (.tup [.fn F cs,rsS r])):ab C ⟨nt,nx,fr,hp⟩ g args k:=by
 refine .fn h _ rfl hd hlive hkeys hlt ha hh ?_
 have e:nS (πf [0,1,2,3,4,5,6,7,8,9,10,11,12,l] nx) (.tup [.fn F cs,rsS r])=.tup [.fn F cs,rsS r]:=by
  show SV.tup [ren1 _ (.fn F cs),_]=_
  rw[rX (m:=5) (fun i hi=>by rcases i with _|_|_|_|_|i<;>first|rfl|omega) hF]
  rfl
 rw[e];exact hk
theorem Ov.tdivC{k:IntKind}{a b:Int}{p:Int→Prop}(ha:0≤a)(h:Ov k (a/b) p):Ov k (a.tdiv b) p:=by rw[Int.tdiv_eq_ediv_of_nonneg ha];exact h
theorem r8(x:Int)(h0:0≤x)(h4:x≤4)(s:Int):Pure TC 70 [.i .i64 x,.i .u64 s] (.i .i64 (Dir.plc x.toNat s)):=by
 have:=cj x.toNat (by omega) s
 rwa [Int.toNat_of_nonneg h0]at this
theorem yG{P:Core.Ops}{f0:Core.Fc}{w:Nat}{v:Int}{h:List Cel}(hv:v=0∨4611686018427387904≤v):Core.entered P x f0 w v h=(.k0 f0,Core.r0):=if_pos hv
theorem yF{P:Core.Ops}{f0:Core.Fc}{w:Nat}{v:Int}{h:List Cel}(hv:¬(v=0∨4611686018427387904≤v)):Core.entered P x f0 w v h=Core.found P x w v h f0:=if_neg hv
end
section
variable{ps:List Pol}{room who:Int}{g:Nat→SV}{M:Core.Mc}{o:Nat→XB}{nl:Nat}{f:Nat→List D}{cnt:Int}{x:Core.X}
theorem step_k0(hM:COK ps room who g M o nl cnt)(f0:Core.Fc):Fun TC 163 14 [bx ar,bx (.i .i64 who),bx (.i .u64 (Core.sumF x f0)),bx (thn (aa ps room) x f0)] (ao ps room g M (a8 who x o) nl f cnt)
  15 (.tup [cl (aa ps room) who (Core.step (aa ps room) M x (.k0 f0)).x (Core.step (aa ps room) M x (.k0 f0)).s,rsS (Core.step (aa ps room) M x (.k0 f0)).r])
   (a6 ps room g (Core.step (aa ps room) M x (.k0 f0)).M (a8 who (Core.step (aa ps room) M x (.k0 f0)).x o) nl f cnt (bZ who 1 0 (M.W 0) 0 true)):=by
 obtain⟨q0,q1,q2,q3,q4,q5,qo,q6,q7,q8⟩:=id hM
 have qr:=QR q6
 cases f0 with
 | key =>
  refine Fun.mk' Tryz.func163 rfl rfl zN (by decide) ?_
  (repeat' (first|((first|refine Wp.any ac rfl ?_|(with_reducible first|refine Go.mk ?_|apply ai.of|refine Ov.ok zO ?_)|refine zV ?_|with_reducible refine And.intro zC ?_);conv=>whnf)|((refine ag.new (aK nl M.W M.Hd f M.clk cnt who 0 q2 q3 q4 q0 q1 (by omega)) [1,2,3,13] [] rfl rfl rfl rfl rfl rfl ?ha ?hh ?hs ?_);(case ha=>exact zA);(case hh=>exact zH);(case hs=>exact zK);(conv=>whnf))|((with_reducible first|refine ag.pure (r8 _ (by omega) (by omega) _) rfl rfl ?_|refine ag.funM (fC _ _ _ _ _ (by first|assumption|exact SV.Lt.of rfl)) rfl rfl ?_|refine ag.funM (ck _ _ _ _ (by first|assumption|exact SV.Lt.of rfl)) rfl rfl ?_);conv=>whnf)|(with_reducible refine Ov.tdivC (by omega) ?_)|((refine aq (fun hc=>?_) (fun hc=>?_))<;>(try simp only[wz9,qr]at hc)<;>(try (exfalso;omega))<;>(conv=>whnf))))
  ·(rw[show Core.step (aa ps room) M x (.k0 .key)=⟨M,x,.kE .key (Dir.plc (M.W 0/2).toNat (Core.sumF x .key)),Core.r0⟩ from(by simp only[Core.step];rw[if_pos hc])];dsimp only; ((apply af.seal14);(case hH=>exact zz2);(case hx=>exact zz0);(case hd=>exact rfl)))
  ·(rw[show Core.step (aa ps room) M x (.k0 .key)=⟨M,x,.kF .key (M.W 0/2).toNat (Dir.plc (M.W 0/2).toNat (Core.sumF x .key)),Core.r0⟩ from(by simp only[Core.step];rw[if_neg hc])];dsimp only; ((apply af.seal14);(case hH=>exact zz2);(case hx=>exact zz7);(case hd=>exact rfl)))
 | ev j sh gn =>
  refine Fun.mk' Tryz.func163 rfl rfl zN (by decide) ?_
  (repeat' (first|((first|refine Wp.any ac rfl ?_|(with_reducible first|refine Go.mk ?_|apply ai.of|refine Ov.ok zO ?_)|refine zV ?_|with_reducible refine And.intro zC ?_);conv=>whnf)|((refine ag.new (aK nl M.W M.Hd f M.clk cnt who 0 q2 q3 q4 q0 q1 (by omega)) [1,2,3,13] [] rfl rfl rfl rfl rfl rfl ?ha ?hh ?hs ?_);(case ha=>exact zA);(case hh=>exact zH);(case hs=>exact zK);(conv=>whnf))|((with_reducible first|refine ag.pure (r8 _ (by omega) (by omega) _) rfl rfl ?_|refine ag.funM (fC _ _ _ _ _ (by first|assumption|exact SV.Lt.of rfl)) rfl rfl ?_|refine ag.funM (ck _ _ _ _ (by first|assumption|exact SV.Lt.of rfl)) rfl rfl ?_);conv=>whnf)|(with_reducible refine Ov.tdivC (by omega) ?_)|((refine aq (fun hc=>?_) (fun hc=>?_))<;>(try simp only[wz9,qr]at hc)<;>(try (exfalso;omega))<;>(conv=>whnf))))
  ·(rw[show Core.step (aa ps room) M x (.k0 (.ev j sh gn))=⟨M,x,.kE (.ev j sh gn) (Dir.plc (M.W 0/2).toNat (Core.sumF x (.ev j sh gn))),Core.r0⟩ from(by simp only[Core.step];rw[if_pos hc])];dsimp only; ((apply af.seal14);(case hH=>exact zz2);(case hx=>exact zz0);(case hd=>exact rfl)))
  ·(rw[show Core.step (aa ps room) M x (.k0 (.ev j sh gn))=⟨M,x,.kF (.ev j sh gn) (M.W 0/2).toNat (Dir.plc (M.W 0/2).toNat (Core.sumF x (.ev j sh gn))),Core.r0⟩ from(by simp only[Core.step];rw[if_neg hc])];dsimp only; ((apply af.seal14);(case hH=>exact zz2);(case hx=>exact zz7);(case hd=>exact rfl)))
theorem step_kE(hM:COK ps room who g M o nl cnt)(f0:Core.Fc)(w:Nat)(hw:w<32)(hk:Core.fcK ps x f0)(hk2:Core.okFc f0):Fun TC 186 14 [bx ar,bx (.i .i64 who),bx (.i .i64 w),bx (.i .u64 (Core.sumF x f0)),bx (thn (aa ps room) x f0)] (ao ps room g M (a8 who x o) nl f cnt)
  15 (.tup [cl (aa ps room) who (Core.step (aa ps room) M x (.kE f0 w)).x (Core.step (aa ps room) M x (.kE f0 w)).s,rsS (Core.step (aa ps room) M x (.kE f0 w)).r])
   (a6 ps room g (Core.step (aa ps room) M x (.kE f0 w)).M (a8 who (Core.step (aa ps room) M x (.kE f0 w)).x o) nl f cnt (bZ who 1 w (M.W w) 0 true)):=by
 obtain⟨q0,q1,q2,q3,q4,q5,qo,q6,q7,q8⟩:=id hM
 have qr:=QR q6
 cases f0 with
 | key =>
  have hF:=lO (nl:=aC nl) (f:=bO nl f (bZ who 1 w (M.W w) 0 true)) (cnt:=cnt+1) hM .key hk hk2 w (M.W w) (M.Hd w) (q8 w) rfl
  have hE2:¬(M.W w=0∨4611686018427387904≤M.W w)→Core.step (aa ps room) M x (.kE .key w)=⟨M,x,(Core.found (aa ps room) x w (M.W w) (M.Hd w) .key).1,(Core.found (aa ps room) x w (M.W w) (M.Hd w) .key).2⟩:=fun h=>by simp only[Core.step,Core.same];rw[yF h]
  rcases cK (aa ps room) who x (Core.found (aa ps room) x w (M.W w) (M.Hd w) .key).1 with e|⟨n',cs',e,h5'⟩
  all_goals
   rw[e]at hF
   generalize (Core.found (aa ps room) x w (M.W w) (M.Hd w) .key).2=rr at hF hE2
   refine Fun.mk' Tryz.func186 rfl rfl zN (by decide) ?_
   (repeat' (first|((first|refine Wp.any ac rfl ?_|(with_reducible first|refine Go.mk ?_|apply ai.of)|refine zV ?_);conv=>whnf)|((refine ag.new (aK nl M.W M.Hd f M.clk cnt who w q2 q3 q4 q0 q1 (by omega)) [1,2,3,13] [] rfl rfl rfl rfl rfl rfl ?ha ?hh ?hs ?_);(case ha=>exact zA);(case hh=>exact zH);(case hs=>exact zK);(conv=>whnf))|(with_reducible refine ab.inline Tryz.func167 rfl rfl rfl (zzb rfl) ?_)|((with_reducible refine ag.funM (eh _ _ _ _ (by first|assumption|exact SV.Lt.of rfl)) rfl rfl ?_);conv=>whnf)|((apply ab.fn14F (h:=hF));(case hh=>exact zz1);(case hF=>assumption);(case ha=>exact zz18);(case hd=>exact rfl);(case hlive=>exact rfl);(case hkeys=>exact rfl);(case hlt=>exact rfl);(conv=>whnf))|((apply ab.fn14 (h:=hF));(case hh=>exact zz1);(case ha=>exact zz18);(case hd=>exact rfl);(case hlive=>exact rfl);(case hkeys=>exact rfl);(case hlt=>exact rfl);(conv=>whnf))|((refine aq (fun hc=>?_) (fun hc=>?_))<;>(try simp only[wz9]at hc)<;>(try (exfalso;omega))<;>(conv=>whnf))))
   all_goals first
    | (rw[show Core.step (aa ps room) M x (.kE .key w)=⟨M,x,.k0 .key,Core.r0⟩ from(by simp only[Core.step,Core.same];rw[yG (by omega)])];dsimp only; ((apply af.seal14);(case hH=>exact zz2);(case hx=>exact zz0);(case hd=>exact rfl)))
    | (rw[hE2 (by omega)];dsimp only;rw[e];((apply af.seal14);(case hH=>exact zz4);(case hx=>exact zz21);(case hd=>exact rfl)))
 | ev j sh gn =>
  have hF:=lO (nl:=aC nl) (f:=bO nl f (bZ who 1 w (M.W w) 0 true)) (cnt:=cnt+1) hM (.ev j sh gn) hk hk2 w (M.W w) (M.Hd w) (q8 w) rfl
  have hE2:¬(M.W w=0∨4611686018427387904≤M.W w)→Core.step (aa ps room) M x (.kE (.ev j sh gn) w)=⟨M,x,(Core.found (aa ps room) x w (M.W w) (M.Hd w) (.ev j sh gn)).1,(Core.found (aa ps room) x w (M.W w) (M.Hd w) (.ev j sh gn)).2⟩:=fun h=>by simp only[Core.step,Core.same];rw[yF h]
  rcases cK (aa ps room) who x (Core.found (aa ps room) x w (M.W w) (M.Hd w) (.ev j sh gn)).1 with e|⟨n',cs',e,h5'⟩
  all_goals
   rw[e]at hF
   generalize (Core.found (aa ps room) x w (M.W w) (M.Hd w) (.ev j sh gn)).2=rr at hF hE2
   refine Fun.mk' Tryz.func186 rfl rfl zN (by decide) ?_
   (repeat' (first|((first|refine Wp.any ac rfl ?_|(with_reducible first|refine Go.mk ?_|apply ai.of)|refine zV ?_);conv=>whnf)|((refine ag.new (aK nl M.W M.Hd f M.clk cnt who w q2 q3 q4 q0 q1 (by omega)) [1,2,3,13] [] rfl rfl rfl rfl rfl rfl ?ha ?hh ?hs ?_);(case ha=>exact zA);(case hh=>exact zH);(case hs=>exact zK);(conv=>whnf))|(with_reducible refine ab.inline Tryz.func167 rfl rfl rfl (zzb rfl) ?_)|((with_reducible refine ag.funM (eh _ _ _ _ (by first|assumption|exact SV.Lt.of rfl)) rfl rfl ?_);conv=>whnf)|((apply ab.fn14F (h:=hF));(case hh=>exact zz1);(case hF=>assumption);(case ha=>exact zz19);(case hd=>exact rfl);(case hlive=>exact rfl);(case hkeys=>exact rfl);(case hlt=>exact rfl);(conv=>whnf))|((apply ab.fn14 (h:=hF));(case hh=>exact zz1);(case ha=>exact zz19);(case hd=>exact rfl);(case hlive=>exact rfl);(case hkeys=>exact rfl);(case hlt=>exact rfl);(conv=>whnf))|((refine aq (fun hc=>?_) (fun hc=>?_))<;>(try simp only[wz9]at hc)<;>(try (exfalso;omega))<;>(conv=>whnf))))
   all_goals first
    | (rw[show Core.step (aa ps room) M x (.kE (.ev j sh gn) w)=⟨M,x,.k0 (.ev j sh gn),Core.r0⟩ from(by simp only[Core.step,Core.same];rw[yG (by omega)])];dsimp only; ((apply af.seal14);(case hH=>exact zz2);(case hx=>exact zz0);(case hd=>exact rfl)))
    | (rw[hE2 (by omega)];dsimp only;rw[e];((apply af.seal14);(case hH=>exact zz4);(case hx=>exact zz21);(case hd=>exact rfl)))
end
end Go.Proofs.YtlkccdlgnpkjpaaGreat
