/- Lemmas of Cc12, Cc12b, Cc12c. No condition. -/
import Derived.Test.YtlkccdlgnpkjpaaGreatMO13
set_option linter.unusedVariables false
set_option linter.unusedSimpArgs false
set_option linter.unusedSectionVars false
set_option maxHeartbeats 80000000
set_option maxRecDepth 100000
namespace Go.Proofs.YtlkccdlgnpkjpaaGreat
open Go.RowKit
section
variable{ps:List Pol}{room who:Int}{g:Nat→SV}{M:Core.Mc}{o:Nat→XB}{nl:Nat}{f:Nat→List D}{cnt:Int}{x:Core.X}
theorem step_a0(hM:COK ps room who g M o nl cnt)(fd:Core.Fd):Fun TC 187 14 [xS,bx (.i .i64 33),bx (.i .u64 4611686018427387903),bx jM,bx (.i .u64 1),bx (serS ((aa ps room).pol x.pol) fd)] (ao ps room g M (a8 who x o) nl f cnt)
  15 (.tup [cl (aa ps room) who (Core.step (aa ps room) M x (.a0 fd)).x (Core.step (aa ps room) M x (.a0 fd)).s,rsS (Core.step (aa ps room) M x (.a0 fd)).r])
   (a6 ps room g (Core.step (aa ps room) M x (.a0 fd)).M (a8 who (Core.step (aa ps room) M x (.a0 fd)).x o) nl f cnt (bZ who 1 33 (M.W 33) 0 true)):=by
 obtain⟨q0,q1,q2,q3,q4,q5,qo,q6,q7,q8⟩:=id hM
 have qr:=QR q6
 have hN:=pc (x:=x) (f:=f) hM 33 (by omega)
 have hL:=lB (x:=x) (nl:=aC nl) (f:=bO nl f (bZ who 1 33 (M.W 33) 0 true)) (cnt:=cnt+1) hM (Core.er 5)
 have hS:Core.step (aa ps room) M x (.a0 fd)=if M.W 33=4611686018427387903 then Core.same M x (Core.leave x (Core.er 5))else⟨M,x,.a1 fd (M.W 33),Core.r0⟩:=rfl
 by_cases hm:M.W 33=4611686018427387903
 ·rw[if_pos hm]at hS
  rcases iO (x:=x) (Core.er 5)with e|e
  all_goals
   rw[e]at hL hS
   refine Fun.mk' Tryz.func187 rfl rfl zN (by decide) ?_
   (repeat' (first|((first|refine Wp.any ac rfl ?_|(with_reducible first|refine Go.mk ?_|apply ai.of));conv=>whnf)|(with_reducible refine ab.inline Tryz.func174 rfl rfl rfl (zzb rfl) ?_)|((apply ab.fn14 (h:=hN));(case hh=>exact zz1);(case ha=>exact zA);(case hd=>exact rfl);(case hlive=>exact rfl);(case hkeys=>exact rfl);(case hlt=>exact rfl);(conv=>whnf))|((apply ab.fn14 (h:=hL));(case hh=>exact zz17);(case ha=>exact zA);(case hd=>exact rfl);(case hlive=>exact rfl);(case hkeys=>exact rfl);(case hlt=>exact rfl);(conv=>whnf))|((refine aq (fun hc=>?_) (fun hc=>?_))<;>(try simp only[wz9]at hc)<;>(try (exfalso;omega))<;>(conv=>whnf))))
   rw[hS];dsimp only[Core.same];((apply af.seal14);(case hH=>exact zz4);(case hx=>exact zz0);(case hd=>exact rfl))
 ·rw[if_neg hm]at hS
  refine Fun.mk' Tryz.func187 rfl rfl zN (by decide) ?_
  (repeat' (first|((first|refine Wp.any ac rfl ?_|(with_reducible first|refine Go.mk ?_|apply ai.of));conv=>whnf)|(with_reducible refine ab.inline Tryz.func102 rfl rfl rfl (zzb rfl) ?_)|((apply ab.fn14 (h:=hN));(case hh=>exact zz1);(case ha=>exact zA);(case hd=>exact rfl);(case hlive=>exact rfl);(case hkeys=>exact rfl);(case hlt=>exact rfl);(conv=>whnf))|((refine aq (fun hc=>?_) (fun hc=>?_))<;>(try simp only[wz9]at hc)<;>(try (exfalso;omega))<;>(conv=>whnf))))
  rw[hS];dsimp only[Core.same];((apply af.seal14);(case hH=>exact zz4);(case hx=>exact zz7);(case hd=>exact rfl))
theorem step_a1(hM:COK ps room who g M o nl cnt)(fd:Core.Fd)(u:Int)(hu:0≤u∧u<4611686018427387903):Fun TC 188 14 [xS,bx (.i .i64 33),bx (.i .u64 u),bx (.i .u64 1),bx (.i .u64 4611686018427387903),bx jM,bx (serS ((aa ps room).pol x.pol) fd)] (ao ps room g M (a8 who x o) nl f cnt)
  15 (.tup [cl (aa ps room) who (Core.step (aa ps room) M x (.a1 fd u)).x (Core.step (aa ps room) M x (.a1 fd u)).s,rsS (Core.step (aa ps room) M x (.a1 fd u)).r])
   (a6 ps room g (Core.step (aa ps room) M x (.a1 fd u)).M (a8 who (Core.step (aa ps room) M x (.a1 fd u)).x o) nl f cnt (bZ who 2 33 u (u+1) (decide (M.W 33=u)))):=by
 obtain⟨q0,q1,q2,q3,q4,q5,qo,q6,q7,q8⟩:=id hM
 have qr:=QR q6
 have hN:=rt (x:=x) (f:=f) hM 33 (by omega) u (u+1)
 generalize hP:(aa ps room).pol x.pol=p
 have hA:=dX p fd.cell (u+1)
 have hS:Core.step (aa ps room) M x (.a1 fd u)=if M.W 33=u then⟨M.set 33 (u+1) [],{ x with ser:=u+1 },Core.put x fd (fR p fd.cell (u+1)) (jm p fd.cell (u+1)),Core.r0⟩else⟨M,x,.a0 fd,Core.r0⟩:=by
  simp only[Core.step];rw[hP];rfl
 generalize fR p fd.cell (u+1)=C at hA hS
 generalize jm p fd.cell (u+1)=R at hA hS
 by_cases hm:M.W 33=u
 ·rw[if_pos hm]at hS hN
  have hM2:COK ps room who g (M.set 33 (u+1) []) o nl cnt:=⟨hM.w0,hM.w1,hM.nl,hM.c0,hM.c1,hM.g,hM.o,hM.d0,hM.d1,fun w=>Core.upd_H hM.hd Hc.nil w,hM.ps,hM.room,hM.c32,by show 0≤u+1∧u+1≤_;omega⟩
  have hQ:=xV (x:={ x with ser:=u+1 }) (nl:=aC nl) (f:=bO nl f (bZ who 2 33 u (u+1) (decide (M.W 33=u)))) (cnt:=cnt+1) hM2 fd C R
  have e0:Core.put { x with ser:=u+1 } fd C R=Core.put x fd C R:=rfl
  rw[e0]at hQ
  rcases rZ (x:=x) fd C R with e|e
  all_goals
   rw[e]at hQ hS
   refine Fun.mk' Tryz.func188 rfl rfl zN (by decide) ?_
   (repeat' (first|((first|refine Wp.any ac rfl ?_|(with_reducible first|refine Go.mk ?_|apply ai.of|refine Ov.ok zO ?_)|refine zV ?_);conv=>whnf)|(with_reducible refine Or.inl ?_)|(with_reducible refine ab.inline Tryz.func102 rfl rfl rfl (zzb rfl) ?_)|(with_reducible refine ab.inline Tryz.func175 rfl rfl rfl (zzb rfl) ?_)|(with_reducible refine ab.inline Tryz.func173 rfl rfl rfl (zzb rfl) ?_)|((with_reducible refine At.mk' _ rfl ?_);(refine And.intro zN ?_);conv=>whnf)|((refine And.intro (SV.Lt.d _) ?_);(refine At.mk' _ rfl ?_);(refine And.intro zN ?_);(conv=>whnf))|((apply ab.fn14 (h:=hN));(case hh=>exact zz1);(case ha=>exact zA);(case hd=>exact rfl);(case hlive=>exact rfl);(case hkeys=>exact rfl);(case hlt=>exact rfl);(conv=>whnf))|((with_reducible refine ag.pure (hA) rfl rfl ?_);conv=>whnf)|((apply ab.fn14 (h:=hQ));(case hh=>exact zz17);(case ha=>exact zA);(case hd=>exact rfl);(case hlive=>exact rfl);(case hkeys=>exact rfl);(case hlt=>exact rfl);(conv=>whnf))|((refine aq (fun hc=>?_) (fun hc=>?_))<;>(try simp only[wz9]at hc)<;>(try (exfalso;omega))<;>(conv=>whnf))))
   rw[hS];dsimp only;((apply af.seal14);(case hH=>exact zz4);(case hx=>exact zz0);(case hd=>exact rfl))
 ·rw[if_neg hm]at hS hN
  refine Fun.mk' Tryz.func188 rfl rfl zN (by decide) ?_
  (repeat' (first|((first|refine Wp.any ac rfl ?_|(with_reducible first|refine Go.mk ?_|apply ai.of|refine Ov.ok zO ?_));conv=>whnf)|(with_reducible refine ab.inline Tryz.func102 rfl rfl rfl (zzb rfl) ?_)|(with_reducible refine ab.inline Tryz.func169 rfl rfl rfl (zzb rfl) ?_)|((apply ab.fn14 (h:=hN));(case hh=>exact zz1);(case ha=>exact zA);(case hd=>exact rfl);(case hlive=>exact rfl);(case hkeys=>exact rfl);(case hlt=>exact rfl);(conv=>whnf))|((refine aq (fun hc=>?_) (fun hc=>?_))<;>(try simp only[wz9]at hc)<;>(try (exfalso;omega))<;>(conv=>whnf))))
  rw[hS];dsimp only
  rw[show cl (aa ps room) who x (.a0 fd)=mvS 33 1 4611686018427387903 jM (serS p fd)by rw[← hP];rfl]
  ((apply af.seal14);(case hH=>exact zz4);(case hx=>exact zz7);(case hd=>exact rfl))
end
section
variable{ps:List Pol}{room who:Int}{g:Nat→SV}{M:Core.Mc}{o:Nat→XB}{nl:Nat}{f:Nat→List D}{cnt:Int}{x:Core.X}
theorem step_p0(hM:COK ps room who g M o nl cnt)(fd:Core.Fd)(c:Cel)(r:Rpl):Fun TC 187 14 [xS,bx (.i .i64 32),bx (.i .u64 room),bx yv,bx (.i .u64 1),bx (rsvS (rv fd c r))] (ao ps room g M (a8 who x o) nl f cnt)
  15 (.tup [cl (aa ps room) who (Core.step (aa ps room) M x (.p0 fd c r)).x (Core.step (aa ps room) M x (.p0 fd c r)).s,rsS (Core.step (aa ps room) M x (.p0 fd c r)).r])
   (a6 ps room g (Core.step (aa ps room) M x (.p0 fd c r)).M (a8 who (Core.step (aa ps room) M x (.p0 fd c r)).x o) nl f cnt (bZ who 1 32 (M.W 32) 0 true)):=by
 obtain⟨q0,q1,q2,q3,q4,q5,qo,q6,q7,q8⟩:=id hM
 have qr:=QR q6
 have hN:=pc (x:=x) (f:=f) hM 32 (by omega)
 have hS:Core.step (aa ps room) M x (.p0 fd c r)=if M.W 32=room then⟨M,x,.none,⟨true,Core.er 10⟩⟩else⟨M,x,.p1 fd c r (M.W 32),Core.r0⟩:=rfl
 refine Fun.mk' Tryz.func187 rfl rfl zN (by decide) ?_
 (repeat' (first|((first|refine Wp.any ac rfl ?_|(with_reducible first|refine Go.mk ?_|apply ai.of)|refine zV ?_);conv=>whnf)|(with_reducible refine ab.inline Tryz.func102 rfl rfl rfl (zzb rfl) ?_)|(with_reducible refine ab.inline Tryz.func131 rfl rfl rfl (zzb rfl) ?_)|(with_reducible refine ab.inline Tryz.func177 rfl rfl rfl (zzb rfl) ?_)|((apply ab.fn14 (h:=hN));(case hh=>exact zz1);(case ha=>exact zA);(case hd=>exact rfl);(case hlive=>exact rfl);(case hkeys=>exact rfl);(case hlt=>exact rfl);(conv=>whnf))|((refine aq (fun hc=>?_) (fun hc=>?_))<;>(try simp only[wz9]at hc)<;>(try (exfalso;omega))<;>(conv=>whnf))))
 all_goals rw[hS]
 ·rw[if_pos (by assumption)];dsimp only;((apply af.seal14);(case hH=>exact zz4);(case hx=>exact zz16);(case hd=>exact rfl))
 ·rw[if_neg (by assumption)];dsimp only;((apply af.seal14);(case hH=>exact zz4);(case hx=>exact zz7);(case hd=>exact rfl))
theorem step_p1(hM:COK ps room who g M o nl cnt)(fd:Core.Fd)(c:Cel)(r:Rpl)(u:Int)(hu:0≤u∧u<4611686018427387903):Fun TC 188 14 [xS,bx (.i .i64 32),bx (.i .u64 u),bx (.i .u64 1),bx (.i .u64 room),bx yv,bx (rsvS (rv fd c r))] (ao ps room g M (a8 who x o) nl f cnt)
  15 (.tup [cl (aa ps room) who (Core.step (aa ps room) M x (.p1 fd c r u)).x (Core.step (aa ps room) M x (.p1 fd c r u)).s,rsS (Core.step (aa ps room) M x (.p1 fd c r u)).r])
   (a6 ps room g (Core.step (aa ps room) M x (.p1 fd c r u)).M (a8 who (Core.step (aa ps room) M x (.p1 fd c r u)).x o) nl f cnt (bZ who 2 32 u (u+1) (decide (M.W 32=u)))):=by
 obtain⟨q0,q1,q2,q3,q4,q5,qo,q6,q7,q8⟩:=id hM
 have qr:=QR q6
 have hN:=rt (x:=x) (f:=f) hM 32 (by omega) u (u+1)
 have hS:Core.step (aa ps room) M x (.p1 fd c r u)=if M.W 32=u then⟨M.set 32 (u+1) [],{ x with res:=true },.pS fd c r,Core.r0⟩else⟨M,x,.p0 fd c r,Core.r0⟩:=rfl
 by_cases hm:M.W 32=u
 ·rw[if_pos hm]at hS hN
  refine Fun.mk' Tryz.func188 rfl rfl zN (by decide) ?_
  (repeat' (first|((first|refine Wp.any ac rfl ?_|(with_reducible first|refine Go.mk ?_|apply ai.of|refine Ov.ok zO ?_));conv=>whnf)|(with_reducible refine Or.inl ?_)|(with_reducible refine ab.inline Tryz.func102 rfl rfl rfl (zzb rfl) ?_)|(with_reducible refine ab.inline Tryz.func178 rfl rfl rfl (zzb rfl) ?_)|((refine And.intro (SV.Lt.d _) ?_);(refine At.mk' _ rfl ?_);(refine And.intro zN ?_);(conv=>whnf))|((apply ab.fn14 (h:=hN));(case hh=>exact zz1);(case ha=>exact zA);(case hd=>exact rfl);(case hlive=>exact rfl);(case hkeys=>exact rfl);(case hlt=>exact rfl);(conv=>whnf))|((refine aq (fun hc=>?_) (fun hc=>?_))<;>(try simp only[wz9]at hc)<;>(try (exfalso;omega))<;>(conv=>whnf))))
  rw[hS];dsimp only;((apply af.seal14);(case hH=>exact zz4);(case hx=>exact zz0);(case hd=>exact rfl))
 ·rw[if_neg hm]at hS hN
  refine Fun.mk' Tryz.func188 rfl rfl zN (by decide) ?_
  (repeat' (first|((first|refine Wp.any ac rfl ?_|(with_reducible first|refine Go.mk ?_|apply ai.of|refine Ov.ok zO ?_));conv=>whnf)|(with_reducible refine ab.inline Tryz.func102 rfl rfl rfl (zzb rfl) ?_)|(with_reducible refine ab.inline Tryz.func169 rfl rfl rfl (zzb rfl) ?_)|((apply ab.fn14 (h:=hN));(case hh=>exact zz1);(case ha=>exact zA);(case hd=>exact rfl);(case hlive=>exact rfl);(case hkeys=>exact rfl);(case hlt=>exact rfl);(conv=>whnf))|((refine aq (fun hc=>?_) (fun hc=>?_))<;>(try simp only[wz9]at hc)<;>(try (exfalso;omega))<;>(conv=>whnf))))
  rw[hS];dsimp only;((apply af.seal14);(case hH=>exact zz4);(case hx=>exact zz7);(case hd=>exact rfl))
theorem step_pS(hM:COK ps room who g M o nl cnt)(fd:Core.Fd)(c:Cel)(r:Rpl)(hk:Core.Kx ps x)(hf:Core.Fdk ps 15999999 x fd)(hc':eH ps c)(hw1:1≤fd.w)(hw:fd.w<32)(hv:0≤fd.v∧fd.v<4611686018427387904):Fun TC 176 14 [xS,fdB fd,bx (.i .i64 fd.at'),bx (.b fd.there),yO c,rplB r] (ao ps room g M (a8 who x o) nl f cnt)
  15 (.tup [cl (aa ps room) who (Core.step (aa ps room) M x (.pS fd c r)).x (Core.step (aa ps room) M x (.pS fd c r)).s,rsS (Core.step (aa ps room) M x (.pS fd c r)).r])
   (a6 ps room g (Core.step (aa ps room) M x (.pS fd c r)).M (a8 who (Core.step (aa ps room) M x (.pS fd c r)).x o) nl f cnt (bZ who 2 fd.w fd.v (fd.v+1) (decide (M.W fd.w=fd.v)))):=by
 obtain⟨q0,q1,q2,q3,q4,q5,qo,q6,q7,q8⟩:=id hM
 have qr:=QR q6
 have hWt:=qN fd.h fd.at' fd.there c (by have:=hf.h.len;omega) (by have:=hc'.key;omega) hf.a hf.t
 have hS:Core.step (aa ps room) M x (.pS fd c r)=if M.W fd.w=fd.v then Core.same (M.set fd.w (fd.v+1) (bM fd.h fd.at' fd.there c)) x (if fd.there=true then Core.leave x r else(.none,⟨true,r⟩))else⟨M,x,.k0 .key,Core.r0⟩:=rfl
 have hH:=hf.h.wth hf.a (b:=fd.there) hc'
 generalize bM fd.h fd.at' fd.there c=m at hWt hS hH
 have hSw:=aF nl M.W M.Hd f M.clk cnt who fd.v (fd.v+1) fd.w m q2 q3 q4 q0 q1 (by omega)
 by_cases hm:M.W fd.w=fd.v
 ·rw[if_pos hm]at hS
  rw[if_pos hm,if_pos hm]at hSw
  have hM2:COK ps room who g (M.set fd.w (fd.v+1) m) o nl cnt:=by
   have h0:1≤fd.w:=hw1
   refine⟨hM.w0,hM.w1,hM.nl,hM.c0,hM.c1,hM.g,hM.o,?_,?_,fun w=>Core.upd_H hM.hd hH w,hM.ps,hM.room,?_,?_⟩
   ·show 0≤Dir.upd M.W fd.w (fd.v+1) 0;rw[Dir.upd_ne _ _ (by omega)];exact hM.d0
   ·show Dir.upd M.W fd.w (fd.v+1) 0≤8;rw[Dir.upd_ne _ _ (by omega)];exact hM.d1
   ·show 0≤Dir.upd M.W fd.w (fd.v+1) 32∧Dir.upd M.W fd.w (fd.v+1) 32≤4096;rw[Dir.upd_ne _ _ (by omega)];exact hM.c32
   ·show 0≤Dir.upd M.W fd.w (fd.v+1) 33∧Dir.upd M.W fd.w (fd.v+1) 33≤4611686018427387903;rw[Dir.upd_ne _ _ (by omega)];exact hM.c33
  cases ht:fd.there with
  | true =>
   rw[ht]at hWt hS
   rw[if_pos rfl]at hS
   have hL:=lB (x:=x) (nl:=aC nl) (f:=bO nl f (bZ who 2 fd.w fd.v (fd.v+1) (decide (M.W fd.w=fd.v)))) (cnt:=cnt+1) hM2 r
   rcases iO (x:=x) r with e|e
   all_goals
    rw[e]at hL hS
    refine Fun.mk' Tryz.func176 rfl rfl zN (by decide) ?_
    (repeat' (first|((first|refine Wp.any ac rfl ?_|(with_reducible first|refine Go.mk ?_|apply ai.of|refine Ov.ok zO ?_)|refine zV ?_);conv=>whnf)|((with_reducible refine At.mk' _ rfl ?_);(refine And.intro zN ?_);conv=>whnf)|((with_reducible refine ag.pure (hWt) rfl rfl ?_);conv=>whnf)|((refine ag.new (hSw) [1,2,3,13] [] rfl rfl rfl rfl rfl rfl ?ha ?hh ?hs ?_);(case ha=>exact zA);(case hh=>exact zH);(case hs=>exact zK);(conv=>whnf))|((apply ab.fn14 (h:=hL));(case hh=>exact zz1);(case ha=>exact zA);(case hd=>exact rfl);(case hlive=>exact rfl);(case hkeys=>exact rfl);(case hlt=>exact rfl);(conv=>whnf))|((refine aq (fun hc=>?_) (fun hc=>?_))<;>(try simp only[wz9]at hc)<;>(try (exfalso;omega))<;>(conv=>whnf))))
    rw[hS];dsimp only[Core.same];((apply af.seal14);(case hH=>exact zz4);(case hx=>exact zz0);(case hd=>exact rfl))
  | false =>
   rw[ht]at hWt hS
   rw[if_neg (by decide)]at hS
   refine Fun.mk' Tryz.func176 rfl rfl zN (by decide) ?_
   (repeat' (first|((first|refine Wp.any ac rfl ?_|(with_reducible first|refine Go.mk ?_|apply ai.of|refine Ov.ok zO ?_)|refine zV ?_);conv=>whnf)|(with_reducible refine ab.inline Tryz.func131 rfl rfl rfl (zzb rfl) ?_)|((with_reducible refine At.mk' _ rfl ?_);(refine And.intro zN ?_);conv=>whnf)|((with_reducible refine ag.pure (hWt) rfl rfl ?_);conv=>whnf)|((refine ag.new (hSw) [1,2,3,13] [] rfl rfl rfl rfl rfl rfl ?ha ?hh ?hs ?_);(case ha=>exact zA);(case hh=>exact zH);(case hs=>exact zK);(conv=>whnf))|((refine aq (fun hc=>?_) (fun hc=>?_))<;>(try simp only[wz9]at hc)<;>(try (exfalso;omega))<;>(conv=>whnf))))
   rw[hS];dsimp only[Core.same];((apply af.seal14);(case hH=>exact zz2);(case hx=>exact zz16);(case hd=>exact rfl))
 ·rw[if_neg hm]at hS
  rw[if_neg hm,if_neg hm]at hSw
  have hB:=tX (x:=x) (nl:=aC nl) (f:=bO nl f (bZ who 2 fd.w fd.v (fd.v+1) (decide (M.W fd.w=fd.v)))) (cnt:=cnt+1) hM hk
  refine Fun.mk' Tryz.func176 rfl rfl zN (by decide) ?_
  (repeat' (first|((first|refine Wp.any ac rfl ?_|(with_reducible first|refine Go.mk ?_|apply ai.of|refine Ov.ok zO ?_)|refine zV ?_);conv=>whnf)|(with_reducible refine ab.inline Tryz.func102 rfl rfl rfl (zzb rfl) ?_)|((with_reducible refine At.mk' _ rfl ?_);(refine And.intro zN ?_);conv=>whnf)|((with_reducible refine ag.pure (hWt) rfl rfl ?_);conv=>whnf)|((refine ag.new (hSw) [1,2,3,13] [] rfl rfl rfl rfl rfl rfl ?ha ?hh ?hs ?_);(case ha=>exact zA);(case hh=>exact zH);(case hs=>exact zK);(conv=>whnf))|((apply ab.fn14 (h:=hB));(case hh=>exact zz1);(case ha=>exact zA);(case hd=>exact rfl);(case hlive=>exact rfl);(case hkeys=>exact rfl);(case hlt=>exact rfl);(conv=>whnf))|((refine aq (fun hc=>?_) (fun hc=>?_))<;>(try simp only[wz9]at hc)<;>(try (exfalso;omega))<;>(conv=>whnf))))
  rw[hS];dsimp only;((apply af.seal14);(case hH=>exact zz4);(case hx=>exact zz0);(case hd=>exact rfl))
end
section
variable{ps:List Pol}{room who:Int}{g:Nat→SV}{M:Core.Mc}{o:Nat→XB}{nl:Nat}{f:Nat→List D}{cnt:Int}{x:Core.X}
theorem Ov.of_wrap{k:IntKind}{s z:Int}{c:Int→Prop}(h:k.wrap s=z)(hc:c z):Ov k s c:=⟨by rw[h];exact hc⟩
theorem step_b0(hM:COK ps room who g M o nl cnt)(n:Int)(k:Core.Bk):Fun TC 187 14 [xS,bx (.i .i64 32),bx (.i .u64 ud),bx eN,bx (.i .u64 (fe n)),bx (y2 n k)] (ao ps room g M (a8 who x o) nl f cnt)
  15 (.tup [cl (aa ps room) who (Core.step (aa ps room) M x (.b0 n k)).x (Core.step (aa ps room) M x (.b0 n k)).s,rsS (Core.step (aa ps room) M x (.b0 n k)).r])
   (a6 ps room g (Core.step (aa ps room) M x (.b0 n k)).M (a8 who (Core.step (aa ps room) M x (.b0 n k)).x o) nl f cnt (bZ who 1 32 (M.W 32) 0 true)):=by
 obtain⟨q0,q1,q2,q3,q4,q5,qo,q6,q7,q8⟩:=id hM
 have qr:=QR q6
 have hN:=pc (x:=x) (f:=f) hM 32 (by omega)
 have hc:=hM.c32
 have hS:Core.step (aa ps room) M x (.b0 n k)=⟨M,x,.b1 n k (M.W 32),Core.r0⟩:=rfl
 cases k<;>(
  refine Fun.mk' Tryz.func187 rfl rfl zN (by decide) ?_
  (repeat' (first|((first|refine Wp.any ac rfl ?_|(with_reducible first|refine Go.mk ?_|apply ai.of));conv=>whnf)|(with_reducible refine ab.inline Tryz.func102 rfl rfl rfl (zzb rfl) ?_)|((apply ab.fn14 (h:=hN));(case hh=>exact zz1);(case ha=>exact zA);(case hd=>exact rfl);(case hlive=>exact rfl);(case hkeys=>exact rfl);(case hlt=>exact rfl);(conv=>whnf))|((refine aq (fun hc=>?_) (fun hc=>?_))<;>(try simp only[wz9]at hc)<;>(try (exfalso;omega))<;>(conv=>whnf))))
  all_goals first
   | (exfalso;have:ud=18446744073709551615:=rfl;omega)
   | (rw[hS];dsimp only;((apply af.seal14);(case hH=>exact zz4);(case hx=>exact zz7);(case hd=>exact rfl))))
theorem o9{u n:Int}(hn:0≤n)(hu:n≤u)(hu2:u<4611686018427387904):IntKind.u64.wrap (u+fe n)=u-n:=by
 unfold fe
 have h1:∀z:Int,IntKind.u64.wrap z=z%18446744073709551616:=fun z=>by simp[IntKind.wrap,IntKind.bits,IntKind.signed]
 rw[h1,h1];omega
theorem step_b1(hM:COK ps room who g M o nl cnt)(n:Int)(k:Core.Bk)(u:Int)(hn:1≤n∧n≤4611686018427387903)(hu:0≤u∧u<4611686018427387903)(hnu:M.W 32=u→n≤u)(hk:Core.okBk n k)(hg:∀j sh gn,k=.ev j sh gn→0≤gn∧gn≤1000000000):Fun TC 188 14 [xS,bx (.i .i64 32),bx (.i .u64 u),bx (.i .u64 (fe n)),bx (.i .u64 ud),bx eN,bx (y2 n k)] (ao ps room g M (a8 who x o) nl f cnt)
  15 (.tup [cl (aa ps room) who (Core.step (aa ps room) M x (.b1 n k u)).x (Core.step (aa ps room) M x (.b1 n k u)).s,rsS (Core.step (aa ps room) M x (.b1 n k u)).r])
   (a6 ps room g (Core.step (aa ps room) M x (.b1 n k u)).M (a8 who (Core.step (aa ps room) M x (.b1 n k u)).x o) nl f cnt (bZ who 2 32 u (IntKind.u64.wrap (u+fe n)) (decide (M.W 32=u)))):=by
 obtain⟨q0,q1,q2,q3,q4,q5,qo,q6,q7,q8⟩:=id hM
 have qr:=QR q6
 have hN:=rt (x:=x) (f:=f) hM 32 (by omega) u (IntKind.u64.wrap (u+fe n))
 have hS:Core.step (aa ps room) M x (.b1 n k u)=if M.W 32=u then Core.same (M.set 32 (u-n) []) x (Core.after n k)else⟨M,x,.b0 n k,Core.r0⟩:=rfl
 by_cases hm:M.W 32=u
 ·rw[if_pos hm]at hS hN
  have hle:=hnu hm
  have hc:=hM.c32
  rw[o9 (by omega) hle (by omega)]at hN⊢
  have hw:IntKind.u64.wrap (u+fe n)=u-n:=o9 (by omega) hle (by omega)
  have hM2:COK ps room who g (M.set 32 (u-n) []) o nl cnt:=⟨hM.w0,hM.w1,hM.nl,hM.c0,hM.c1,hM.g,hM.o,hM.d0,hM.d1,fun w=>Core.upd_H hM.hd Hc.nil w,hM.ps,hM.room,by show 0≤u-n∧u-n≤4096;omega,hM.c33⟩
  cases k with
  | lv r =>
   refine Fun.mk' Tryz.func188 rfl rfl zN (by decide) ?_
   (repeat' (first|((first|refine Wp.any ac rfl ?_|(with_reducible first|refine Go.mk ?_|apply ai.of)|refine zV ?_);conv=>whnf)|(with_reducible refine ab.inline Tryz.func131 rfl rfl rfl (zzb rfl) ?_)|(with_reducible refine ab.inline Tryz.func170 rfl rfl rfl (zzb rfl) ?_)|(with_reducible refine ab.inline Tryz.func190 rfl rfl rfl (zzb rfl) ?_)|((with_reducible refine Ov.of_wrap hw ?_);conv=>whnf)|((apply ab.fn14 (h:=hN));(case hh=>exact zz1);(case ha=>exact zA);(case hd=>exact rfl);(case hlive=>exact rfl);(case hkeys=>exact rfl);(case hlt=>exact rfl);(conv=>whnf))|((refine aq (fun hc=>?_) (fun hc=>?_))<;>(try simp only[wz9]at hc)<;>(try (exfalso;omega))<;>(conv=>whnf))))
   rw[hS];dsimp only[Core.same,Core.after];((apply af.seal14);(case hH=>exact zz4);(case hx=>exact zz16);(case hd=>exact rfl))
  | ev j sh gn =>
   obtain⟨hg0,hg1⟩:=hg j sh gn rfl
   have hF:=fm (x:=x) (nl:=aC nl) (f:=bO nl f (bZ who 2 32 u (u-n) (decide (M.W 32=u)))) (cnt:=cnt+1) hM2 j sh (gn+n) hk.1 hk.2
   have hS2:Core.step (aa ps room) M x (.b1 n (.ev j sh gn) u)=Core.same (M.set 32 (u-n) []) x (Core.further j sh (gn+n)):=hS
   rcases dt j sh (gn+n)with e|e
   all_goals
    rw[e]at hF hS2
    refine Fun.mk' Tryz.func188 rfl rfl zN (by decide) ?_
    (repeat' (first|((first|refine Wp.any ac rfl ?_|(with_reducible first|refine Go.mk ?_|apply ai.of|refine Ov.ok zO ?_));conv=>whnf)|(with_reducible refine ab.inline Tryz.func170 rfl rfl rfl (zzb rfl) ?_)|(with_reducible refine ab.inline Tryz.func139 rfl rfl rfl (zzb rfl) ?_)|((with_reducible refine Ov.of_wrap hw ?_);conv=>whnf)|((apply ab.fn14 (h:=hN));(case hh=>exact zz1);(case ha=>exact zA);(case hd=>exact rfl);(case hlive=>exact rfl);(case hkeys=>exact rfl);(case hlt=>exact rfl);(conv=>whnf))|((apply ab.fn14 (h:=hF));(case hh=>exact zz17);(case ha=>exact zA);(case hd=>exact rfl);(case hlive=>exact rfl);(case hkeys=>exact rfl);(case hlt=>exact rfl);(conv=>whnf))|((refine aq (fun hc=>?_) (fun hc=>?_))<;>(try simp only[wz9]at hc)<;>(try (exfalso;omega))<;>(conv=>whnf))))
    rw[hS2];dsimp only[Core.same];((apply af.seal14);(case hH=>exact zz4);(case hx=>exact zz0);(case hd=>exact rfl))
 ·rw[if_neg hm]at hS hN
  cases k<;>(
   refine Fun.mk' Tryz.func188 rfl rfl zN (by decide) ?_
   (repeat' (first|((first|refine Wp.any ac rfl ?_|(with_reducible first|refine Go.mk ?_|apply ai.of));conv=>whnf)|(with_reducible refine ab.inline Tryz.func102 rfl rfl rfl (zzb rfl) ?_)|(with_reducible refine ab.inline Tryz.func169 rfl rfl rfl (zzb rfl) ?_)|((with_reducible refine Ov.mk ?_);conv=>whnf)|((apply ab.fn14 (h:=hN));(case hh=>exact zz1);(case ha=>exact zA);(case hd=>exact rfl);(case hlive=>exact rfl);(case hkeys=>exact rfl);(case hlt=>exact rfl);(conv=>whnf))|((refine aq (fun hc=>?_) (fun hc=>?_))<;>(try simp only[wz9]at hc)<;>(try (exfalso;omega))<;>(conv=>whnf))))
   rw[hS];dsimp only;((apply af.seal14);(case hH=>exact zz4);(case hx=>exact zz7);(case hd=>exact rfl)))
end
end Go.Proofs.YtlkccdlgnpkjpaaGreat
