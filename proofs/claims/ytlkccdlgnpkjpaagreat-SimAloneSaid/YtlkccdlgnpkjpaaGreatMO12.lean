/- Lemmas of Cc9, Cc9b. No condition. -/
import Derived.Test.YtlkccdlgnpkjpaaGreatMO11
set_option linter.unusedVariables false
set_option linter.unusedSimpArgs false
set_option linter.unusedSectionVars false
set_option maxHeartbeats 80000000
set_option maxRecDepth 100000
namespace Go.Proofs.YtlkccdlgnpkjpaaGreat
open Go.RowKit
section
variable{ps:List Pol}{room who:Int}{g:Nat→SV}{M:Core.Mc}{o:Nat→XB}{nl:Nat}{f:Nat→List D}{cnt:Int}{x:Core.X}
theorem tf_K(P:Core.Ops)(f0:Core.Fc)(lv:Nat)(hl:lv≤3)(h:List Cel):Fun TC 165 60 [.d (am 4 Cel.D h),bx ar,bx (.i .i64 who),bx (.i .i64 lv),bx (.i .u64 (Core.sumF x f0)),bx (thn P x f0),qY] []
  60 (cl P who x (Core.toH x f0 lv h)) []:=by
 cases f0<;>(
  refine Fun.mk' Tryz.func165 rfl rfl zN (by decide) ?_
  (repeat' (first|((first|refine Wp.any ac rfl ?_|(with_reducible first|refine Go.mk ?_|apply ai.of|refine Ov.ok zO ?_|refine ab.funM (hY _ _ (by omega) _ _ _ _ (by first|assumption|exact SV.Lt.of rfl)) rfl rfl ?_));conv=>whnf)))
  (refine af.sealM ?_);(conv=>whnf);(repeat' (first|exact zE9)))
theorem tF(xs:List Cel)(lv:Nat)(x:Int)(hlv:lv≤4)(hx:0≤x)(hl:xs.length≤16777216):Pure TC 43 [.d (am 4 Cel.D xs),.i .i64 lv,.i .i64 x] (.d (am 4 Cel.D (gL xs lv x.toNat))):=by
 have:=ig xs lv x.toNat hlv hl
 rwa [Int.toNat_of_nonneg hx]at this
theorem step_kF(hM:COK ps room who g M o nl cnt)(f0:Core.Fc)(lv w:Nat)(hl:lv≤3)(hw:w<32):Fun TC 182 14 [bx ar,bx (.i .i64 who),bx (.i .i64 w),bx (tfK who (Core.sumF x f0) lv (thn (aa ps room) x f0))] (ao ps room g M (a8 who x o) nl f cnt)
  15 (.tup [cl (aa ps room) who (Core.step (aa ps room) M x (.kF f0 lv w)).x (Core.step (aa ps room) M x (.kF f0 lv w)).s,rsS (Core.step (aa ps room) M x (.kF f0 lv w)).r])
   (a6 ps room g (Core.step (aa ps room) M x (.kF f0 lv w)).M (a8 who (Core.step (aa ps room) M x (.kF f0 lv w)).x o) nl f cnt (bZ who 1 w (M.W w) 0 true)):=by
 obtain⟨q0,q1,q2,q3,q4,q5,qo,q6,q7,q8⟩:=id hM
 have qr:=QR q6
 cases f0 with
 | key =>
  have hT:=tf_K (who:=who) (x:=x) (aa ps room) .key lv hl (M.Hd w)
  refine Fun.mk' Tryz.func182 rfl rfl zN (by decide) ?_
  (repeat' (first|((first|refine Wp.any ac rfl ?_|(with_reducible first|refine Go.mk ?_|apply ai.of)|refine zV ?_);conv=>whnf)|((refine ag.new (aK nl M.W M.Hd f M.clk cnt who w q2 q3 q4 q0 q1 (by omega)) [1,2,3,13] [] rfl rfl rfl rfl rfl rfl ?ha ?hh ?hs ?_);(case ha=>exact zA);(case hh=>exact zH);(case hs=>exact zK);(conv=>whnf))|((with_reducible refine ag.funM hT rfl rfl ?_);conv=>whnf)|((refine aq (fun hc=>?_) (fun hc=>?_))<;>(try simp only[wz9]at hc)<;>(try (exfalso;omega))<;>(conv=>whnf))))
  ·(rw[show Core.step (aa ps room) M x (.kF .key lv w)=⟨M,x,Core.toH x .key lv (M.Hd w),Core.r0⟩ from(by simp only[Core.step];rw[if_pos (by omega)])];dsimp only; ((apply af.seal14);(case hH=>exact zz2);(case hx=>exact zz0);(case hd=>exact rfl)))
  ·(rw[show Core.step (aa ps room) M x (.kF .key lv w)=⟨M,x,.kG .key lv w (M.W w) (M.Hd w),Core.r0⟩ from(by simp only[Core.step];rw[if_neg (by omega)])];dsimp only; ((apply af.seal14);(case hH=>exact zz2);(case hx=>exact zz7);(case hd=>exact rfl)))
 | ev j sh gn =>
  have hT:=tf_K (who:=who) (x:=x) (aa ps room) (.ev j sh gn) lv hl (M.Hd w)
  refine Fun.mk' Tryz.func182 rfl rfl zN (by decide) ?_
  (repeat' (first|((first|refine Wp.any ac rfl ?_|(with_reducible first|refine Go.mk ?_|apply ai.of)|refine zV ?_);conv=>whnf)|((refine ag.new (aK nl M.W M.Hd f M.clk cnt who w q2 q3 q4 q0 q1 (by omega)) [1,2,3,13] [] rfl rfl rfl rfl rfl rfl ?ha ?hh ?hs ?_);(case ha=>exact zA);(case hh=>exact zH);(case hs=>exact zK);(conv=>whnf))|((with_reducible refine ag.funM hT rfl rfl ?_);conv=>whnf)|((refine aq (fun hc=>?_) (fun hc=>?_))<;>(try simp only[wz9]at hc)<;>(try (exfalso;omega))<;>(conv=>whnf))))
  ·(rw[show Core.step (aa ps room) M x (.kF (.ev j sh gn) lv w)=⟨M,x,Core.toH x (.ev j sh gn) lv (M.Hd w),Core.r0⟩ from(by simp only[Core.step];rw[if_pos (by omega)])];dsimp only; ((apply af.seal14);(case hH=>exact zz2);(case hx=>exact zz0);(case hd=>exact rfl)))
  ·(rw[show Core.step (aa ps room) M x (.kF (.ev j sh gn) lv w)=⟨M,x,.kG (.ev j sh gn) lv w (M.W w) (M.Hd w),Core.r0⟩ from(by simp only[Core.step];rw[if_neg (by omega)])];dsimp only; ((apply af.seal14);(case hH=>exact zz2);(case hx=>exact zz7);(case hd=>exact rfl)))
theorem step_kG(hM:COK ps room who g M o nl cnt)(f0:Core.Fc)(lv w:Nat)(v:Int)(h:List Cel)(hl:lv≤3)(hw:w<32)(hv0:0≤v)(hv:v<4611686018427387904):Fun TC 183 14 [bx ar,bx (.i .i64 who),bx (.i .i64 w),bx (.i .u64 v),bx (.d (am 4 Cel.D h)),bx (tfK who (Core.sumF x f0) lv (thn (aa ps room) x f0)),qY] (ao ps room g M (a8 who x o) nl f cnt)
  15 (.tup [cl (aa ps room) who (Core.step (aa ps room) M x (.kG f0 lv w v h)).x (Core.step (aa ps room) M x (.kG f0 lv w v h)).s,rsS (Core.step (aa ps room) M x (.kG f0 lv w v h)).r])
   (a6 ps room g (Core.step (aa ps room) M x (.kG f0 lv w v h)).M (a8 who (Core.step (aa ps room) M x (.kG f0 lv w v h)).x o) nl f cnt (bZ who 2 w v (v+4611686018427387904) (decide (M.W w=v)))):=by
 obtain⟨q0,q1,q2,q3,q4,q5,qo,q6,q7,q8⟩:=id hM
 have qr:=QR q6
 cases f0 with
 | key =>
  have hT:=tf_K (who:=who) (x:=x) (aa ps room) .key lv hl h
  refine Fun.mk' Tryz.func183 rfl rfl zN (by decide) ?_
  (repeat' (first|((first|refine Wp.any ac rfl ?_|(with_reducible first|refine Go.mk ?_|apply ai.of|refine Ov.ok zO ?_)|refine zV ?_);conv=>whnf)|((refine ag.new (aF nl M.W M.Hd f M.clk cnt who v (v+4611686018427387904) w h q2 q3 q4 q0 q1 (by omega)) [1,2,3,13] [] rfl rfl rfl rfl rfl rfl ?ha ?hh ?hs ?_);(case ha=>exact zA);(case hh=>exact zH);(case hs=>exact zK);(conv=>whnf))|((with_reducible first|refine ag.funM (ck _ _ _ _ (by first|assumption|exact SV.Lt.of rfl)) rfl rfl ?_|refine ag.funM hT rfl rfl ?_);conv=>whnf)|((refine aq (fun hc=>?_) (fun hc=>?_))<;>(try simp only[wz9]at hc)<;>(try (exfalso;omega))<;>(conv=>whnf))))
  ·(rw[show Core.step (aa ps room) M x (.kG .key lv w v h)=⟨M,x,.kF .key lv w,Core.r0⟩ from(by simp only[Core.step];rw[if_neg (by assumption)])];dsimp only; ((apply af.seal14);(case hH=>exact zz5);(case hx=>exact zz0);(case hd=>exact rfl)))
  ·(rw[show Core.step (aa ps room) M x (.kG .key lv w v h)=⟨M.set w (v+Dir.FZ) h,x,Core.toH x .key lv h,Core.r0⟩ from(by simp only[Core.step];rw[if_pos (by assumption)])];dsimp only; ((apply af.seal14);(case hH=>exact zz5);(case hx=>exact zz0);(case hd=>exact rfl)))
 | ev j sh gn =>
  have hT:=tf_K (who:=who) (x:=x) (aa ps room) (.ev j sh gn) lv hl h
  refine Fun.mk' Tryz.func183 rfl rfl zN (by decide) ?_
  (repeat' (first|((first|refine Wp.any ac rfl ?_|(with_reducible first|refine Go.mk ?_|apply ai.of|refine Ov.ok zO ?_)|refine zV ?_);conv=>whnf)|((refine ag.new (aF nl M.W M.Hd f M.clk cnt who v (v+4611686018427387904) w h q2 q3 q4 q0 q1 (by omega)) [1,2,3,13] [] rfl rfl rfl rfl rfl rfl ?ha ?hh ?hs ?_);(case ha=>exact zA);(case hh=>exact zH);(case hs=>exact zK);(conv=>whnf))|((with_reducible first|refine ag.funM (ck _ _ _ _ (by first|assumption|exact SV.Lt.of rfl)) rfl rfl ?_|refine ag.funM hT rfl rfl ?_);conv=>whnf)|((refine aq (fun hc=>?_) (fun hc=>?_))<;>(try simp only[wz9]at hc)<;>(try (exfalso;omega))<;>(conv=>whnf))))
  ·(rw[show Core.step (aa ps room) M x (.kG (.ev j sh gn) lv w v h)=⟨M,x,.kF (.ev j sh gn) lv w,Core.r0⟩ from(by simp only[Core.step];rw[if_neg (by assumption)])];dsimp only; ((apply af.seal14);(case hH=>exact zz5);(case hx=>exact zz0);(case hd=>exact rfl)))
  ·(rw[show Core.step (aa ps room) M x (.kG (.ev j sh gn) lv w v h)=⟨M.set w (v+Dir.FZ) h,x,Core.toH x (.ev j sh gn) lv h,Core.r0⟩ from(by simp only[Core.step];rw[if_pos (by assumption)])];dsimp only; ((apply af.seal14);(case hH=>exact zz5);(case hx=>exact zz0);(case hd=>exact rfl)))
theorem pow_16{lv:Nat}(hl:lv≤4):(2:Int)^lv≤16∧(0:Int)<2^lv:=by
 have hlv:lv=0∨lv=1∨lv=2∨lv=3∨lv=4:=by omega
 rcases hlv with rfl|rfl|rfl|rfl|rfl<;>decide
theorem step_kL(hM:COK ps room who g M o nl cnt)(f0:Core.Fc)(lv w:Nat)(h:List Cel)(hl:lv≤4)(hw2:2^lv≤w)(hw:w<32)(hh:Hc ps 16000000 h):Fun TC 185 14 [bx ar,bx (.i .i64 who),bx (.i .i64 w),bx (.d (am 4 Cel.D h)),bx (.i .i64 lv),bx (thK who (Core.sumF x f0) (thn (aa ps room) x f0)),bx .any] (ao ps room g M (a8 who x o) nl f cnt)
  15 (.tup [cl (aa ps room) who (Core.step (aa ps room) M x (.kL f0 lv w h)).x (Core.step (aa ps room) M x (.kL f0 lv w h)).s,rsS (Core.step (aa ps room) M x (.kL f0 lv w h)).r])
   (a6 ps room g (Core.step (aa ps room) M x (.kL f0 lv w h)).M (a8 who (Core.step (aa ps room) M x (.kL f0 lv w h)).x o) nl f cnt (bZ who 2 w 0 1 (decide (M.W w=0)))):=by
 obtain⟨q0,q1,q2,q3,q4,q5,qo,q6,q7,q8⟩:=id hM
 have qr:=QR q6
 have e1:=ir hl
 have e2:((2^lv:Nat):Int)=2^lv:=by simp
 have hb:(2:Nat)^lv≤2^4:=Q16 (by omega) hl
 have e3:((w:Int)-IntKind.i64.wrap (1*2^min ((lv:Nat):Int).toNat IntKind.i64.bits)).toNat=w-2^lv:=by rw[e1];omega
 have hC:=tF h lv ((w:Int)-IntKind.i64.wrap (1*2^min ((lv:Nat):Int).toNat IntKind.i64.bits)) hl (by rw[e1];omega) (by have:=hh.len;omega)
 rw[e3]at hC
 have hov:IntKind.i64.wrap ((w:Int)-IntKind.i64.wrap (1*2^min ((lv:Nat):Int).toNat IntKind.i64.bits))=(w:Int)-IntKind.i64.wrap (1*2^min ((lv:Nat):Int).toNat IntKind.i64.bits):=IntWalk.i64_in _ (by have e4:=pow_16 hl;rw[e1];omega)
 cases f0 with
 | key =>
  refine Fun.mk' Tryz.func185 rfl rfl zN (by decide) ?_
  (repeat' (first|((first|refine Wp.any ac rfl ?_|(with_reducible first|refine Go.mk ?_|apply ai.of)|refine zV ?_|(with_reducible first|refine And.intro zC ?_|refine Ov.ok hov ?_|refine ag.pure (hC) rfl rfl ?_));conv=>whnf)|((refine ag.new (aF nl M.W M.Hd f M.clk cnt who 0 1 w (gL h lv (w-2^lv)) q2 q3 q4 q0 q1 (by omega)) [1,2,3,13] [] rfl rfl rfl rfl rfl rfl ?ha ?hh ?hs ?_);(case ha=>exact zA);(case hh=>exact zH);(case hs=>exact zK);(conv=>whnf))|(with_reducible refine ab.inline Tryz.func166 rfl rfl rfl (zzb rfl) ?_)|((with_reducible refine ag.funM (fC _ _ _ _ _ (by first|assumption|exact SV.Lt.of rfl)) rfl rfl ?_);conv=>whnf)))
  by_cases hm:M.W w=0
  ·(rw[show Core.step (aa ps room) M x (.kL .key lv w h)=⟨M.set w 1 (gL h lv (w-2^lv)),x,.kE .key w,Core.r0⟩ from(by simp only[Core.step];rw[if_pos hm];rfl)];dsimp only; ((apply af.seal14);(case hH=>exact zz5);(case hx=>exact zz0);(case hd=>exact rfl)))
  ·(rw[show Core.step (aa ps room) M x (.kL .key lv w h)=⟨M,x,.kE .key w,Core.r0⟩ from(by simp only[Core.step];rw[if_neg hm])];dsimp only; ((apply af.seal14);(case hH=>exact zz5);(case hx=>exact zz0);(case hd=>exact rfl)))
 | ev j sh gn =>
  refine Fun.mk' Tryz.func185 rfl rfl zN (by decide) ?_
  (repeat' (first|((first|refine Wp.any ac rfl ?_|(with_reducible first|refine Go.mk ?_|apply ai.of)|refine zV ?_|(with_reducible first|refine And.intro zC ?_|refine Ov.ok hov ?_|refine ag.pure (hC) rfl rfl ?_));conv=>whnf)|((refine ag.new (aF nl M.W M.Hd f M.clk cnt who 0 1 w (gL h lv (w-2^lv)) q2 q3 q4 q0 q1 (by omega)) [1,2,3,13] [] rfl rfl rfl rfl rfl rfl ?ha ?hh ?hs ?_);(case ha=>exact zA);(case hh=>exact zH);(case hs=>exact zK);(conv=>whnf))|(with_reducible refine ab.inline Tryz.func166 rfl rfl rfl (zzb rfl) ?_)|((with_reducible refine ag.funM (fC _ _ _ _ _ (by first|assumption|exact SV.Lt.of rfl)) rfl rfl ?_);conv=>whnf)))
  by_cases hm:M.W w=0
  ·(rw[show Core.step (aa ps room) M x (.kL (.ev j sh gn) lv w h)=⟨M.set w 1 (gL h lv (w-2^lv)),x,.kE (.ev j sh gn) w,Core.r0⟩ from(by simp only[Core.step];rw[if_pos hm];rfl)];dsimp only; ((apply af.seal14);(case hH=>exact zz5);(case hx=>exact zz0);(case hd=>exact rfl)))
  ·(rw[show Core.step (aa ps room) M x (.kL (.ev j sh gn) lv w h)=⟨M,x,.kE (.ev j sh gn) w,Core.r0⟩ from(by simp only[Core.step];rw[if_neg hm])];dsimp only; ((apply af.seal14);(case hH=>exact zz5);(case hx=>exact zz0);(case hd=>exact rfl)))
end
section
variable{ps:List Pol}{room who:Int}{g:Nat→SV}{M:Core.Mc}{o:Nat→XB}{nl:Nat}{f:Nat→List D}{cnt:Int}{x:Core.X}
theorem step_kH(hM:COK ps room who g M o nl cnt)(f0:Core.Fc)(lv w:Nat)(h:List Cel)(hw:w<32)(hk:Core.fcK ps x f0)(hk2:Core.okFc f0):Fun TC 184 14 [bx ar,bx (.i .i64 who),bx (.i .i64 w),bx (thK who (Core.sumF x f0) (thn (aa ps room) x f0)),bx (.d (am 4 Cel.D h)),bx (.i .i64 lv)] (ao ps room g M (a8 who x o) nl f cnt)
  15 (.tup [cl (aa ps room) who (Core.step (aa ps room) M x (.kH f0 lv w h)).x (Core.step (aa ps room) M x (.kH f0 lv w h)).s,rsS (Core.step (aa ps room) M x (.kH f0 lv w h)).r])
   (a6 ps room g (Core.step (aa ps room) M x (.kH f0 lv w h)).M (a8 who (Core.step (aa ps room) M x (.kH f0 lv w h)).x o) nl f cnt (bZ who 1 w (M.W w) 0 true)):=by
 obtain⟨q0,q1,q2,q3,q4,q5,qo,q6,q7,q8⟩:=id hM
 have qr:=QR q6
 cases f0 with
 | key =>
  have hF:=lO (nl:=aC nl) (f:=bO nl f (bZ who 1 w (M.W w) 0 true)) (cnt:=cnt+1) hM .key hk hk2 w (M.W w) (M.Hd w) (q8 w) rfl
  have hE2:¬(M.W w=0∨4611686018427387904≤M.W w)→Core.step (aa ps room) M x (.kH .key lv w h)=⟨M,x,(Core.found (aa ps room) x w (M.W w) (M.Hd w) .key).1,(Core.found (aa ps room) x w (M.W w) (M.Hd w) .key).2⟩:=fun h=>by simp only[Core.step,Core.same];rw[if_neg (by omega),yF h]
  rcases cK (aa ps room) who x (Core.found (aa ps room) x w (M.W w) (M.Hd w) .key).1 with e|⟨n',cs',e,h5'⟩
  all_goals
   rw[e]at hF
   generalize (Core.found (aa ps room) x w (M.W w) (M.Hd w) .key).2=rr at hF hE2
   refine Fun.mk' Tryz.func184 rfl rfl zN (by decide) ?_
   (repeat' (first|((first|refine Wp.any ac rfl ?_|(with_reducible first|refine Go.mk ?_|apply ai.of)|refine zV ?_);conv=>whnf)|((refine ag.new (aK nl M.W M.Hd f M.clk cnt who w q2 q3 q4 q0 q1 (by omega)) [1,2,3,13] [] rfl rfl rfl rfl rfl rfl ?ha ?hh ?hs ?_);(case ha=>exact zA);(case hh=>exact zH);(case hs=>exact zK);(conv=>whnf))|(with_reducible refine ab.inline Tryz.func166 rfl rfl rfl (zzb rfl) ?_)|(with_reducible refine ab.inline Tryz.func167 rfl rfl rfl (zzb rfl) ?_)|((with_reducible refine ag.funM (eh _ _ _ _ (by first|assumption|exact SV.Lt.of rfl)) rfl rfl ?_);conv=>whnf)|((apply ab.fn14F (h:=hF));(case hh=>exact zz1);(case hF=>assumption);(case ha=>exact zz18);(case hd=>exact rfl);(case hlive=>exact rfl);(case hkeys=>exact rfl);(case hlt=>exact rfl);(conv=>whnf))|((apply ab.fn14 (h:=hF));(case hh=>exact zz1);(case ha=>exact zz18);(case hd=>exact rfl);(case hlive=>exact rfl);(case hkeys=>exact rfl);(case hlt=>exact rfl);(conv=>whnf))|((refine aq (fun hc=>?_) (fun hc=>?_))<;>(try simp only[wz9]at hc)<;>(try (exfalso;omega))<;>(conv=>whnf))))
   all_goals first
    | (rw[show Core.step (aa ps room) M x (.kH .key lv w h)=⟨M,x,.kL .key lv w h,Core.r0⟩ from(by simp only[Core.step];rw[if_pos (by omega)])];dsimp only; ((apply af.seal14);(case hH=>exact zz2);(case hx=>exact zz7);(case hd=>exact rfl)))
    | (rw[show Core.step (aa ps room) M x (.kH .key lv w h)=⟨M,x,.k0 .key,Core.r0⟩ from(by simp only[Core.step,Core.same];rw[if_neg (by omega),yG (by omega)])];dsimp only; ((apply af.seal14);(case hH=>exact zz2);(case hx=>exact zz0);(case hd=>exact rfl)))
    | (rw[hE2 (by omega)];dsimp only;rw[e];((apply af.seal14);(case hH=>exact zz4);(case hx=>exact zz21);(case hd=>exact rfl)))
 | ev j sh gn =>
  have hF:=lO (nl:=aC nl) (f:=bO nl f (bZ who 1 w (M.W w) 0 true)) (cnt:=cnt+1) hM (.ev j sh gn) hk hk2 w (M.W w) (M.Hd w) (q8 w) rfl
  have hE2:¬(M.W w=0∨4611686018427387904≤M.W w)→Core.step (aa ps room) M x (.kH (.ev j sh gn) lv w h)=⟨M,x,(Core.found (aa ps room) x w (M.W w) (M.Hd w) (.ev j sh gn)).1,(Core.found (aa ps room) x w (M.W w) (M.Hd w) (.ev j sh gn)).2⟩:=fun h=>by simp only[Core.step,Core.same];rw[if_neg (by omega),yF h]
  rcases cK (aa ps room) who x (Core.found (aa ps room) x w (M.W w) (M.Hd w) (.ev j sh gn)).1 with e|⟨n',cs',e,h5'⟩
  all_goals
   rw[e]at hF
   generalize (Core.found (aa ps room) x w (M.W w) (M.Hd w) (.ev j sh gn)).2=rr at hF hE2
   refine Fun.mk' Tryz.func184 rfl rfl zN (by decide) ?_
   (repeat' (first|((first|refine Wp.any ac rfl ?_|(with_reducible first|refine Go.mk ?_|apply ai.of)|refine zV ?_);conv=>whnf)|((refine ag.new (aK nl M.W M.Hd f M.clk cnt who w q2 q3 q4 q0 q1 (by omega)) [1,2,3,13] [] rfl rfl rfl rfl rfl rfl ?ha ?hh ?hs ?_);(case ha=>exact zA);(case hh=>exact zH);(case hs=>exact zK);(conv=>whnf))|(with_reducible refine ab.inline Tryz.func166 rfl rfl rfl (zzb rfl) ?_)|(with_reducible refine ab.inline Tryz.func167 rfl rfl rfl (zzb rfl) ?_)|((with_reducible refine ag.funM (eh _ _ _ _ (by first|assumption|exact SV.Lt.of rfl)) rfl rfl ?_);conv=>whnf)|((apply ab.fn14F (h:=hF));(case hh=>exact zz1);(case hF=>assumption);(case ha=>exact zz19);(case hd=>exact rfl);(case hlive=>exact rfl);(case hkeys=>exact rfl);(case hlt=>exact rfl);(conv=>whnf))|((apply ab.fn14 (h:=hF));(case hh=>exact zz1);(case ha=>exact zz19);(case hd=>exact rfl);(case hlive=>exact rfl);(case hkeys=>exact rfl);(case hlt=>exact rfl);(conv=>whnf))|((refine aq (fun hc=>?_) (fun hc=>?_))<;>(try simp only[wz9]at hc)<;>(try (exfalso;omega))<;>(conv=>whnf))))
   all_goals first
    | (rw[show Core.step (aa ps room) M x (.kH (.ev j sh gn) lv w h)=⟨M,x,.kL (.ev j sh gn) lv w h,Core.r0⟩ from(by simp only[Core.step];rw[if_pos (by omega)])];dsimp only; ((apply af.seal14);(case hH=>exact zz2);(case hx=>exact zz7);(case hd=>exact rfl)))
    | (rw[show Core.step (aa ps room) M x (.kH (.ev j sh gn) lv w h)=⟨M,x,.k0 (.ev j sh gn),Core.r0⟩ from(by simp only[Core.step,Core.same];rw[if_neg (by omega),yG (by omega)])];dsimp only; ((apply af.seal14);(case hH=>exact zz2);(case hx=>exact zz0);(case hd=>exact rfl)))
    | (rw[hE2 (by omega)];dsimp only;rw[e];((apply af.seal14);(case hH=>exact zz4);(case hx=>exact zz21);(case hd=>exact rfl)))
end
end Go.Proofs.YtlkccdlgnpkjpaaGreat
