/- Lemmas of Cc10, Cc7b, Cc11. No condition. -/
import Derived.Test.YtlkccdlgnpkjpaaGreatMO12
set_option linter.unusedVariables false
set_option linter.unusedSimpArgs false
set_option linter.unusedSectionVars false
set_option maxHeartbeats 80000000
set_option maxRecDepth 100000
namespace Go.Proofs.YtlkccdlgnpkjpaaGreat
open Go.RowKit
section
variable{ps:List Pol}{room who:Int}{g:Nat→SV}{M:Core.Mc}{o:Nat→XB}{nl:Nat}{f:Nat→List D}{cnt:Int}{x:Core.X}
theorem tE(xs:List Cel)(lv:Nat)(x:Int)(hlv:lv≤4)(hx:0≤x)(hl:xs.length≤16777216):Pure TC 43 [.d (am 4 Cel.D xs),.i .i64 lv,.i .i64 x] (.d (am 4 Cel.D (gL xs lv x.toNat))):=by
 have:=ig xs lv x.toNat hlv hl
 rwa [Int.toNat_of_nonneg hx]at this
theorem pow_16'{lv:Nat}(hl:lv≤4):(2:Int)^lv≤16∧(0:Int)<2^lv:=by
 have hlv:lv=0∨lv=1∨lv=2∨lv=3∨lv=4:=by omega
 rcases hlv with rfl|rfl|rfl|rfl|rfl<;>decide
theorem tf_S(P:Core.Ops)(lv i:Nat)(hl:lv≤3)(hi:i<2^lv)(h:List Cel):Fun TC 159 60 [.d (am 4 Cel.D h),bx ar,bx (.i .i64 who),bx (.i .i64 lv),bx (.i .i64 i),bx ox,qY] []
  60 (cl P who x (.sH lv i false h)) []:=by
 have hb:(2:Nat)^lv≤2^3:=Q16 (by omega) hl
 have e:Dir.plc (lv+1) (i:Int)=Dir.upW lv i false:=by rw[← nG hi];rfl
 refine Fun.mk' Tryz.func159 rfl rfl zN (by decide) ?_
 (repeat' (first|((first|refine Wp.any ac rfl ?_|(with_reducible first|refine Go.mk ?_|apply ai.of|refine Ov.ok zO ?_|refine ab.funM (hY _ _ (by omega) _ _ _ _ (by first|assumption|exact SV.Lt.of rfl)) rfl rfl ?_));conv=>whnf)))
 rw[e]
 (refine af.sealM ?_);(conv=>whnf);(repeat' (first|exact zE9|((refine aj.ptrN rfl rfl ?_);(conv=>whnf))|((refine aj.fn ?_);(conv=>whnf))|((refine aj.iref ?_);(conv=>whnf))|((refine And.intro ?_ ?_)<;>(conv=>whnf))))
theorem move_I(P:Core.Ops)(u y:Int)(hx:0≤u)(hx3:u≤3)(hy:0≤y)(hy2:y≤2^u.toNat):Fun TC 128 60 [ar,.i .i64 who,.i .i64 u,.i .i64 y,ox] [] 60 (cl P who x (Core.move u.toNat y.toNat)) []:=by
 have e:((2^u.toNat:Nat):Int)=2^u.toNat:=by simp
 have:=sJ P x who u.toNat y.toNat (by omega) (by omega)
 rwa [Int.toNat_of_nonneg hx,Int.toNat_of_nonneg hy]at this
theorem zn(P:Core.Ops)(u:Int)(h0:0≤u)(h3:u≤3):Fun TC 128 60 [ar,.i .i64 who,.i .i64 u,.i .i64 0,ox] [] 60 (cl P who x (.sF u.toNat 0)) []:=by
 have e:Core.move u.toNat 0=.sF u.toNat 0:=by unfold Core.move;rw[if_neg (by have:=Dir.pow_pos2 u.toNat;omega)]
 have:=move_I (who:=who) (x:=x) P u 0 h0 h3 (by omega) (Int.le_of_lt (Int.pow_pos (by decide)))
 rwa [show(0:Int).toNat=0 from rfl,e]at this
theorem zb{lv i:Nat}{up:Bool}(hl:lv≤3)(hi:i<2^lv):2^(lv+1)≤Dir.upW lv i up∧Dir.upW lv i up<32:=by
 obtain⟨j,h1,h2,_⟩:=Dir.upW_sh (up:=up) hi
 have:=Dir.sh_32 (by omega:lv+1≤4) h1
 omega
theorem zm(P:Core.Ops)(lv i:Nat)(hl:lv≤3)(hi:i<2^lv):Fun TC 128 60 [ar,.i .i64 who,.i .i64 lv,.i .i64 ((i:Int)+1),ox] [] 60 (cl P who x (Core.move lv (i+1))) []:=sJ P x who lv (i+1) hl (by omega)
theorem o7(lv i:Nat):Core.move lv i=.sV lv∨Core.move lv i=.sF lv i:=by unfold Core.move;split<;>simp
theorem step_sF(hM:COK ps room who g M o nl cnt)(lv i:Nat)(hl:lv≤3)(hi:i<2^lv):Fun TC 182 14 [bx ar,bx (.i .i64 who),bx (.i .i64 ((2^lv+i:Nat):Int)),bx (tfS who lv i)] (ao ps room g M (a8 who x o) nl f cnt)
  15 (.tup [cl (aa ps room) who (Core.step (aa ps room) M x (.sF lv i)).x (Core.step (aa ps room) M x (.sF lv i)).s,rsS (Core.step (aa ps room) M x (.sF lv i)).r])
   (a6 ps room g (Core.step (aa ps room) M x (.sF lv i)).M (a8 who (Core.step (aa ps room) M x (.sF lv i)).x o) nl f cnt (bZ who 1 ((2^lv+i:Nat):Int) (M.W (2^lv+i)) 0 true)):=by
 obtain⟨q0,q1,q2,q3,q4,q5,qo,q6,q7,q8⟩:=id hM
 have qr:=QR q6
 have hw:=(Dir.sh_16 hl hi).2
 refine Fun.mk' Tryz.func182 rfl rfl zN (by decide) ?_
 (repeat' (first|((first|refine Wp.any ac rfl ?_|(with_reducible first|refine Go.mk ?_|apply ai.of)|refine zV ?_);conv=>whnf)|((refine ag.new (aK nl M.W M.Hd f M.clk cnt who (2^lv+i) q2 q3 q4 q0 q1 (by omega)) [1,2,3,13] [] rfl rfl rfl rfl rfl rfl ?ha ?hh ?hs ?_);(case ha=>exact zA);(case hh=>exact zH);(case hs=>exact zK);(conv=>whnf))|((with_reducible refine ag.funM (tf_S (aa ps room) (x:=x) lv i hl hi _) rfl rfl ?_);conv=>whnf)|((refine aq (fun hc=>?_) (fun hc=>?_))<;>(try simp only[wz9]at hc)<;>(try (exfalso;omega))<;>(conv=>whnf))))
 ·(rw[show Core.step (aa ps room) M x (.sF lv i)=⟨M,x,.sH lv i false (M.Hd (2^lv+i)),Core.r0⟩ from(by simp only[Core.step];rw[if_pos (by omega)])];dsimp only; ((apply af.seal14);(case hH=>exact zz2);(case hx=>exact zz0);(case hd=>exact rfl)))
 ·(rw[show Core.step (aa ps room) M x (.sF lv i)=⟨M,x,.sG lv i (M.W (2^lv+i)) (M.Hd (2^lv+i)),Core.r0⟩ from(by simp only[Core.step];rw[if_neg (by omega)])];dsimp only; ((apply af.seal14);(case hH=>exact zz2);(case hx=>exact zz7);(case hd=>exact rfl)))
theorem step_sG(hM:COK ps room who g M o nl cnt)(lv i:Nat)(v:Int)(h:List Cel)(hl:lv≤3)(hi:i<2^lv)(hv0:0≤v)(hv:v<4611686018427387904):Fun TC 183 14 [bx ar,bx (.i .i64 who),bx (.i .i64 ((2^lv+i:Nat):Int)),bx (.i .u64 v),bx (.d (am 4 Cel.D h)),bx (tfS who lv i),qY] (ao ps room g M (a8 who x o) nl f cnt)
  15 (.tup [cl (aa ps room) who (Core.step (aa ps room) M x (.sG lv i v h)).x (Core.step (aa ps room) M x (.sG lv i v h)).s,rsS (Core.step (aa ps room) M x (.sG lv i v h)).r])
   (a6 ps room g (Core.step (aa ps room) M x (.sG lv i v h)).M (a8 who (Core.step (aa ps room) M x (.sG lv i v h)).x o) nl f cnt (bZ who 2 ((2^lv+i:Nat):Int) v (v+4611686018427387904) (decide (M.W (2^lv+i)=v)))):=by
 obtain⟨q0,q1,q2,q3,q4,q5,qo,q6,q7,q8⟩:=id hM
 have qr:=QR q6
 have hw:=(Dir.sh_16 hl hi).2
 refine Fun.mk' Tryz.func183 rfl rfl zN (by decide) ?_
 (repeat' (first|((first|refine Wp.any ac rfl ?_|(with_reducible first|refine Go.mk ?_|apply ai.of|refine Ov.ok zO ?_)|refine zV ?_);conv=>whnf)|((refine ag.new (aF nl M.W M.Hd f M.clk cnt who v (v+4611686018427387904) (2^lv+i) h q2 q3 q4 q0 q1 (by omega)) [1,2,3,13] [] rfl rfl rfl rfl rfl rfl ?ha ?hh ?hs ?_);(case ha=>exact zA);(case hh=>exact zH);(case hs=>exact zK);(conv=>whnf))|((with_reducible first|refine ag.funM (ck _ _ _ _ (by first|assumption|exact SV.Lt.of rfl)) rfl rfl ?_|refine ag.funM (tf_S (aa ps room) (x:=x) lv i hl hi _) rfl rfl ?_);conv=>whnf)|((refine aq (fun hc=>?_) (fun hc=>?_))<;>(try simp only[wz9]at hc)<;>(try (exfalso;omega))<;>(conv=>whnf))))
 ·(rw[show Core.step (aa ps room) M x (.sG lv i v h)=⟨M,x,.sF lv i,Core.r0⟩ from(by simp only[Core.step];rw[if_neg (by assumption)])];dsimp only; ((apply af.seal14);(case hH=>exact zz5);(case hx=>exact zz0);(case hd=>exact rfl)))
 ·(rw[show Core.step (aa ps room) M x (.sG lv i v h)=⟨M.set (2^lv+i) (v+Dir.FZ) h,x,.sH lv i false h,Core.r0⟩ from(by simp only[Core.step];rw[if_pos (by assumption)])];dsimp only; ((apply af.seal14);(case hH=>exact zz5);(case hx=>exact zz0);(case hd=>exact rfl)))
theorem step_sH(hM:COK ps room who g M o nl cnt)(lv i:Nat)(up:Bool)(h:List Cel)(hl:lv≤3)(hi:i<2^lv):Fun TC 184 14 [bx ar,bx (.i .i64 who),bx (.i .i64 (Dir.upW lv i up)),bx (thS who lv i up h),bx (.d (am 4 Cel.D h)),bx (.i .i64 ((lv+1:Nat):Int))] (ao ps room g M (a8 who x o) nl f cnt)
  15 (.tup [cl (aa ps room) who (Core.step (aa ps room) M x (.sH lv i up h)).x (Core.step (aa ps room) M x (.sH lv i up h)).s,rsS (Core.step (aa ps room) M x (.sH lv i up h)).r])
   (a6 ps room g (Core.step (aa ps room) M x (.sH lv i up h)).M (a8 who (Core.step (aa ps room) M x (.sH lv i up h)).x o) nl f cnt (bZ who 1 (Dir.upW lv i up) (M.W (Dir.upW lv i up)) 0 true)):=by
 obtain⟨q0,q1,q2,q3,q4,q5,qo,q6,q7,q8⟩:=id hM
 have qr:=QR q6
 have hw:=(zb (up:=up) hl hi).2
 have hb:(2:Nat)^lv≤2^3:=Q16 (by omega) hl
 have e1:=ir (show lv≤4 by omega)
 have e2:((2^lv:Nat):Int)=2^lv:=by simp
 cases up with
 | false =>
  have e3:Dir.plc (lv+1) ((i:Int)+2^lv)=Dir.upW lv i true:=by rw[← nG hi];rfl
  refine Fun.mk' Tryz.func184 rfl rfl zN (by decide) ?_
  (repeat' (first|((first|refine Wp.any ac rfl ?_|(with_reducible first|refine Go.mk ?_|apply ai.of|refine Ov.ok zO ?_)|refine zV ?_|with_reducible refine And.intro zC ?_);conv=>whnf)|((refine ag.new (aK nl M.W M.Hd f M.clk cnt who (Dir.upW lv i false) q2 q3 q4 q0 q1 (by omega)) [1,2,3,13] [] rfl rfl rfl rfl rfl rfl ?ha ?hh ?hs ?_);(case ha=>exact zA);(case hh=>exact zH);(case hs=>exact zK);(conv=>whnf))|(with_reducible refine ab.inline Tryz.func161 rfl rfl rfl (zzb rfl) ?_)|((with_reducible refine ag.funM (hY _ _ (by omega) _ _ _ _ (by first|assumption|exact SV.Lt.of rfl)) rfl rfl ?_);conv=>whnf)|((refine aq (fun hc=>?_) (fun hc=>?_))<;>(try simp only[wz9]at hc)<;>(try (exfalso;omega))<;>(conv=>whnf))))
  ·rw[e1,e3]
   (rw[show Core.step (aa ps room) M x (.sH lv i false h)=⟨M,x,.sH lv i true h,Core.r0⟩ from(by simp only[Core.step,Core.on];rw[if_neg (by assumption),if_neg (by decide)])];dsimp only; ((apply af.seal14);(case hH=>exact zz2);(case hx=>exact zz0);(case hd=>exact rfl)))
  ·(rw[show Core.step (aa ps room) M x (.sH lv i false h)=⟨M,x,.sL lv i false h,Core.r0⟩ from(by simp only[Core.step];rw[if_pos (by assumption)])];dsimp only; ((apply af.seal14);(case hH=>exact zz2);(case hx=>exact zz7);(case hd=>exact rfl)))
 | true =>
  have hM2:=zm (who:=who) (x:=x) (aa ps room) lv i hl hi
  rcases o7 lv (i+1)with hmv|hmv
  all_goals rw[hmv]at hM2
  all_goals refine Fun.mk' Tryz.func184 rfl rfl zN (by decide) ?_
  all_goals(repeat' (first|((first|refine Wp.any ac rfl ?_|(with_reducible first|refine Go.mk ?_|apply ai.of|refine Ov.ok zO ?_)|refine zV ?_);conv=>whnf)|((refine ag.new (aK nl M.W M.Hd f M.clk cnt who (Dir.upW lv i true) q2 q3 q4 q0 q1 (by omega)) [1,2,3,13] [] rfl rfl rfl rfl rfl rfl ?ha ?hh ?hs ?_);(case ha=>exact zA);(case hh=>exact zH);(case hs=>exact zK);(conv=>whnf))|(with_reducible refine ab.inline Tryz.func162 rfl rfl rfl (zzb rfl) ?_)|((with_reducible refine ag.funM hM2 rfl rfl ?_);conv=>whnf)|((refine aq (fun hc=>?_) (fun hc=>?_))<;>(try simp only[wz9]at hc)<;>(try (exfalso;omega))<;>(conv=>whnf))))
  all_goals first
   | (rw[show Core.step (aa ps room) M x (.sH lv i true h)=⟨M,x,.sL lv i true h,Core.r0⟩ from(by simp only[Core.step];rw[if_pos (by assumption)])];dsimp only; ((apply af.seal14);(case hH=>exact zz2);(case hx=>exact zz7);(case hd=>exact rfl)))
   | (rw[show Core.step (aa ps room) M x (.sH lv i true h)=⟨M,x,.sV lv,Core.r0⟩ from(by simp only[Core.step,Core.on];rw[if_neg (by assumption),if_pos trivial,hmv])];dsimp only; ((apply af.seal14);(case hH=>exact zz2);(case hx=>exact zz0);(case hd=>exact rfl)))
   | (rw[show Core.step (aa ps room) M x (.sH lv i true h)=⟨M,x,.sF lv (i+1),Core.r0⟩ from(by simp only[Core.step,Core.on];rw[if_neg (by assumption),if_pos trivial,hmv])];dsimp only; ((apply af.seal14);(case hH=>exact zz2);(case hx=>exact zz0);(case hd=>exact rfl)))
theorem step_sL(hM:COK ps room who g M o nl cnt)(lv i:Nat)(up:Bool)(h:List Cel)(hl:lv≤3)(hi:i<2^lv)(hh:Hc ps 16000000 h):Fun TC 185 14 [bx ar,bx (.i .i64 who),bx (.i .i64 (Dir.upW lv i up)),bx (.d (am 4 Cel.D h)),bx (.i .i64 ((lv+1:Nat):Int)),bx (thS who lv i up h),bx .any] (ao ps room g M (a8 who x o) nl f cnt)
  15 (.tup [cl (aa ps room) who (Core.step (aa ps room) M x (.sL lv i up h)).x (Core.step (aa ps room) M x (.sL lv i up h)).s,rsS (Core.step (aa ps room) M x (.sL lv i up h)).r])
   (a6 ps room g (Core.step (aa ps room) M x (.sL lv i up h)).M (a8 who (Core.step (aa ps room) M x (.sL lv i up h)).x o) nl f cnt (bZ who 2 (Dir.upW lv i up) 0 1 (decide (M.W (Dir.upW lv i up)=0)))):=by
 obtain⟨q0,q1,q2,q3,q4,q5,qo,q6,q7,q8⟩:=id hM
 have qr:=QR q6
 obtain⟨hw2,hw⟩:=zb (up:=up) hl hi
 have f1:=ir (show lv+1≤4 by omega)
 have f2:((2^(lv+1):Nat):Int)=2^(lv+1):=by simp
 have f4:=pow_16' (show lv+1≤4 by omega)
 have f3:((Dir.upW lv i up:Int)-IntKind.i64.wrap (1*2^min ((lv+1:Nat):Int).toNat IntKind.i64.bits)).toNat=Dir.upW lv i up-2^(lv+1):=by rw[f1];omega
 have hC:=tE h (lv+1) ((Dir.upW lv i up:Int)-IntKind.i64.wrap (1*2^min ((lv+1:Nat):Int).toNat IntKind.i64.bits)) (by omega) (by rw[f1];omega) (by have:=hh.len;omega)
 rw[f3]at hC
 have hov:IntKind.i64.wrap ((Dir.upW lv i up:Int)-IntKind.i64.wrap (1*2^min ((lv+1:Nat):Int).toNat IntKind.i64.bits))=(Dir.upW lv i up:Int)-IntKind.i64.wrap (1*2^min ((lv+1:Nat):Int).toNat IntKind.i64.bits):=IntWalk.i64_in _ (by rw[f1];omega)
 clear f1 f2 f3 f4
 have hb:(2:Nat)^lv≤2^3:=Q16 (by omega) hl
 have e1:=ir (show lv≤4 by omega)
 have e2:((2^lv:Nat):Int)=2^lv:=by simp
 cases up with
 | false =>
  have e3:Dir.plc (lv+1) ((i:Int)+2^lv)=Dir.upW lv i true:=by rw[← nG hi];rfl
  refine Fun.mk' Tryz.func185 rfl rfl zN (by decide) ?_
  (repeat' (first|((first|refine Wp.any ac rfl ?_|(with_reducible first|refine Go.mk ?_|apply ai.of|refine Ov.ok zO ?_)|refine zV ?_|(with_reducible first|refine And.intro zC ?_|refine Ov.ok hov ?_|refine ag.pure (hC) rfl rfl ?_));conv=>whnf)|((refine ag.new (aF nl M.W M.Hd f M.clk cnt who 0 1 (Dir.upW lv i false) (gL h (lv+1) (Dir.upW lv i false-2^(lv+1))) q2 q3 q4 q0 q1 (by omega)) [1,2,3,13] [] rfl rfl rfl rfl rfl rfl ?ha ?hh ?hs ?_);(case ha=>exact zA);(case hh=>exact zH);(case hs=>exact zK);(conv=>whnf))|(with_reducible refine ab.inline Tryz.func161 rfl rfl rfl (zzb rfl) ?_)|((with_reducible refine ag.funM (hY _ _ (by omega) _ _ _ _ (by first|assumption|exact SV.Lt.of rfl)) rfl rfl ?_);conv=>whnf)))
  rw[e1,e3]
  by_cases hm:M.W (Dir.upW lv i false)=0
  ·(rw[show Core.step (aa ps room) M x (.sL lv i false h)=⟨M.set (Dir.upW lv i false) 1 (gL h (lv+1) (Dir.upW lv i false-2^(lv+1))),x,.sH lv i true h,Core.r0⟩ from(by simp only[Core.step,Core.on];rw[if_pos hm,if_neg (by decide)];rfl)];dsimp only; ((apply af.seal14);(case hH=>exact zz5);(case hx=>exact zz0);(case hd=>exact rfl)))
  ·(rw[show Core.step (aa ps room) M x (.sL lv i false h)=⟨M,x,.sH lv i true h,Core.r0⟩ from(by simp only[Core.step,Core.on];rw[if_neg hm,if_neg (by decide)])];dsimp only; ((apply af.seal14);(case hH=>exact zz5);(case hx=>exact zz0);(case hd=>exact rfl)))
 | true =>
  have hM2:=zm (who:=who) (x:=x) (aa ps room) lv i hl hi
  rcases o7 lv (i+1)with hmv|hmv
  all_goals rw[hmv]at hM2
  all_goals refine Fun.mk' Tryz.func185 rfl rfl zN (by decide) ?_
  all_goals(repeat' (first|((first|refine Wp.any ac rfl ?_|(with_reducible first|refine Go.mk ?_|apply ai.of|refine Ov.ok zO ?_)|refine zV ?_|(with_reducible first|refine And.intro zC ?_|refine Ov.ok hov ?_|refine ag.pure (hC) rfl rfl ?_));conv=>whnf)|((refine ag.new (aF nl M.W M.Hd f M.clk cnt who 0 1 (Dir.upW lv i true) (gL h (lv+1) (Dir.upW lv i true-2^(lv+1))) q2 q3 q4 q0 q1 (by omega)) [1,2,3,13] [] rfl rfl rfl rfl rfl rfl ?ha ?hh ?hs ?_);(case ha=>exact zA);(case hh=>exact zH);(case hs=>exact zK);(conv=>whnf))|(with_reducible refine ab.inline Tryz.func162 rfl rfl rfl (zzb rfl) ?_)|((with_reducible refine ag.funM hM2 rfl rfl ?_);conv=>whnf)))
  all_goals by_cases hm:M.W (Dir.upW lv i true)=0
  all_goals first
   | (rw[show Core.step (aa ps room) M x (.sL lv i true h)=⟨M.set (Dir.upW lv i true) 1 (gL h (lv+1) (Dir.upW lv i true-2^(lv+1))),x,.sV lv,Core.r0⟩ from(by simp only[Core.step,Core.on];rw[if_pos hm,if_pos trivial,hmv];rfl)];dsimp only; ((apply af.seal14);(case hH=>exact zz5);(case hx=>exact zz0);(case hd=>exact rfl)))
   | (rw[show Core.step (aa ps room) M x (.sL lv i true h)=⟨M.set (Dir.upW lv i true) 1 (gL h (lv+1) (Dir.upW lv i true-2^(lv+1))),x,.sF lv (i+1),Core.r0⟩ from(by simp only[Core.step,Core.on];rw[if_pos hm,if_pos trivial,hmv];rfl)];dsimp only; ((apply af.seal14);(case hH=>exact zz5);(case hx=>exact zz0);(case hd=>exact rfl)))
   | (rw[show Core.step (aa ps room) M x (.sL lv i true h)=⟨M,x,.sV lv,Core.r0⟩ from(by simp only[Core.step,Core.on];rw[if_neg hm,if_pos trivial,hmv])];dsimp only; ((apply af.seal14);(case hH=>exact zz5);(case hx=>exact zz0);(case hd=>exact rfl)))
   | (rw[show Core.step (aa ps room) M x (.sL lv i true h)=⟨M,x,.sF lv (i+1),Core.r0⟩ from(by simp only[Core.step,Core.on];rw[if_neg hm,if_pos trivial,hmv])];dsimp only; ((apply af.seal14);(case hH=>exact zz5);(case hx=>exact zz0);(case hd=>exact rfl)))
theorem step_s0(hM:COK ps room who g M o nl cnt)(_:True):Fun TC 126 14 [bx ar,bx (.i .i64 who),bx ox] (ao ps room g M (a8 who x o) nl f cnt)
  15 (.tup [cl (aa ps room) who (Core.step (aa ps room) M x .s0).x (Core.step (aa ps room) M x .s0).s,rsS (Core.step (aa ps room) M x .s0).r])
   (a6 ps room g (Core.step (aa ps room) M x .s0).M (a8 who (Core.step (aa ps room) M x .s0).x o) nl f cnt (bZ who 1 0 (M.W 0) 0 true)):=by
 obtain⟨q0,q1,q2,q3,q4,q5,qo,q6,q7,q8⟩:=id hM
 have qr:=QR q6
 refine Fun.mk' Tryz.func126 rfl rfl zN (by decide) ?_
 (repeat' (first|((first|refine Wp.any ac rfl ?_|(with_reducible first|refine Go.mk ?_|apply ai.of|refine Ov.ok zO ?_)|refine zV ?_|with_reducible refine And.intro zC ?_);conv=>whnf)|((refine ag.new (aK nl M.W M.Hd f M.clk cnt who 0 q2 q3 q4 q0 q1 (by omega)) [1,2,3,13] [] rfl rfl rfl rfl rfl rfl ?ha ?hh ?hs ?_);(case ha=>exact zA);(case hh=>exact zH);(case hs=>exact zK);(conv=>whnf))|(with_reducible refine ab.inline Tryz.func99 rfl rfl rfl (zzb rfl) ?_)|((with_reducible refine ag.funM (zn (aa ps room) (x:=x) _ (by omega) (by omega)) rfl rfl ?_);conv=>whnf)|(with_reducible refine Ov.tdivC (by omega) ?_)|((refine aq (fun hc=>?_) (fun hc=>?_))<;>(try simp only[wz9,qr]at hc)<;>(try (exfalso;omega))<;>(conv=>whnf))))
 ·(rw[show Core.step (aa ps room) M x .s0=⟨M,x,.sF (M.W 0/2).toNat 0,Core.r0⟩ from(by simp only[Core.step];rw[if_pos (by assumption)])];dsimp only; ((apply af.seal14);(case hH=>exact zz2);(case hx=>exact zz0);(case hd=>exact rfl)))
 ·(rw[show Core.step (aa ps room) M x .s0=⟨M,x,.none,⟨true,Core.er 5⟩⟩ from(by simp only[Core.step];rw[if_neg (by assumption),if_pos (by assumption)])];dsimp only; ((apply af.seal14);(case hH=>exact zz2);(case hx=>exact zz16);(case hd=>exact rfl)))
 ·(rw[show Core.step (aa ps room) M x .s0=⟨M,x,.sM (M.W 0/2).toNat,Core.r0⟩ from(by simp only[Core.step];rw[if_neg (by assumption),if_neg (by assumption)])];dsimp only; ((apply af.seal14);(case hH=>exact zz2);(case hx=>exact zz7);(case hd=>exact rfl)))
theorem step_sM(hM:COK ps room who g M o nl cnt)(lv:Nat)(hl:lv≤3):Fun TC 129 14 [bx ar,bx (.i .i64 who),bx (.i .u64 (2*lv)),bx ox,qY,bx (.i .i64 lv)] (ao ps room g M (a8 who x o) nl f cnt)
  15 (.tup [cl (aa ps room) who (Core.step (aa ps room) M x (.sM lv)).x (Core.step (aa ps room) M x (.sM lv)).s,rsS (Core.step (aa ps room) M x (.sM lv)).r])
   (a6 ps room g (Core.step (aa ps room) M x (.sM lv)).M (a8 who (Core.step (aa ps room) M x (.sM lv)).x o) nl f cnt (bZ who 2 0 (2*lv) (2*lv+1) (decide (M.W 0=2*lv)))):=by
 obtain⟨q0,q1,q2,q3,q4,q5,qo,q6,q7,q8⟩:=id hM
 have qr:=QR q6
 have hM0:=zn (who:=who) (x:=x) (aa ps room) lv (by omega) (by omega)
 rw[Q13]at hM0
 refine Fun.mk' Tryz.func129 rfl rfl zN (by decide) ?_
 (repeat' (first|((first|refine Wp.any ac rfl ?_|(with_reducible first|refine Go.mk ?_|apply ai.of|refine Ov.ok zO ?_)|refine zV ?_);conv=>whnf)|((refine ag.new (aF nl M.W M.Hd f M.clk cnt who (2*lv) (2*lv+1) 0 [] q2 q3 q4 q0 q1 (by omega)) [1,2,3,13] [] rfl rfl rfl rfl rfl rfl ?ha ?hh ?hs ?_);(case ha=>exact zA);(case hh=>exact zH);(case hs=>exact zK);(conv=>whnf))|((with_reducible first|refine ag.funM (rK (aa ps room) x _) rfl rfl ?_|refine ag.funM hM0 rfl rfl ?_);conv=>whnf)|((refine aq (fun hc=>?_) (fun hc=>?_))<;>(try simp only[wz9]at hc)<;>(try (exfalso;omega))<;>(conv=>whnf))))
 ·(rw[show Core.step (aa ps room) M x (.sM lv)=⟨M,x,.s0,Core.r0⟩ from(by simp only[Core.step];rw[if_neg (by assumption)])];dsimp only; ((apply af.seal14);(case hH=>exact zz5);(case hx=>exact zz0);(case hd=>exact rfl)))
 ·(rw[show Core.step (aa ps room) M x (.sM lv)=⟨M.set 0 (2*lv+1) [],x,.sF lv 0,Core.r0⟩ from(by simp only[Core.step];rw[if_pos (by assumption)])];dsimp only; ((apply af.seal14);(case hH=>exact zz5);(case hx=>exact zz0);(case hd=>exact rfl)))
theorem step_sV(hM:COK ps room who g M o nl cnt)(lv:Nat)(hl:lv≤3):Fun TC 157 14 [bx ar,bx (.i .i64 who),bx (.i .i64 lv),bx ox] (ao ps room g M (a8 who x o) nl f cnt)
  15 (.tup [cl (aa ps room) who (Core.step (aa ps room) M x (.sV lv)).x (Core.step (aa ps room) M x (.sV lv)).s,rsS (Core.step (aa ps room) M x (.sV lv)).r])
   (a6 ps room g (Core.step (aa ps room) M x (.sV lv)).M (a8 who (Core.step (aa ps room) M x (.sV lv)).x o) nl f cnt (bZ who 2 0 (2*lv+1) (2*lv+2) (decide (M.W 0=2*lv+1)))):=by
 obtain⟨q0,q1,q2,q3,q4,q5,qo,q6,q7,q8⟩:=id hM
 have qr:=QR q6
 refine Fun.mk' Tryz.func157 rfl rfl zN (by decide) ?_
 (repeat' (first|((first|refine Wp.any ac rfl ?_|(with_reducible first|refine Go.mk ?_|apply ai.of|refine Ov.ok zO ?_)|refine zV ?_);conv=>whnf)|((refine ag.new (aF nl M.W M.Hd f M.clk cnt who (2*lv+1) (2*lv+2) 0 [] q2 q3 q4 q0 q1 (by omega)) [1,2,3,13] [] rfl rfl rfl rfl rfl rfl ?ha ?hh ?hs ?_);(case ha=>exact zA);(case hh=>exact zH);(case hs=>exact zK);(conv=>whnf))|(with_reducible refine ab.inline Tryz.func99 rfl rfl rfl (zzb rfl) ?_)))
 by_cases hm:M.W 0=2*lv+1
 ·(rw[show Core.step (aa ps room) M x (.sV lv)=⟨M.set 0 (2*lv+2) [],x,.none,⟨true,Core.z0⟩⟩ from(by simp only[Core.step];rw[if_pos hm])];dsimp only; ((apply af.seal14);(case hH=>exact zz5);(case hx=>exact zz16);(case hd=>exact rfl)))
 ·(rw[show Core.step (aa ps room) M x (.sV lv)=⟨M,x,.none,⟨true,Core.z0⟩⟩ from(by simp only[Core.step];rw[if_neg hm])];dsimp only; ((apply af.seal14);(case hH=>exact zz5);(case hx=>exact zz16);(case hd=>exact rfl)))
end
section
variable{ps:List Pol}{room who:Int}{g:Nat→SV}{M:Core.Mc}{o:Nat→XB}{nl:Nat}{f:Nat→List D}{cnt:Int}{x:Core.X}
theorem qI{P hp:List (Nat×Option Blk)}{l:Nat}{π:Nat→Nat}{ps:List Pol}{room:Int}{g:Nat→SV}(h1:lkh P l=some (oO π (coreB ps room g)))(h2:lkh hp l=some (coreB ps room g))(hg:∀j,SV.Lt 13 (g j))(hπ:∀l,l<13→π l=l)(hb:bnd π 13=13):lkh P l=lkh hp l:=by
 rw[h1,h2]
 show some (Blk.cf (bnd π 13) 67 fun j=>SV.ren π (av ps room g j))=some (.cf 13 67 (av ps room g))
 rw[hb]
 have:(fun j=>SV.ren π (av ps room g j))=av ps room g:=funext fun j=>SV.ren_same hπ (aR hg j)
 rw[this]
theorem de{P hp:List (Nat×Option Blk)}{l n:Nat}{π:Nat→Nat}{f:Nat→SV}(h1:lkh P l=some (oO π (.cf 1 n f)))(h2:lkh hp l=some (.cf 1 n f))(hf:∀j,SV.Lt 1 (f j))(hπ:π 0=0)(hb:bnd π 1=1):lkh P l=lkh hp l:=by
 rw[h1,h2]
 show some (Blk.cf (bnd π 1) n fun j=>SV.ren π (f j))=some (.cf 1 n f)
 rw[hb]
 have:(fun j=>SV.ren π (f j))=f:=funext fun j=>SV.ren_same (m:=1) (fun l hl=>by obtain rfl:l=0:=(by omega);exact hπ) (hf j)
 rw[this]
theorem uy{who:Int}(x:Core.X)(π:Nat→Nat){v w:Int}{L:List Nat}(hv:v=w)(hπ:π 0=0:=by rfl):∀j,j<9→ae (0::L) (bif Nat.beq j 8 then .i .i64 v else SV.ren π (xF who x j)) (xF who { x with ser:=w } j)∧SV.Lt 1 (xF who { x with ser:=w } j):=fun j hj=>by
 subst hv
 have h:=cn (n:=9) (cN who x) (L:=L) hπ
 refine⟨?_,cN _ _ _⟩
 by_cases e:j=8
 ·subst e;exact ae.rfl rfl
 ·have e2:Nat.beq j 8=false:=by
   cases h:Nat.beq j 8 with
   | false=>rfl
   | true=>exact absurd (Q2 h) e
  have e3:xF who { x with ser:=v } j=xF who x j:=by
   rcases j with _|_|_|_|_|_|_|_|_|j<;>first|rfl|exact absurd rfl e|omega
  rw[e2,e3];exact(h j hj).1
theorem end_c(r:Rpl):Pure TC 131 [r.S] (.tup [eN,rsS ⟨true,r⟩]):=by
 refine Pure.mk' Tryz.func131 rfl rfl zN ?_
 (repeat' (first|((first|refine Wp.any ac rfl ?_|(with_reducible first|refine Go.mk ?_|apply ai.of)|refine zV ?_);conv=>whnf)))
 exact .rfl _
theorem iO(r:Rpl):Core.leave x r=(.none,⟨true,r⟩)∨Core.leave x r=(.b0 1 (.lv r),Core.r0):=by unfold Core.leave;split;exact .inr rfl;exact .inl rfl
theorem rZ(fd:Core.Fd)(c:Cel)(r:Rpl):Core.put x fd c r=.pS fd c r∨Core.put x fd c r=.p0 fd c r:=by unfold Core.put;split;exact .inl rfl;exact .inr rfl
end
section
variable{ps:List Pol}{room who:Int}{g:Nat→SV}{M:Core.Mc}{o:Nat→XB}{nl:Nat}{f:Nat→List D}{cnt:Int}{x:Core.X}
theorem step_al (hM:COK ps room who g M o nl cnt) (fd:Core.Fd):Fun TC 171 14 [xZ ((aa ps room).pol x.pol),yO fd.cell,xS,fdB fd,bx (.i .i64 fd.at'),bx (.b fd.there)] (ao ps room g M (a8 who x o) nl f cnt)
    15 (.tup [cl (aa ps room) who (Core.step (aa ps room) M x (.al fd)).x (Core.step (aa ps room) M x (.al fd)).s,rsS (Core.step (aa ps room) M x (.al fd)).r])
      (a6 ps room g (Core.step (aa ps room) M x (.al fd)).M (a8 who (Core.step (aa ps room) M x (.al fd)).x o) nl f cnt (bZ who 3 0 (IntKind.u64.wrap M.clk) 0 true)):=by
  obtain⟨q0,q1,q2,q3,q4,q5,qo,q6,q7,q8⟩:=id hM
  have qr:=QR q6
  have hN:=now_c (x:=x) (f:=f) hM
  generalize hP:(aa ps room).pol x.pol=p
  have hA:=kI p fd.cell M.clk x.n
  have hS:Core.step (aa ps room) M x (.al fd)=if(eG p fd.cell M.clk x.n).g=false∨x.n=0 then Core.same M x (Core.leave x (eG p fd.cell M.clk x.n))else⟨M,x,Core.put x fd (gJ p fd.cell M.clk x.n) (eG p fd.cell M.clk x.n),Core.r0⟩:=by
    simp only[Core.step];rw[hP];rfl
  generalize eG p fd.cell M.clk x.n=R at hA hS
  generalize gJ p fd.cell M.clk x.n=C at hA hS
  have hL:=lB (x:=x) (nl:=aC nl) (f:=bO nl f (bZ who 3 0 (IntKind.u64.wrap M.clk) 0 true)) (cnt:=cnt+1) hM R
  have hQ:=xV (x:=x) (nl:=aC nl) (f:=bO nl f (bZ who 3 0 (IntKind.u64.wrap M.clk) 0 true)) (cnt:=cnt+1) hM fd C R
  obtain⟨re,rg,rl,rw',rs,rn⟩:=R
  by_cases hg:rg=false∨x.n=0
  · rw[if_pos hg]at hS
    rcases iO (x:=x) ⟨re,rg,rl,rw',rs,rn⟩with e|e
    all_goals
      rw[e]at hL hS
      refine Fun.mk' Tryz.func171 rfl rfl zN (by decide) ?_
      cases rg
      all_goals
        (repeat' (first|((first|refine Wp.any ac rfl ?_|(with_reducible first|refine Go.mk ?_|apply ai.of)|refine zV ?_);conv=>whnf)|((with_reducible refine At.mk' _ rfl ?_);(refine And.intro zN ?_);conv=>whnf)|((refine ag.new (hN) [0,1,2,3,4,5,6,7,8,9,10,11,12,13] [0,2,3,4,5,6,7,8,9,10,11,12] rfl rfl rfl rfl rfl rfl ?ha ?hh ?hs ?_);(case ha=>exact zz22);(case hh=>exact zz1);(case hs=>exact zz23);(conv=>whnf))|((with_reducible refine ag.pure (hA) rfl rfl ?_);conv=>whnf)|((apply ab.fn14 (h:=hL));(case hh=>exact zz1);(case ha=>exact zA);(case hd=>exact rfl);(case hlive=>exact rfl);(case hkeys=>exact rfl);(case hlt=>exact rfl);(conv=>whnf))|((refine aq (fun hc=>?_) (fun hc=>?_))<;>(try simp only[wz9]at hc)<;>(try (exfalso;omega))<;>(conv=>whnf))))
        all_goals first
          | (exfalso;simp_all;done)
          | (rw[hS];dsimp only[Core.same];((apply af.seal14);(case hH=>exact zz4);(case hx=>exact zz0);(case hd=>exact rfl)))
  · rw[if_neg hg]at hS
    rcases rZ (x:=x) fd C ⟨re,rg,rl,rw',rs,rn⟩with e|e
    all_goals
      rw[e]at hQ hS
      refine Fun.mk' Tryz.func171 rfl rfl zN (by decide) ?_
      cases rg
      all_goals first
        | (exfalso;simp_all;done)
        | ((repeat' (first|((first|refine Wp.any ac rfl ?_|(with_reducible first|refine Go.mk ?_|apply ai.of)|refine zV ?_);conv=>whnf)|(with_reducible refine ab.inline Tryz.func102 rfl rfl rfl (zzb rfl) ?_)|((with_reducible refine At.mk' _ rfl ?_);(refine And.intro zN ?_);conv=>whnf)|((refine ag.new (hN) [0,1,2,3,4,5,6,7,8,9,10,11,12,13] [0,2,3,4,5,6,7,8,9,10,11,12] rfl rfl rfl rfl rfl rfl ?ha ?hh ?hs ?_);(case ha=>exact zz22);(case hh=>exact zz1);(case hs=>exact zz23);(conv=>whnf))|((with_reducible refine ag.pure (hA) rfl rfl ?_);conv=>whnf)|((apply ab.fn14 (h:=hQ));(case hh=>exact zz1);(case ha=>exact zA);(case hd=>exact rfl);(case hlive=>exact rfl);(case hkeys=>exact rfl);(case hlt=>exact rfl);(conv=>whnf))|((refine aq (fun hc=>?_) (fun hc=>?_))<;>(try simp only[wz9]at hc)<;>(try (exfalso;omega))<;>(conv=>whnf))))
           all_goals first
             | (exfalso;simp_all;done)
             | (rw[hS];dsimp only[Core.same];((apply af.seal14);(case hH=>exact zz4);(case hx=>exact zz0);(case hd=>exact rfl))))
theorem step_pk(hM:COK ps room who g M o nl cnt)(c:Cel)(hk:Core.Kx ps x)(hc':eH ps c):Fun TC 144 14 [xZ ((aa ps room).pol x.pol),yO c,xS] (ao ps room g M (a8 who x o) nl f cnt)
  15 (.tup [cl (aa ps room) who (Core.step (aa ps room) M x (.pk c)).x (Core.step (aa ps room) M x (.pk c)).s,rsS (Core.step (aa ps room) M x (.pk c)).r])
   (a6 ps room g (Core.step (aa ps room) M x (.pk c)).M (a8 who (Core.step (aa ps room) M x (.pk c)).x o) nl f cnt (bZ who 3 0 (IntKind.u64.wrap M.clk) 0 true)):=by
 obtain⟨q0,q1,q2,q3,q4,q5,qo,q6,q7,q8⟩:=id hM
 have qr:=QR q6
 have hN:=now_c (x:=x) (f:=f) hM
 have hp:0≤x.pol∧x.pol<ps.length:=hk.pol
 have hs:=rR hM.ps hp.1 hp.2
 have hpol:(aa ps room).pol x.pol=ps.getD x.pol.toNat default:=rfl
 rw[← hpol]at hs
 generalize hP:(aa ps room).pol x.pol=p at hs⊢
 have hPk:=jh p c M.clk (fun e=>by have:=hs e;omega) (by have:=hc'.held;omega)
 refine Fun.mk' Tryz.func144 rfl rfl zN (by decide) ?_
 (repeat' (first|((first|refine Wp.any ac rfl ?_|(with_reducible first|refine Go.mk ?_|apply ai.of)|refine zV ?_);conv=>whnf)|((refine ag.new (hN) [0,1,2,3,4,5,6,7,8,9,10,11,12,13] [0,2,3,4,5,6,7,8,9,10,11,12] rfl rfl rfl rfl rfl rfl ?ha ?hh ?hs ?_);(case ha=>exact zz22);(case hh=>exact zz1);(case hs=>exact zz23);(conv=>whnf))|((with_reducible first|refine ag.pure (hPk) rfl rfl ?_|refine ag.pure (end_c _) rfl rfl ?_);conv=>whnf)))
 (rw[show Core.step (aa ps room) M x (.pk c)=⟨M,x,.none,⟨true,iH p c M.clk⟩⟩ from(by simp only[Core.step];rw[hP];rfl)];dsimp only; ((apply af.seal14);(case hH=>exact zz2);(case hx=>exact zz16);(case hd=>exact rfl)))
end
end Go.Proofs.YtlkccdlgnpkjpaaGreat
