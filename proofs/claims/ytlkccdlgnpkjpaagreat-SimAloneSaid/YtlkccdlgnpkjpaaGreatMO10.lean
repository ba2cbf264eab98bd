/- Lemmas of Cc4, Cc5. No condition. -/
import Derived.Test.YtlkccdlgnpkjpaaGreatMO9
set_option linter.unusedVariables false
set_option linter.unusedSimpArgs false
set_option linter.unusedSectionVars false
set_option maxHeartbeats 80000000
set_option maxRecDepth 100000
namespace Go.Proofs.YtlkccdlgnpkjpaaGreat
open Go.RowKit
section
variable{ps:List Pol}{room who:Int}{g:Nat→SV}{M:Core.Mc}{o:Nat→XB}{nl:Nat}{f:Nat→List D}{cnt:Int}{x:Core.X}
theorem pc(hM:COK ps room who g M o nl cnt)(word:Nat)(hw:word<34):Fun TC 101 14 [.ptr 4 0,.i .i64 word] (ao ps room g M (a8 who x o) nl f cnt)
  15 (.i .u64 (M.W word)) (a6 ps room g M (a8 who x o) nl f cnt (bZ who 1 word (M.W word) 0 true)):=by
 obtain⟨q0,q1,q2,q3,q4,q5,qo,q6,q7,q8⟩:=id hM
 refine Fun.mk' Tryz.func101 rfl rfl zN (by decide) ?_
 (repeat' (first|((first|refine Wp.any ac rfl ?_|(with_reducible first|refine Go.mk ?_|apply ai.of)|refine zV ?_);conv=>whnf)|((refine ag.new (aK nl M.W M.Hd f M.clk cnt who word q2 q3 q4 q0 q1 hw) [1,2,3,13] [] rfl rfl rfl rfl rfl rfl ?ha ?hh ?hs ?_);(case ha=>exact zA);(case hh=>exact zH);(case hs=>exact zK);(conv=>whnf))|((with_reducible refine At.mk' _ rfl ?_);(refine And.intro zN ?_);conv=>whnf)))
 ((apply af.seal14);(case hH=>exact zz2);(case hx=>exact zz20);(case hd=>exact rfl))
theorem rt(hM:COK ps room who g M o nl cnt)(word:Nat)(hw:word<34)(old new:Int):Fun TC 189 14 [.ptr 4 0,.i .i64 word,.i .u64 old,.i .u64 new] (ao ps room g M (a8 who x o) nl f cnt)
  15 (.b (decide (M.W word=old))) (a6 ps room g (if M.W word=old then M.set word new []else M) (a8 who x o) nl f cnt (bZ who 2 word old new (decide (M.W word=old)))):=by
 obtain⟨q0,q1,q2,q3,q4,q5,qo,q6,q7,q8⟩:=id hM
 refine Fun.mk' Tryz.func189 rfl rfl zN (by decide) ?_
 by_cases hm:M.W word=old
 ·rw[if_pos hm]
  (repeat' (first|((first|refine Wp.any ac rfl ?_|(with_reducible first|refine Go.mk ?_|apply ai.of)|refine zV ?_);conv=>whnf)|((refine ag.new (aF nl M.W M.Hd f M.clk cnt who old new word [] q2 q3 q4 q0 q1 hw) [1,2,3,13] [] rfl rfl rfl rfl rfl rfl ?ha ?hh ?hs ?_);(case ha=>exact zA);(case hh=>exact zH);(case hs=>exact zK);(conv=>whnf))|((with_reducible refine At.mk' _ rfl ?_);(refine And.intro zN ?_);conv=>whnf)))
  ((apply af.seal14);(case hH=>exact zz5);(case hx=>exact zz20);(case hd=>exact rfl))
 ·rw[if_neg hm]
  (repeat' (first|((first|refine Wp.any ac rfl ?_|(with_reducible first|refine Go.mk ?_|apply ai.of)|refine zV ?_);conv=>whnf)|((refine ag.new (aF nl M.W M.Hd f M.clk cnt who old new word [] q2 q3 q4 q0 q1 hw) [1,2,3,13] [] rfl rfl rfl rfl rfl rfl ?ha ?hh ?hs ?_);(case ha=>exact zA);(case hh=>exact zH);(case hs=>exact zK);(conv=>whnf))|((with_reducible refine At.mk' _ rfl ?_);(refine And.intro zN ?_);conv=>whnf)))
  ((apply af.seal14);(case hH=>exact zz5);(case hx=>exact zz20);(case hd=>exact rfl))
theorem now_c(hM:COK ps room who g M o nl cnt):Fun TC 135 14 [.ptr 4 0] (ao ps room g M (a8 who x o) nl f cnt)
  15 (.i .i64 M.clk) (a6 ps room g M (a8 who x o) nl f cnt (bZ who 3 0 (IntKind.u64.wrap M.clk) 0 true)):=by
 obtain⟨q0,q1,q2,q3,q4,q5,qo,q6,q7,q8⟩:=id hM
 refine Fun.mk' Tryz.func135 rfl rfl zN (by decide) ?_
 (repeat' (first|((first|refine Wp.any ac rfl ?_|(with_reducible first|refine Go.mk ?_|apply ai.of)|refine zV ?_);conv=>whnf)|((refine ag.new (qs 34 nl M.W f M.clk cnt who q2 q3 q4 q0 q1) [1,2,13] [] rfl rfl rfl rfl rfl rfl ?ha ?hh ?hs ?_);(case ha=>exact zA);(case hh=>exact zH);(case hs=>exact zK);(conv=>whnf))|((with_reducible refine At.mk' _ rfl ?_);(refine And.intro zN ?_);conv=>whnf)))
 ((apply af.seal14);(case hH=>exact zz2);(case hx=>exact zz20);(case hd=>exact rfl))
theorem iQ(lv:Nat)(hl:lv≤3)(s:Int):Pure TC 70 [.i .i64 ((lv:Int)+1),.i .u64 s] (.i .i64 (Dir.plc (lv+1) s)):=cj (lv+1) (by omega) s
theorem eh(who s:Int)(F:Fn)(cs:List SV)(hF:SV.Lt 120 (.fn F cs)):Fun TC 132 120 [ar,.i .i64 who,.i .u64 s,.fn F cs] [] 120 (findS who s (.fn F cs)) []:=by
 refine Fun.mk' Tryz.func132 rfl rfl zN (by decide) ?_
 (repeat' (first|((first|refine Wp.any ac rfl ?_|(with_reducible first|refine Go.mk ?_|apply ai.of));conv=>whnf)))
 (refine af.sealM ?_);(conv=>whnf);(repeat' (first|exact zE9|((refine aj.ptrN rfl rfl ?_);(conv=>whnf))|((refine aj.fn ?_);(conv=>whnf))|((refine And.intro ?_ ?_)<;>(conv=>whnf))))
theorem fC(who s:Int)(w:Nat)(F:Fn)(cs:List SV)(hF:SV.Lt 120 (.fn F cs)):Fun TC 164 120 [ar,.i .i64 who,.i .u64 s,.i .i64 w,.fn F cs] [] 120 (zx who s w (.fn F cs)) []:=by
 refine Fun.mk' Tryz.func164 rfl rfl zN (by decide) ?_
 (repeat' (first|((first|refine Wp.any ac rfl ?_|(with_reducible first|refine Go.mk ?_|apply ai.of));conv=>whnf)))
 (refine af.sealM ?_);(conv=>whnf);(repeat' (first|exact zE9|((refine aj.ptrN rfl rfl ?_);(conv=>whnf))|((refine aj.fn ?_);(conv=>whnf))|((refine And.intro ?_ ?_)<;>(conv=>whnf))))
theorem ck(who:Int)(w:Nat)(F:Fn)(cs:List SV)(hF:SV.Lt 120 (.fn F cs)):Fun TC 158 120 [ar,.i .i64 who,.i .i64 w,.fn F cs] [] 120 (ol who w (.fn F cs)) []:=by
 refine Fun.mk' Tryz.func158 rfl rfl zN (by decide) ?_
 (repeat' (first|((first|refine Wp.any ac rfl ?_|(with_reducible first|refine Go.mk ?_|apply ai.of));conv=>whnf)))
 (refine af.sealM ?_);(conv=>whnf);(repeat' (first|exact zE9|((refine aj.ptrN rfl rfl ?_);(conv=>whnf))|((refine aj.fn ?_);(conv=>whnf))|((refine And.intro ?_ ?_)<;>(conv=>whnf))))
theorem hY(who:Int)(lv:Nat)(hl:lv≤3)(s:Int)(h:List Cel)(F:Fn)(cs:List SV)(hF:SV.Lt 120 (.fn F cs)):Fun TC 160 120 [ar,.i .i64 who,.i .i64 ((lv:Int)+1),.i .u64 s,.d (am 4 Cel.D h),.fn F cs] [] 120 (halfS who (lv+1) (Dir.plc (lv+1) s) h (.fn F cs)) []:=by
 refine Fun.mk' Tryz.func160 rfl rfl zN (by decide) ?_
 (repeat' (first|((first|refine Wp.any ac rfl ?_|(with_reducible first|refine Go.mk ?_|apply ai.of|refine ab.pure (iQ lv hl _) rfl rfl ?_));conv=>whnf)))
 (refine af.sealM ?_);(conv=>whnf);(repeat' (first|exact zE9|((refine aj.ptrN rfl rfl ?_);(conv=>whnf))|((refine aj.fn ?_);(conv=>whnf))|((refine And.intro ?_ ?_)<;>(conv=>whnf))))
theorem rK(P:Core.Ops)(x:Core.X)(who:Int):Fun TC 98 120 [ar,.i .i64 who,ox] [] 120 (cl P who x .s0) []:=by
 refine Fun.mk' Tryz.func98 rfl rfl zN (by decide) ?_
 (repeat' (first|((first|refine Wp.any ac rfl ?_|(with_reducible first|refine Go.mk ?_|apply ai.of));conv=>whnf)))
 (refine af.sealM ?_);(conv=>whnf);(repeat' (first|exact zE9|((refine aj.ptrN rfl rfl ?_);(conv=>whnf))|((refine aj.fn ?_);(conv=>whnf))|((refine And.intro ?_ ?_)<;>(conv=>whnf))))
theorem move_d(word by' stop:Int)(F0:Fn)(F:Fn)(cs:List SV)(hF:SV.Lt 120 (.fn F cs)):Fun TC 169 120 [.ptr 4 0,.i .i64 word,.i .u64 by',.i .u64 stop,.d (.fn F0 []),.fn F cs] [] 120 (mvS word by' stop (.d (.fn F0 [])) (.fn F cs)) []:=by
 refine Fun.mk' Tryz.func169 rfl rfl zN (by decide) ?_
 (repeat' (first|((first|refine Wp.any ac rfl ?_|(with_reducible first|refine Go.mk ?_|apply ai.of));conv=>whnf)))
 (refine af.sealM ?_);(conv=>whnf);(repeat' (first|exact zE9|((refine aj.ptrN rfl rfl ?_);(conv=>whnf))|((refine aj.fn ?_);(conv=>whnf))|((refine And.intro ?_ ?_)<;>(conv=>whnf))))
theorem ir{lv:Nat}(hl:lv≤4):IntKind.i64.wrap (1*2^min ((lv:Nat):Int).toNat IntKind.i64.bits)=2^lv:=by
 have hlv:lv=0∨lv=1∨lv=2∨lv=3∨lv=4:=by omega
 rcases hlv with rfl|rfl|rfl|rfl|rfl<;>decide
theorem ct{lv:Nat}{s:Int}(h0:0≤s)(h1:s<2^lv):Dir.plc lv s=2^lv+s.toNat:=by unfold Dir.plc;rw[Int.emod_eq_of_lt h0 h1]
theorem nG{lv i:Nat}(hi:i<2^lv)(up:Bool):Dir.plc (lv+1) (if up then(i:Int)+2^lv else i)=Dir.upW lv i up:=by
 have e:((2^lv:Nat):Int)=2^lv:=by simp
 have e2:(2:Int)^(lv+1)=2^lv*2:=Int.pow_succ 2 lv
 have h:(i:Int)<2^lv:=by omega
 unfold Dir.upW
 cases up
 ·rw[if_neg (by decide),if_neg (by decide),ct (by omega) (by omega),Q13]
 ·rw[if_pos rfl,if_pos rfl,ct (by omega) (by omega)]
  congr 1
theorem sJ(P:Core.Ops)(x:Core.X)(who:Int)(lv i:Nat)(hl:lv≤3)(hi:i≤2^lv):Fun TC 128 60 [ar,.i .i64 who,.i .i64 lv,.i .i64 i,ox] [] 60 (cl P who x (Core.move lv i)) []:=by
 have e1:=ir (show lv≤4 by omega)
 have e2:((2^lv:Nat):Int)=2^lv:=by simp
 have hb:(2:Nat)^lv≤2^3:=Q16 (by omega) hl
 refine Fun.mk' Tryz.func128 rfl rfl zN (by decide) ?_
 (repeat' (first|((first|refine Wp.any ac rfl ?_|(with_reducible first|refine Go.mk ?_|apply ai.of|refine Ov.ok zO ?_)|refine zV ?_|(with_reducible first|refine And.intro zC ?_|refine ag.pure (cj lv (by omega) _) rfl rfl ?_|refine ag.funM (ck _ _ _ _ (by exact SV.Lt.of rfl)) rfl rfl ?_));conv=>whnf)|((refine aq (fun hc=>?_) (fun hc=>?_))<;>(try simp only[wz9,e1]at hc)<;>(try (exfalso;omega))<;>(conv=>whnf))))
 ·rw[show Core.move lv i=.sV lv by unfold Core.move;rw[if_pos (by omega)]]
  (refine af.sealM ?_);(conv=>whnf);(repeat' (first|exact zE9|((refine aj.ptrN rfl rfl ?_);(conv=>whnf))|((refine aj.fn ?_);(conv=>whnf))|((refine And.intro ?_ ?_)<;>(conv=>whnf))))
 ·rw[show Core.move lv i=.sF lv i by unfold Core.move;rw[if_neg (by omega)]]
  rw[show Dir.plc lv (i:Int)=2^lv+i by rw[ct (by omega) (by omega)];rfl]
  (refine af.sealM ?_);(conv=>whnf);(repeat' (first|exact zE9|((refine aj.ptrN rfl rfl ?_);(conv=>whnf))|((refine aj.fn ?_);(conv=>whnf))|((refine aj.iref ?_);(conv=>whnf))|((refine And.intro ?_ ?_)<;>(conv=>whnf))))
end
section
variable{ps:List Pol}{room who:Int}{g:Nat→SV}{M:Core.Mc}{o:Nat→XB}{nl:Nat}{f:Nat→List D}{cnt:Int}{x:Core.X}{nl0:Nat}{cnt0:Int}
@[reducible] def rsS(r:Core.Rs):SV:=.agg [.b r.done,.i .i64 r.r.e,.b r.r.g,.i .i64 r.r.left,.i .i64 r.r.wait,.i .i64 r.r.serial,.i .i64 r.r.now]
@[reducible] def fdS(f:Core.Fd):SV:=.agg [.i .i64 f.w,.i .u64 f.v,.d (am 4 Cel.D f.h)]
theorem tX(hM:COK ps room who g M o nl0 cnt0)(hk:Core.Kx ps x):Fun TC 104 14 [.ptr 4 0] (ao ps room g M (a8 who x o) nl f cnt) 14 (cl (aa ps room) who x (.k0 .key)) (ao ps room g M (a8 who x o) nl f cnt):=by
 obtain⟨q0,q1,q2,q3,q4,q5,qo,q6,q7,q8⟩:=id hM
 have hp:=hk.pol
 replace hp:0≤x.pol∧x.pol<ps.length:=hp
 refine Fun.mk' Tryz.func104 rfl rfl zN (by decide) ?_
 (repeat' (first|((first|refine Wp.any ac rfl ?_|(with_reducible first|refine Go.mk ?_|apply ai.of)|refine zV ?_|with_reducible refine And.intro zC ?_);conv=>whnf)|((with_reducible refine At.mk' _ rfl ?_);(refine And.intro zN ?_);conv=>whnf)|((with_reducible refine ag.funM (eh _ _ _ _ (by exact SV.Lt.of rfl)) rfl rfl ?_);conv=>whnf)))
 ((refine af.sealB [0,1,2,3,4,5,6,7,8,9,10,11,12,13] rfl rfl rfl ?_ ?_);(focus((conv=>whnf);(repeat' (first|exact zD9|((refine aj.ptr rfl rfl ?_);(conv=>whnf))|((refine aj.fn ?_);(conv=>whnf))|((refine aj.iref ?_);(conv=>whnf))|((refine And.intro ?_ ?_)<;>(conv=>whnf))))));(focus((conv=>whnf);(repeat' (first|exact zD9|exact a7 (qo _)|((refine And.intro ?_ ?_)<;>(conv=>whnf)))))))
theorem tv(hM:COK ps room who g M o nl0 cnt0)(j sh:Nat)(gn:Int)(hj:j≤16):Fun TC 103 14 [.ptr 4 0,.i .i64 j,.i .i64 sh,.i .i64 gn] (ao ps room g M (a8 who x o) nl f cnt) 14 (cl (aa ps room) who x (.k0 (.ev j sh gn))) (ao ps room g M (a8 who x o) nl f cnt):=by
 obtain⟨q0,q1,q2,q3,q4,q5,qo,q6,q7,q8⟩:=id hM
 refine Fun.mk' Tryz.func103 rfl rfl zN (by decide) ?_
 (repeat' (first|((first|refine Wp.any ac rfl ?_|(with_reducible first|refine Go.mk ?_|apply ai.of|refine Ov.ok zO ?_)|refine zV ?_);conv=>whnf)|((with_reducible refine At.mk' _ rfl ?_);(refine And.intro zN ?_);conv=>whnf)|((with_reducible refine ag.funM (eh _ _ _ _ (by exact SV.Lt.of rfl)) rfl rfl ?_);conv=>whnf)))
 ((refine af.sealB [0,1,2,3,4,5,6,7,8,9,10,11,12,13] rfl rfl rfl ?_ ?_);(focus((conv=>whnf);(repeat' (first|exact zD9|((refine aj.ptr rfl rfl ?_);(conv=>whnf))|((refine aj.fn ?_);(conv=>whnf))|((refine aj.iref ?_);(conv=>whnf))|((refine And.intro ?_ ?_)<;>(conv=>whnf))))));(focus((conv=>whnf);(repeat' (first|exact zD9|exact a7 (qo _)|((refine And.intro ?_ ?_)<;>(conv=>whnf)))))))
theorem xV(hM:COK ps room who g M o nl0 cnt0)(fd:Core.Fd)(c:Cel)(r:Rpl):Fun TC 143 14 [.ptr 4 0,fdS fd,.i .i64 fd.at',.b fd.there,c.S,r.S] (ao ps room g M (a8 who x o) nl f cnt) 14 (cl (aa ps room) who x (Core.put x fd c r)) (ao ps room g M (a8 who x o) nl f cnt):=by
 obtain⟨q0,q1,q2,q3,q4,q5,qo,q6,q7,q8⟩:=id hM
 refine Fun.mk' Tryz.func143 rfl rfl zN (by decide) ?_
 (repeat' (first|((first|refine Wp.any ac rfl ?_|(with_reducible first|refine Go.mk ?_|apply ai.of)|refine zV ?_);conv=>whnf)|((with_reducible refine At.mk' _ rfl ?_);(refine And.intro zN ?_);conv=>whnf)|((with_reducible refine ag.funM (move_d _ _ _ _ _ _ (by exact SV.Lt.of rfl)) rfl rfl ?_);conv=>whnf)|((refine aq (fun hc=>?_) (fun hc=>?_))<;>(try simp only[wz9]at hc)<;>(try (exfalso;omega))<;>(conv=>whnf))))
 all_goals first
  | (rw[show Core.put x fd c r=.pS fd c r from if_pos (by first|exact .inl hc|exact .inr hc|(simp_all;done))];((refine af.sealB [0,1,2,3,4,5,6,7,8,9,10,11,12,13] rfl rfl rfl ?_ ?_);(focus((conv=>whnf);(repeat' (first|exact zD9|((refine aj.ptr rfl rfl ?_);(conv=>whnf))|((refine aj.fn ?_);(conv=>whnf))|((refine And.intro ?_ ?_)<;>(conv=>whnf))))));(focus((conv=>whnf);(repeat' (first|exact zD9|exact a7 (qo _)|((refine And.intro ?_ ?_)<;>(conv=>whnf)))))));done)
  | (rw[show Core.put x fd c r=.p0 fd c r from if_neg (by simp_all)];((refine af.sealB [0,1,2,3,4,5,6,7,8,9,10,11,12,13] rfl rfl rfl ?_ ?_);(focus((conv=>whnf);(repeat' (first|exact zD9|((refine aj.ptr rfl rfl ?_);(conv=>whnf))|((refine aj.fn ?_);(conv=>whnf))|((refine aj.iref ?_);(conv=>whnf))|((refine And.intro ?_ ?_)<;>(conv=>whnf))))));(focus((conv=>whnf);(repeat' (first|exact zD9|exact a7 (qo _)|((refine And.intro ?_ ?_)<;>(conv=>whnf)))))));done)
  | trace_state
theorem lB(hM:COK ps room who g M o nl0 cnt0)(r:Rpl):Fun TC 172 14 [.ptr 4 0,r.S] (ao ps room g M (a8 who x o) nl f cnt) 14 (.tup [cl (aa ps room) who x (Core.leave x r).1,rsS (Core.leave x r).2]) (ao ps room g M (a8 who x o) nl f cnt):=by
 obtain⟨q0,q1,q2,q3,q4,q5,qo,q6,q7,q8⟩:=id hM
 refine Fun.mk' Tryz.func172 rfl rfl zN (by decide) ?_
 (repeat' (first|((first|refine Wp.any ac rfl ?_|(with_reducible first|refine Go.mk ?_|apply ai.of)|refine zV ?_);conv=>whnf)|(with_reducible refine ab.inline Tryz.func131 rfl rfl rfl (zzb rfl) ?_)|(with_reducible refine ab.inline Tryz.func102 rfl rfl rfl (zzb rfl) ?_)|(with_reducible refine ab.inline Tryz.func138 rfl rfl rfl (zzb rfl) ?_)|(with_reducible refine ab.inline Tryz.func169 rfl rfl rfl (zzb rfl) ?_)|((with_reducible refine At.mk' _ rfl ?_);(refine And.intro zN ?_);conv=>whnf)|((with_reducible refine Ov.mk ?_);conv=>whnf)|((refine aq (fun hc=>?_) (fun hc=>?_))<;>(try simp only[wz9]at hc)<;>(try (exfalso;omega))<;>(conv=>whnf))))
 all_goals first
  | (rw[show Core.leave x r=(.none,⟨true,r⟩)from if_neg (by simp_all)];((refine af.sealB [0,1,2,3,4,5,6,7,8,9,10,11,12,13] rfl rfl rfl ?_ ?_);(focus((conv=>whnf);(repeat' (first|exact zD9|((refine aj.agg ?_);(conv=>whnf))|((refine aj.tup ?_);(conv=>whnf))|((refine And.intro ?_ ?_)<;>(conv=>whnf))))));(focus((conv=>whnf);(repeat' (first|exact zD9|exact a7 (qo _)|((refine And.intro ?_ ?_)<;>(conv=>whnf)))))));done)
  | (rw[show Core.leave x r=(.b0 1 (.lv r),Core.r0)from if_pos (by simp_all)];((refine af.sealB [0,1,2,3,4,5,6,7,8,9,10,11,12,13] rfl rfl rfl ?_ ?_);(focus((conv=>whnf);(repeat' (first|exact zD9|((refine aj.ptr rfl rfl ?_);(conv=>whnf))|((refine aj.fn ?_);(conv=>whnf))|((refine aj.tup ?_);(conv=>whnf))|((refine And.intro ?_ ?_)<;>(conv=>whnf))))));(focus((conv=>whnf);(repeat' (first|exact zD9|exact a7 (qo _)|((refine And.intro ?_ ?_)<;>(conv=>whnf)))))));done)
  | trace_state
end
end Go.Proofs.YtlkccdlgnpkjpaaGreat
