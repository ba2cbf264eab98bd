/- Lemmas of De10, De12, De13, De15, De22, De23, De11, De24, De14, De16, De17, De18, De19, De20, De25. No condition. -/
import Derived.Test.YtejiekfnaddanaaGreatML10
set_option linter.unusedVariables false
set_option linter.unusedSimpArgs false
set_option linter.unusedSectionVars false
set_option maxHeartbeats 80000000
set_option maxRecDepth 100000
namespace Go.Proofs.YtejiekfnaddanaaGreat
open Go.RowKit
@[reducible] def hdK(c:Dir.Kc):List SV:=[.i .u8 c.op,.d (al 1 (aA .u8) c.key),.i .i64 c.val,.i .u64 (ay c.key)]
@[reducible] def qU:List SV:=[.i .u8 0,.d (.val (.slice none 0 0)),.i .i64 0,.i .u64 0,.i .i64 0,.i .i64 0,.i .i64 0,.b false,.i .u64 0,.i .i64 0]
@[reducible] def hdS:List SV:=[.i .u8 4,.any,.any,.any]
theorem nilR_lt:∀v∈qU,SV.Lt 0 v:=by
 intro v hv
 simp only[List.mem_cons,List.not_mem_nil,or_false]at hv
 rcases hv with h|h|h|h|h|h|h|h|h|h<;>subst h<;>exact .of rfl
theorem ar{L:List Nat}{W:Nat→Int}{H:Nat→List Dir.Ent}{n:Int}{F:Nat→List SV}(hF:OKF F):dx L 0 (dS W H n F) (dS W H n F):=by
 refine .cons (fun i hi=>⟨⟨ac.rfl rfl,trivial⟩,fun v hv=>?_⟩) (fun _ _=>rfl) (.cons (fun i hi=>⟨⟨ac.rfl rfl,trivial⟩,fun v hv=>?_⟩) (fun _ _=>rfl) (.cons (fun i hi=>⟨⟨ac.rfl rfl,trivial⟩,fun v hv=>?_⟩) (fun _ _=>rfl) (.cons (fun i hi=>⟨aC.frees fun v hv=>(hF.fr i v hv).1,fun v hv=>(hF.fr i v hv).2⟩) (fun i _=>hF.len i) .nil)))
 ·rw[List.mem_singleton.1 hv];exact .of rfl
 ·rw[List.mem_singleton.1 hv];exact .of rfl
 ·rw[List.mem_singleton.1 hv];exact .of rfl
theorem dt{W W':Nat→Int}{H:Nat→List Dir.Ent}{n:Int}{F F':Nat→List SV}(hF:OKF F)(hF':OKF F')(hn:0≤n)(hn2:n≤4611686018427387904){w:Nat}(hw:w<64){c:Dir.Kc}(ho:Dir.okOp c){p:Int}(hp:p≠10){x1 x2 x3 x4 x5:SV}(hR:F w=hdK c++[.i .i64 p,x1,x2,x3,x4,x5])
  (hS:Fun TC 38 1 [.ptr 0 0,.rp 0 10 w 69,.i .u64 (ay c.key),.b false] [(0,some (dB W H (n+1) F))] 1 ev0 [(0,some (dB W' H (n+1) F'))]) :
  Fun TC 12 1 [.ptr 0 0,.i .i64 w] [(0,some (dB W H n F))] 1 (.tup [di Dir.r0,.i .i64 0]) [(0,some (dB W' H (n+1) F'))]:=by
 obtain⟨o1,o3⟩:=ho
 have e4:(c.op==4)=false:=by simp;omega
 have hS4:Fun TC 38 1 [.ptr 0 0,.rp 0 10 w 69,.i .u64 (ay c.key),.b (c.op==4)] [(0,some (dB W H (n+1) F))] 1 ev0 [(0,some (dB W' H (n+1) F'))]:=by rw[e4];exact hS
 refine Fun.mk' Tryz.func12 rfl rfl zN (by decide) ?_
 (repeat' (first|((first|with_reducible refine IxA.rp ?_|refine CfV.seg rfl ?_|with_reducible refine Or.inr (CfS.seg1 rfl rfl rfl ?_));conv=>whnf)|((with_reducible refine And.intro ?hb ?_);(case hb=>exact zz0);(conv=>whnf))|((first|refine aD.st hR ?_|refine Wp.any ab rfl ?_|(with_reducible first|refine Go.mk ?_|apply am.of|refine Ov.ok zO ?_)|refine zV ?_|(with_reducible first|refine And.intro zC ?_|refine At.mk' 64 rfl ?_));conv=>whnf)|((refine ai.fn (hS4) [0] [] rfl rfl rfl rfl rfl ?ha ?hh ?hs ?_);(case ha=>exact zz3);(case hh=>exact zz2);(case hs=>exact zK);(conv=>whnf))|((refine au (fun hc=>?_) (fun hc=>?_))<;>(try simp only[wz9]at hc)<;>(try (exfalso;omega))<;>(conv=>whnf))))
 all_goals
  (refine af.of [0] rfl (fun i hi=>by have:i=0:=(by omega);subst this;rfl) rfl ?_ ?_)
  ·exact .rfl _
  ·exact⟨bn.seg (m:=0) rfl (Nat.zero_le _) (ar hF'),trivial⟩
theorem cR{W W':Nat→Int}{H:Nat→List Dir.Ent}{n:Int}{F F':Nat→List SV}(hF:OKF F)(hF':OKF F')(hn:0≤n)(hn2:n≤4611686018427387904){w:Nat}(hw:w<64){p:Int}(hp:p≠10){x1 x2 x3 x4 x5:SV}(hR:F w=hdS++[.i .i64 p,x1,x2,x3,x4,x5])
  (hS:Fun TC 38 1 [.ptr 0 0,.rp 0 10 w 69,.any,.b true] [(0,some (dB W H (n+1) F))] 1 ev0 [(0,some (dB W' H (n+1) F'))]) :
  Fun TC 12 1 [.ptr 0 0,.i .i64 w] [(0,some (dB W H n F))] 1 (.tup [di Dir.r0,.i .i64 0]) [(0,some (dB W' H (n+1) F'))]:=by
 refine Fun.mk' Tryz.func12 rfl rfl zN (by decide) ?_
 (repeat' (first|((first|with_reducible refine IxA.rp ?_|refine CfV.seg rfl ?_|with_reducible refine Or.inr (CfS.seg1 rfl rfl rfl ?_));conv=>whnf)|((with_reducible refine And.intro ?hb ?_);(case hb=>exact zz0);(conv=>whnf))|((first|refine aD.st hR ?_|refine Wp.any ab rfl ?_|(with_reducible first|refine Go.mk ?_|apply am.of|refine Ov.ok zO ?_)|refine zV ?_|(with_reducible first|refine And.intro zC ?_|refine At.mk' 64 rfl ?_));conv=>whnf)|((refine ai.fn (hS) [0] [] rfl rfl rfl rfl rfl ?ha ?hh ?hs ?_);(case ha=>exact zz3);(case hh=>exact zz2);(case hs=>exact zK);(conv=>whnf))|((refine au (fun hc=>?_) (fun hc=>?_))<;>(try simp only[wz9]at hc)<;>(try (exfalso;omega))<;>(conv=>whnf))))
 all_goals
  (refine af.of [0] rfl (fun i hi=>by have:i=0:=(by omega);subst this;rfl) rfl ?_ ?_)
  ·exact .rfl _
  ·exact⟨bn.seg (m:=0) rfl (Nat.zero_le _) (ar hF'),trivial⟩
theorem sm{W W':Nat→Int}{H:Nat→List Dir.Ent}{n:Int}{F F':Nat→List SV}(hF:OKF F)(hF':OKF F')(hn:0≤n)(hn2:n≤4611686018427387904){w:Nat}(hw:w<64){p:Int}(hp:p≠10){x1 x2 x3 x4 x5:SV}(hR:F w=hdS++[.i .i64 p,x1,x2,x3,x4,x5]){e:Bool}{p2:Int}{y1 y2 y3 y4 y5:SV}(hR2:F' w=hdS++[.i .i64 p2,y1,y2,y3,y4,y5])
  (hS:Fun TC 38 1 [.ptr 0 0,.rp 0 10 w 69,.any,.b true] [(0,some (dB W H (n+1) F))] 1 (evD e) [(0,some (dB W' H (n+1) F'))]) :
  Fun TC 12 1 [.ptr 0 0,.i .i64 w] [(0,some (dB W H n F))] 1 (.tup [di ⟨true,if e then 5 else 0,0⟩,.i .i64 0]) [(0,some (dB W' H (n+1) (bF F' w qU)))]:=by
 cases e
 all_goals
  refine Fun.mk' Tryz.func12 rfl rfl zN (by decide) ?_
  (repeat' (first|((first|refine aD.st hR2 ?_|with_reducible refine IxA.rp ?_|refine CfV.seg rfl ?_|with_reducible refine Or.inr (CfS.seg1 rfl rfl rfl ?_)|refine CfS.seg rfl rfl rfl ?_);conv=>whnf)|((with_reducible refine And.intro ?hb ?_);(case hb=>exact zz0);(conv=>whnf))|((first|refine aD.st hR ?_|refine Wp.any ab rfl ?_|(with_reducible first|refine Go.mk ?_|apply am.of|refine Ov.ok zO ?_)|refine zV ?_|(with_reducible first|refine And.intro zC ?_|refine At.mk' 64 rfl ?_));conv=>whnf)|((refine ai.fn (hS) [0] [] rfl rfl rfl rfl rfl ?ha ?hh ?hs ?_);(case ha=>exact zz3);(case hh=>exact zz2);(case hs=>exact zK);(conv=>whnf))|(with_reducible refine aa.inline Tryz.func40 rfl rfl rfl (zzb rfl) ?_)|((refine au (fun hc=>?_) (fun hc=>?_))<;>(try simp only[wz9]at hc)<;>(try (exfalso;omega))<;>(conv=>whnf))))
  all_goals((try simp only[Q13,Int.toNat_zero,ax,av,ah]);(refine af.of [0] rfl (fun i hi=>by have:i=0:=(by omega);subst this;rfl) rfl ?_ ?_);(focus exact .rfl _);refine⟨bn.seg (m:=0) rfl (Nat.zero_le _) (az hF' rfl nilR_lt ?_),trivial⟩;((conv=>whnf);repeat' (first|exact zG9|((with_reducible refine And.intro ?_ ?_)<;>(conv=>whnf)))))
theorem doc_cs{W W':Nat→Int}{H:Nat→List Dir.Ent}{n:Int}{F F':Nat→List SV}(hF:OKF F)(hF':OKF F')(hn:0≤n)(hn2:n≤4611686018427387904){w:Nat}(hw:w<64){p:Int}(hp:p≠10){x1 x2 x3 x4 x5:SV}(hR:F w=hdS++[.i .i64 p,x1,x2,x3,x4,x5]){lv q:Nat}(hl:lv≤3)(hq:q<2^(lv+1))(hh:(H (2^lv+q%2^lv)).length≤16777216)(hb:∀k,IsB ((H (2^lv+q%2^lv)).getD k default).key)
  (hS:Fun TC 38 1 [.ptr 0 0,.rp 0 10 w 69,.any,.b true] [(0,some (dB W H (n+1) F))] 1 (evC lv q) [(0,some (dB W' H (n+1) F'))]) :
  Fun TC 12 1 [.ptr 0 0,.i .i64 w] [(0,some (dB W H n F))] 1 (.tup [di Dir.r0,.i .i64 0]) [(0,some (dB W' (Dir.upd H (2^(lv+1)+q) (bM (H (2^lv+q%2^lv)) (lv+1) q)) (n+1) F'))]:=by
 obtain⟨p1,p2,p3⟩:=dO (show lv≤4 by omega)
 obtain⟨r1,r2,r3⟩:=dO (show lv+1≤4 by omega)
 have h4:q%2^lv<2^lv:=Nat.mod_lt _ (by omega)
 have hLy:Pure TC 39 [.d (al 2 aq (H (2^lv+q%2^lv))),.i .i64 ((lv:Int)+1),.i .i64 q] (.d (al 2 aq (bM (H (2^lv+q%2^lv)) (lv+1) q))):=iY _ hb (lv+1) q (by omega) hh
 have hv1:2^lv+q%2^lv<32:=by omega
 have hv2:2^(lv+1)+q<32:=by omega
 unfold evC at hS
 generalize 2^lv+q%2^lv=v1 at *
 generalize 2^(lv+1)+q=v2 at *
 refine Fun.mk' Tryz.func12 rfl rfl zN (by decide) ?_
 (repeat' (first|((first|with_reducible refine IxA.rp ?_|refine CfV.seg rfl ?_|with_reducible refine Or.inr (CfS.seg1 rfl rfl rfl ?_)|refine CfS.seg rfl rfl rfl ?_);conv=>whnf)|((with_reducible refine And.intro ?hb ?_);(case hb=>exact zz0);(conv=>whnf))|((first|refine aD.st hR ?_|with_reducible refine aD.nat ?_|refine Wp.any ab rfl ?_|(with_reducible first|refine Go.mk ?_|apply am.of|refine Ov.ok zO ?_)|refine zV ?_|(with_reducible first|refine And.intro zC ?_|refine At.mk' 64 rfl ?_));conv=>whnf)|((refine ai.fn (hS) [0] [] rfl rfl rfl rfl rfl ?ha ?hh ?hs ?_);(case ha=>exact zz3);(case hh=>exact zz2);(case hs=>exact zK);(conv=>whnf))|((with_reducible refine ai.pure (hLy) rfl rfl ?_);conv=>whnf)|((refine au (fun hc=>?_) (fun hc=>?_))<;>(try simp only[wz9]at hc)<;>(try (exfalso;omega))<;>(conv=>whnf))))
 all_goals
  simp only[Q13,av]
  refine af.of [0] rfl (fun i hi=>by have:i=0:=(by omega);subst this;rfl) rfl ?_ ⟨bn.seg (m:=0) rfl (Nat.zero_le _) (ar hF'),trivial⟩
  exact .rfl _
theorem doc_ck{W W':Nat→Int}{H:Nat→List Dir.Ent}{n:Int}{F F':Nat→List SV}(hF:OKF F)(hF':OKF F')(hn:0≤n)(hn2:n≤4611686018427387904){w:Nat}(hw:w<64){c:Dir.Kc}(ho:Dir.okOp c){p:Int}(hp:p≠10){x1 x2 x3 x4 x5:SV}(hR:F w=hdK c++[.i .i64 p,x1,x2,x3,x4,x5]){lv q:Nat}(hl:lv≤3)(hq:q<2^(lv+1))(hh:(H (2^lv+q%2^lv)).length≤16777216)(hb:∀k,IsB ((H (2^lv+q%2^lv)).getD k default).key)
  (hS:Fun TC 38 1 [.ptr 0 0,.rp 0 10 w 69,.i .u64 (ay c.key),.b false] [(0,some (dB W H (n+1) F))] 1 (evC lv q) [(0,some (dB W' H (n+1) F'))]) :
  Fun TC 12 1 [.ptr 0 0,.i .i64 w] [(0,some (dB W H n F))] 1 (.tup [di Dir.r0,.i .i64 0]) [(0,some (dB W' (Dir.upd H (2^(lv+1)+q) (bM (H (2^lv+q%2^lv)) (lv+1) q)) (n+1) F'))]:=by
 obtain⟨p1,p2,p3⟩:=dO (show lv≤4 by omega)
 obtain⟨r1,r2,r3⟩:=dO (show lv+1≤4 by omega)
 have h4:q%2^lv<2^lv:=Nat.mod_lt _ (by omega)
 have hLy:Pure TC 39 [.d (al 2 aq (H (2^lv+q%2^lv))),.i .i64 ((lv:Int)+1),.i .i64 q] (.d (al 2 aq (bM (H (2^lv+q%2^lv)) (lv+1) q))):=iY _ hb (lv+1) q (by omega) hh
 have hv1:2^lv+q%2^lv<32:=by omega
 have hv2:2^(lv+1)+q<32:=by omega
 obtain⟨o1,o3⟩:=ho
 have e4:(c.op==4)=false:=by simp;omega
 have hS4:Fun TC 38 1 [.ptr 0 0,.rp 0 10 w 69,.i .u64 (ay c.key),.b (c.op==4)] [(0,some (dB W H (n+1) F))] 1 (evC lv q) [(0,some (dB W' H (n+1) F'))]:=by rw[e4];exact hS
 clear hS
 unfold evC at hS4
 generalize 2^lv+q%2^lv=v1 at *
 generalize 2^(lv+1)+q=v2 at *
 refine Fun.mk' Tryz.func12 rfl rfl zN (by decide) ?_
 (repeat' (first|((first|with_reducible refine IxA.rp ?_|refine CfV.seg rfl ?_|with_reducible refine Or.inr (CfS.seg1 rfl rfl rfl ?_)|refine CfS.seg rfl rfl rfl ?_);conv=>whnf)|((with_reducible refine And.intro ?hb ?_);(case hb=>exact zz0);(conv=>whnf))|((first|refine aD.st hR ?_|with_reducible refine aD.nat ?_|refine Wp.any ab rfl ?_|(with_reducible first|refine Go.mk ?_|apply am.of|refine Ov.ok zO ?_)|refine zV ?_|(with_reducible first|refine And.intro zC ?_|refine At.mk' 64 rfl ?_));conv=>whnf)|((refine ai.fn (hS4) [0] [] rfl rfl rfl rfl rfl ?ha ?hh ?hs ?_);(case ha=>exact zz3);(case hh=>exact zz2);(case hs=>exact zK);(conv=>whnf))|((with_reducible refine ai.pure (hLy) rfl rfl ?_);conv=>whnf)|((refine au (fun hc=>?_) (fun hc=>?_))<;>(try simp only[wz9]at hc)<;>(try (exfalso;omega))<;>(conv=>whnf))))
 all_goals
  simp only[Q13,av]
  refine af.of [0] rfl (fun i hi=>by have:i=0:=(by omega);subst this;rfl) rfl ?_ ⟨bn.seg (m:=0) rfl (Nat.zero_le _) (ar hF'),trivial⟩
  exact .rfl _
section
def bo(who op:Int)(key:List Int)(v:Int):Int :=
 if who<0∨63<who∨op<1∨4<op∨(op=2∧cK v=false)then 1 else if op≠4∧256<(key.length:Int)then 2 else 0
theorem dN(who op:Int)(key:List Int)(v:Int)(h0:0≤op)(h1:op≤255):Pure TC 32 [.i .i64 who,.i .u8 op,.d (al 1 (aA .u8) key),.i .i64 v] (.i .i64 (bo who op key v)):=by
 refine Pure.mk' Tryz.func32 rfl rfl zN ?_
 cases ht:cK v
 all_goals
  have hF:=r1_Form v
  rw[ht]at hF
  (repeat' (first|((first|refine Wp.any ab rfl ?_|(with_reducible first|refine Go.mk ?_|apply am.of|refine aa.pure (hF) rfl rfl ?_));conv=>whnf)|((refine au (fun hc=>?_) (fun hc=>?_))<;>(try simp only[wz9]at hc)<;>(try (exfalso;omega))<;>(conv=>whnf))))
  all_goals exact .i (by simp only[bo,ht];simp;omega)
theorem m0(a:List Int)(hl:a.length≤140737488355328):Pure TC 33 [.d (al 1 (aA .u8) a)] (.d (al 1 (aA .u8) a)):=by
 refine Pure.mk' Tryz.func33 rfl rfl zN ?_
 (repeat' (first|((first|refine Wp.any ab rfl ?_|(with_reducible first|refine Go.mk ?_|apply am.of|refine And.intro zC ?_));conv=>whnf)|((with_reducible refine And.intro ?hb ?_);(case hb=>(show(0+a.length)*1≤140737488355328;omega));(conv=>whnf))))
 refine SV.Le.sl' (Q19 _) fun i hi=>?_
 rw[Q19]
 unfold bK
 rw[if_neg (by omega)]
 rfl
section
variable{W:Nat→Int}{H:Nat→List Dir.Ent}{n:Int}{F:Nat→List SV}(hF:OKF F)
include hF
theorem n5(h0:0≤W 0)(h8:W 0≤8):Fun TC 15 1 [.ptr 0 0] [(0,some (dB W H n F))] 1 (.tup [.i .i64 (W 0/2),.b (decide (W 0%2=1))]) [(0,some (dB W H n F))]:=by
 have qr:(W 0).tmod 2=W 0%2:=Q6 h0
 refine Fun.mk' Tryz.func15 rfl rfl zN (by decide) ?_
 (repeat' (first|((first|with_reducible refine IxA.rp ?_|refine CfV.seg rfl ?_);conv=>whnf)|((with_reducible refine And.intro ?hb ?_);(case hb=>exact zz0);(conv=>whnf))|((first|with_reducible refine aD.zero ?_|refine Wp.any ab rfl ?_|(with_reducible first|refine Go.mk ?_|apply am.of|refine Ov.ok zO ?_)|refine zV ?_|with_reducible refine And.intro zC ?_);conv=>whnf)|(with_reducible refine Ov.tdivN (by omega) ?_)))
 rw[qr]
 (refine af.of [0] rfl (fun i hi=>by have:i=0:=(by omega);subst this;rfl) rfl ?_ ?_);(focus exact .rfl _);exact⟨bn.seg (m:=0) rfl (Nat.zero_le _) (ar hF),trivial⟩
theorem kv{who:Int}(hw:¬(0≤who∧who<64)):Fun TC 17 1 [.ptr 0 0,.i .i64 who] [(0,some (dB W H n F))] 1 (.b false) [(0,some (dB W H n F))]:=by
 refine Fun.mk' Tryz.func17 rfl rfl zN (by decide) ?_
 (repeat' (first|((first|refine Wp.any ab rfl ?_|(with_reducible first|refine Go.mk ?_|apply am.of));conv=>whnf)|((refine au (fun hc=>?_) (fun hc=>?_))<;>(try simp only[wz9]at hc)<;>(try (exfalso;omega))<;>(conv=>whnf))))
 all_goals first|(exfalso;simp only[beq_iff_eq,beq_eq_false_iff_ne,decide_eq_true_eq,decide_eq_false_iff_not,ge_iff_le]at *;omega)|((refine af.of [0] rfl (fun i hi=>by have:i=0:=(by omega);subst this;rfl) rfl ?_ ?_);(focus exact .rfl _);exact⟨bn.seg (m:=0) rfl (Nat.zero_le _) (ar hF),trivial⟩)
theorem ks{who:Int}(hw:¬(0≤who∧who<64)):Fun TC 12 1 [.ptr 0 0,.i .i64 who] [(0,some (dB W H n F))] 1 (.tup [.agg [.b false,.i .i64 0,.i .i64 0],.i .i64 1]) [(0,some (dB W H n F))]:=by
 refine Fun.mk' Tryz.func12 rfl rfl zN (by decide) ?_
 (repeat' (first|((first|refine Wp.any ab rfl ?_|(with_reducible first|refine Go.mk ?_|apply am.of));conv=>whnf)|((refine au (fun hc=>?_) (fun hc=>?_))<;>(try simp only[wz9]at hc)<;>(try (exfalso;omega))<;>(conv=>whnf))))
 all_goals first|(exfalso;simp only[beq_iff_eq,beq_eq_false_iff_ne,decide_eq_true_eq,decide_eq_false_iff_not,ge_iff_le]at *;omega)|((refine af.of [0] rfl (fun i hi=>by have:i=0:=(by omega);subst this;rfl) rfl ?_ ?_);(focus exact .rfl _);exact⟨bn.seg (m:=0) rfl (Nat.zero_le _) (ar hF),trivial⟩)
theorem js{who op:Int}(o0:0≤op)(o1:op≤255){key:List Int}{v:Int}(hE:bo who op key v≠0):Fun TC 9 1 [.ptr 0 0,.i .i64 who,.i .u8 op,.d (al 1 (aA .u8) key),.i .i64 v] [(0,some (dB W H n F))] 1 (.i .i64 (bo who op key v)) [(0,some (dB W H n F))]:=by
 have hRt:=dN who op key v o0 o1
 generalize bo who op key v=e at *
 refine Fun.mk' Tryz.func9 rfl rfl zN (by decide) ?_
 (repeat' (first|((first|refine Wp.any ab rfl ?_|(with_reducible first|refine Go.mk ?_|apply am.of|refine aa.pure (hRt) rfl rfl ?_));conv=>whnf)|((refine au (fun hc=>?_) (fun hc=>?_))<;>(try simp only[wz9]at hc)<;>(try (exfalso;omega))<;>(conv=>whnf))))
 all_goals first|(exfalso;simp only[beq_iff_eq,beq_eq_false_iff_ne,decide_eq_true_eq,decide_eq_false_iff_not,ge_iff_le]at *;omega)|((refine af.of [0] rfl (fun i hi=>by have:i=0:=(by omega);subst this;rfl) rfl ?_ ?_);(focus exact .rfl _);exact⟨bn.seg (m:=0) rfl (Nat.zero_le _) (ar hF),trivial⟩)
variable{w:Nat}(hw:w<64)
include hw
theorem ry{o:Int}{r:List SV}(hr:r.length=9)(hR:F w=.i .u8 o::r):Fun TC 17 1 [.ptr 0 0,.i .i64 w] [(0,some (dB W H n F))] 1 (.b (o != 0)) [(0,some (dB W H n F))]:=by
 obtain⟨r1,r2,r3,r4,r5,r6,r7,r8,r9,rfl⟩:∃r1 r2 r3 r4 r5 r6 r7 r8 r9,r=[r1,r2,r3,r4,r5,r6,r7,r8,r9]:=by
  match r,hr with
  | [r1,r2,r3,r4,r5,r6,r7,r8,r9],_=>exact⟨r1,r2,r3,r4,r5,r6,r7,r8,r9,rfl⟩
 refine Fun.mk' Tryz.func17 rfl rfl zN (by decide) ?_
 (repeat' (first|((first|with_reducible refine IxA.rp ?_|refine CfV.seg rfl ?_);conv=>whnf)|((with_reducible refine And.intro ?hb ?_);(case hb=>exact zz0);(conv=>whnf))|((first|refine aD.st hR ?_|refine Wp.any ab rfl ?_|(with_reducible first|refine Go.mk ?_|apply am.of|refine And.intro zC ?_));conv=>whnf)|((refine au (fun hc=>?_) (fun hc=>?_))<;>(try simp only[wz9]at hc)<;>(try (exfalso;omega))<;>(conv=>whnf))))
 all_goals first|(exfalso;simp only[beq_iff_eq,beq_eq_false_iff_ne,decide_eq_true_eq,decide_eq_false_iff_not,ge_iff_le]at *;omega)|((refine af.of [0] rfl (fun i hi=>by have:i=0:=(by omega);subst this;rfl) rfl ?_ ?_);(focus exact .rfl _);exact⟨bn.seg (m:=0) rfl (Nat.zero_le _) (ar hF),trivial⟩)
theorem jr{r:List SV}(hr:r.length=9)(hR:F w=.i .u8 0::r):Fun TC 12 1 [.ptr 0 0,.i .i64 w] [(0,some (dB W H n F))] 1 (.tup [.agg [.b false,.i .i64 0,.i .i64 0],.i .i64 7]) [(0,some (dB W H n F))]:=by
 obtain⟨r1,r2,r3,r4,r5,r6,r7,r8,r9,rfl⟩:∃r1 r2 r3 r4 r5 r6 r7 r8 r9,r=[r1,r2,r3,r4,r5,r6,r7,r8,r9]:=by
  match r,hr with
  | [r1,r2,r3,r4,r5,r6,r7,r8,r9],_=>exact⟨r1,r2,r3,r4,r5,r6,r7,r8,r9,rfl⟩
 refine Fun.mk' Tryz.func12 rfl rfl zN (by decide) ?_
 (repeat' (first|((first|with_reducible refine IxA.rp ?_|refine CfV.seg rfl ?_);conv=>whnf)|((with_reducible refine And.intro ?hb ?_);(case hb=>exact zz0);(conv=>whnf))|((first|refine aD.st hR ?_|refine Wp.any ab rfl ?_|(with_reducible first|refine Go.mk ?_|apply am.of|refine And.intro zC ?_));conv=>whnf)|((refine au (fun hc=>?_) (fun hc=>?_))<;>(try simp only[wz9]at hc)<;>(try (exfalso;omega))<;>(conv=>whnf))))
 all_goals first|(exfalso;simp only[beq_iff_eq,beq_eq_false_iff_ne,decide_eq_true_eq,decide_eq_false_iff_not,ge_iff_le]at *;omega)|((refine af.of [0] rfl (fun i hi=>by have:i=0:=(by omega);subst this;rfl) rfl ?_ ?_);(focus exact .rfl _);exact⟨bn.seg (m:=0) rfl (Nat.zero_le _) (ar hF),trivial⟩)
theorem iD{o:Int}(ho:o≠0){r:List SV}(hr:r.length=9)(hR:F w=.i .u8 o::r){op:Int}(o0:0≤op)(o1:op≤255){key:List Int}{v:Int}(hE:bo w op key v=0):Fun TC 9 1 [.ptr 0 0,.i .i64 w,.i .u8 op,.d (al 1 (aA .u8) key),.i .i64 v] [(0,some (dB W H n F))] 1 (.i .i64 9) [(0,some (dB W H n F))]:=by
 obtain⟨r1,r2,r3,r4,r5,r6,r7,r8,r9,rfl⟩:∃r1 r2 r3 r4 r5 r6 r7 r8 r9,r=[r1,r2,r3,r4,r5,r6,r7,r8,r9]:=by
  match r,hr with
  | [r1,r2,r3,r4,r5,r6,r7,r8,r9],_=>exact⟨r1,r2,r3,r4,r5,r6,r7,r8,r9,rfl⟩
 have hRt:=dN w op key v o0 o1
 rw[hE]at hRt
 refine Fun.mk' Tryz.func9 rfl rfl zN (by decide) ?_
 (repeat' (first|((first|with_reducible refine IxA.rp ?_|refine CfV.seg rfl ?_);conv=>whnf)|((with_reducible refine And.intro ?hb ?_);(case hb=>exact zz0);(conv=>whnf))|((first|refine aD.st hR ?_|refine Wp.any ab rfl ?_|(with_reducible first|refine Go.mk ?_|apply am.of|refine And.intro zC ?_|refine aa.pure (hRt) rfl rfl ?_));conv=>whnf)|((refine au (fun hc=>?_) (fun hc=>?_))<;>(try simp only[wz9]at hc)<;>(try (exfalso;omega))<;>(conv=>whnf))))
 all_goals first|(exfalso;simp only[beq_iff_eq,beq_eq_false_iff_ne,decide_eq_true_eq,decide_eq_false_iff_not,ge_iff_le]at *;omega)|((refine af.of [0] rfl (fun i hi=>by have:i=0:=(by omega);subst this;rfl) rfl ?_ ?_);(focus exact .rfl _);exact⟨bn.seg (m:=0) rfl (Nat.zero_le _) (ar hF),trivial⟩)
theorem ku{r:List SV}(hr:r.length=9)(hR:F w=.i .u8 0::r){op:Int}(o0:0≤op)(o1:op≤255){key:List Int}(hk:key.length≤16777216)(hb:IsB key){v:Int}(hE:bo w op key v=0):Fun TC 9 1 [.ptr 0 0,.i .i64 w,.i .u8 op,.d (al 1 (aA .u8) key),.i .i64 v] [(0,some (dB W H n F))] 1 (.i .i64 0) [(0,some (dB W H n (bF F w (hdK ⟨op,key,v⟩++[.i .i64 0,.any,.any,.any,.any,.any]))))]:=by
 obtain⟨r1,r2,r3,r4,r5,r6,r7,r8,r9,rfl⟩:∃r1 r2 r3 r4 r5 r6 r7 r8 r9,r=[r1,r2,r3,r4,r5,r6,r7,r8,r9]:=by
  match r,hr with
  | [r1,r2,r3,r4,r5,r6,r7,r8,r9],_=>exact⟨r1,r2,r3,r4,r5,r6,r7,r8,r9,rfl⟩
 have hRt:=dN w op key v o0 o1
 rw[hE]at hRt
 refine Fun.mk' Tryz.func9 rfl rfl zN (by decide) ?_
 (repeat' (first|((first|with_reducible refine IxA.rp ?_|refine CfV.seg rfl ?_|refine CfS.seg rfl rfl rfl ?_);conv=>whnf)|((with_reducible refine And.intro ?hb ?_);(case hb=>exact zz0);(conv=>whnf))|((first|refine aD.st hR ?_|refine Wp.any ab rfl ?_|(with_reducible first|refine Go.mk ?_|apply am.of)|refine zV ?_|(with_reducible first|refine And.intro zC ?_|refine aa.pure (hRt) rfl rfl ?_|refine ai.pure (m0 key (by omega)) rfl rfl ?_|refine ai.pure (kT key hb) rfl rfl ?_));conv=>whnf)))
 all_goals
  (try simp only[Q13,ax,av,ah])
  refine af.of [0] rfl (fun i hi=>by have:i=0:=(by omega);subst this;rfl) rfl ?_ ⟨bn.seg (m:=0) rfl (Nat.zero_le _) (az hF rfl (fun v hv=>SV.Lt.ofL rfl v hv) ?_),trivial⟩
  ·exact .rfl _
  ·((conv=>whnf);repeat' (first|exact zG9|((with_reducible refine And.intro ?_ ?_)<;>(conv=>whnf))))
end
end
def gt(a:List Int):List Int:=a++[165,90,165]
theorem rS(key:List Int){i:Nat}(h:i<key.length):(gt key).getD i default=key.getD i default:=by
 unfold gt
 rw[Q1,Q11 h,← Q1]
theorem fu(key:List Int):(gt key).length=key.length+3:=by unfold gt;rw[Q9];rfl
@[reducible] def kB(key:List Int):Blk:=aI 5 1 (aA .u8) (gt key)
theorem jF(key:List Int)(hl:key.length≤256):Fun TC 31 1 [.sl 0 1 0 key.length] [(0,some (kB key))] 1 (.d (al 1 (aA .u8) key)) [(0,some (kB key))]:=by
 have e1:=fu key
 refine Fun.mk' Tryz.func31 rfl rfl zN (by decide) ?_
 (repeat' (first|((first|refine Wp.any ab rfl ?_|(with_reducible first|refine Go.mk ?_|apply am.of|refine And.intro zC ?_));conv=>whnf)|((with_reducible refine And.intro ?hb ?_);(case hb=>exact zz1);(conv=>whnf))|((with_reducible refine bq ?_ (fun hn0=>?_))<;>(conv=>whnf))))
 ·refine af.sealB [0] rfl rfl rfl (ak.le (ak.sl rfl rfl (Nat.le_of_eq (Q19 _))) (SV.Le.sl' (Q19 _) fun i hi=>?_)) ?_
  ·simp only[Q19,bK]
   rw[if_neg (by omega)]
   show aA .u8 ((gt key).getD _ default)=_
   rw[Nat.sub_zero,rS key hi]
  ·(conv=>whnf);(repeat' (first|exact zE|((refine And.intro ?_ ?_)<;>(conv=>whnf))))
 ·obtain rfl:=List.eq_nil_of_length_eq_zero hn0
  refine af.of [0] rfl (fun i hi=>by have:i=0:=(by omega);subst this;rfl) rfl ?_ ?_
  ·exact .nil
  ·((conv=>whnf);repeat' (first|exact zC9|((with_reducible refine And.intro ?_ ?_)<;>(conv=>whnf))))
theorem kx{g:Nat→SV}{M:Dir.Mc}{nl:Nat}{f:Nat→List D}{clk cnt:Int}{who:Int}(hw:¬(0≤who∧who<64))(q5:∀j,SV.Lt 5 (g j)) :
  Fun TC 16 5 [.ptr 0 0,.i .i64 who] (aN g M nl f clk cnt) 5 (.b false) (aN g M nl f clk cnt):=by
 have hI:=bk who
 rw[show(decide (0≤who)&&decide (who<64))=false by simp;omega]at hI
 refine Fun.mk' Tryz.func16 rfl rfl zN (by decide) ?_
 (repeat' (first|((first|refine Wp.any ab rfl ?_|(with_reducible first|refine Go.mk ?_|apply am.of|refine aa.pure (hI) rfl rfl ?_));conv=>whnf)))
 all_goals((refine af.sealB [0,1,2,3,4] rfl rfl rfl ?_ ?_);(focus((conv=>whnf);(repeat' (first|exact zE))));(focus((conv=>whnf);(repeat' (first|exact zE|((refine And.intro ?_ ?_)<;>(conv=>whnf)))))))
theorem kw{g:Nat→SV}{M:Dir.Mc}{nl:Nat}{f:Nat→List D}{clk cnt:Int}{who:Int}(hw:¬(0≤who∧who<64))(q5:∀j,SV.Lt 5 (g j)) :
  Fun TC 11 5 [.ptr 0 0,.i .i64 who] (aN g M nl f clk cnt) 5 (.tup [.agg [.b false,.i .i64 0,.i .i64 0],.i .i64 1]) (aN g M nl f clk cnt):=by
 have hI:=bk who
 rw[show(decide (0≤who)&&decide (who<64))=false by simp;omega]at hI
 refine Fun.mk' Tryz.func11 rfl rfl zN (by decide) ?_
 (repeat' (first|((first|refine Wp.any ab rfl ?_|(with_reducible first|refine Go.mk ?_|apply am.of|refine aa.pure (hI) rfl rfl ?_));conv=>whnf)))
 all_goals((refine af.sealB [0,1,2,3,4] rfl rfl rfl ?_ ?_);(focus((conv=>whnf);(repeat' (first|exact zE))));(focus((conv=>whnf);(repeat' (first|exact zE|((refine And.intro ?_ ?_)<;>(conv=>whnf)))))))
theorem jx{g:Nat→SV}{M:Dir.Mc}{nl:Nat}{f:Nat→List D}{clk cnt:Int}(q5:∀j,SV.Lt 5 (g j)){who op:Int}{key:List Int}{v:Int}(hE:bo who op key v≠0) :
  Fun TC 8 6 [.ptr 0 0,.i .i64 who,.i .u8 op,.sl 5 1 0 key.length,.i .i64 v] (aN g M nl f clk cnt++[(5,some (kB key))]) 6 (.i .i64 (bo who op key v)) (aN g M nl f clk cnt++[(5,some (kB key))]):=by
 have hT:=dI v
 have e1:=fu key
 cases ht:cK v
 ·rw[ht]at hT
  unfold bo at hE⊢
  rw[ht]at hE⊢
  have hE2:who<0∨63<who∨op<1∨4<op∨op=2∨(op≠4∧256<(key.length:Int)):=by
   refine Classical.byContradiction fun hcon=>hE ?_
   rw[if_neg (by simp;omega),if_neg (by omega)]
  clear hE
  refine Fun.mk' Tryz.func8 rfl rfl zN (by decide) ?_
  (repeat' (first|((first|refine Wp.any ab rfl ?_|(with_reducible first|refine Go.mk ?_|apply am.of|refine aa.pure (bk _) rfl rfl ?_|refine aa.pure (hT) rfl rfl ?_));conv=>whnf)|((refine au (fun hc=>?_) (fun hc=>?_))<;>(try simp only[wz9]at hc)<;>(try (exfalso;omega))<;>(conv=>whnf))))
  all_goals first
   | (rw[if_pos (by simp;omega)];((refine af.sealB [0,1,2,3,4,5] rfl rfl rfl ?_ ?_);(focus((conv=>whnf);(repeat' (first|exact zE))));(focus((conv=>whnf);(repeat' (first|exact zE|((refine And.intro ?_ ?_)<;>(conv=>whnf)))))));done)
   | (rw[if_neg (by simp;omega),if_pos (by omega)];((refine af.sealB [0,1,2,3,4,5] rfl rfl rfl ?_ ?_);(focus((conv=>whnf);(repeat' (first|exact zE))));(focus((conv=>whnf);(repeat' (first|exact zE|((refine And.intro ?_ ?_)<;>(conv=>whnf)))))));done)
 ·rw[ht]at hT
  unfold bo at hE⊢
  rw[ht]at hE⊢
  have hE2:who<0∨63<who∨op<1∨4<op∨(op≠4∧256<(key.length:Int)):=by
   refine Classical.byContradiction fun hcon=>hE ?_
   rw[if_neg (by simp;omega),if_neg (by omega)]
  clear hE
  refine Fun.mk' Tryz.func8 rfl rfl zN (by decide) ?_
  (repeat' (first|((first|refine Wp.any ab rfl ?_|(with_reducible first|refine Go.mk ?_|apply am.of|refine aa.pure (bk _) rfl rfl ?_|refine aa.pure (hT) rfl rfl ?_));conv=>whnf)|((refine au (fun hc=>?_) (fun hc=>?_))<;>(try simp only[wz9]at hc)<;>(try (exfalso;omega))<;>(conv=>whnf))))
  all_goals first
   | (rw[if_pos (by simp;omega)];((refine af.sealB [0,1,2,3,4,5] rfl rfl rfl ?_ ?_);(focus((conv=>whnf);(repeat' (first|exact zE))));(focus((conv=>whnf);(repeat' (first|exact zE|((refine And.intro ?_ ?_)<;>(conv=>whnf)))))));done)
   | (rw[if_neg (by simp;omega),if_pos (by omega)];((refine af.sealB [0,1,2,3,4,5] rfl rfl rfl ?_ ?_);(focus((conv=>whnf);(repeat' (first|exact zE))));(focus((conv=>whnf);(repeat' (first|exact zE|((refine And.intro ?_ ?_)<;>(conv=>whnf)))))));done)
theorem gz{g:Nat→SV}{M:Dir.Mc}{nl:Nat}{f:Nat→List D}{clk cnt:Int}(q5:∀j,SV.Lt 5 (g j)){w:Nat}(hw:w<64){s:Dir.CS}(hg0:g w=cl w s)(hc0:isC s=true){op:Int}{key:List Int}{v:Int}(hE:bo w op key v=0) :
  Fun TC 8 6 [.ptr 0 0,.i .i64 w,.i .u8 op,.sl 5 1 0 key.length,.i .i64 v] (aN g M nl f clk cnt++[(5,some (kB key))]) 6 (.i .i64 9) (aN g M nl f clk cnt++[(5,some (kB key))]):=by
 have hT:=dI v
 have e1:=fu key
 have hE2:1≤op∧op≤4∧(op=2→cK v=true)∧(op=4∨(key.length:Int)≤256):=by
  unfold bo at hE
  split at hE
  ·omega
  ·rename_i h1
   split at hE
   ·omega
   ·rename_i h2
    refine⟨by omega,by omega,fun h3=>?_,by omega⟩
    cases ht:cK v with
    | true=>rfl
    | false=>exact absurd (.inr (.inr (.inr (.inr ⟨h3,ht⟩)))) h1
 obtain⟨o1,o4,o2,hk⟩:=hE2
 clear hE
 have hg:cV g (w+1)=cl w s:=hg0
 rcases oj w s with⟨_,e2⟩|⟨n,caps,e,_⟩
 ·rw[hc0]at e2;cases e2
 ·rw[e]at hg
  cases ht:cK v
  all_goals
   rw[ht]at hT o2
   refine Fun.mk' Tryz.func8 rfl rfl zN (by decide) ?_
   (repeat' (first|((first|refine Wp.any ab rfl ?_|(with_reducible first|refine Go.mk ?_|apply am.of|refine And.intro zC ?_|refine IxA.ptr ?_|refine aa.pure (bk _) rfl rfl ?_|refine aa.pure (hT) rfl rfl ?_));conv=>whnf)|((refine At.mk' (w+1) (by show 1+((w:Nat):Int).toNat*1=w+1;omega) ?_);(refine And.intro (by omega) ?_);(rw[hg]);(conv=>whnf))|((refine au (fun hc=>?_) (fun hc=>?_))<;>(try simp only[wz9]at hc)<;>(try (exfalso;omega))<;>(conv=>whnf))))
   all_goals first
    | (exfalso;simp at o2;omega)
    | ((refine af.sealB [0,1,2,3,4,5] rfl rfl rfl ?_ ?_);(focus((conv=>whnf);(repeat' (first|exact zE))));(focus((conv=>whnf);(repeat' (first|exact zE|((refine And.intro ?_ ?_)<;>(conv=>whnf)))))))
theorem kQ{who op:Int}{key:List Int}{v:Int}(hE:bo who op key v=0):0≤who∧who<64∧1≤op∧op≤4∧(op=2→cK v=true)∧(op=4∨(key.length:Int)≤256):=by
 unfold bo at hE
 split at hE
 ·omega
 ·rename_i h1
  split at hE
  ·omega
  ·rename_i h2
   refine⟨by omega,by omega,by omega,by omega,fun h3=>?_,by omega⟩
   cases ht:cK v with
   | true=>rfl
   | false=>exact absurd (.inr (.inr (.inr (.inr ⟨h3,ht⟩)))) h1
theorem mj{g:Nat→SV}(q5:∀j,SV.Lt 5 (g j)){M:Dir.Mc}{nl:Nat}{f:Nat→List D}{clk cnt:Int}{w:Nat}(hw:w<64){op:Int}{key:List Int}{v:Int}(hE:bo w op key v=0)(hg:g w=oJ) :
  Fun TC 8 6 [.ptr 0 0,.i .i64 w,.i .u8 op,.sl 5 1 0 key.length,.i .i64 v] (aN g M nl f clk cnt++[(5,some (kB key))]) 6 (.i .i64 0) (aN (Dir.upd g w (cl w (bI op key v))) M nl f clk cnt++[(5,some (kB key))]):=by
 have hg2:cV g (w+1)=oJ:=hg
 have hT:=dI v
 have e1:=fu key
 obtain⟨_,_,o1,o4,o2,hk⟩:=kQ hE
 clear hE
 by_cases h4:op=4
 ·subst h4
  rw[show bI 4 key v=.s0 from rfl]
  cases ht:cK v
  all_goals
   rw[ht]at hT
   refine Fun.mk' Tryz.func8 rfl rfl zN (by decide) ?_
   (repeat' (first|((first|refine Wp.any ab rfl ?_|(with_reducible first|refine Go.mk ?_|apply am.of)|refine zV ?_|with_reducible refine And.intro zC ?_);conv=>whnf)|(with_reducible refine Or.inl ?_)|((with_reducible first|refine IxA.ptr ?_|refine aa.pure (bk _) rfl rfl ?_);conv=>whnf)|((refine At.mk' (w+1) (by show 1+((w:Nat):Int).toNat*1=w+1;omega) ?_);(refine And.intro (by omega) ?_);(rw[hg2]);(conv=>whnf))|((first|(with_reducible first|refine At.mk' 0 rfl ?_|refine ai.funM (jQ _) rfl rfl ?_)|refine And.intro (by first|exact .of rfl) ?_);conv=>whnf)|((refine At.mk' (w+1) (by show 1+((w:Nat):Int).toNat*1=w+1;omega) ?_);(refine And.intro (by omega) ?_);conv=>whnf)|((refine au (fun hc=>?_) (fun hc=>?_))<;>(try simp only[wz9]at hc)<;>(try (exfalso;omega))<;>(conv=>whnf))))
   all_goals((refine af.sealB [0,1,2,3,4,5] rfl rfl rfl ?_ ?_);(focus((conv=>whnf);(repeat' (first|exact zE))));(focus((conv=>whnf);(repeat' (first|exact zE|((refine And.intro ?_ ?_)<;>(conv=>whnf)))))))
   all_goals first
    | exact bC q5 (eE _ _) (fun l hl=>by rcases l with _|_|_|_|_|l<;>first|rfl|omega) rfl
    | exact gh q5 (eE _ _) rfl
 ·have hB:=jv q5 M nl f clk cnt w op key v (by omega)
  have hC:=jF key (by omega)
  have ltK:=eE (w:Int) (.k0 ⟨op,key,v⟩)
  rw[show bI op key v=.k0 ⟨op,key,v⟩ from if_neg h4]
  cases ht:cK v
  all_goals
   rw[ht]at hT o2
   refine Fun.mk' Tryz.func8 rfl rfl zN (by decide) ?_
   (repeat' (first|((first|refine Wp.any ab rfl ?_|(with_reducible first|refine Go.mk ?_|apply am.of)|refine zV ?_|with_reducible refine And.intro zC ?_);conv=>whnf)|(with_reducible refine Or.inl ?_)|((with_reducible first|refine IxA.ptr ?_|refine aa.pure (bk _) rfl rfl ?_|refine aa.pure (hT) rfl rfl ?_);conv=>whnf)|((refine At.mk' (w+1) (by show 1+((w:Nat):Int).toNat*1=w+1;omega) ?_);(refine And.intro (by omega) ?_);(rw[hg2]);(conv=>whnf))|((refine ai.fn (hC) [5] [5] rfl rfl rfl rfl rfl ?ha ?hh ?hs ?_);(case ha=>exact zA);(case hh=>exact zH);(case hs=>exact zK);(conv=>whnf))|((refine ai.fn (hB) [0,1,2,3,4] [1,2,3,4] rfl rfl rfl rfl rfl ?ha ?hh ?hs ?_);(case ha=>exact zA);(case hh=>exact zD);(case hs=>exact zK);(conv=>whnf))|((refine And.intro (by first|exact .of rfl|exact io ltK (fun l hl=>by rcases l with _|_|_|_|_|l<;>first|rfl|omega) rfl) ?_);conv=>whnf)|((refine At.mk' (w+1) (by show 1+((w:Nat):Int).toNat*1=w+1;omega) ?_);(refine And.intro (by omega) ?_);conv=>whnf)|((refine au (fun hc=>?_) (fun hc=>?_))<;>(try simp only[wz9]at hc)<;>(try (exfalso;omega))<;>(conv=>whnf))))
   all_goals try (exfalso;simp at o2;omega)
   all_goals((refine af.sealB [0,1,2,3,4,5] rfl rfl rfl ?_ ?_);(focus((conv=>whnf);(repeat' (first|exact zE))));(focus((conv=>whnf);(repeat' (first|exact zE|((refine And.intro ?_ ?_)<;>(conv=>whnf)))))))
   all_goals first
    | exact bC q5 (eE _ _) (fun l hl=>by rcases l with _|_|_|_|_|l<;>first|rfl|omega) rfl
    | exact bC q5 (eE _ _) (fun l hl=>by rcases l with _|_|_|_|_|l<;>first|rfl|omega) (jU ltK (fun l hl=>by rcases l with _|_|_|_|_|l<;>first|rfl|omega))
    | exact gh q5 (eE _ _) rfl
theorem qN(a:List Int)(hl:a.length≤16777216):Fun TC 7 0 [.d (al 1 (aA .u8) a)] [] 1 (.tup [.sl 0 1 0 a.length,.sl 0 1 0 (gt a).length]) [(0,some (aI 5 1 (aA .u8) (gt a)))]:=by
 refine Fun.mk' Tryz.func7 rfl rfl zN (by decide) ?_
 (repeat' (first|((first|refine Wp.any ab rfl ?_|(with_reducible first|refine Go.mk ?_|apply am.of|refine And.intro zC ?_));conv=>whnf)|((with_reducible refine And.intro ?hb ?_);(case hb=>exact zz1);(conv=>whnf))))
 have e1:(gt a).length=0+a.length+3:=by unfold gt;rw[Q9];simp
 rw[e1]
 refine af.of [3] rfl (by simp) rfl ?_ ?_
 ·refine .of_eq ?_
  rw[Q13,Nat.sub_zero]
  rfl
 ·refine⟨⟨⟨rfl,rfl,e1.symm⟩,fun i hi=>?_⟩,trivial⟩
  unfold gt bK
  by_cases h:i<0+a.length
  ·rw[if_pos h,if_neg (by omega)]
   show aA .u8 (a.getD (i-0) default)=aA .u8 ((a++[165,90,165]).getD i default)
   rw[Q1,Q1,Q11 (by omega),Nat.sub_zero]
  ·rw[if_neg h]
   show bZ _ _ (0+(i-(0+a.length)))=aA .u8 ((a++[165,90,165]).getD i default)
   rw[Q1,Q12 (by omega)]
   have:i-a.length=0∨i-a.length=1∨i-a.length=2:=by omega
   rw[show 0+(i-(0+a.length))=i-a.length by omega]
   rcases this with h|h|h<;>rw[h]<;>rfl
theorem spr_sl(key:List Int):SV.Le (.d (.sl 1 key.length fun i=>aA .u8 ((gt key).getD (0+i) default))) (.d (al 1 (aA .u8) key)):=SV.Le.sl fun i hi=>by
 rw[Q19,rS key hi]
theorem qO(key:List Int):Fun TC 35 1 [.sl 0 1 0 key.length,.d (al 1 (aA .u8) key)] [(0,some (kB key))] 1 (.b true) [(0,some (kB key))]:=by
 have h:=eN key key
 rw[decide_eq_true rfl]at h
 refine Fun.ofPure h rfl ?_
 conv=>whnf
 refine⟨by rw[fu];omega,?_⟩
 exact .cons (spr_sl key) (.cons (.rfl _) .nil)
theorem qP(key:List Int)(hl:key.length≤16777216):Fun TC 10 1 [.sl 0 1 0 (gt key).length,.d (al 1 (aA .u8) key)] [(0,some (kB key))] 1 (.b true) [(0,some (kB key))]:=by
 have e1:=fu key
 refine Fun.mk' Tryz.func10 rfl rfl zN (by decide) ?_
 have h0:(gt key).getD (0+(key.length:Int).toNat) default=165:=by
  unfold gt
  rw[Q1,Q12 (by omega),show 0+(key.length:Int).toNat-key.length=0 by omega];rfl
 have h1:(gt key).getD (0+((key.length:Int)+1).toNat) default=90:=by
  unfold gt
  rw[Q1,Q12 (by omega),show 0+((key.length:Int)+1).toNat-key.length=1 by omega];rfl
 have h2:(gt key).getD (0+((key.length:Int)+2).toNat) default=165:=by
  unfold gt
  rw[Q1,Q12 (by omega),show 0+((key.length:Int)+2).toNat-key.length=2 by omega];rfl
 (repeat' (first|((first|refine Wp.any ab rfl ?_|(with_reducible first|refine Go.mk ?_|apply am.of|refine Ov.ok zO ?_|refine And.intro zC ?_));conv=>whnf)|((refine aa.fn (qO key) [0] rfl rfl rfl rfl rfl ?ha ?hh ?_);(case ha=>exact zA);(case hh=>exact zH);(conv=>whnf))|((refine au (fun hc=>?_) (fun hc=>?_))<;>(try simp only[wz9]at hc)<;>(try (exfalso;omega))<;>(conv=>whnf))))
 refine af.of [0] rfl (fun i hi=>by have:i=0:=(by omega);subst this;rfl) rfl ?_ ?_
 ·rw[h2];exact .rfl _
 ·((conv=>whnf);repeat' (first|exact zC9|((with_reducible refine And.intro ?_ ?_)<;>(conv=>whnf))))
theorem lm(r:Dir.Res):Pure TC 13 [di r,di r] (.b true):=by
 refine Pure.mk' Tryz.func13 rfl rfl zN ?_
 obtain⟨d,e,n⟩:=r
 cases d
 all_goals
  (repeat' (first|((first|refine Wp.any ab rfl ?_|(with_reducible first|refine Go.mk ?_|apply am.of));conv=>whnf)|((refine au (fun hc=>?_) (fun hc=>?_))<;>(try simp only[wz9]at hc)<;>(try (exfalso;omega))<;>(conv=>whnf))))
  all_goals first|exact absurd trivial hc|exact .b (by simp)
def mw(id:Nat):Code→Option Code
 | .seq (.region i b d) y=>if i=id then some (.seq (.region i b d) y)else mw id y
 | .seq a b=>(mw id a).or (mw id b)
 | .cond _ a b=>(mw id a).or (mw id b)
 | .block _ b=>mw id b
 | .loop b=>mw id b
 | _=>none
def ZRow(N:Nat→Prop)(w1:World)(e:TypeId)(kd:IntKind)(a:Option Addr)(m:Nat):Prop:=∀k,k<m→∃(b:Nat) (us:Array Value) (v:Int),a=some ⟨b,0,none⟩∧N b∧w1.heap[b]?=some (.cells us e (0,0))∧k<us.size∧us.getD k undef=.int kd v
def ZEnt(N:Nat→Prop)(w1:World)(a:Option Addr)(n:Nat):Prop:=∀j,j<n→∃(B:Nat) (us:Array Value) (t:Int) (ka:Option Addr) (kn kc:Nat),a=some ⟨B,0,none⟩∧N B∧w1.heap[B]?=some (.cells us 71 (0,0))∧j*2+1<us.size ∧
 us.getD (j*2) undef=.slice ka kn kc∧us.getD (j*2+1) undef=.int .i64 t∧kn≤maxLen∧ZRow N w1 5 .u8 ka kn
theorem RD.valInv{w:World}{Im:Nat→Prop}{v u:Value}(h:RD w Im (.val v) u):u=v:=by cases h;rfl
theorem ZRow.of{N e n:Nat}{w:World}{Im:Nat→Prop}{kd:IntKind}{xs:List Int}{v:Value}(h:RD w Im (.fsl N e 1 n fun i=>aA kd (xs.getD i default)) v):∃a c,v=.slice a n c∧n≤maxLen∧ZRow (fun b=>Im b∧N≤b) w e kd a n:=by
 cases h with
 | fsl _ _ _ _ _ a cap g hc hm hl ha hg =>
  refine⟨a,cap,rfl,by omega,fun k hk=>?_⟩
  obtain⟨b,us,e1,hb,h1,h2,h3⟩:=ha (by omega)
  have h4:=h3 k 0 hk (by omega)
  have h5:=hg k 0 hk (by show 0<1;omega)
  have h6:g k 0=.int kd (xs.getD k default):=by
   have:(aA kd (xs.getD k default))[0]'(by show 0<1;omega)=.val (.int kd (xs.getD k default)):=rfl
   rw[this]at h5
   exact h5.valInv
  rw[Nat.mul_one,Nat.add_zero,h6]at h4
  exact⟨b,us,_,e1,hb,h1,by omega,h4⟩
theorem ZEnt.of{b:Nat}{w:World}{Im:Nat→Prop}{xs:List Dir.Ent}{v:Value}(h:RD w Im (.fsl (b+1) 71 2 xs.length fun i=>entN b (xs.getD i default)) v):∃a c,v=.slice a xs.length c∧xs.length≤maxLen∧ZEnt (fun x=>Im x∧b+1≤x) w a xs.length:=by
 cases h with
 | fsl _ _ _ _ _ a cap g hc hm hl ha hg =>
  refine⟨a,cap,rfl,by omega,fun j hj=>?_⟩
  obtain⟨B,us,e1,hB,h1,h2,h3⟩:=ha (by omega)
  have g0:=hg j 0 hj (by show 0<2;omega)
  have g1:=hg j 1 hj (by show 1<2;omega)
  obtain⟨ka,kc,e2,k1,k2⟩:=ZRow.of (xs:=(xs.getD j default).key) (kd:=.u8) (show RD w Im (.fsl (b+1) 5 1 (xs.getD j default).key.length fun i=>aA .u8 ((xs.getD j default).key.getD i default)) _ from g0)
  have e3:g j 1=.int .i64 (xs.getD j default).val:=by
   have g1:RD w Im (.val (.int .i64 (xs.getD j default).val)) (g j 1):=g1
   exact g1.valInv
  exact⟨B,us,_,ka,_,kc,e1,hB,h1,by omega,(h3 j 0 hj (by omega)).trans e2,(h3 j 1 hj (by omega)).trans e3,k1,k2⟩
def zKeep(base:List (Nat×Value)):ZQ:=fun e l'=>e=.normal∧∀p∈base,lkv l' p.1=some p.2
theorem all1{P:Nat×Value→Prop}{x:Nat×Value}(h:P x):∀p∈[x],P p:=fun p hp=>by rw[List.mem_singleton.1 hp];exact h
theorem lP{P:Nat×Value→Prop}{x:Nat×Value}{r:List (Nat×Value)}(h:P x)(k:∀p∈r,P p):∀p∈x::r,P p:=fun p hp=>by
 rcases Q22 hp with rfl|hp
 ·exact h
 ·exact k p hp
noncomputable def cZ:Code:=(mw 29 (Tryz.f3.body.getD .skip)).getD .skip
def dT(n:Nat):Bool:=(Nat.ble 18 n&&Nat.ble n 20)||(Nat.ble 146 n&&Nat.ble n 183)
theorem scrib_Z{N:Nat→Prop}{n c:Nat}{w1:World}{a0:Act}{ad:Option Addr}(hn:n≤maxLen)(hz:ZEnt N w1 ad n):ZW ⟨TC,N,Tryz.f3.ntmps,fun k=>dT k=true,a0,w1⟩ cZ [(18,.slice ad n c)] (zKeep []):=by
 unfold maxLen at hn
 conv=>(arg 2;whnf)
 refine ZW.seq (ZW.region ?_)
 (refine ZL.mv rfl rfl rfl rfl (zzb rfl) rfl ?_)
 refine ZL.len rfl rfl rfl rfl rfl rfl (zzb rfl) rfl ?_
 (refine ZL.mv rfl rfl rfl rfl (zzb rfl) rfl ?_)
 (refine ZL.nil ?_);(conv=>whnf)
 refine ZW.block ?_
 refine ZW.loop (n:=n) (fun j=>[(18,.slice ad n c),(155,.int .i64 n),(156,.int .i64 j)]) (lP rfl (lP rfl (all1 rfl))) fun j hj=>?_
 refine ZW.seq (ZW.region ?_)
 (refine ZL.bin rfl rfl rfl rfl rfl rfl rfl (zzb rfl) rfl ?_);(conv=>whnf)
 refine⟨_,rfl,?_⟩
 (refine ZL.nil ?_);(conv=>whnf)
 refine ZW.seq (ZW.cond (b:=decide ((j:Int)<n)) rfl ?_)
 by_cases hlt:j<n
 ·rw[decide_eq_true (by omega)]
  refine ZW.skip ?_
  conv=>whnf
  obtain⟨B,us,t,ka,kn,kc,rfl,hB,hb,hs,e1,e2,k1,z1⟩:=hz j hlt
  unfold maxLen at k1
  refine ZW.seq (ZW.block (ZW.seq (ZW.region ?_)))
  (refine ZL.mv rfl rfl rfl rfl (zzb rfl) rfl ?_)
  (refine ZL.as rfl rfl rfl rfl (zzb rfl) rfl ?_)
  (refine ZL.nil ?_);(conv=>whnf)
  refine ZW.seq (ZW.region ?_)
  (refine ZL.mv rfl rfl rfl rfl (zzb rfl) rfl ?_)
  (refine ZL.mv rfl rfl rfl rfl (zzb rfl) rfl ?_)
  (refine ZL.ix (z:=2) rfl rfl rfl rfl rfl (by(conv=>whnf);exact trivial) (by omega) (zzb rfl) rfl ?_)
  (refine ZL.fa rfl rfl rfl rfl (zzb rfl) rfl ?_);(conv=>whnf)
  refine ZL.st rfl rfl rfl rfl rfl rfl rfl hB hb (by omega) ((congrArg (us.getD · undef) (by omega)).trans e2) ?_
  (refine ZL.nil ?_);(conv=>whnf)
  refine ZW.seq (ZW.region ?_)
  (refine ZL.mv rfl rfl rfl rfl (zzb rfl) rfl ?_)
  (refine ZL.mv rfl rfl rfl rfl (zzb rfl) rfl ?_)
  (refine ZL.ix (z:=2) rfl rfl rfl rfl rfl (by(conv=>whnf);exact trivial) (by omega) (zzb rfl) rfl ?_)
  (refine ZL.fa rfl rfl rfl rfl (zzb rfl) rfl ?_);(conv=>whnf)
  refine ZL.ld rfl rfl rfl rfl rfl rfl hb (by omega) (zzb rfl) rfl fun v hv=>?_
  rw[show us.getD (0+j*2+0) undef=.slice ka kn kc from(congrArg (us.getD · undef) (by omega)).trans e1]at hv
  obtain rfl:=hv.slice
  refine ZL.len rfl rfl rfl rfl rfl rfl (zzb rfl) rfl ?_
  (refine ZL.mv rfl rfl rfl rfl (zzb rfl) rfl ?_)
  (refine ZL.nil ?_);(conv=>whnf)
  refine ZW.block ?_
  refine ZW.loop (n:=kn) (fun k=>[(18,.slice (some ⟨B,0,none⟩) n c),(155,.int .i64 n),(156,.int .i64 j),(19,.int .i64 j),(168,.int .i64 kn),(169,.int .i64 k)]) (lP rfl (lP rfl (lP rfl (lP rfl (lP rfl (all1 rfl)))))) fun k hk=>?_
  refine ZW.seq (ZW.region ?_)
  (refine ZL.bin rfl rfl rfl rfl rfl rfl rfl (zzb rfl) rfl ?_);(conv=>whnf)
  refine⟨_,rfl,?_⟩
  (refine ZL.nil ?_);(conv=>whnf)
  refine ZW.seq (ZW.cond (b:=decide ((k:Int)<kn)) rfl ?_)
  by_cases hk2:k<kn
  ·rw[decide_eq_true (by omega)]
   refine ZW.skip ?_
   conv=>whnf
   obtain⟨b,us',v,rfl,hN,hb',hs',e4⟩:=z1 k hk2
   refine ZW.seq (ZW.block (ZW.seq (ZW.region ?_)))
   (refine ZL.mv rfl rfl rfl rfl (zzb rfl) rfl ?_)
   (refine ZL.as rfl rfl rfl rfl (zzb rfl) rfl ?_)
   (refine ZL.nil ?_);(conv=>whnf)
   refine ZW.region ?_
   (refine ZL.mv rfl rfl rfl rfl (zzb rfl) rfl ?_)
   (refine ZL.mv rfl rfl rfl rfl (zzb rfl) rfl ?_)
   (refine ZL.ix (z:=2) rfl rfl rfl rfl rfl (by(conv=>whnf);exact trivial) (by omega) (zzb rfl) rfl ?_)
   (refine ZL.fa rfl rfl rfl rfl (zzb rfl) rfl ?_);(conv=>whnf)
   refine ZL.ld rfl rfl rfl rfl rfl rfl hb (by omega) (zzb rfl) rfl fun v9 hv9=>?_
   rw[show us.getD (0+j*2+0) undef=.slice (some ⟨b,0,none⟩) kn kc from(congrArg (us.getD · undef) (by omega)).trans e1]at hv9
   obtain rfl:=hv9.slice
   (refine ZL.mv rfl rfl rfl rfl (zzb rfl) rfl ?_)
   (refine ZL.ix (z:=1) rfl rfl rfl rfl rfl (by(conv=>whnf);exact trivial) (by omega) (zzb rfl) rfl ?_)
   refine ZL.ld rfl rfl rfl rfl rfl rfl hb' (by omega) (zzb rfl) rfl fun v9 hv9=>?_
   rw[show us'.getD (0+k*1) undef=.int .u8 v from(congrArg (us'.getD · undef) (by omega)).trans e4]at hv9
   obtain⟨m9,rfl⟩:=hv9.int
   (refine ZL.bin rfl rfl rfl rfl rfl rfl rfl (zzb rfl) rfl ?_);(conv=>whnf)
   refine⟨_,rfl,?_⟩
   (refine ZL.ix (z:=1) rfl rfl rfl rfl rfl (by(conv=>whnf);exact trivial) (by omega) (zzb rfl) rfl ?_)
   refine ZL.st rfl rfl rfl rfl rfl rfl rfl hN hb' (by omega) ((congrArg (us'.getD · undef) (by omega)).trans e4) ?_
   (refine ZL.nil ?_);(conv=>whnf)
   refine ZW.region ?_
   (refine ZL.bin rfl rfl rfl rfl rfl rfl rfl (zzb rfl) rfl ?_);(conv=>whnf)
   refine Ov.ok (by first|exact IntWalk.i64_in _ (by omega)) ?_
   conv=>whnf
   refine⟨_,rfl,?_⟩
   (refine ZL.mv rfl rfl rfl rfl (zzb rfl) rfl ?_)
   (refine ZL.nil ?_);(conv=>whnf)
   exact⟨hk2,lP rfl (lP rfl (lP rfl (lP rfl (lP rfl (all1 rfl)))))⟩
  ·rw[decide_eq_false (by omega)]
   obtain rfl:k=kn:=by omega
   refine ZW.exit ?_
   conv=>whnf
   refine ZW.region ?_
   (refine ZL.bin rfl rfl rfl rfl rfl rfl rfl (zzb rfl) rfl ?_);(conv=>whnf)
   refine Ov.ok (by first|exact IntWalk.i64_in _ (by omega)) ?_
   conv=>whnf
   refine⟨_,rfl,?_⟩
   (refine ZL.mv rfl rfl rfl rfl (zzb rfl) rfl ?_)
   (refine ZL.nil ?_);(conv=>whnf)
   exact⟨hlt,lP rfl (lP rfl (all1 rfl))⟩
 ·rw[decide_eq_false (by omega)]
  refine ZW.exit ?_
  conv=>whnf
  exact⟨rfl,fun p hp=>absurd hp List.not_mem_nil⟩
theorem ac.ofEq{L:List Nat}{v:Value}{x:D}:ac L (.d (.eq v x)) (.d x):=.free ⟨fun E nx w u h=>by cases h with|d _ _ h=>cases h with|eq _ _ h=>exact .d _ _ h⟩ (Eq.refl true)
@[reducible] def dSX(W:Nat→Int)(X:Nat→D)(n:Int)(F:Nat→List SV):List Seg :=
 [⟨1,32,fun i=>[.i .u64 (W i)]⟩,⟨1,32,fun i=>[.d (X i)]⟩,⟨1,1,fun _=>[.i .i64 n]⟩,⟨10,64,F⟩]
@[reducible] def dX(W:Nat→Int)(X:Nat→D)(n:Int)(F:Nat→List SV):Blk:=.cf 0 705 (co (dSX W X n F))
theorem aJ{L:List Nat}{W:Nat→Int}{X:Nat→D}{n:Int}{F:Nat→List SV}(hF:OKF F):dx L 0 (dSX W X n F) (dSX W X n F):=by
 refine .cons (fun i hi=>⟨⟨ac.rfl rfl,trivial⟩,fun v hv=>?_⟩) (fun _ _=>rfl) (.cons (fun i hi=>⟨⟨ac.rfl rfl,trivial⟩,fun v hv=>?_⟩) (fun _ _=>rfl) (.cons (fun i hi=>⟨⟨ac.rfl rfl,trivial⟩,fun v hv=>?_⟩) (fun _ _=>rfl) (.cons (fun i hi=>⟨aC.frees fun v hv=>(hF.fr i v hv).1,fun v hv=>(hF.fr i v hv).2⟩) (fun i _=>hF.len i) .nil)))
 ·rw[List.mem_singleton.1 hv];exact .of rfl
 ·rw[List.mem_singleton.1 hv];exact .of rfl
 ·rw[List.mem_singleton.1 hv];exact .of rfl
theorem n4{W:Nat→Int}{X:Nat→D}{n:Int}{F:Nat→List SV}(hF:OKF F)(h0:0≤W 0)(h8:W 0≤8){s:Int}(s0:0≤s)(s1:s<18446744073709551616) :
  Fun TC 48 1 [.ptr 0 0,.i .u64 s] [(0,some (dX W X n F))] 1 (.i .i64 (Dir.home W s)) [(0,some (dX W X n F))]:=by
 have qr:(W 0).tmod 2=W 0%2:=Q6 h0
 obtain⟨lv,hlv⟩:∃lv:Nat,W 0/2=lv:=⟨(W 0/2).toNat,by omega⟩
 have hm:=ib s lv (by omega) s0 s1
 have hA:=jV lv (by omega) s
 have hp:=(Dir.plc_32 (by omega:lv≤4) s).2
 have hh:Dir.home W s=if W 0%2=0∨W (Dir.plc lv s)<4611686018427387904∨W (Dir.plc (lv+1) s)=0 then Dir.plc lv s else Dir.plc (lv+1) s:=by
  unfold Dir.home;rw[show(W 0/2).toNat=lv by omega]
 rw[hh]
 by_cases e:W 0%2=0
 ·rw[if_pos (.inl e)]
  rw[← hlv]at hm hA
  refine Fun.mk' Tryz.func48 rfl rfl zN (by decide) ?_
  (repeat' (first|((first|with_reducible refine IxA.rp ?_|refine CfV.seg rfl ?_);conv=>whnf)|((with_reducible refine And.intro ?hb ?_);(case hb=>exact zz0);(conv=>whnf))|((first|with_reducible refine aD.zero ?_|refine Wp.any ab rfl ?_|(with_reducible first|refine Go.mk ?_|apply am.of|refine Ov.ok zO ?_|refine And.intro zC ?_));conv=>whnf)|(with_reducible refine Ov.tdivN (by omega) ?_)|((with_reducible first|refine aa.pure (hm) rfl rfl ?_|refine aa.pure (hA) rfl rfl ?_);conv=>whnf)|((refine au (fun hc=>?_) (fun hc=>?_))<;>(try simp only[wz9,qr]at hc)<;>(try (exfalso;omega))<;>(conv=>whnf))))
  all_goals
   refine af.of [0] rfl (fun i hi=>by have:i=0:=(by omega);subst this;rfl) rfl ?_ ⟨bn.seg (m:=0) rfl (Nat.zero_le _) (aJ hF),trivial⟩
   exact .rfl _
 ·have hm1:=nh (show lv≤3 by omega) s0 s1
  have hA1:=At_1 (show lv≤3 by omega) s
  have hp1:=(Dir.plc_32 (by omega:lv+1≤4) s).2
  rw[← hlv]at hm hA hm1 hA1
  refine Fun.mk' Tryz.func48 rfl rfl zN (by decide) ?_
  (repeat' (first|((first|with_reducible refine IxA.rp ?_|refine CfV.seg rfl ?_);conv=>whnf)|((with_reducible refine And.intro ?hb ?_);(case hb=>exact zz0);(conv=>whnf))|((first|(with_reducible first|refine aD.zero ?_|refine aD.nat ?_)|refine Wp.any ab rfl ?_|(with_reducible first|refine Go.mk ?_|apply am.of|refine Ov.ok zO ?_|refine And.intro zC ?_));conv=>whnf)|(with_reducible refine Ov.tdivN (by omega) ?_)|((with_reducible first|refine aa.pure (hm) rfl rfl ?_|refine aa.pure (hA) rfl rfl ?_|refine aa.pure (hm1) rfl rfl ?_|refine aa.pure (hA1) rfl rfl ?_);conv=>whnf)|((refine au (fun hc=>?_) (fun hc=>?_))<;>(try simp only[wz9,qr]at hc)<;>(try (exfalso;omega))<;>(conv=>whnf))))
  all_goals
   refine af.of [0] rfl (fun i hi=>by have:i=0:=(by omega);subst this;rfl) rfl ?_ ⟨bn.seg (m:=0) rfl (Nat.zero_le _) (aJ hF),trivial⟩
   first
    | (rw[if_pos (.inr (.inl (by assumption)))];exact .rfl _)
    | (rw[if_neg (by rintro(h|h|h)<;>omega)];exact .rfl _)
    | (rw[if_pos (.inr (.inr (by omega)))];exact .rfl _)
theorem eU{W:Nat→Int}{X:Nat→D}{n:Int}{F:Nat→List SV}(hF:OKF F){M:Dir.Mc}(hW:M.W=W)(h0:0≤W 0)(h8:W 0≤8)(hX:(X=fun i=>al 2 aq (M.Hd i))∨∃v:Nat→Value,X=fun i=>.eq (v i) (al 2 aq (M.Hd i)))(hH:∀w,(M.Hd w).length≤20000∧∀k,IsB ((M.Hd w).getD k default).key) :
  Fun TC 22 1 [.ptr 0 0] [(0,some (dX W X n F))] 1 (.d (al 2 aq (Dir.entW M 32))) [(0,some (dX W X n F))]:=by
 subst hW
 have hO:=fun s s0 s1=>n4 (X:=X) (n:=n) hF h0 h8 (s:=s) s0 s1
 have hlen:=Dir.entW_len (M:=M) (n:=20000) (fun w=>(hH w).1)
 refine Fun.mk' Tryz.func22 rfl rfl zN (by decide) ?_
 (repeat' (first|((first|refine Wp.any ab rfl ?_|(with_reducible first|refine Go.mk ?_|apply am.of));conv=>whnf)))
 refine Wp.loopP (ι:=Nat) (fun k=>k≤32) (fun k=>⟨⟨Tryz.f22.ntmps,1⟩,1,[(0,.ptr 0 0),(3,.d (al 2 aq (Dir.entW M k))),(10,.i .i64 k)],[(0,some (dX M.W X n F))]⟩) (fun k=>32-k) 0 (by omega) ?_ ?_
 ·(refine Le.by [0] rfl rfl rfl rfl ?_ ?_<;>(conv=>whnf)<;>(repeat' (first|exact trivial|exact ac.rfl rfl|exact ac.free SV.Le.nil rfl|exact ac.ptr rfl|exact Nat.zero_le _|exact(aJ hF).out.2|((with_reducible refine And.intro ?_ ?_)<;>(conv=>whnf)))))
 ·rintro k hk
  have hHk:=hH k
  have hlk:=hlen k
  rcases hX with hX|⟨v,hX⟩
  all_goals
   have hXk:=congrArg (fun f:Nat→D=>[SV.d (f k)]) hX
   clear hX
   (repeat' (first|((first|refine aD.st hXk ?_|with_reducible refine IxA.rp ?_|refine CfV.seg rfl ?_);conv=>whnf)|((with_reducible refine And.intro ?hb ?_);(case hb=>exact zz0);(conv=>whnf))|((first|refine Wp.any ab rfl ?_|(with_reducible first|refine Go.mk ?_|apply am.of|refine And.intro zC ?_));conv=>whnf)|((refine au (fun hc=>?_) (fun hc=>?_))<;>(try simp only[wz9]at hc)<;>(try (exfalso;omega))<;>(conv=>whnf))))
   ·have hk2:k<32:=by omega
    have hs:Dir.entW M (k+1)=Dir.entF M.W k (Dir.entW M k) (M.Hd k):=rfl
    refine Wp.loopP (ι:=Nat) (fun j=>j≤(M.Hd k).length) (fun j=>⟨⟨Tryz.f22.ntmps,1⟩,1,[(0,.ptr 0 0),(3,.d (al 2 aq (Dir.entF M.W k (Dir.entW M k) ((M.Hd k).take j)))),(4,.i .i64 k),(10,.i .i64 k),(18,.d (al 2 aq (M.Hd k))),(19,.i .i64 (M.Hd k).length),(20,.i .i64 j)],[(0,some (dX M.W X n F))]⟩) (fun j=>(M.Hd k).length-j) 0 (Nat.zero_le _) ?_ ?_
    ·(refine Le.by [0] rfl rfl rfl rfl ?_ ?_<;>(conv=>whnf)<;>(repeat' (first|exact trivial|exact ac.rfl rfl|exact ac.ptr rfl|exact ac.ofEq|exact Nat.zero_le _|exact(aJ hF).out.2|((with_reducible refine And.intro ?_ ?_)<;>(conv=>whnf)))))
    ·rintro j hj
     have hL1:=Dir.entF_len M.W k ((M.Hd k).take j) (Dir.entW M k)
     rw[Q10]at hL1
     have hL2:(Dir.entF M.W k (Dir.entW M k) ((M.Hd k).take j)).length≤1000000:=by
      have:k*20000≤32*20000:=Q8 _ hk
      omega
     have hta:=fun(hjl:j<(M.Hd k).length)=>Dir.entF_take M.W k (Dir.entW M k) hjl
     have hB:=hHk.2 (j:Int).toNat
     have hO2:=hO _ (eh ((M.Hd k).getD (j:Int).toNat default).key).1 (eh ((M.Hd k).getD (j:Int).toNat default).key).2
     (repeat' (first|((first|refine Wp.any ab rfl ?_|(with_reducible first|refine Go.mk ?_|apply am.of|refine Ov.ok zO ?_)|refine zV ?_|(with_reducible first|refine And.intro zC ?_|refine ai.pure (kT _ hB) rfl rfl ?_));conv=>whnf)|((refine ai.fn (hO2) [0] [0] rfl rfl rfl rfl rfl ?ha ?hh ?hs ?_);(case ha=>exact zA);(case hh=>((conv=>whnf);repeat' (first|exact zF9|exact(aJ hF).out.2|((with_reducible refine And.intro ?_ ?_)<;>(conv=>whnf)))));(case hs=>exact zK);(conv=>whnf))|((with_reducible refine aa.pure (m5 _ _ _ hL2) rfl rfl ?_);conv=>whnf)|((refine au (fun hc=>?_) (fun hc=>?_))<;>(try simp only[wz9]at hc)<;>(try (exfalso;omega))<;>(conv=>whnf))))
     ·refine⟨j+1,by dsimp only;omega,by dsimp only;omega,?_⟩
      dsimp only
      rw[hta (by omega),if_pos (by rw[Q13]at hc;omega)]
      (refine Le.by [0] rfl rfl rfl rfl ?_ ?_<;>(conv=>whnf)<;>(repeat' (first|exact trivial|exact ac.rfl rfl|exact ac.ptr rfl|exact Nat.zero_le _|exact(aJ hF).out.2|((with_reducible refine And.intro ?_ ?_)<;>(conv=>whnf)))))
     ·refine⟨j+1,by dsimp only;omega,by dsimp only;omega,?_⟩
      dsimp only
      rw[hta (by omega),if_neg (by rw[Q13]at hc;omega)]
      (refine Le.by [0] rfl rfl rfl rfl ?_ ?_<;>(conv=>whnf)<;>(repeat' (first|exact trivial|exact ac.rfl rfl|exact ac.ptr rfl|exact Nat.zero_le _|exact(aJ hF).out.2|((with_reducible refine And.intro ?_ ?_)<;>(conv=>whnf)))))
     ·obtain rfl:j=(M.Hd k).length:=by omega
      refine⟨k+1,by dsimp only;omega,by dsimp only;omega,?_⟩
      dsimp only
      rw[hs,List.take_length]
      (refine Le.by [0] rfl rfl rfl rfl ?_ ?_<;>(conv=>whnf)<;>(repeat' (first|exact trivial|exact ac.rfl rfl|exact ac.ptr rfl|exact Nat.zero_le _|exact(aJ hF).out.2|((with_reducible refine And.intro ?_ ?_)<;>(conv=>whnf)))))
   ·obtain rfl:k=32:=by omega
    refine af.of [0] rfl (fun i hi=>by have:i=0:=(by omega);subst this;rfl) rfl ?_ ⟨bn.seg (m:=0) rfl (Nat.zero_le _) (aJ hF),trivial⟩
    exact .rfl _
theorem Sat.drop{O:Org}{E:Env}{S:St}{a:Act}{w:World}(hs:Sat O E S a w){hp:List (Nat×Option Blk)}(h:∀l x,lkh hp l=some x→lkh S.hp l=some x):Sat O E ⟨S.nt,S.nx,S.fr,hp⟩ a w :=
 ⟨hs.fr,hs.nt,hs.df,fun l b hb=>hs.hp l b (h l b hb),fun l b hb=>hs.nx l b (h l b hb),fun l l' b b' hb hb'=>hs.inj l l' b b' (h l b hb) (h l' b' hb'),fun b hb=>⟨(hs.im b hb).1,(hs.im b hb).2.1,fun l x hl=>(hs.im b hb).2.2 l x (h l x hl)⟩,fun l b hb=>hs.own l b (h l b hb),hs.kq,hs.lab,hs.nl,hs.imo⟩
theorem RS.ptrInv{E:Env}{nx:Nat}{w:World}{l o:Nat}{v:Value}(h:RS E nx w (.ptr l o) v):v=.pointer (some ⟨E.ρ l,o,none⟩):=by cases h;rfl
theorem dir_frz{O:Org}{E:Env}{S:St}{a:Act}{w:World}(hs:Sat O E S a w){g:Nat→SV}{M:Dir.Mc}{nl:Nat}{clk cnt:Int}(h0:lkh S.hp 0=some (dirB g))(h1:lkh S.hp 1=some (cd 2 4 32 nl clk cnt))(h2:lkh S.hp 2=some (bP 32 M.W))(h3:lkh S.hp 3=some (dn M.Hd))
  {b0:Nat} {Im1:Nat→Prop} (hIm:∀b,E.Im b→Im1 b) (hOw:∀l,l<4→Im1 (E.ρ l)) (hb0:Im1 b0):RD w Im1 (n9 b0 M) (.pointer (some ⟨E.ρ 0,0,none⟩)):=by
 obtain⟨_,hh⟩:=hs.hp 0 _ h0
 obtain⟨vs,T,c1,c2,c3⟩:=hh (by show 0<65;omega)
 obtain⟨us,T2,d1,d2,d3⟩:=hs.hp 1 _ h1
 have d2:us.size=4:=d2
 have e0:=(c3 0 (by omega)).2.1
 have e0:RS E S.nx w ap (vs.getD 0 undef):=e0
 generalize hx0:vs.getD 0 undef=x0 at e0
 have hp:Sat O E ⟨S.nt,S.nx,S.fr,[(2,some (bP 32 M.W)),(3,some (dn M.Hd))]⟩ a w:=hs.drop fun l x hl=>by
  rw[aj]at hl
  split at hl
  ·rename_i e;subst e;cases hl;exact h2
  ·rw[aj]at hl
   split at hl
   ·rename_i e;subst e;cases hl;exact h3
   ·cases hl
 have hall:∀b,E.all ⟨S.nt,S.nx,S.fr,[(2,some (bP 32 M.W)),(3,some (dn M.Hd))]⟩ b→Im1 b:=fun b hb=>by
  rcases hb with hb|⟨l,x,hl,_,rfl⟩
  ·exact hIm b hb
  ·refine hOw l ?_
   have hl:lkh [(2,some (bP 32 M.W)),(3,some (dn M.Hd))] l=some x:=hl
   rw[aj]at hl
   split at hl
   ·omega
   ·rw[aj]at hl
    split at hl
    ·omega
    ·cases hl
 have rW:RD w Im1 (.sl 1 32 fun i=>aA .u64 (M.W i)) (us.getD 0 undef):=by
  obtain⟨y,hy,hr⟩:=cp (k:=fun y=>y=.d (.sl 1 32 fun i=>aA .u64 (M.W i))) hp (x:=.sl 2 1 0 32) (d3 0 (by show 0<4;omega)).1 (by
   refine⟨Q4 _,?_⟩
   simp only[Q19])
  subst hy
  cases hr with|d _ _ hr=>exact hr.mono hall fun _ _=>rfl
 unfold ap at e0
 cases e0 with
 | iref _ _ b1 o1 g1 hb1 hcell1 h11 hRS1 =>
  have eB:=hRS1 0 (by show 0<2;omega)
  have eF:=hRS1 1 (by show 1<2;omega)
  have eB:RS E S.nx w (eX 1 3) (g1 0):=eB
  have eF:RS E S.nx w (.d (.fn (.func 25) [])) (g1 1):=eF
  generalize hy1:g1 0=y1 at eB
  have rB:RD w Im1 (ot M) y1:=by
   unfold eX at eB
   cases eB with
   | iref _ _ b2 o2 g2 hb2 hcell2 h12 hRS2 =>
    have eP:=hRS2 0 (by show 0<2;omega)
    have eH:=hRS2 1 (by show 1<2;omega)
    have eP:RS E S.nx w (.ptr 1 0) (g2 0):=eP
    have eH:RS E S.nx w (.sl 3 1 0 32) (g2 1):=eH
    refine .ref _ _ b2 o2 g2 (hIm _ hb2) hcell2 fun j hj=>?_
    have hj:j<2:=hj
    rcases(by omega:j=0∨j=1)with rfl|rfl
    ·rw[eP.ptrInv]
     refine .ref _ 0 (E.ρ 1) 0 (fun j=>us.getD j undef) (hOw 1 (by omega)) (fun j hj=>?_) fun j hj=>?_
     ·have hj:j<1:=hj
      simp[World.cell?,d1,Array.getD,show j<us.size by omega]
     ·have hj:j<1:=hj
      obtain rfl:j=0:=by omega
      exact rW
    ·obtain⟨y,hy,hr⟩:=cp (k:=fun y=>y=.d (.sl 1 32 fun i=>[al 2 aq (M.Hd i)])) hp (x:=.sl 3 1 0 32) eH (by
      refine⟨Q4 _,?_⟩
      simp only[Q19])
     subst hy
     cases hr with|d _ _ hr=>exact hr.mono hall fun _ _=>rfl
  refine .ref _ 0 (E.ρ 0) 0 (fun j=>vs.getD j undef) (hOw 0 (by omega)) (fun j hj=>?_) fun j hj=>?_
  ·have hj:j<1:=hj
   simp[World.cell?,c1,Array.getD,show j<vs.size by omega]
  ·have hj:j<1:=hj
   obtain rfl:j=0:=by omega
   refine .low _ _ _ hb0 ?_
   show RD w Im1 (dq M) (vs.getD 0 undef)
   rw[hx0]
   refine .ref _ _ b1 o1 g1 (hIm _ hb1) hcell1 fun j hj=>?_
   have hj:j<2:=hj
   rcases(by omega:j=0∨j=1)with rfl|rfl
   ·exact hy1▸rB
   ·cases eF with|d _ _ eF=>exact eF.mono hIm fun _ _=>rfl
def ji(c:Dir.Kc)(h:List Dir.Ent)(V:Int)(v:Nat):List SV :=
 if(bf h c.key<0∧c.op≠2)∨c.op=1 then qU else hdK c++[.i .i64 10,.any,.any,.any,.i .u64 V,.i .i64 v]
def jh(c:Dir.Kc)(h:List Dir.Ent):Dir.Res :=
 if bf h c.key<0∧c.op≠2 then⟨true,7,0⟩else if c.op=1 then⟨true,0,(h.getD (bf h c.key).toNat default).val⟩else Dir.r0
theorem doc_fk{W:Nat→Int}{H:Nat→List Dir.Ent}{n:Int}{F:Nat→List SV}(hF:OKF F)(hn:0≤n)(hn2:n≤4611686018427387904){w:Nat}(hw:w<64){c:Dir.Kc}(ho:Dir.okOp c){p:Int}(hp:p≠10){x1 x2 x3 x4 x5:SV}(hR:F w=hdK c++[.i .i64 p,x1,x2,x3,x4,x5]){V:Int}{v:Nat}(hv:v<32)
  (hS:Fun TC 38 1 [.ptr 0 0,.rp 0 10 w 69,.i .u64 (ay c.key),.b false] [(0,some (dB W H (n+1) F))] 1 evF [(0,some (dB W H (n+1) (bF F w (hdK c++[.i .i64 9,.any,.any,.any,.i .u64 V,.i .i64 v]))))]) :
  Fun TC 12 1 [.ptr 0 0,.i .i64 w] [(0,some (dB W H n F))] 1 (.tup [di (jh c (H v)),.i .i64 0]) [(0,some (dB W H (n+1) (bF F w (ji c (H v) V v))))]:=by
 obtain⟨o1,o3⟩:=ho
 have e4:(c.op==4)=false:=by simp;omega
 have hS4:Fun TC 38 1 [.ptr 0 0,.rp 0 10 w 69,.i .u64 (ay c.key),.b (c.op==4)] [(0,some (dB W H (n+1) F))] 1 evF [(0,some (dB W H (n+1) (bF F w (hdK c++[.i .i64 9,.any,.any,.any,.i .u64 V,.i .i64 v]))))]:=by rw[e4];exact hS
 have hFd:=kW (H v) c.key
 have hbd:=nR (H v) c.key
 refine Fun.mk' Tryz.func12 rfl rfl zN (by decide) ?_
 (repeat' (first|((first|with_reducible refine IxA.rp ?_|refine CfV.seg rfl ?_|with_reducible refine Or.inr (CfS.seg1 rfl rfl rfl ?_)|refine CfS.seg rfl rfl rfl ?_);conv=>whnf)|((with_reducible refine And.intro ?hb ?_);(case hb=>exact zz0);(conv=>whnf))|((first|refine aD.same ?_|refine aD.st hR ?_|with_reducible refine aD.nat ?_|refine Wp.any ab rfl ?_|(with_reducible first|refine Go.mk ?_|apply am.of|refine Ov.ok zO ?_)|refine zV ?_|(with_reducible first|refine And.intro zC ?_|refine At.mk' 64 rfl ?_));conv=>whnf)|((refine ai.fn (hS4) [0] [] rfl rfl rfl rfl rfl ?ha ?hh ?hs ?_);(case ha=>exact zz3);(case hh=>exact zz2);(case hs=>exact zK);(conv=>whnf))|((with_reducible refine aa.pure (hFd) rfl rfl ?_);conv=>whnf)|(with_reducible refine aa.inline Tryz.func40 rfl rfl rfl (zzb rfl) ?_)|((refine au (fun hc=>?_) (fun hc=>?_))<;>(try simp only[wz9]at hc)<;>(try (exfalso;omega))<;>(conv=>whnf))))
 all_goals
  unfold jh ji
  first
   | rw[if_pos (by omega),if_pos (by omega)]
   | rw[if_neg (by omega),if_pos (by omega),if_pos (by omega)]
   | rw[if_neg (by omega),if_neg (by omega),if_neg (by omega)]
  (try simp only[Q13,ax,av,ah])
  refine af.of [0] rfl (fun i hi=>by have:i=0:=(by omega);subst this;rfl) rfl ?_ ⟨bn.seg (m:=0) rfl (Nat.zero_le _) (az hF rfl (fun v hv=>SV.Lt.ofL rfl v hv) ?_),trivial⟩
  ·exact .rfl _
  ·((conv=>whnf);repeat' (first|exact zG9|((with_reducible refine And.intro ?_ ?_)<;>(conv=>whnf))))
theorem rr{W:Nat→Int}{H:Nat→List Dir.Ent}{n:Int}{F:Nat→List SV}(hF:OKF F)(hn:0≤n)(hn2:n≤4611686018427387904){w:Nat}(hw:w<64){c:Dir.Kc}(ho:Dir.okOp c){x1 x2 x3:SV}{V:Int}{v:Nat}(hv:v<32)(hR:F w=hdK c++[.i .i64 10,x1,x2,x3,.i .u64 V,.i .i64 v])(hV:0≤V∧V<4611686018427387904)(hl:(H v).length≤1000000) :
  Fun TC 12 1 [.ptr 0 0,.i .i64 w] [(0,some (dB W H n F))] 1 (.tup [di (if W v=V then⟨true,0,if c.op=3 then(if bf (H v) c.key<0 then 0 else((H v).getD (bf (H v) c.key).toNat default).val)else c.val⟩else Dir.r0),.i .i64 0])
   [(0,some (dB (if W v=V then Dir.upd W v (V+1)else W) (if W v=V then Dir.upd H v (if c.op=3 then(H v).filter (fun e=>decide (aE c.key e.key≠0))else c7 c.key c.val false (H v))else H) (n+1) (bF F w (if W v=V then qU else hdK c++[.i .i64 0,.any,.any,.any,.any,.any]))))]:=by
 obtain⟨o1,o3⟩:=ho
 have hVa:=m4 (H v) c.key
 have hPu:=m5 (H v) c.key c.val hl
 have hDr:=qQ (H v) c.key hl
 by_cases e:W v=V
 ·rw[if_pos e,if_pos e,if_pos e,if_pos e]
  refine Fun.mk' Tryz.func12 rfl rfl zN (by decide) ?_
  (repeat' (first|((first|with_reducible refine IxA.rp ?_|refine CfV.seg rfl ?_|with_reducible refine Or.inr (CfS.seg1 rfl rfl rfl ?_)|refine CfS.seg rfl rfl rfl ?_);conv=>whnf)|((with_reducible refine And.intro ?hb ?_);(case hb=>exact zz0);(conv=>whnf))|((first|refine aD.st hR ?_|with_reducible refine aD.nat ?_|refine Wp.any ab rfl ?_|(with_reducible first|refine Go.mk ?_|apply am.of|refine Ov.ok zO ?_)|refine zV ?_|(with_reducible first|refine And.intro zC ?_|refine At.mk' 64 rfl ?_));conv=>whnf)|(with_reducible refine aa.inline Tryz.func37 rfl rfl rfl (zzb rfl) ?_)|(with_reducible refine aa.inline Tryz.func40 rfl rfl rfl (zzb rfl) ?_)|((with_reducible first|refine ai.pure (hVa) rfl rfl ?_|refine ai.pure (hPu) rfl rfl ?_|refine ai.pure (hDr) rfl rfl ?_);conv=>whnf)|((refine au (fun hc=>?_) (fun hc=>?_))<;>(try simp only[wz9]at hc)<;>(try (exfalso;omega))<;>(conv=>whnf))))
  all_goals
   subst e
   first
    | simp only[if_pos (show c.op=3 by omega)]
    | simp only[if_neg (show ¬c.op=3 by omega)]
   (try simp only[Q13,ax,av,ah])
   refine af.of [0] rfl (fun i hi=>by have:i=0:=(by omega);subst this;rfl) rfl ?_ ⟨bn.seg (m:=0) rfl (Nat.zero_le _) (az hF rfl (fun v hv=>SV.Lt.ofL rfl v hv) ?_),trivial⟩
   ·exact .rfl _
   ·((conv=>whnf);repeat' (first|exact zG9|((with_reducible refine And.intro ?_ ?_)<;>(conv=>whnf))))
 ·rw[if_neg e,if_neg e,if_neg e,if_neg e]
  refine Fun.mk' Tryz.func12 rfl rfl zN (by decide) ?_
  (repeat' (first|((first|with_reducible refine IxA.rp ?_|refine CfV.seg rfl ?_|with_reducible refine Or.inr (CfS.seg1 rfl rfl rfl ?_)|refine CfS.seg rfl rfl rfl ?_);conv=>whnf)|((with_reducible refine And.intro ?hb ?_);(case hb=>exact zz0);(conv=>whnf))|((first|refine aD.st hR ?_|with_reducible refine aD.nat ?_|refine Wp.any ab rfl ?_|(with_reducible first|refine Go.mk ?_|apply am.of|refine Ov.ok zO ?_)|refine zV ?_|(with_reducible first|refine And.intro zC ?_|refine At.mk' 64 rfl ?_));conv=>whnf)|(with_reducible refine aa.inline Tryz.func37 rfl rfl rfl (zzb rfl) ?_)|((refine au (fun hc=>?_) (fun hc=>?_))<;>(try simp only[wz9]at hc)<;>(try (exfalso;omega))<;>(conv=>whnf))))
  all_goals
   (try simp only[Q13,ax,av,ah])
   refine af.of [0] rfl (fun i hi=>by have:i=0:=(by omega);subst this;rfl) rfl ?_ ⟨bn.seg (m:=0) rfl (Nat.zero_le _) (az hF rfl (fun v hv=>SV.Lt.ofL rfl v hv) ?_),trivial⟩
   ·exact .rfl _
   ·((conv=>whnf);repeat' (first|exact zG9|((with_reducible refine And.intro ?_ ?_)<;>(conv=>whnf))))
section
def recD(ag:Bool):Dir.CS→List SV
 | .none=>qU
 | .k0 c=>hdK c++[.i .i64 0,.any,.any,.any,.any,.any]
 | .kE c w=>hdK c++[.i .i64 (bif ag then 6 else 1),.any,.any,.any,.any,.i .i64 w]
 | .kF c lv w=>hdK c++[.i .i64 2,.i .i64 lv,.any,.any,.any,.i .i64 w]
 | .kG c lv w v _=>hdK c++[.i .i64 3,.i .i64 lv,.any,.any,.i .u64 v,.i .i64 w]
 | .kH c lv w _=>hdK c++[.i .i64 4,.i .i64 (lv-1:Nat),.any,.any,.any,.i .i64 w]
 | .kL c lv w _=>hdK c++[.i .i64 5,.i .i64 (lv-1:Nat),.any,.any,.any,.i .i64 w]
 | .kS c w v _ _=>hdK c++[.i .i64 10,.any,.any,.any,.i .u64 v,.i .i64 w]
 | .s0=>hdS++[.i .i64 0,.any,.any,.any,.any,.any]
 | .sM lv=>hdS++[.i .i64 7,.i .i64 lv,.any,.any,.i .u64 (2*(lv:Int)),.any]
 | .sF lv i=>hdS++[.i .i64 2,.i .i64 lv,.i .i64 i,.any,.any,.i .i64 (2^lv+i:Nat)]
 | .sG lv i v _=>hdS++[.i .i64 3,.i .i64 lv,.i .i64 i,.any,.i .u64 v,.i .i64 (2^lv+i:Nat)]
 | .sH lv i up _=>hdS++[.i .i64 4,.i .i64 lv,.i .i64 i,.b up,.any,.i .i64 (Dir.upW lv i up)]
 | .sL lv i up _=>hdS++[.i .i64 5,.i .i64 lv,.i .i64 i,.b up,.any,.i .i64 (Dir.upW lv i up)]
 | .sV lv=>hdS++[.i .i64 8,.i .i64 lv,.any,.any,.any,.any]
def Rc(s:Dir.CS)(r:List SV):Prop:=∃ag,r=recD ag s
theorem SV.frees{cs:List SV}(h1:cs.all SV.free=true)(h2:SV.ltL 0 cs=true):∀v∈cs,v.free=true∧SV.Lt 0 v:=fun v hv=>⟨List.all_eq_true.1 h1 v hv,SV.Lt.ofL h2 v hv⟩
theorem mY(ag:Bool)(s:Dir.CS):(recD ag s).length=10∧∀v∈recD ag s,v.free=true∧SV.Lt 0 v:=by
 cases s<;>exact⟨rfl,SV.frees rfl rfl⟩
theorem OKF.of{S:Nat→Dir.CS}{F:Nat→List SV}(h:∀i,Rc (S i) (F i)):OKF F :=
 ⟨fun i=>by obtain⟨ag,e⟩:=h i;rw[e];exact(mY ag _).1,fun i=>by obtain⟨ag,e⟩:=h i;rw[e];exact(mY ag _).2⟩
theorem Rc.upd{S:Nat→Dir.CS}{F:Nat→List SV}(h:∀i,Rc (S i) (F i))(w:Nat)(ag:Bool)(s:Dir.CS):∀i,Rc (Dir.upd S w s i) (bF F w (recD ag s) i):=fun i=>by
 unfold Dir.upd bF
 split
 ·exact⟨ag,rfl⟩
 ·exact h i
theorem eZ{α:Type}{f:Nat→α}{w:Nat}{x:α}(h:f w=x):Dir.upd f w x=f:=by
 funext j;unfold Dir.upd;split
 ·rename_i e;rw[e,h]
 ·rfl
theorem rY(lv i:Nat)(up:Bool)(h:List Dir.Ent):onR (.i .u8 4) .any .any .any lv i up=recD false (Dir.on lv i up h):=by
 cases up
 ·rfl
 ·unfold onR Dir.on Dir.move
  rw[if_pos rfl,if_pos rfl]
  split<;>rfl
def bH(w:Nat)(M:Dir.Mc)(S:Nat→Dir.CS)(n:Int)(F:Nat→List SV):Prop :=
 ∃F',(∀i,Rc (Dir.upd S w (Dir.step ae M (S w)).2.1 i) (F' i)) ∧
  Fun TC 12 1 [.ptr 0 0,.i .i64 w] [(0,some (dB M.W M.Hd n F))] 1 (.tup [di (Dir.step ae M (S w)).2.2,.i .i64 0]) [(0,some (dB (Dir.step ae M (S w)).1.W (Dir.step ae M (S w)).1.Hd (n+1) F'))]
theorem bH.mk{w:Nat}{M M':Dir.Mc}{S:Nat→Dir.CS}{n:Int}{F:Nat→List SV}{s':Dir.CS}{r:Dir.Res}(hR:∀i,Rc (S i) (F i))(ag:Bool)(hs:Dir.step ae M (S w)=(M',s',r)){W':Nat→Int}{H':Nat→List Dir.Ent}(hW:M'.W=W')(hH:M'.Hd=H')
  (h:Fun TC 12 1 [.ptr 0 0,.i .i64 w] [(0,some (dB M.W M.Hd n F))] 1 (.tup [di r,.i .i64 0]) [(0,some (dB W' H' (n+1) (bF F w (recD ag s'))))]):bH w M S n F:=by
 unfold bH
 rw[hs]
 subst hW hH
 exact⟨_,Rc.upd hR w ag s',h⟩
section
variable{k:Nat}{M:Dir.Mc}{S:Nat→Dir.CS}{nl:Nat}{cnt:Int}(h:iP k M S nl cnt)(hk:k≤20000){F:Nat→List SV}(hR:∀i,Rc (S i) (F i)){w:Nat}(hw:w<64){n:Int}(hn:0≤n)(hn2:n≤4611686018427387904)
include h hk hR hw hn hn2
theorem stp_k0{c:Dir.Kc}(e:S w=.k0 c):bH w M S n F:=by
 have hF:=OKF.of hR
 obtain⟨ag,hr⟩:=hR w
 rw[e]at hr
 have hch:=h.ch w
 have hd:=h.s.inv.iw.d
 rw[e]at hch
 obtain⟨s0,s1⟩:=eh c.key
 obtain⟨lv,hlv⟩:∃lv:Nat,M.W 0/2=lv:=⟨(M.W 0/2).toNat,by omega⟩
 have hl:(M.W 0/2).toNat=lv:=by omega
 have hS:=doc_P0k (H:=M.Hd) (n:=n+1) hF hw (a:=.i .u8 c.op) (b:=.d (al 1 (aA .u8) c.key)) (c:=.i .i64 c.val) (d:=.i .u64 (ay c.key)) ⟨rfl,.of rfl⟩ ⟨rfl,.of rfl⟩ ⟨rfl,.of rfl⟩ ⟨rfl,.of rfl⟩ hd.1 hd.2 s0 s1 hr hlv
 by_cases e1:M.W 0%2=0
 ·rw[if_pos e1]at hS
  refine bH.mk hR false (M':=M) (s':=.kE c (Dir.plc lv (ay c.key))) (r:=Dir.r0) (by rw[e];simp only[Dir.step,if_pos e1,hl];rfl) rfl rfl ?_
  exact dt hF (OKF.of (Rc.upd hR w false (.kE c (Dir.plc lv (ay c.key))))) hn hn2 hw hch (by decide) hr hS
 ·rw[if_neg e1]at hS
  refine bH.mk hR false (M':=M) (s':=.kF c lv (Dir.plc lv (ay c.key))) (r:=Dir.r0) (by rw[e];simp only[Dir.step,if_neg e1,hl];rfl) rfl rfl ?_
  exact dt hF (OKF.of (Rc.upd hR w false (.kF c lv (Dir.plc lv (ay c.key))))) hn hn2 hw hch (by decide) hr hS
end
end
section
section
variable{k:Nat}{M:Dir.Mc}{S:Nat→Dir.CS}{nl:Nat}{cnt:Int}(h:iP k M S nl cnt)(hk:k≤20000){F:Nat→List SV}(hR:∀i,Rc (S i) (F i)){w:Nat}(hw:w<64){n:Int}(hn:0≤n)(hn2:n≤4611686018427387904)
include h hk hR hw hn hn2
theorem iU{c:Dir.Kc}(ho:Dir.okOp c){v:Nat}(hv:1≤v∧v<32){p:Int}(hp:p≠10){x1 x2 x3 x4 x5:SV}(hr:F w=hdK c++[.i .i64 p,x1,x2,x3,x4,x5])
  (hS:Fun TC 38 1 [.ptr 0 0,.rp 0 10 w 69,.i .u64 (ay c.key),.b false] [(0,some (dB M.W M.Hd (n+1) F))] 1 evF [(0,some (dB M.W M.Hd (n+1) (bF F w (hdK c++[.i .i64 9,.any,.any,.any,.i .u64 (M.W v),.i .i64 v]))))])
  (hst:Dir.step ae M (S w)=(M,(Dir.found ae c v (M.W v) (M.Hd v)).1,(Dir.found ae c v (M.W v) (M.Hd v)).2)):bH w M S n F:=by
 have hF:=OKF.of hR
 have hD:=doc_fk hF hn hn2 hw ho hp hr hv.2 hS
 obtain⟨f1,f2,f3⟩:=Dir.fnd_doc (h.ih.word hv) ho
 by_cases e1:bf (M.Hd v) c.key<0∧c.op≠2
 ·have hf:ae.fnd c (M.Hd v)=.inl ⟨true,7,0⟩:=f1 e1
  unfold jh ji at hD
  rw[if_pos e1,if_pos (.inl e1)]at hD
  exact bH.mk hR false (M':=M) (s':=.none) (r:=⟨true,7,0⟩) (by rw[hst];unfold Dir.found;rw[hf]) rfl rfl hD
 ·by_cases e2:c.op=1
  ·have hf:ae.fnd c (M.Hd v)=.inl ⟨true,0,((M.Hd v).getD (bf (M.Hd v) c.key).toNat default).val⟩:=f2 e1 e2
   unfold jh ji at hD
   rw[if_neg e1,if_pos e2,if_pos (.inr e2)]at hD
   exact bH.mk hR false (M':=M) (s':=.none) (r:=⟨true,0,((M.Hd v).getD (bf (M.Hd v) c.key).toNat default).val⟩) (by rw[hst];unfold Dir.found;rw[hf]) rfl rfl hD
  ·obtain⟨m,q,hf⟩:=f3 e1 e2
   have hf:ae.fnd c (M.Hd v)=.inr (m,q):=hf
   unfold jh ji at hD
   rw[if_neg e1,if_neg e2,if_neg (by rintro(h9|h9);exact e1 h9;exact e2 h9)]at hD
   exact bH.mk hR false (M':=M) (s':=.kS c v (M.W v) m q) (r:=Dir.r0) (by rw[hst];unfold Dir.found;rw[hf]) rfl rfl hD
theorem stp_kE{c:Dir.Kc}{v:Nat}(e:S w=.kE c v):bH w M S n F:=by
 have hF:=OKF.of hR
 obtain⟨ag,hr⟩:=hR w
 rw[e]at hr
 have hch:=h.ch w
 have hcw:=h.s.inv.cw w
 rw[e]at hch hcw
 have hp:(bif ag then(6:Int)else 1)=1∨(bif ag then(6:Int)else 1)=6:=by cases ag<;>simp
 have hp10:(bif ag then(6:Int)else 1)≠10:=by cases ag<;>simp
 by_cases e1:M.W v=0∨4611686018427387904≤M.W v
 ·have hS:=doc_P1n (W:=M.W) (H:=M.Hd) (n:=n+1) hF hw (a:=.i .u8 c.op) (b:=.d (al 1 (aA .u8) c.key)) (c:=.i .i64 c.val) (d:=.i .u64 (ay c.key)) ⟨rfl,.of rfl⟩ ⟨rfl,.of rfl⟩ ⟨rfl,.of rfl⟩ ⟨rfl,.of rfl⟩ (g:=.i .u64 (ay c.key)) hcw.2 hp hr e1
  refine bH.mk hR false (M':=M) (s':=.k0 c) (r:=Dir.r0) (by rw[e];simp only[Dir.step,Dir.entered,if_pos (show M.W v=0∨Dir.FZ≤M.W v from e1)]) rfl rfl ?_
  exact dt hF (OKF.of (Rc.upd hR w false (.k0 c))) hn hn2 hw hch.1 hp10 hr hS
 ·have hS:=doc_P1f (W:=M.W) (H:=M.Hd) (n:=n+1) hF hw (a:=.i .u8 c.op) (b:=.d (al 1 (aA .u8) c.key)) (c:=.i .i64 c.val) (d:=.i .u64 (ay c.key)) ⟨rfl,.of rfl⟩ ⟨rfl,.of rfl⟩ ⟨rfl,.of rfl⟩ ⟨rfl,.of rfl⟩ (g:=.i .u64 (ay c.key)) hcw.2 hp hr e1
  exact iU h hk hR hw hn hn2 hch.1 hcw hp10 hr hS (by rw[e];simp only[Dir.step,Dir.entered,if_neg (show ¬(M.W v=0∨Dir.FZ≤M.W v)from e1)])
theorem stp_kF{c:Dir.Kc}{lv v:Nat}(e:S w=.kF c lv v):bH w M S n F:=by
 have hF:=OKF.of hR
 obtain⟨ag,hr⟩:=hR w
 rw[e]at hr
 have hch:=h.ch w
 have hcw:=h.s.inv.cw w
 rw[e]at hch hcw
 obtain⟨s0,s1⟩:=eh c.key
 have hv:v<32:=by rw[hcw.2.1];exact(Dir.plc_32 (by have:=hcw.1;omega) _).2
 have hS:=doc_P2k (W:=M.W) (H:=M.Hd) (n:=n+1) hF hw (a:=.i .u8 c.op) (b:=.d (al 1 (aA .u8) c.key)) (c:=.i .i64 c.val) (d:=.i .u64 (ay c.key)) ⟨rfl,.of rfl⟩ ⟨rfl,.of rfl⟩ ⟨rfl,.of rfl⟩ ⟨rfl,.of rfl⟩ s0 s1 hcw.1 hv hr
 by_cases e1:4611686018427387904≤M.W v
 ·rw[if_pos e1]at hS
  refine bH.mk hR false (M':=M) (s':=.kH c (lv+1) (Dir.plc (lv+1) (ay c.key)) (M.Hd v)) (r:=Dir.r0) (by rw[e];simp only[Dir.step,Dir.toH,if_pos (show Dir.FZ≤M.W v from e1)];rfl) rfl rfl ?_
  exact dt hF (OKF.of (Rc.upd hR w false (.kH c (lv+1) (Dir.plc (lv+1) (ay c.key)) (M.Hd v)))) hn hn2 hw hch (by decide) hr hS
 ·rw[if_neg e1]at hS
  refine bH.mk hR false (M':=M) (s':=.kG c lv v (M.W v) (M.Hd v)) (r:=Dir.r0) (by rw[e];simp only[Dir.step,if_neg (show ¬Dir.FZ≤M.W v from e1)]) rfl rfl ?_
  exact dt hF (OKF.of (Rc.upd hR w false (.kG c lv v (M.W v) (M.Hd v)))) hn hn2 hw hch (by decide) hr hS
theorem stp_kG{c:Dir.Kc}{lv v:Nat}{x:Int}{m:List Dir.Ent}(e:S w=.kG c lv v x m):bH w M S n F:=by
 have hF:=OKF.of hR
 obtain⟨ag,hr⟩:=hR w
 rw[e]at hr
 have hch:=h.ch w
 have hcw:=h.s.inv.cw w
 have hok:=h.s.ok w
 rw[e]at hch hcw hok
 obtain⟨s0,s1⟩:=eh c.key
 have hv:v<32:=by rw[hcw.2.1];exact(Dir.plc_32 (by have:=hcw.1;omega) _).2
 have hS:=doc_P3k (W:=M.W) (H:=M.Hd) (n:=n+1) hF hw (a:=.i .u8 c.op) (b:=.d (al 1 (aA .u8) c.key)) (c:=.i .i64 c.val) (d:=.i .u64 (ay c.key)) ⟨rfl,.of rfl⟩ ⟨rfl,.of rfl⟩ ⟨rfl,.of rfl⟩ ⟨rfl,.of rfl⟩ s0 s1 hcw.1 hv hok.2.2 hcw.2.2.2 hr
 by_cases e1:M.W v=x
 ·rw[if_pos e1,if_pos e1]at hS
  refine bH.mk hR false (M':=M.set v (x+Dir.FZ) m) (s':=.kH c (lv+1) (Dir.plc (lv+1) (ay c.key)) m) (r:=Dir.r0) (by rw[e];simp only[Dir.step,Dir.toH,if_pos e1];rfl) rfl (eZ (hch.2.2 e1)) ?_
  exact dt hF (OKF.of (Rc.upd hR w false (.kH c (lv+1) (Dir.plc (lv+1) (ay c.key)) m))) hn hn2 hw hch.1 (by decide) hr hS
 ·rw[if_neg e1,if_neg e1]at hS
  refine bH.mk hR false (M':=M) (s':=.kF c lv v) (r:=Dir.r0) (by rw[e];simp only[Dir.step,if_neg e1]) rfl rfl ?_
  exact dt hF (OKF.of (Rc.upd hR w false (.kF c lv v))) hn hn2 hw hch.1 (by decide) hr hS
end
end
section
section
variable{k:Nat}{M:Dir.Mc}{S:Nat→Dir.CS}{nl:Nat}{cnt:Int}(h:iP k M S nl cnt)(hk:k≤20000){F:Nat→List SV}(hR:∀i,Rc (S i) (F i)){w:Nat}(hw:w<64){n:Int}(hn:0≤n)(hn2:n≤4611686018427387904)
include h hk hR hw hn hn2
theorem stp_kH{c:Dir.Kc}{lv v:Nat}{m:List Dir.Ent}(e:S w=.kH c lv v m):bH w M S n F:=by
 have hF:=OKF.of hR
 obtain⟨ag,hr⟩:=hR w
 rw[e]at hr
 have hch:=h.ch w
 have hcw:=h.s.inv.cw w
 rw[e]at hch hcw
 obtain⟨c1,c2,c3,c4,c5⟩:=hcw
 have hv:1≤v∧v<32:=by rw[c3];exact Dir.plc_32 c2 _
 by_cases e0:M.W v=0
 ·have hS:=nZ (W:=M.W) (H:=M.Hd) (n:=n+1) hF hw (a:=.i .u8 c.op) (b:=.d (al 1 (aA .u8) c.key)) (c:=.i .i64 c.val) (d:=.i .u64 (ay c.key)) ⟨rfl,.of rfl⟩ ⟨rfl,.of rfl⟩ ⟨rfl,.of rfl⟩ ⟨rfl,.of rfl⟩ (g:=.i .u64 (ay c.key)) hv.2 hr rfl (.of rfl) rfl (.of rfl) (sp:=false) e0
  refine bH.mk hR false (M':=M) (s':=.kL c lv v m) (r:=Dir.r0) (by rw[e];simp only[Dir.step,if_pos e0]) rfl rfl ?_
  exact dt hF (OKF.of (Rc.upd hR w false (.kL c lv v m))) hn hn2 hw hch.1 (by decide) hr hS
 ·by_cases e1:4611686018427387904≤M.W v
  ·have hS:=doc_P4e (W:=M.W) (H:=M.Hd) (n:=n+1) hF hw (a:=.i .u8 c.op) (b:=.d (al 1 (aA .u8) c.key)) (c:=.i .i64 c.val) (d:=.i .u64 (ay c.key)) ⟨rfl,.of rfl⟩ ⟨rfl,.of rfl⟩ ⟨rfl,.of rfl⟩ ⟨rfl,.of rfl⟩ (g:=.i .u64 (ay c.key)) hv.2 hr e1
   refine bH.mk hR false (M':=M) (s':=.k0 c) (r:=Dir.r0) (by rw[e];simp only[Dir.step,Dir.entered,if_neg e0,if_pos (show M.W v=0∨Dir.FZ≤M.W v from .inr e1)]) rfl rfl ?_
   exact dt hF (OKF.of (Rc.upd hR w false (.k0 c))) hn hn2 hw hch.1 (by decide) hr hS
  ·have e2:¬(M.W v=0∨4611686018427387904≤M.W v):=fun h9=>h9.elim e0 e1
   have hS:=doc_P4f (W:=M.W) (H:=M.Hd) (n:=n+1) hF hw (a:=.i .u8 c.op) (b:=.d (al 1 (aA .u8) c.key)) (c:=.i .i64 c.val) (d:=.i .u64 (ay c.key)) ⟨rfl,.of rfl⟩ ⟨rfl,.of rfl⟩ ⟨rfl,.of rfl⟩ ⟨rfl,.of rfl⟩ (g:=.i .u64 (ay c.key)) hv.2 hr e2
   exact iU h hk hR hw hn hn2 hch.1 hv (by decide) hr hS (by rw[e];simp only[Dir.step,Dir.entered,if_neg e0,if_neg (show ¬(M.W v=0∨Dir.FZ≤M.W v)from e2)])
theorem Hn_bd(j:Nat):(M.Hd j).length≤16777216∧∀i,IsB ((M.Hd j).getD i default).key :=
 ⟨Nat.le_trans (h.s.hd j).1 (by omega),(h.s.hd j).get⟩
theorem stp_kL{c:Dir.Kc}{lv v:Nat}{m:List Dir.Ent}(e:S w=.kL c lv v m):bH w M S n F:=by
 have hF:=OKF.of hR
 obtain⟨ag,hr⟩:=hR w
 rw[e]at hr
 have hch:=h.ch w
 have hcw:=h.s.inv.cw w
 rw[e]at hch hcw
 obtain⟨c1,c2,c3,c4,c5⟩:=hcw
 obtain⟨l,rfl⟩:∃l,lv=l+1:=⟨lv-1,by omega⟩
 obtain⟨q,h1,h2⟩:=Dir.plc_sh (l+1) (ae.sum c.key)
 have hlow:=Dir.low_plc h2
 have hv:v=2^(l+1)+q:=c3.trans h2
 subst hv
 have hm:M.Hd (2^l+q%2^l)=m:=by rw[hlow];exact hch.2
 have hb:=Hn_bd h hk hR hw hn hn2 (2^l+q%2^l)
 have hS:=doc_P5k (W:=M.W) (H:=M.Hd) (n:=n+1) hF hw (a:=.i .u8 c.op) (b:=.d (al 1 (aA .u8) c.key)) (c:=.i .i64 c.val) (d:=.i .u64 (ay c.key)) ⟨rfl,.of rfl⟩ ⟨rfl,.of rfl⟩ ⟨rfl,.of rfl⟩ ⟨rfl,.of rfl⟩ (g:=.i .u64 (ay c.key)) (by omega:l≤3) h1 hr
 by_cases e0:M.W (2^(l+1)+q)=0
 ·rw[if_pos e0,if_pos e0]at hS
  refine bH.mk hR true (M':=M.set (2^(l+1)+q) 1 (bM m (l+1) q)) (s':=.kE c (2^(l+1)+q)) (r:=Dir.r0) (by rw[e];simp only[Dir.step,if_pos e0,Nat.add_sub_cancel_left];rfl) rfl rfl ?_
  have:=doc_ck hF (OKF.of (Rc.upd hR w true (.kE c (2^(l+1)+q)))) hn hn2 hw hch.1 (by decide) hr (by omega:l≤3) h1 hb.1 hb.2 hS
  rw[hm]at this
  exact this
 ·rw[if_neg e0,if_neg e0]at hS
  refine bH.mk hR true (M':=M) (s':=.kE c (2^(l+1)+q)) (r:=Dir.r0) (by rw[e];simp only[Dir.step,if_neg e0]) rfl rfl ?_
  exact dt hF (OKF.of (Rc.upd hR w true (.kE c (2^(l+1)+q)))) hn hn2 hw hch.1 (by decide) hr hS
theorem stp_kS{c:Dir.Kc}{v:Nat}{x y:Int}{m:List Dir.Ent}(e:S w=.kS c v x m y):bH w M S n F:=by
 have hF:=OKF.of hR
 obtain⟨ag,hr⟩:=hR w
 rw[e]at hr
 have hch:=h.ch w
 have hcw:=h.s.inv.cw w
 rw[e]at hch hcw
 have hD:=rr hF hn hn2 hw hch.1 hcw.2.1 hr ⟨Int.le_of_lt hcw.2.2.1,hcw.2.2.2⟩ (H:=M.Hd) (W:=M.W) (Nat.le_trans (h.s.hd v).1 (by omega))
 by_cases e0:M.W v=x
 ·simp only[if_pos e0]at hD
  obtain⟨g1,g2⟩:=Dir.swap_doc (h.ih.word ⟨hcw.1,hcw.2.1⟩) hch.1 (hch.2.2.2 e0)
  by_cases e3:c.op=3
  ·obtain⟨q1,q2,q3⟩:=g1 e3
   simp only[if_pos e3]at hD
   rw[if_neg q2,← q3,← q1]at hD
   exact bH.mk hR false (M':=M.set v (x+1) m) (s':=.none) (r:=⟨true,0,y⟩) (by rw[e];simp only[Dir.step,if_pos e0]) rfl rfl hD
  ·obtain⟨q1,q2⟩:=g2 e3
   simp only[if_neg e3]at hD
   rw[← q1,← q2]at hD
   exact bH.mk hR false (M':=M.set v (x+1) m) (s':=.none) (r:=⟨true,0,y⟩) (by rw[e];simp only[Dir.step,if_pos e0]) rfl rfl hD
 ·simp only[if_neg e0]at hD
  exact bH.mk hR false (M':=M) (s':=.k0 c) (r:=Dir.r0) (by rw[e];simp only[Dir.step,if_neg e0]) rfl rfl hD
end
end
section
section
variable{k:Nat}{M:Dir.Mc}{S:Nat→Dir.CS}{nl:Nat}{cnt:Int}(h:iP k M S nl cnt)(hk:k≤20000){F:Nat→List SV}(hR:∀i,Rc (S i) (F i)){w:Nat}(hw:w<64){n:Int}(hn:0≤n)(hn2:n≤4611686018427387904)
include h hk hR hw hn hn2
theorem stp_s0(e:S w=.s0):bH w M S n F:=by
 have hF:=OKF.of hR
 obtain⟨ag,hr⟩:=hR w
 rw[e]at hr
 have hd:=h.s.inv.iw.d
 obtain⟨lv,hlv⟩:∃lv:Nat,M.W 0/2=lv:=⟨(M.W 0/2).toNat,by omega⟩
 have hl:(M.W 0/2).toNat=lv:=by omega
 have hS:=doc_P0s (W:=M.W) (H:=M.Hd) (n:=n+1) hF hw (a:=.i .u8 4) (b:=.any) (c:=.any) (d:=.any) ⟨rfl,.of rfl⟩ ⟨rfl,.of rfl⟩ ⟨rfl,.of rfl⟩ ⟨rfl,.of rfl⟩ hd.1 hd.2 hr hlv
 by_cases e1:M.W 0%2=1
 ·rw[if_pos e1,if_pos e1]at hS
  refine bH.mk hR false (M':=M) (s':=.sF lv 0) (r:=Dir.r0) (by rw[e];simp only[Dir.step,if_pos e1,hl]) rfl rfl ?_
  exact cR hF (OKF.of (Rc.upd hR w false (.sF lv 0))) hn hn2 hw (by decide) hr hS
 ·rw[if_neg e1,if_neg e1]at hS
  by_cases e2:M.W 0/2=4
  ·rw[if_pos e2,if_pos e2]at hS
   have hF2:OKF (bF F w (hdS++[.i .i64 11,.any,.any,.any,.any,.any])):=⟨fun i=>by unfold bF;split;rfl;exact hF.len i,fun i=>by unfold bF;split;exact SV.frees rfl rfl;exact hF.fr i⟩
   have:=sm hF hF2 hn hn2 hw (by decide) hr (e:=true) (dH _ _ _) hS
   rw[ah]at this
   exact bH.mk hR false (M':=M) (s':=.none) (r:=⟨true,5,0⟩) (by rw[e];simp only[Dir.step,if_neg e1,if_pos e2]) rfl rfl this
  ·rw[if_neg e2,if_neg e2]at hS
   refine bH.mk hR false (M':=M) (s':=.sM lv) (r:=Dir.r0) (by rw[e];simp only[Dir.step,if_neg e1,if_neg e2,hl]) rfl rfl ?_
   exact cR hF (OKF.of (Rc.upd hR w false (.sM lv))) hn hn2 hw (by decide) hr hS
theorem stp_sF{lv i:Nat}(e:S w=.sF lv i):bH w M S n F:=by
 have hF:=OKF.of hR
 obtain⟨ag,hr⟩:=hR w
 rw[e]at hr
 have hcw:=h.s.inv.cw w
 rw[e]at hcw
 obtain⟨c1,c2,c3,c4⟩:=hcw
 have hp:2^lv≤2^3:=Q16 (by omega) c1
 have hv:2^lv+i<32:=by omega
 have hS:=doc_P2s (W:=M.W) (H:=M.Hd) (n:=n+1) hF hw (a:=.i .u8 4) (b:=.any) (c:=.any) (d:=.any) ⟨rfl,.of rfl⟩ ⟨rfl,.of rfl⟩ ⟨rfl,.of rfl⟩ ⟨rfl,.of rfl⟩ c1 hv (by omega:i≤16) hr
 by_cases e1:4611686018427387904≤M.W (2^lv+i)
 ·rw[if_pos e1]at hS
  refine bH.mk hR false (M':=M) (s':=.sH lv i false (M.Hd (2^lv+i))) (r:=Dir.r0) (by rw[e];simp only[Dir.step,if_pos (show Dir.FZ≤M.W (2^lv+i)from e1)]) rfl rfl ?_
  exact cR hF (OKF.of (Rc.upd hR w false (.sH lv i false (M.Hd (2^lv+i))))) hn hn2 hw (by decide) hr hS
 ·rw[if_neg e1]at hS
  refine bH.mk hR false (M':=M) (s':=.sG lv i (M.W (2^lv+i)) (M.Hd (2^lv+i))) (r:=Dir.r0) (by rw[e];simp only[Dir.step,if_neg (show ¬Dir.FZ≤M.W (2^lv+i)from e1)]) rfl rfl ?_
  exact cR hF (OKF.of (Rc.upd hR w false (.sG lv i (M.W (2^lv+i)) (M.Hd (2^lv+i))))) hn hn2 hw (by decide) hr hS
theorem stp_sG{lv i:Nat}{x:Int}{m:List Dir.Ent}(e:S w=.sG lv i x m):bH w M S n F:=by
 have hF:=OKF.of hR
 obtain⟨ag,hr⟩:=hR w
 rw[e]at hr
 have hch:=h.ch w
 have hcw:=h.s.inv.cw w
 have hok:=h.s.ok w
 rw[e]at hch hcw hok
 obtain⟨c1,c2,c3,c4,c5⟩:=hcw
 have hp:2^lv≤2^3:=Q16 (by omega) c1
 have hv:2^lv+i<32:=by omega
 have hS:=doc_P3s (W:=M.W) (H:=M.Hd) (n:=n+1) hF hw (a:=.i .u8 4) (b:=.any) (c:=.any) (d:=.any) ⟨rfl,.of rfl⟩ ⟨rfl,.of rfl⟩ ⟨rfl,.of rfl⟩ ⟨rfl,.of rfl⟩ c1 hv (by omega:i≤16) hok.2 c5 hr
 by_cases e1:M.W (2^lv+i)=x
 ·rw[if_pos e1,if_pos e1]at hS
  refine bH.mk hR false (M':=M.set (2^lv+i) (x+Dir.FZ) m) (s':=.sH lv i false m) (r:=Dir.r0) (by rw[e];simp only[Dir.step,if_pos e1]) rfl (eZ (hch.2 e1)) ?_
  exact cR hF (OKF.of (Rc.upd hR w false (.sH lv i false m))) hn hn2 hw (by decide) hr hS
 ·rw[if_neg e1,if_neg e1]at hS
  refine bH.mk hR false (M':=M) (s':=.sF lv i) (r:=Dir.r0) (by rw[e];simp only[Dir.step,if_neg e1]) rfl rfl ?_
  exact cR hF (OKF.of (Rc.upd hR w false (.sF lv i))) hn hn2 hw (by decide) hr hS
theorem rN{lv i:Nat}(up:Bool)(c1:lv≤3)(c2:i<2^lv):∃q,q<2^(lv+1)∧Dir.upW lv i up=2^(lv+1)+q∧q%2^lv=i∧Dir.upW lv i up<32:=by
 have hp:2^lv≤2^3:=Q16 (by omega) c1
 have hp1:2^(lv+1)=2^lv*2:=Nat.pow_succ 2 lv
 refine⟨if up then i+2^lv else i,?_,rfl,?_,?_⟩
 ·split<;>omega
 ·split
  ·rw[Nat.add_mod_right,Nat.mod_eq_of_lt c2]
  ·exact Nat.mod_eq_of_lt c2
 ·unfold Dir.upW;split<;>omega
theorem stp_sH{lv i:Nat}{up:Bool}{m:List Dir.Ent}(e:S w=.sH lv i up m):bH w M S n F:=by
 have hF:=OKF.of hR
 obtain⟨ag,hr⟩:=hR w
 rw[e]at hr
 have hcw:=h.s.inv.cw w
 rw[e]at hcw
 obtain⟨c1,c2,c3,c4,c5,c6⟩:=hcw
 obtain⟨q,q1,q2,q3,q4⟩:=rN h hk hR hw hn hn2 up c1 c2
 by_cases e0:M.W (Dir.upW lv i up)=0
 ·have hS:=nZ (W:=M.W) (H:=M.Hd) (n:=n+1) hF hw (a:=.i .u8 4) (b:=.any) (c:=.any) (d:=.any) ⟨rfl,.of rfl⟩ ⟨rfl,.of rfl⟩ ⟨rfl,.of rfl⟩ ⟨rfl,.of rfl⟩ (g:=.any) q4 hr rfl (.of rfl) rfl (.of rfl) (sp:=true) e0
  refine bH.mk hR false (M':=M) (s':=.sL lv i up m) (r:=Dir.r0) (by rw[e];simp only[Dir.step,if_pos e0]) rfl rfl ?_
  exact cR hF (OKF.of (Rc.upd hR w false (.sL lv i up m))) hn hn2 hw (by decide) hr hS
 ·have hS:=doc_P4s (W:=M.W) (H:=M.Hd) (n:=n+1) hF hw (a:=.i .u8 4) (b:=.any) (c:=.any) (d:=.any) ⟨rfl,.of rfl⟩ ⟨rfl,.of rfl⟩ ⟨rfl,.of rfl⟩ ⟨rfl,.of rfl⟩ c1 c2 q4 hr e0
  rw[rY lv i up m]at hS
  refine bH.mk hR false (M':=M) (s':=Dir.on lv i up m) (r:=Dir.r0) (by rw[e];simp only[Dir.step,if_neg e0]) rfl rfl ?_
  exact cR hF (OKF.of (Rc.upd hR w false (Dir.on lv i up m))) hn hn2 hw (by decide) hr hS
theorem stp_sL{lv i:Nat}{up:Bool}{m:List Dir.Ent}(e:S w=.sL lv i up m):bH w M S n F:=by
 have hF:=OKF.of hR
 obtain⟨ag,hr⟩:=hR w
 rw[e]at hr
 have hch:=h.ch w
 have hcw:=h.s.inv.cw w
 rw[e]at hch hcw
 obtain⟨c1,c2,c3,c4,c5,c6⟩:=hcw
 obtain⟨q,q1,q2,q3,q4⟩:=rN h hk hR hw hn hn2 up c1 c2
 have hm:M.Hd (2^lv+q%2^lv)=m:=by rw[q3];exact hch
 have hb:=Hn_bd h hk hR hw hn hn2 (2^lv+q%2^lv)
 have hr2:F w=hdS++[.i .i64 5,.i .i64 lv,.i .i64 i,.b up,.any,.i .i64 (2^(lv+1)+q:Nat)]:=by rw[hr,← q2];rfl
 have hS:=doc_P5s (W:=M.W) (H:=M.Hd) (n:=n+1) hF hw (a:=.i .u8 4) (b:=.any) (c:=.any) (d:=.any) ⟨rfl,.of rfl⟩ ⟨rfl,.of rfl⟩ ⟨rfl,.of rfl⟩ ⟨rfl,.of rfl⟩ c1 c2 q1 hr2
 rw[rY lv i up m]at hS
 by_cases e0:M.W (2^(lv+1)+q)=0
 ·rw[if_pos e0,if_pos e0]at hS
  refine bH.mk hR false (M':=M.set (2^(lv+1)+q) 1 (bM m (lv+1) q)) (s':=Dir.on lv i up m) (r:=Dir.r0) (by rw[e];simp only[Dir.step,q2,if_pos e0,Nat.add_sub_cancel_left];rfl) rfl rfl ?_
  have:=doc_cs hF (OKF.of (Rc.upd hR w false (Dir.on lv i up m))) hn hn2 hw (by decide) hr2 c1 q1 hb.1 hb.2 hS
  rw[hm]at this
  exact this
 ·rw[if_neg e0,if_neg e0]at hS
  refine bH.mk hR false (M':=M) (s':=Dir.on lv i up m) (r:=Dir.r0) (by rw[e];simp only[Dir.step,q2,if_neg e0]) rfl rfl ?_
  exact cR hF (OKF.of (Rc.upd hR w false (Dir.on lv i up m))) hn hn2 hw (by decide) hr2 hS
end
end
section
theorem Dir.step_hd0{M:Mc}{s:CS}(hc:Cw ae M.W s)(h0:M.Hd 0=[]):(step ae M s).1.Hd 0=[]:=by
  have hu:∀(w:Nat) (x:List Ent),1≤w→upd M.Hd w x 0=[]:=fun w x hw=>by rw[a6 _ _ (by omega)];exact h0
  cases s with
  | kG c lv w v m =>
    simp only[step];split
    ·exact hu _ _ (by rw[hc.2.1];exact b7 _ _)
    ·exact h0
  | kL c lv w m =>
    simp only[step];split
    ·exact hu _ _ (by rw[hc.2.2.1];exact b7 _ _)
    ·exact h0
  | kS c w v m q =>
    simp only[step];split
    ·exact hu _ _ hc.1
    ·exact h0
  | sG lv i v m =>
    simp only[step];split
    ·exact hu _ _ (by have:=pow_pos2 lv;omega)
    ·exact h0
  | sL lv i up m =>
    simp only[step];split
    ·exact hu _ _ (by have:=pow_pos2 (lv+1);unfold upW;omega)
    ·exact h0
  | sM lv =>
    simp only[step];split
    ·exact aF M.Hd 0 []
    ·exact h0
  | sV lv =>
    simp only[step];split
    ·exact aF M.Hd 0 []
    ·exact h0
  | s0 => simp only[step];split
          ·exact h0
          ·split<;>exact h0
  | kH c lv w m=>simp only[step];split<;>exact h0
  | _=>exact h0
section
variable{k:Nat}{M:Dir.Mc}{S:Nat→Dir.CS}{nl:Nat}{cnt:Int}(h:iP k M S nl cnt)(hk:k≤20000){F:Nat→List SV}(hR:∀i,Rc (S i) (F i)){w:Nat}(hw:w<64){n:Int}(hn:0≤n)(hn2:n≤4611686018427387904)(hd0:M.Hd 0=[])
include h hk hR hw hn hn2 hd0
theorem stp_sM{lv:Nat}(e:S w=.sM lv):bH w M S n F:=by
 have hF:=OKF.of hR
 obtain⟨ag,hr⟩:=hR w
 rw[e]at hr
 have hcw:=h.s.inv.cw w
 rw[e]at hcw
 have hcw:lv≤3:=hcw
 have hS:=doc_P7 (W:=M.W) (H:=M.Hd) (n:=n+1) hF hw (a:=.i .u8 4) (b:=.any) (c:=.any) (d:=.any) ⟨rfl,.of rfl⟩ ⟨rfl,.of rfl⟩ ⟨rfl,.of rfl⟩ ⟨rfl,.of rfl⟩ hcw hr
 by_cases e0:M.W 0=2*lv
 ·rw[if_pos e0,if_pos e0]at hS
  refine bH.mk hR false (M':=M.set 0 (2*lv+1) []) (s':=.sF lv 0) (r:=Dir.r0) (by rw[e];simp only[Dir.step,if_pos e0]) rfl (eZ hd0) ?_
  exact cR hF (OKF.of (Rc.upd hR w false (.sF lv 0))) hn hn2 hw (by decide) hr hS
 ·rw[if_neg e0,if_neg e0]at hS
  refine bH.mk hR false (M':=M) (s':=.s0) (r:=Dir.r0) (by rw[e];simp only[Dir.step,if_neg e0]) rfl rfl ?_
  exact cR hF (OKF.of (Rc.upd hR w false .s0)) hn hn2 hw (by decide) hr hS
theorem stp_sV{lv:Nat}(e:S w=.sV lv):bH w M S n F:=by
 have hF:=OKF.of hR
 obtain⟨ag,hr⟩:=hR w
 rw[e]at hr
 have hcw:=h.s.inv.cw w
 rw[e]at hcw
 have hS:=doc_P8 (W:=M.W) (H:=M.Hd) (n:=n+1) hF hw (a:=.i .u8 4) (b:=.any) (c:=.any) (d:=.any) ⟨rfl,.of rfl⟩ ⟨rfl,.of rfl⟩ ⟨rfl,.of rfl⟩ ⟨rfl,.of rfl⟩ hcw.1 hr
 have hF2:OKF (bF F w (hdS++[.i .i64 11,.any,.any,.any,.any,.any])):=⟨fun i=>by unfold bF;split;rfl;exact hF.len i,fun i=>by unfold bF;split;exact SV.frees rfl rfl;exact hF.fr i⟩
 have:=sm hF hF2 hn hn2 hw (by decide) hr (e:=false) (dH _ _ _) hS
 rw[ah]at this
 by_cases e0:M.W 0=2*lv+1
 ·rw[if_pos e0]at this
  exact bH.mk hR false (M':=M.set 0 (2*lv+2) []) (s':=.none) (r:=⟨true,0,0⟩) (by rw[e];simp only[Dir.step,if_pos e0]) rfl (eZ hd0) this
 ·rw[if_neg e0]at this
  exact bH.mk hR false (M':=M) (s':=.none) (r:=⟨true,0,0⟩) (by rw[e];simp only[Dir.step,if_neg e0]) rfl rfl this
theorem rv(hc:isC (S w)=true):bH w M S n F:=by
 cases e:S w with
 | none=>rw[e]at hc;cases hc
 | k0 c=>exact stp_k0 h hk hR hw hn hn2 e
 | kE c v=>exact stp_kE h hk hR hw hn hn2 e
 | kF c lv v=>exact stp_kF h hk hR hw hn hn2 e
 | kG c lv v x m=>exact stp_kG h hk hR hw hn hn2 e
 | kH c lv v m=>exact stp_kH h hk hR hw hn hn2 e
 | kL c lv v m=>exact stp_kL h hk hR hw hn hn2 e
 | kS c v x m y=>exact stp_kS h hk hR hw hn hn2 e
 | s0=>exact stp_s0 h hk hR hw hn hn2 e
 | sM lv=>exact stp_sM h hk hR hw hn hn2 hd0 e
 | sF lv i=>exact stp_sF h hk hR hw hn hn2 e
 | sG lv i x m=>exact stp_sG h hk hR hw hn hn2 e
 | sH lv i up m=>exact stp_sH h hk hR hw hn hn2 e
 | sL lv i up m=>exact stp_sL h hk hR hw hn hn2 e
 | sV lv=>exact stp_sV h hk hR hw hn hn2 hd0 e
end
end
section
section
variable{W:Nat→Int}{X:Nat→D}{n:Int}{F:Nat→List SV}
theorem rE{j:Nat}(h:j<32):co (dSX W X n F) j=.i .u64 (W j):=by
 have:=(bt (s:=⟨1,32,fun i=>[.i .u64 (W i)]⟩) (r:=[⟨1,32,fun i=>[.d (X i)]⟩,⟨1,1,fun _=>[.i .i64 n]⟩,⟨10,64,F⟩]) (i:=j) (q:=0) h Nat.zero_lt_one).2
 rwa [Nat.mul_one,Nat.add_zero]at this
theorem dSX_X{j:Nat}(h:j<32):co (dSX W X n F) (32+j)=.d (X j):=by
 rw[aQ (by show 32*1≤32+j;omega),show 32+j-32*1=j by omega]
 have:=(bt (s:=⟨1,32,fun i=>[.d (X i)]⟩) (r:=[⟨1,1,fun _=>[.i .i64 n]⟩,⟨10,64,F⟩]) (i:=j) (q:=0) h Nat.zero_lt_one).2
 rwa [Nat.mul_one,Nat.add_zero]at this
theorem dSX_n:co (dSX W X n F) 64=.i .i64 n:=rfl
theorem dSX_F{i q:Nat}(h:i<64)(hq:q<10):co (dSX W X n F) (65+(i*10+q))=(F i).getD q .any:=by
 rw[aQ (by show 32*1≤65+(i*10+q);omega),aQ (by show 32*1≤65+(i*10+q)-32*1;omega),aQ (by show 1*1≤65+(i*10+q)-32*1-32*1;omega)]
 have e:65+(i*10+q)-32*1-32*1-1*1=i*10+q:=by omega
 show co [⟨10,64,F⟩] (65+(i*10+q)-32*1-32*1-1*1)=_
 rw[e]
 exact(bt (s:=⟨10,64,F⟩) (r:=[]) (i:=i) (q:=q) h hq).2
end
theorem d705{j:Nat}(h:j<705):j<32∨(∃i,i<32∧j=32+i)∨j=64∨∃i q,i<64∧q<10∧j=65+(i*10+q):=by
 by_cases h1:j<32
 ·exact .inl h1
 ·by_cases h2:j<64
  ·exact .inr (.inl ⟨j-32,by omega,by omega⟩)
  ·by_cases h3:j=64
   ·exact .inr (.inr (.inl h3))
   ·exact .inr (.inr (.inr ⟨(j-65)/10,(j-65)%10,by omega,by omega,by omega⟩))
@[reducible] def wF(vs:Array Value):Nat→List SV:=fun i=>[.d (.val (vs.getD (65+(i*10+0)) undef)),.d (.val (vs.getD (65+(i*10+1)) undef)),.d (.val (vs.getD (65+(i*10+2)) undef)),.d (.val (vs.getD (65+(i*10+3)) undef)),.d (.val (vs.getD (65+(i*10+4)) undef)),.d (.val (vs.getD (65+(i*10+5)) undef)),.d (.val (vs.getD (65+(i*10+6)) undef)),.d (.val (vs.getD (65+(i*10+7)) undef)),.d (.val (vs.getD (65+(i*10+8)) undef)),.d (.val (vs.getD (65+(i*10+9)) undef))]
theorem mC(vs:Array Value):OKF (wF vs):=⟨fun _=>rfl,fun _=>SV.frees rfl rfl⟩
@[reducible] def wX(vs:Array Value)(M:Dir.Mc):Nat→D:=fun i=>.eq (vs.getD (32+i) undef) (al 2 aq (M.Hd i))
theorem wF_at(vs:Array Value){i q:Nat}(hq:q<10):(wF vs i).getD q .any=.d (.val (vs.getD (65+(i*10+q)) undef)):=by
 rcases(by omega:q=0∨q=1∨q=2∨q=3∨q=4∨q=5∨q=6∨q=7∨q=8∨q=9)with rfl|rfl|rfl|rfl|rfl|rfl|rfl|rfl|rfl|rfl<;>rfl
theorem nY{E E1:Env}{nx nx1:Nat}{w:World}{vs:Array Value}{M:Dir.Mc}{n:Int}{F:Nat→List SV}(hIm:∀b,E.Im b→E1.Im b)(h:∀j,j<705→RS E nx w (co (dS M.W M.Hd n F) j) (vs.getD j undef)∧(vs.getD j undef).oneCell'=true) :
  ∀j,j<705→SV.Lt 0 (co (dSX M.W (wX vs M) n (wF vs)) j)∧RS E1 nx1 w (co (dSX M.W (wX vs M) n (wF vs)) j) (vs.getD j undef)∧(vs.getD j undef).oneCell'=true:=fun j hj=>by
 refine⟨((aJ (L:=[0]) (mC vs)).out.2 j hj).2,?_,(h j hj).2⟩
 rcases d705 hj with h1|⟨i,hi,rfl⟩|rfl|⟨i,q,hi,hq,rfl⟩
 ·have h2:=(h j hj).1
  rw[show co (dS M.W M.Hd n F) j=.i .u64 (M.W j)from rE h1]at h2
  rw[rE h1]
  cases h2 with|d _ _ h2=>exact .d _ _ (h2.mono hIm fun _ _=>rfl)
 ·have h2:=(h _ hj).1
  rw[show co (dS M.W M.Hd n F) (32+i)=.d (al 2 aq (M.Hd i))from dSX_X hi]at h2
  rw[dSX_X hi]
  cases h2 with|d _ _ h2=>exact .d _ _ (.eq _ _ (h2.mono hIm fun _ _=>rfl))
 ·have h2:=(h 64 hj).1
  rw[show co (dS M.W M.Hd n F) 64=.i .i64 n from rfl]at h2
  rw[dSX_n]
  cases h2 with|d _ _ h2=>exact .d _ _ (h2.mono hIm fun _ _=>rfl)
 ·rw[dSX_F hi hq,wF_at vs hq]
  exact .d _ _ (.val _ (h _ hj).2)
theorem RD.eqI{w:World}{Im:Nat→Prop}{v u:Value}{x:D}(h:RD w Im (.eq v x) u):u=v:=by cases h;rfl
theorem rx{E1:Env}{nx1:Nat}{w1:World}{vs us:Array Value}{M:Dir.Mc}{n:Int}(hv:∀j,j<705→∃E nx w F,RS E nx w (co (dS M.W M.Hd n F) j) (vs.getD j undef))(h:∀j,j<705→RS E1 nx1 w1 (co (dSX M.W (wX vs M) n (wF vs)) j) (us.getD j undef)):∀j,j<705→us.getD j undef=vs.getD j undef:=fun j hj=>by
 have h1:=h j hj
 obtain⟨E,nx,w,F,h2⟩:=hv j hj
 rcases d705 hj with h9|⟨i,hi,rfl⟩|rfl|⟨i,q,hi,hq,rfl⟩
 ·rw[rE h9]at h1
  rw[show co (dS M.W M.Hd n F) j=.i .u64 (M.W j)from rE h9]at h2
  rw[h1.val_inv,h2.val_inv]
 ·rw[dSX_X hi]at h1
  generalize us.getD (32+i) undef=u at h1
  cases h1 with|d _ _ h1=>exact h1.eqI
 ·rw[dSX_n]at h1
  rw[show co (dS M.W M.Hd n F) 64=.i .i64 n from rfl]at h2
  rw[h1.val_inv,h2.val_inv]
 ·rw[dSX_F hi hq,wF_at vs hq]at h1
  exact h1.val_inv
end
end Go.Proofs.YtejiekfnaddanaaGreat
