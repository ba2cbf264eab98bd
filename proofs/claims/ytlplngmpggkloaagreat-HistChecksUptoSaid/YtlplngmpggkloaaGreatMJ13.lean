/- Lemmas of Rg5, Pl8a, Rf6, Rf7, Rf8, Rg6, Hh1, Pl5, Pl6. No condition. -/
import Derived.Test.YtlplngmpggkloaaGreatMJ12
set_option linter.unusedVariables false
set_option linter.unusedSimpArgs false
set_option maxHeartbeats 80000000
set_option maxRecDepth 100000
namespace Go.Proofs.YtlplngmpggkloaaGreat
open Go.RowKit
theorem jd {n : Int} {k : Nat} (h0 : 0 ≤ n) (h1 : n < pw k) (hb : n < big) : (gO n).length ≤ k := by
  obtain ⟨g1, g2, g3⟩ := cQ h0 hb
  refine Classical.byContradiction fun hk => ?_
  have h2 := oB g1 g2 (fun e => by rw [e] at hk; exact hk (Nat.zero_le _))
  rw [g3] at h2
  obtain ⟨j, hj⟩ : ∃ j, (gO n).length - 1 = k + j := ⟨(gO n).length - 1 - k, by omega⟩
  rw [hj, jZ] at h2
  have := dE k
  have hk := dE j
  have : pw k * 1 ≤ pw k * pw j := Int.mul_le_mul_of_nonneg_left (by omega) (by omega)
  omega
theorem pw2 : pw 2 = 18446744073709551616 := by decide +kernel
theorem pw6 : pw 6 = 6277101735386680763835789423207666416102355444464034512896 := by decide +kernel
theorem dK (t : Int) (h : 0 ≤ t ∧ t ≤ 4611686018427387903) : Pure TC 84 [.i .i64 t] (.d (ak 1 (ar .u64) (gO t))) := by
  refine Pure.mk' Tryz.func84 rfl rfl (zzb rfl) ?_
  (repeat' (first
    | with_reducible refine Wp.seq ?_
    | with_reducible refine Wp.block ?_
    | ((with_reducible first | refine Wp.region ?_ | refine Wp.drawL ac ?_ | refine Wp.cond ?_ | refine Wp.ret ?_ | refine Wp.skip ?_ | refine Wp.exit ?_ | refine Go.mk ?_ | apply ao.of); conv => whnf)
    | with_reducible exact rfl
    | ((with_reducible refine Ov.ok zO ?_); conv => whnf)
    | (with_reducible refine Ov.sh1 (by with_unfolding_all exact rfl) ?_)
    | ((with_reducible refine Ov.quo (by omega) (by omega) (by omega) (fun _ _ => ?_)); conv => whnf)
    | ((with_reducible refine And.intro (show ah _ _ _ _ = true by kernel_rfl) ?_); conv => whnf)
    | ((with_reducible refine And.intro zC ?_); conv => whnf)
    | ((with_reducible refine And.intro ?hb ?_); (case hb => exact ae (zzb rfl) (by omega)); (conv => whnf))
    | ((refine af.a rfl rfl rfl rfl rfl rfl ?hb ?_); (case hb => exact zB); (conv => whnf))
    | ((refine af.b rfl rfl rfl rfl rfl rfl rfl rfl ?hb ?ho ?_); (case hb => exact zB); (case ho => omega); (conv => whnf))
    | ((refine af.c rfl rfl rfl rfl rfl ?hb ?_); (case hb => exact zB); (conv => whnf))
    | ((refine af.d rfl rfl rfl rfl rfl rfl ?hb ?ho ?_); (case hb => exact zB); (case ho => omega); (conv => whnf))
    | (with_reducible refine Or.inl ?_)
    | ((with_reducible refine IxA.ptr ?_); conv => whnf)
    | ((with_reducible refine nil_no (by omega) ?_); (conv => whnf))
    | ((with_reducible refine ag ?_ (fun hn0 => ?_)) <;> (conv => whnf))
    | ((with_reducible refine ab.pure (ol t (by omega) (by omega)) rfl rfl ?_); conv => whnf) | ((with_reducible refine ai.pure (ol t (by omega) (by omega)) rfl rfl ?_); conv => whnf)
    | ((refine ap (fun hc => ?_) (fun hc => ?_)) <;> (try simp only [decide_eq_true_eq, decide_eq_false_iff_not, Q5, Q20, Bool.and_eq_false_iff, Bool.or_eq_false_iff, Bool.not_eq_true', Bool.not_eq_false', beq_iff_eq, bne_iff_ne, ne_eq, beq_eq_false_iff_ne, bne_eq_false_iff_eq, Bool.not_eq_true, Bool.not_eq_false] at hc) <;> (try (exfalso; omega)) <;> (conv => whnf))))
  rw [pQ (by omega) (by omega)]; exact .rfl _
structure Lo (n : Int) : Prop where
  out : 0 ≤ n ∧ n < 340282366920938463463374607431768211456
theorem Lo.big {n : Int} (h : Lo n) : n < big := by have := h.out; unfold Go.Proofs.YtlplngmpggkloaaGreat.big; omega
theorem Lo.len {n : Int} (h : Lo n) : (gO n).length ≤ 6 := jd h.out.1 (by rw [pw6]; have := h.out; omega) h.big
theorem plusN {x y : Int} (hx : Lo x) (hy : Lo y) : Pure TC 85 [.d (ak 1 (ar .u64) (gO x)), .d (ak 1 (ar .u64) (gO y))] (.d (ak 1 (ar .u64) (gO (x + y)))) := by
  obtain ⟨a1, a2, a3⟩ := cQ hx.out.1 hx.big
  obtain ⟨b1, b2, b3⟩ := cQ hy.out.1 hy.big
  have := r1_Plus a1 b1 ⟨hx.len, hy.len⟩
  rwa [a3, b3] at this
theorem sB {x y : Int} (hx : 0 ≤ x ∧ x ≤ 4611686018427387903) (hy : 0 ≤ y ∧ y ≤ 4611686018427387903) : Pure TC 86 [.d (ak 1 (ar .u64) (gO x)), .d (ak 1 (ar .u64) (gO y))] (.d (ak 1 (ar .u64) (gO (x * y)))) := by
  have lx : Lo x := ⟨by omega⟩
  have ly : Lo y := ⟨by omega⟩
  obtain ⟨a1, a2, a3⟩ := cQ hx.1 lx.big
  obtain ⟨b1, b2, b3⟩ := cQ hy.1 ly.big
  have := rq a1 b1 ⟨Nat.le_trans (jd (k := 2) hx.1 (by rw [pw2]; omega) lx.big) (by decide), Nat.le_trans (jd (k := 2) hy.1 (by rw [pw2]; omega) ly.big) (by decide)⟩
  rwa [a3, b3] at this
theorem cmpN {x y : Int} (hx : Lo x) (hy : Lo y) : Pure TC 87 [.d (ak 1 (ar .u64) (gO x)), .d (ak 1 (ar .u64) (gO y))] (.i .i64 (sb x y)) := by
  obtain ⟨a1, a2, a3⟩ := cQ hx.out.1 hx.big
  obtain ⟨b1, b2, b3⟩ := cQ hy.out.1 hy.big
  have := nf a1 b1 a2 b2
  rwa [a3, b3] at this
theorem s9 (x y : Int) : sb x y ≤ 0 ↔ x ≤ y := by
  unfold sb
  split
  · omega
  · split <;> omega
theorem sN {x y : Int} (hx : 0 ≤ x ∧ x ≤ 4611686018427387903) (hy : 0 ≤ y ∧ y ≤ 4611686018427387903) : 0 ≤ x * y ∧ x * y ≤ 21267647932558653957237540927630737409 := by
  refine ⟨Int.mul_nonneg hx.1 hy.1, ?_⟩
  have h1 : x * y ≤ 4611686018427387903 * y := Int.mul_le_mul_of_nonneg_right (by omega) hy.1
  omega
theorem dt {T tau tat now n : Int} (hT : 0 ≤ T ∧ T ≤ 4611686018427387903) (ht : 0 ≤ tau ∧ tau ≤ 4611686018427387903) (h3 : 0 ≤ tat ∧ tat ≤ 4611686018427387903) (h5 : 0 ≤ now ∧ now ≤ 4611686018427387903) (hn : 0 ≤ n ∧ n ≤ 4611686018427387903) :
    Pure TC 68 [.agg [.i .i64 T, .i .i64 tau], .i .i64 tat, .i .i64 now, .i .i64 n] (.b (grB T tau tat now n)) := by
  by_cases h0 : n = 0
  · subst h0
    refine Pure.mk' Tryz.func68 rfl rfl (zzb rfl) ?_
    (repeat' (first
    | with_reducible refine Wp.seq ?_
    | with_reducible refine Wp.block ?_
    | ((with_reducible first | refine Wp.region ?_ | refine Wp.drawL ac ?_ | refine Wp.cond ?_ | refine Wp.ret ?_ | refine Wp.skip ?_ | refine Wp.exit ?_ | refine Go.mk ?_ | apply ao.of); conv => whnf)
    | with_reducible exact rfl
    | ((with_reducible refine Ov.ok zO ?_); conv => whnf)
    | (with_reducible refine Ov.sh1 (by with_unfolding_all exact rfl) ?_)
    | ((with_reducible refine Ov.quo (by omega) (by omega) (by omega) (fun _ _ => ?_)); conv => whnf)
    | ((with_reducible refine And.intro (show ah _ _ _ _ = true by kernel_rfl) ?_); conv => whnf)
    | ((with_reducible refine And.intro zC ?_); conv => whnf)
    | ((with_reducible refine And.intro ?hb ?_); (case hb => exact ae (zzb rfl) (by omega)); (conv => whnf))
    | ((refine af.a rfl rfl rfl rfl rfl rfl ?hb ?_); (case hb => exact zB); (conv => whnf))
    | ((refine af.b rfl rfl rfl rfl rfl rfl rfl rfl ?hb ?ho ?_); (case hb => exact zB); (case ho => omega); (conv => whnf))
    | ((refine af.c rfl rfl rfl rfl rfl ?hb ?_); (case hb => exact zB); (conv => whnf))
    | ((refine af.d rfl rfl rfl rfl rfl rfl ?hb ?ho ?_); (case hb => exact zB); (case ho => omega); (conv => whnf))
    | (with_reducible refine Or.inl ?_)
    | ((with_reducible refine IxA.ptr ?_); conv => whnf)
    | ((with_reducible refine nil_no (by omega) ?_); (conv => whnf))
    | ((with_reducible refine ag ?_ (fun hn0 => ?_)) <;> (conv => whnf))
    
    | ((refine ap (fun hc => ?_) (fun hc => ?_)) <;> (try simp only [decide_eq_true_eq, decide_eq_false_iff_not, Q5, Q20, Bool.and_eq_false_iff, Bool.or_eq_false_iff, Bool.not_eq_true', Bool.not_eq_false', beq_iff_eq, bne_iff_ne, ne_eq, beq_eq_false_iff_ne, bne_eq_false_iff_eq, Bool.not_eq_true, Bool.not_eq_false] at hc) <;> (try (exfalso; omega)) <;> (conv => whnf))))
    exact .b rfl
  have hm : (if now > tat then now else tat) = max tat now := by omega
  have hmb : 0 ≤ max tat now ∧ max tat now ≤ 4611686018427387903 := by omega
  have p1 := sN (x := n - 1) (y := T) (by omega) hT
  have p2 := sN (x := n) (y := T) hn hT
  have w0 := dK (max tat now) hmb
  rw [← hm] at w0
  have w1 := dK (n - 1) (by omega)
  have w2 := dK T hT
  have w3 := dK n hn
  have w4 := dK now h5
  have w5 := dK tau ht
  have w6 := dK 4611686018427387903 (by omega)
  have q1 := sB (x := n - 1) (y := T) (by omega) hT
  have q2 := sB (x := n) (y := T) hn hT
  have q3 := plusN (x := max tat now) (y := (n - 1) * T) ⟨by omega⟩ ⟨by omega⟩
  have q4 := plusN (x := max tat now) (y := n * T) ⟨by omega⟩ ⟨by omega⟩
  have q5 := plusN (x := now) (y := tau) ⟨by omega⟩ ⟨by omega⟩
  have q6 := cmpN (x := max tat now + (n - 1) * T) (y := now + tau) ⟨by omega⟩ ⟨by omega⟩
  have q7 := cmpN (x := max tat now + n * T) (y := 4611686018427387903) ⟨by omega⟩ ⟨by omega⟩
  rw [← hm] at q3 q4 q6 q7
  have c1 := s9 ((if now > tat then now else tat) + (n - 1) * T) (now + tau)
  have c2 := s9 ((if now > tat then now else tat) + n * T) 4611686018427387903
  refine Pure.mk' Tryz.func68 rfl rfl (zzb rfl) ?_
  (repeat' (first
    | with_reducible refine Wp.seq ?_
    | with_reducible refine Wp.block ?_
    | ((with_reducible first | refine Wp.region ?_ | refine Wp.drawL ac ?_ | refine Wp.cond ?_ | refine Wp.ret ?_ | refine Wp.skip ?_ | refine Wp.exit ?_ | refine Go.mk ?_ | apply ao.of); conv => whnf)
    | with_reducible exact rfl
    | ((with_reducible refine Ov.ok zO ?_); conv => whnf)
    | (with_reducible refine Ov.sh1 (by with_unfolding_all exact rfl) ?_)
    | ((with_reducible refine Ov.quo (by omega) (by omega) (by omega) (fun _ _ => ?_)); conv => whnf)
    | ((with_reducible refine And.intro (show ah _ _ _ _ = true by kernel_rfl) ?_); conv => whnf)
    | ((with_reducible refine And.intro zC ?_); conv => whnf)
    | ((with_reducible refine And.intro ?hb ?_); (case hb => exact ae (zzb rfl) (by omega)); (conv => whnf))
    | ((refine af.a rfl rfl rfl rfl rfl rfl ?hb ?_); (case hb => exact zB); (conv => whnf))
    | ((refine af.b rfl rfl rfl rfl rfl rfl rfl rfl ?hb ?ho ?_); (case hb => exact zB); (case ho => omega); (conv => whnf))
    | ((refine af.c rfl rfl rfl rfl rfl ?hb ?_); (case hb => exact zB); (conv => whnf))
    | ((refine af.d rfl rfl rfl rfl rfl rfl ?hb ?ho ?_); (case hb => exact zB); (case ho => omega); (conv => whnf))
    | (with_reducible refine Or.inl ?_)
    | ((with_reducible refine IxA.ptr ?_); conv => whnf)
    | ((with_reducible refine nil_no (by omega) ?_); (conv => whnf))
    | ((with_reducible refine ag ?_ (fun hn0 => ?_)) <;> (conv => whnf))
    | ((with_reducible refine ab.pure (w0) rfl rfl ?_); conv => whnf) | ((with_reducible refine ai.pure (w0) rfl rfl ?_); conv => whnf)
    | ((with_reducible refine ab.pure (w1) rfl rfl ?_); conv => whnf) | ((with_reducible refine ai.pure (w1) rfl rfl ?_); conv => whnf)
    | ((with_reducible refine ab.pure (w2) rfl rfl ?_); conv => whnf) | ((with_reducible refine ai.pure (w2) rfl rfl ?_); conv => whnf)
    | ((with_reducible refine ab.pure (w3) rfl rfl ?_); conv => whnf) | ((with_reducible refine ai.pure (w3) rfl rfl ?_); conv => whnf)
    | ((with_reducible refine ab.pure (w4) rfl rfl ?_); conv => whnf) | ((with_reducible refine ai.pure (w4) rfl rfl ?_); conv => whnf)
    | ((with_reducible refine ab.pure (w5) rfl rfl ?_); conv => whnf) | ((with_reducible refine ai.pure (w5) rfl rfl ?_); conv => whnf)
    | ((with_reducible refine ab.pure (w6) rfl rfl ?_); conv => whnf) | ((with_reducible refine ai.pure (w6) rfl rfl ?_); conv => whnf)
    | ((with_reducible refine ab.pure (q1) rfl rfl ?_); conv => whnf) | ((with_reducible refine ai.pure (q1) rfl rfl ?_); conv => whnf)
    | ((with_reducible refine ab.pure (q2) rfl rfl ?_); conv => whnf) | ((with_reducible refine ai.pure (q2) rfl rfl ?_); conv => whnf)
    | ((with_reducible refine ab.pure (q3) rfl rfl ?_); conv => whnf) | ((with_reducible refine ai.pure (q3) rfl rfl ?_); conv => whnf)
    | ((with_reducible refine ab.pure (q4) rfl rfl ?_); conv => whnf) | ((with_reducible refine ai.pure (q4) rfl rfl ?_); conv => whnf)
    | ((with_reducible refine ab.pure (q5) rfl rfl ?_); conv => whnf) | ((with_reducible refine ai.pure (q5) rfl rfl ?_); conv => whnf)
    | ((with_reducible refine ab.pure (q6) rfl rfl ?_); conv => whnf) | ((with_reducible refine ai.pure (q6) rfl rfl ?_); conv => whnf)
    | ((with_reducible refine ab.pure (q7) rfl rfl ?_); conv => whnf) | ((with_reducible refine ai.pure (q7) rfl rfl ?_); conv => whnf)
    | ((refine ap (fun hc => ?_) (fun hc => ?_)) <;> (try simp only [decide_eq_true_eq, decide_eq_false_iff_not, Q5, Q20, Bool.and_eq_false_iff, Bool.or_eq_false_iff, Bool.not_eq_true', Bool.not_eq_false', beq_iff_eq, bne_iff_ne, ne_eq, beq_eq_false_iff_ne, bne_eq_false_iff_eq, Bool.not_eq_true, Bool.not_eq_false] at hc) <;> (try (exfalso; omega)) <;> (conv => whnf))))
  · refine .b ?_
    rw [hm] at hc c1 c2 ⊢
    unfold grB
    rw [decide_eq_false h0, Bool.false_or, decide_eq_true (c1.1 hc), Bool.true_and]
    exact decide_eq_decide.2 c2
  · refine .b ?_
    rw [hm] at hc c1
    unfold grB
    rw [decide_eq_false h0, Bool.false_or, decide_eq_false (fun h => hc (c1.2 h)), Bool.false_and]
theorem i3 {T tau tat now : Int} (hT : 1 ≤ T ∧ T ≤ 4611686018427387903) (ht : 0 ≤ tau ∧ tau ≤ 4611686018427387903) (h3 : 0 ≤ tat ∧ tat ≤ 4611686018427387903) (h5 : 0 ≤ now ∧ now ≤ 4611686018427387903) :
    Pure TC 55 [.agg [.i .i64 T, .i .i64 tau], .i .i64 tat, .i .i64 now] (.i .i64 (aJ T tau tat now)) := by
  have hl := ca (tau := tau) hT.1 h3.1 h3.2 h5.1 h5.2
  refine Pure.mk' Tryz.func55 rfl rfl (zzb rfl) ?_
  (repeat' (first
    | with_reducible refine Wp.seq ?_
    | with_reducible refine Wp.block ?_
    | ((with_reducible first | refine Wp.region ?_ | refine Wp.drawL ac ?_ | refine Wp.cond ?_ | refine Wp.ret ?_ | refine Wp.skip ?_ | refine Wp.exit ?_ | refine Go.mk ?_ | apply ao.of); conv => whnf)
    | with_reducible exact rfl
    | ((with_reducible refine Ov.ok zO ?_); conv => whnf)
    | (with_reducible refine Ov.sh1 (by with_unfolding_all exact rfl) ?_)
    | ((with_reducible refine Ov.quo (by omega) (by omega) (by omega) (fun _ _ => ?_)); conv => whnf)
    | ((with_reducible refine And.intro (show ah _ _ _ _ = true by kernel_rfl) ?_); conv => whnf)
    | ((with_reducible refine And.intro zC ?_); conv => whnf)
    | ((with_reducible refine And.intro ?hb ?_); (case hb => exact ae (zzb rfl) (by omega)); (conv => whnf))
    | ((refine af.a rfl rfl rfl rfl rfl rfl ?hb ?_); (case hb => exact zB); (conv => whnf))
    | ((refine af.b rfl rfl rfl rfl rfl rfl rfl rfl ?hb ?ho ?_); (case hb => exact zB); (case ho => omega); (conv => whnf))
    | ((refine af.c rfl rfl rfl rfl rfl ?hb ?_); (case hb => exact zB); (conv => whnf))
    | ((refine af.d rfl rfl rfl rfl rfl rfl ?hb ?ho ?_); (case hb => exact zB); (case ho => omega); (conv => whnf))
    | (with_reducible refine Or.inl ?_)
    | ((with_reducible refine IxA.ptr ?_); conv => whnf)
    | ((with_reducible refine nil_no (by omega) ?_); (conv => whnf))
    | ((with_reducible refine ag ?_ (fun hn0 => ?_)) <;> (conv => whnf))
    
    | ((refine ap (fun hc => ?_) (fun hc => ?_)) <;> (try simp only [decide_eq_true_eq, decide_eq_false_iff_not, Q5, Q20, Bool.and_eq_false_iff, Bool.or_eq_false_iff, Bool.not_eq_true', Bool.not_eq_false', beq_iff_eq, bne_iff_ne, ne_eq, beq_eq_false_iff_ne, bne_eq_false_iff_eq, Bool.not_eq_true, Bool.not_eq_false] at hc) <;> (try (exfalso; omega)) <;> (conv => whnf))))
  refine Wp.loopP (ι := Int × Int) (fun k => 0 ≤ k.1 ∧ k.1 ≤ aJ T tau tat now ∧ aJ T tau tat now ≤ k.2 ∧ k.2 ≤ 4611686018427387903) (fun k => ⟨⟨Tryz.f55.ntmps, 0⟩, 1, [(1, .i .i64 tat), (2, .i .i64 now), (3, .ptr 0 0), (7, .i .i64 k.1), (8, .i .i64 k.2)], [(0, some (.cells [.i .i64 T, .i .i64 tau]))]⟩) (fun k => (k.2 - k.1).toNat) (0, 4611686018427387903) ⟨by decide, by dsimp only; omega, by dsimp only; omega, by decide⟩ ?_ ?_
  · (refine Le.by [0] rfl rfl rfl rfl ?_ ?_ <;> (conv => whnf) <;> (repeat' (first | exact trivial | exact aa.rfl rfl | exact aa.ptr rfl | exact aa.sl rfl | ((with_reducible refine aa.fn ?_); (conv => whnf)) | ((refine aa.iref ?_); (conv => whnf)) | exact ⟨rfl, rfl, rfl⟩ | exact fun i hi => rfl | ((with_reducible refine And.intro ?_ ?_) <;> (conv => whnf)))))
  · rintro ⟨lo, hi⟩ ⟨g1, g2, g3, g4⟩
    dsimp only at g1 g2 g3 g4 ⊢
    by_cases hlt : lo < hi
    · have hd := Int.tdiv_eq_ediv_of_nonneg (a := hi - lo) (b := 2) (by omega)
      have hG := dt (T := T) (tau := tau) (tat := tat) (now := now) (n := hi - (hi - lo).tdiv 2) (by omega) ht h3 h5 (by omega)
      have hgl := oT (tau := tau) (n := hi - (hi - lo).tdiv 2) hT.1 h3 h5 (by omega)
      (repeat' (first
    | with_reducible refine Wp.seq ?_
    | with_reducible refine Wp.block ?_
    | ((with_reducible first | refine Wp.region ?_ | refine Wp.drawL ac ?_ | refine Wp.cond ?_ | refine Wp.ret ?_ | refine Wp.skip ?_ | refine Wp.exit ?_ | refine Go.mk ?_ | apply ao.of); conv => whnf)
    | with_reducible exact rfl
    | ((with_reducible refine Ov.ok zO ?_); conv => whnf)
    | (with_reducible refine Ov.sh1 (by with_unfolding_all exact rfl) ?_)
    | ((with_reducible refine Ov.quo (by omega) (by omega) (by omega) (fun _ _ => ?_)); conv => whnf)
    | ((with_reducible refine And.intro (show ah _ _ _ _ = true by kernel_rfl) ?_); conv => whnf)
    | ((with_reducible refine And.intro zC ?_); conv => whnf)
    | ((with_reducible refine And.intro ?hb ?_); (case hb => exact ae (zzb rfl) (by omega)); (conv => whnf))
    | ((refine af.a rfl rfl rfl rfl rfl rfl ?hb ?_); (case hb => exact zB); (conv => whnf))
    | ((refine af.b rfl rfl rfl rfl rfl rfl rfl rfl ?hb ?ho ?_); (case hb => exact zB); (case ho => omega); (conv => whnf))
    | ((refine af.c rfl rfl rfl rfl rfl ?hb ?_); (case hb => exact zB); (conv => whnf))
    | ((refine af.d rfl rfl rfl rfl rfl rfl ?hb ?ho ?_); (case hb => exact zB); (case ho => omega); (conv => whnf))
    | (with_reducible refine Or.inl ?_)
    | ((with_reducible refine IxA.ptr ?_); conv => whnf)
    | ((with_reducible refine nil_no (by omega) ?_); (conv => whnf))
    | ((with_reducible refine ag ?_ (fun hn0 => ?_)) <;> (conv => whnf))
    | ((with_reducible refine ab.pure (hG) rfl rfl ?_); conv => whnf) | ((with_reducible refine ai.pure (hG) rfl rfl ?_); conv => whnf)
    | ((refine ap (fun hc => ?_) (fun hc => ?_)) <;> (try simp only [decide_eq_true_eq, decide_eq_false_iff_not, Q5, Q20, Bool.and_eq_false_iff, Bool.or_eq_false_iff, Bool.not_eq_true', Bool.not_eq_false', beq_iff_eq, bne_iff_ne, ne_eq, beq_eq_false_iff_ne, bne_eq_false_iff_eq, Bool.not_eq_true, Bool.not_eq_false] at hc) <;> (try (exfalso; omega)) <;> (conv => whnf))))
      · have := hgl.1 hc
        refine ⟨(hi - (hi - lo).tdiv 2, hi), ⟨by dsimp only; omega, this, g3, g4⟩, by dsimp only; omega, ?_⟩
        (refine Le.by [0] rfl rfl rfl rfl ?_ ?_ <;> (conv => whnf) <;> (repeat' (first | exact trivial | exact aa.rfl rfl | exact aa.ptr rfl | exact aa.sl rfl | ((with_reducible refine aa.fn ?_); (conv => whnf)) | ((refine aa.iref ?_); (conv => whnf)) | exact ⟨rfl, rfl, rfl⟩ | exact fun i hi => rfl | ((with_reducible refine And.intro ?_ ?_) <;> (conv => whnf)))))
      · have : ¬ hi - (hi - lo).tdiv 2 ≤ aJ T tau tat now := fun h => by rw [hgl.2 h] at hc; cases hc
        refine ⟨(lo, hi - (hi - lo).tdiv 2 - 1), ⟨g1, g2, by dsimp only; omega, by dsimp only; omega⟩, by dsimp only; omega, ?_⟩
        (refine Le.by [0] rfl rfl rfl rfl ?_ ?_ <;> (conv => whnf) <;> (repeat' (first | exact trivial | exact aa.rfl rfl | exact aa.ptr rfl | exact aa.sl rfl | ((with_reducible refine aa.fn ?_); (conv => whnf)) | ((refine aa.iref ?_); (conv => whnf)) | exact ⟨rfl, rfl, rfl⟩ | exact fun i hi => rfl | ((with_reducible refine And.intro ?_ ?_) <;> (conv => whnf)))))
    · (repeat' (first
    | with_reducible refine Wp.seq ?_
    | with_reducible refine Wp.block ?_
    | ((with_reducible first | refine Wp.region ?_ | refine Wp.drawL ac ?_ | refine Wp.cond ?_ | refine Wp.ret ?_ | refine Wp.skip ?_ | refine Wp.exit ?_ | refine Go.mk ?_ | apply ao.of); conv => whnf)
    | with_reducible exact rfl
    | ((with_reducible refine Ov.ok zO ?_); conv => whnf)
    | (with_reducible refine Ov.sh1 (by with_unfolding_all exact rfl) ?_)
    | ((with_reducible refine Ov.quo (by omega) (by omega) (by omega) (fun _ _ => ?_)); conv => whnf)
    | ((with_reducible refine And.intro (show ah _ _ _ _ = true by kernel_rfl) ?_); conv => whnf)
    | ((with_reducible refine And.intro zC ?_); conv => whnf)
    | ((with_reducible refine And.intro ?hb ?_); (case hb => exact ae (zzb rfl) (by omega)); (conv => whnf))
    | ((refine af.a rfl rfl rfl rfl rfl rfl ?hb ?_); (case hb => exact zB); (conv => whnf))
    | ((refine af.b rfl rfl rfl rfl rfl rfl rfl rfl ?hb ?ho ?_); (case hb => exact zB); (case ho => omega); (conv => whnf))
    | ((refine af.c rfl rfl rfl rfl rfl ?hb ?_); (case hb => exact zB); (conv => whnf))
    | ((refine af.d rfl rfl rfl rfl rfl rfl ?hb ?ho ?_); (case hb => exact zB); (case ho => omega); (conv => whnf))
    | (with_reducible refine Or.inl ?_)
    | ((with_reducible refine IxA.ptr ?_); conv => whnf)
    | ((with_reducible refine nil_no (by omega) ?_); (conv => whnf))
    | ((with_reducible refine ag ?_ (fun hn0 => ?_)) <;> (conv => whnf))
    
    | ((refine ap (fun hc => ?_) (fun hc => ?_)) <;> (try simp only [decide_eq_true_eq, decide_eq_false_iff_not, Q5, Q20, Bool.and_eq_false_iff, Bool.or_eq_false_iff, Bool.not_eq_true', Bool.not_eq_false', beq_iff_eq, bne_iff_ne, ne_eq, beq_eq_false_iff_ne, bne_eq_false_iff_eq, Bool.not_eq_true, Bool.not_eq_false] at hc) <;> (try (exfalso; omega)) <;> (conv => whnf))))
      exact .i (by omega)
theorem r5_Wait {T tau tat now n : Int} (hT : 1 ≤ T ∧ T ≤ 4611686018427387903) (ht : 0 ≤ tau ∧ tau ≤ 4611686018427387903) (h3 : 0 ≤ tat ∧ tat ≤ 4611686018427387903) (h5 : 0 ≤ now ∧ now ≤ 4611686018427387903) (hn : 1 ≤ n ∧ n ≤ 4611686018427387903) (hno : grB T tau tat now n = false) :
    Pure TC 69 [.agg [.i .i64 T, .i .i64 tau], .i .i64 tat, .i .i64 now, .i .i64 n] (.i .i64 (cK T tau tat now n)) := by
  have hm : (if tat > now then tat else now) = max now tat := by omega
  have hG0 := dt (T := T) (tau := tau) (tat := tat) (now := max now tat) (n := n) (by omega) ht h3 (by omega) (by omega)
  have hN := rN (n := n) (tau := tau) hT.1 ht h3 h5 hn.1
  have hW := gr_wait (n := n) (tau := tau) hT.1 ht h3 h5 hn.1
  rw [← hm] at hG0 hN hW
  refine Pure.mk' Tryz.func69 rfl rfl (zzb rfl) ?_
  (repeat' (first
    | with_reducible refine Wp.seq ?_
    | with_reducible refine Wp.block ?_
    | ((with_reducible first | refine Wp.region ?_ | refine Wp.drawL ac ?_ | refine Wp.cond ?_ | refine Wp.ret ?_ | refine Wp.skip ?_ | refine Wp.exit ?_ | refine Go.mk ?_ | apply ao.of); conv => whnf)
    | with_reducible exact rfl
    | ((with_reducible refine Ov.ok zO ?_); conv => whnf)
    | (with_reducible refine Ov.sh1 (by with_unfolding_all exact rfl) ?_)
    | ((with_reducible refine Ov.quo (by omega) (by omega) (by omega) (fun _ _ => ?_)); conv => whnf)
    | ((with_reducible refine And.intro (show ah _ _ _ _ = true by kernel_rfl) ?_); conv => whnf)
    | ((with_reducible refine And.intro zC ?_); conv => whnf)
    | ((with_reducible refine And.intro ?hb ?_); (case hb => exact ae (zzb rfl) (by omega)); (conv => whnf))
    | ((refine af.a rfl rfl rfl rfl rfl rfl ?hb ?_); (case hb => exact zB); (conv => whnf))
    | ((refine af.b rfl rfl rfl rfl rfl rfl rfl rfl ?hb ?ho ?_); (case hb => exact zB); (case ho => omega); (conv => whnf))
    | ((refine af.c rfl rfl rfl rfl rfl ?hb ?_); (case hb => exact zB); (conv => whnf))
    | ((refine af.d rfl rfl rfl rfl rfl rfl ?hb ?ho ?_); (case hb => exact zB); (case ho => omega); (conv => whnf))
    | (with_reducible refine Or.inl ?_)
    | ((with_reducible refine IxA.ptr ?_); conv => whnf)
    | ((with_reducible refine nil_no (by omega) ?_); (conv => whnf))
    | ((with_reducible refine ag ?_ (fun hn0 => ?_)) <;> (conv => whnf))
    | ((with_reducible refine ab.pure (hG0) rfl rfl ?_); conv => whnf) | ((with_reducible refine ai.pure (hG0) rfl rfl ?_); conv => whnf)
    | ((refine ap (fun hc => ?_) (fun hc => ?_)) <;> (try simp only [decide_eq_true_eq, decide_eq_false_iff_not, Q5, Q20, Bool.and_eq_false_iff, Bool.or_eq_false_iff, Bool.not_eq_true', Bool.not_eq_false', beq_iff_eq, bne_iff_ne, ne_eq, beq_eq_false_iff_ne, bne_eq_false_iff_eq, Bool.not_eq_true, Bool.not_eq_false] at hc) <;> (try (exfalso; omega)) <;> (conv => whnf))))
  · exact .i (hN hc).symm
  obtain ⟨w1, w2, w3⟩ := hW hc hno
  refine Wp.loopP (ι := Int × Int) (fun k => 0 ≤ k.1 ∧ k.1 ≤ cK T tau tat now n ∧ cK T tau tat now n ≤ k.2 ∧ k.2 ≤ (if tat > now then tat else now) - now) (fun k => ⟨⟨Tryz.f69.ntmps, 0⟩, 1, [(1, .i .i64 tat), (2, .i .i64 now), (3, .i .i64 n), (4, .ptr 0 0), (9, .i .i64 k.1), (10, .i .i64 k.2)], [(0, some (.cells [.i .i64 T, .i .i64 tau]))]⟩) (fun k => (k.2 - k.1).toNat) (0, (if tat > now then tat else now) - now) ⟨Int.le_refl _, by dsimp only; omega, by dsimp only; omega, by dsimp only; omega⟩ ?_ ?_
  · (refine Le.by [0] rfl rfl rfl rfl ?_ ?_ <;> (conv => whnf) <;> (repeat' (first | exact trivial | exact aa.rfl rfl | exact aa.ptr rfl | exact aa.sl rfl | ((with_reducible refine aa.fn ?_); (conv => whnf)) | ((refine aa.iref ?_); (conv => whnf)) | exact ⟨rfl, rfl, rfl⟩ | exact fun i hi => rfl | ((with_reducible refine And.intro ?_ ?_) <;> (conv => whnf)))))
  · rintro ⟨lo, hi⟩ ⟨g1, g2, g3, g4⟩
    dsimp only at g1 g2 g3 g4 ⊢
    by_cases hlt : lo < hi
    · have hd := Int.tdiv_eq_ediv_of_nonneg (a := hi - lo) (b := 2) (by omega)
      have hG := dt (T := T) (tau := tau) (tat := tat) (now := now + (lo + (hi - lo).tdiv 2)) (n := n) (by omega) ht h3 (by omega) (by omega)
      have hgl := w3 (lo + (hi - lo).tdiv 2) (by omega) (by omega)
      (repeat' (first
    | with_reducible refine Wp.seq ?_
    | with_reducible refine Wp.block ?_
    | ((with_reducible first | refine Wp.region ?_ | refine Wp.drawL ac ?_ | refine Wp.cond ?_ | refine Wp.ret ?_ | refine Wp.skip ?_ | refine Wp.exit ?_ | refine Go.mk ?_ | apply ao.of); conv => whnf)
    | with_reducible exact rfl
    | ((with_reducible refine Ov.ok zO ?_); conv => whnf)
    | (with_reducible refine Ov.sh1 (by with_unfolding_all exact rfl) ?_)
    | ((with_reducible refine Ov.quo (by omega) (by omega) (by omega) (fun _ _ => ?_)); conv => whnf)
    | ((with_reducible refine And.intro (show ah _ _ _ _ = true by kernel_rfl) ?_); conv => whnf)
    | ((with_reducible refine And.intro zC ?_); conv => whnf)
    | ((with_reducible refine And.intro ?hb ?_); (case hb => exact ae (zzb rfl) (by omega)); (conv => whnf))
    | ((refine af.a rfl rfl rfl rfl rfl rfl ?hb ?_); (case hb => exact zB); (conv => whnf))
    | ((refine af.b rfl rfl rfl rfl rfl rfl rfl rfl ?hb ?ho ?_); (case hb => exact zB); (case ho => omega); (conv => whnf))
    | ((refine af.c rfl rfl rfl rfl rfl ?hb ?_); (case hb => exact zB); (conv => whnf))
    | ((refine af.d rfl rfl rfl rfl rfl rfl ?hb ?ho ?_); (case hb => exact zB); (case ho => omega); (conv => whnf))
    | (with_reducible refine Or.inl ?_)
    | ((with_reducible refine IxA.ptr ?_); conv => whnf)
    | ((with_reducible refine nil_no (by omega) ?_); (conv => whnf))
    | ((with_reducible refine ag ?_ (fun hn0 => ?_)) <;> (conv => whnf))
    | ((with_reducible refine ab.pure (hG) rfl rfl ?_); conv => whnf) | ((with_reducible refine ai.pure (hG) rfl rfl ?_); conv => whnf)
    | ((refine ap (fun hc => ?_) (fun hc => ?_)) <;> (try simp only [decide_eq_true_eq, decide_eq_false_iff_not, Q5, Q20, Bool.and_eq_false_iff, Bool.or_eq_false_iff, Bool.not_eq_true', Bool.not_eq_false', beq_iff_eq, bne_iff_ne, ne_eq, beq_eq_false_iff_ne, bne_eq_false_iff_eq, Bool.not_eq_true, Bool.not_eq_false] at hc) <;> (try (exfalso; omega)) <;> (conv => whnf))))
      · have := hgl.1 (by assumption)
        refine ⟨(lo, lo + (hi - lo).tdiv 2), ⟨g1, g2, this, by dsimp only; omega⟩, by dsimp only; omega, ?_⟩
        (refine Le.by [0] rfl rfl rfl rfl ?_ ?_ <;> (conv => whnf) <;> (repeat' (first | exact trivial | exact aa.rfl rfl | exact aa.ptr rfl | exact aa.sl rfl | ((with_reducible refine aa.fn ?_); (conv => whnf)) | ((refine aa.iref ?_); (conv => whnf)) | exact ⟨rfl, rfl, rfl⟩ | exact fun i hi => rfl | ((with_reducible refine And.intro ?_ ?_) <;> (conv => whnf)))))
      · have : ¬ cK T tau tat now n ≤ lo + (hi - lo).tdiv 2 := fun h => Bool.noConfusion ((hgl.2 h).symm.trans (by assumption))
        refine ⟨(lo + (hi - lo).tdiv 2 + 1, hi), ⟨by dsimp only; omega, by dsimp only; omega, g3, g4⟩, by dsimp only; omega, ?_⟩
        (refine Le.by [0] rfl rfl rfl rfl ?_ ?_ <;> (conv => whnf) <;> (repeat' (first | exact trivial | exact aa.rfl rfl | exact aa.ptr rfl | exact aa.sl rfl | ((with_reducible refine aa.fn ?_); (conv => whnf)) | ((refine aa.iref ?_); (conv => whnf)) | exact ⟨rfl, rfl, rfl⟩ | exact fun i hi => rfl | ((with_reducible refine And.intro ?_ ?_) <;> (conv => whnf)))))
    · (repeat' (first
    | with_reducible refine Wp.seq ?_
    | with_reducible refine Wp.block ?_
    | ((with_reducible first | refine Wp.region ?_ | refine Wp.drawL ac ?_ | refine Wp.cond ?_ | refine Wp.ret ?_ | refine Wp.skip ?_ | refine Wp.exit ?_ | refine Go.mk ?_ | apply ao.of); conv => whnf)
    | with_reducible exact rfl
    | ((with_reducible refine Ov.ok zO ?_); conv => whnf)
    | (with_reducible refine Ov.sh1 (by with_unfolding_all exact rfl) ?_)
    | ((with_reducible refine Ov.quo (by omega) (by omega) (by omega) (fun _ _ => ?_)); conv => whnf)
    | ((with_reducible refine And.intro (show ah _ _ _ _ = true by kernel_rfl) ?_); conv => whnf)
    | ((with_reducible refine And.intro zC ?_); conv => whnf)
    | ((with_reducible refine And.intro ?hb ?_); (case hb => exact ae (zzb rfl) (by omega)); (conv => whnf))
    | ((refine af.a rfl rfl rfl rfl rfl rfl ?hb ?_); (case hb => exact zB); (conv => whnf))
    | ((refine af.b rfl rfl rfl rfl rfl rfl rfl rfl ?hb ?ho ?_); (case hb => exact zB); (case ho => omega); (conv => whnf))
    | ((refine af.c rfl rfl rfl rfl rfl ?hb ?_); (case hb => exact zB); (conv => whnf))
    | ((refine af.d rfl rfl rfl rfl rfl rfl ?hb ?ho ?_); (case hb => exact zB); (case ho => omega); (conv => whnf))
    | (with_reducible refine Or.inl ?_)
    | ((with_reducible refine IxA.ptr ?_); conv => whnf)
    | ((with_reducible refine nil_no (by omega) ?_); (conv => whnf))
    | ((with_reducible refine ag ?_ (fun hn0 => ?_)) <;> (conv => whnf))
    
    | ((refine ap (fun hc => ?_) (fun hc => ?_)) <;> (try simp only [decide_eq_true_eq, decide_eq_false_iff_not, Q5, Q20, Bool.and_eq_false_iff, Bool.or_eq_false_iff, Bool.not_eq_true', Bool.not_eq_false', beq_iff_eq, bne_iff_ne, ne_eq, beq_eq_false_iff_ne, bne_eq_false_iff_eq, Bool.not_eq_true, Bool.not_eq_false] at hc) <;> (try (exfalso; omega)) <;> (conv => whnf))))
      exact .i (by omega)
theorem oj {T tau tat now n : Int} (hT : 1 ≤ T ∧ T ≤ 4611686018427387903) (ht : 0 ≤ tau ∧ tau ≤ 4611686018427387903) (h3 : 0 ≤ tat ∧ tat ≤ 4611686018427387903) (h5 : 0 ≤ now ∧ now ≤ 4611686018427387903) (hn : 0 ≤ n ∧ n ≤ 4611686018427387903) :
    Pure TC 50 [.agg [.i .i64 T, .i .i64 tau], .i .i64 tat, .i .i64 now, .i .i64 n] (.agg [.b (fP T tau tat now n).g, .i .i64 (fP T tau tat now n).tat, .i .i64 (fP T tau tat now n).wait, .i .i64 (fP T tau tat now n).left]) := by
  have hG := dt (T := T) (tau := tau) (tat := tat) (now := now) (n := n) (by omega) ht h3 h5 hn
  have hgl := oT (tau := tau) (n := n) hT.1 h3 h5 hn.1
  have hl1 : n ≤ aJ T tau tat now → 0 < n → _ := ji (n := n) (tau := tau) hT.1 h3.1 h3.2 h5.1 h5.2
  have e : max tat now = if now > tat then now else tat := by omega
  refine Pure.mk' Tryz.func50 rfl rfl (zzb rfl) ?_
  cases hg : grB T tau tat now n with
  | false =>
    rw [hg] at hG
    have hnl : ¬ n ≤ aJ T tau tat now := fun h => by rw [hgl.2 h] at hg; cases hg
    have hn1 : 1 ≤ n := by
      refine Classical.byContradiction fun h => ?_
      have : n = 0 := by omega
      subst this
      exact hnl (ca (tau := tau) hT.1 h3.1 h3.2 h5.1 h5.2).1
    have hW := r5_Wait (n := n) hT ht h3 h5 ⟨hn1, hn.2⟩ hg
    have hL := i3 (T := T) (tau := tau) (tat := tat) (now := now) hT ht h3 h5
    (repeat' (first
    | with_reducible refine Wp.seq ?_
    | with_reducible refine Wp.block ?_
    | ((with_reducible first | refine Wp.region ?_ | refine Wp.drawL ac ?_ | refine Wp.cond ?_ | refine Wp.ret ?_ | refine Wp.skip ?_ | refine Wp.exit ?_ | refine Go.mk ?_ | apply ao.of); conv => whnf)
    | with_reducible exact rfl
    | ((with_reducible refine Ov.ok zO ?_); conv => whnf)
    | (with_reducible refine Ov.sh1 (by with_unfolding_all exact rfl) ?_)
    | ((with_reducible refine Ov.quo (by omega) (by omega) (by omega) (fun _ _ => ?_)); conv => whnf)
    | ((with_reducible refine And.intro (show ah _ _ _ _ = true by kernel_rfl) ?_); conv => whnf)
    | ((with_reducible refine And.intro zC ?_); conv => whnf)
    | ((with_reducible refine And.intro ?hb ?_); (case hb => exact ae (zzb rfl) (by omega)); (conv => whnf))
    | ((refine af.a rfl rfl rfl rfl rfl rfl ?hb ?_); (case hb => exact zB); (conv => whnf))
    | ((refine af.b rfl rfl rfl rfl rfl rfl rfl rfl ?hb ?ho ?_); (case hb => exact zB); (case ho => omega); (conv => whnf))
    | ((refine af.c rfl rfl rfl rfl rfl ?hb ?_); (case hb => exact zB); (conv => whnf))
    | ((refine af.d rfl rfl rfl rfl rfl rfl ?hb ?ho ?_); (case hb => exact zB); (case ho => omega); (conv => whnf))
    | (with_reducible refine Or.inl ?_)
    | ((with_reducible refine IxA.ptr ?_); conv => whnf)
    | ((with_reducible refine nil_no (by omega) ?_); (conv => whnf))
    | ((with_reducible refine ag ?_ (fun hn0 => ?_)) <;> (conv => whnf))
    | ((with_reducible refine ab.pure (hG) rfl rfl ?_); conv => whnf) | ((with_reducible refine ai.pure (hG) rfl rfl ?_); conv => whnf)
    | ((with_reducible refine ab.pure (hW) rfl rfl ?_); conv => whnf) | ((with_reducible refine ai.pure (hW) rfl rfl ?_); conv => whnf)
    | ((with_reducible refine ab.pure (hL) rfl rfl ?_); conv => whnf) | ((with_reducible refine ai.pure (hL) rfl rfl ?_); conv => whnf)
    | ((refine ap (fun hc => ?_) (fun hc => ?_)) <;> (try simp only [decide_eq_true_eq, decide_eq_false_iff_not, Q5, Q20, Bool.and_eq_false_iff, Bool.or_eq_false_iff, Bool.not_eq_true', Bool.not_eq_false', beq_iff_eq, bne_iff_ne, ne_eq, beq_eq_false_iff_ne, bne_eq_false_iff_eq, Bool.not_eq_true, Bool.not_eq_false] at hc) <;> (try (exfalso; omega)) <;> (conv => whnf))))
    have e9 : fP T tau tat now n = ⟨false, tat, cK T tau tat now n, aJ T tau tat now⟩ := by
      unfold fP m6
      rw [if_neg (fun h => hnl h.1), if_neg hnl, decide_eq_false hnl]
    rw [e9]; exact .rfl _
  | true =>
    rw [hg] at hG
    have hnl := hgl.1 hg
    by_cases h0 : n = 0
    · subst h0
      have hL := i3 (T := T) (tau := tau) (tat := tat) (now := now) hT ht h3 h5
      (repeat' (first
    | with_reducible refine Wp.seq ?_
    | with_reducible refine Wp.block ?_
    | ((with_reducible first | refine Wp.region ?_ | refine Wp.drawL ac ?_ | refine Wp.cond ?_ | refine Wp.ret ?_ | refine Wp.skip ?_ | refine Wp.exit ?_ | refine Go.mk ?_ | apply ao.of); conv => whnf)
    | with_reducible exact rfl
    | ((with_reducible refine Ov.ok zO ?_); conv => whnf)
    | (with_reducible refine Ov.sh1 (by with_unfolding_all exact rfl) ?_)
    | ((with_reducible refine Ov.quo (by omega) (by omega) (by omega) (fun _ _ => ?_)); conv => whnf)
    | ((with_reducible refine And.intro (show ah _ _ _ _ = true by kernel_rfl) ?_); conv => whnf)
    | ((with_reducible refine And.intro zC ?_); conv => whnf)
    | ((with_reducible refine And.intro ?hb ?_); (case hb => exact ae (zzb rfl) (by omega)); (conv => whnf))
    | ((refine af.a rfl rfl rfl rfl rfl rfl ?hb ?_); (case hb => exact zB); (conv => whnf))
    | ((refine af.b rfl rfl rfl rfl rfl rfl rfl rfl ?hb ?ho ?_); (case hb => exact zB); (case ho => omega); (conv => whnf))
    | ((refine af.c rfl rfl rfl rfl rfl ?hb ?_); (case hb => exact zB); (conv => whnf))
    | ((refine af.d rfl rfl rfl rfl rfl rfl ?hb ?ho ?_); (case hb => exact zB); (case ho => omega); (conv => whnf))
    | (with_reducible refine Or.inl ?_)
    | ((with_reducible refine IxA.ptr ?_); conv => whnf)
    | ((with_reducible refine nil_no (by omega) ?_); (conv => whnf))
    | ((with_reducible refine ag ?_ (fun hn0 => ?_)) <;> (conv => whnf))
    | ((with_reducible refine ab.pure (hG) rfl rfl ?_); conv => whnf) | ((with_reducible refine ai.pure (hG) rfl rfl ?_); conv => whnf)
    | ((with_reducible refine ab.pure (hL) rfl rfl ?_); conv => whnf) | ((with_reducible refine ai.pure (hL) rfl rfl ?_); conv => whnf)
    | ((refine ap (fun hc => ?_) (fun hc => ?_)) <;> (try simp only [decide_eq_true_eq, decide_eq_false_iff_not, Q5, Q20, Bool.and_eq_false_iff, Bool.or_eq_false_iff, Bool.not_eq_true', Bool.not_eq_false', beq_iff_eq, bne_iff_ne, ne_eq, beq_eq_false_iff_ne, bne_eq_false_iff_eq, Bool.not_eq_true, Bool.not_eq_false] at hc) <;> (try (exfalso; omega)) <;> (conv => whnf))))
      have e9 : fP T tau tat now 0 = ⟨true, tat, 0, aJ T tau tat now⟩ := by
        unfold fP m6
        rw [if_neg (fun h => by have := h.2; omega), if_pos hnl, decide_eq_true hnl]
      rw [e9]; exact .rfl _
    · have hb := hl1 hnl (by omega)
      have hL := i3 (T := T) (tau := tau) (tat := max tat now + n * T) (now := now) hT ht (by omega) h5
      rw [e] at hL hb
      (repeat' (first
    | with_reducible refine Wp.seq ?_
    | with_reducible refine Wp.block ?_
    | ((with_reducible first | refine Wp.region ?_ | refine Wp.drawL ac ?_ | refine Wp.cond ?_ | refine Wp.ret ?_ | refine Wp.skip ?_ | refine Wp.exit ?_ | refine Go.mk ?_ | apply ao.of); conv => whnf)
    | with_reducible exact rfl
    | ((with_reducible refine Ov.ok zO ?_); conv => whnf)
    | (with_reducible refine Ov.sh1 (by with_unfolding_all exact rfl) ?_)
    | ((with_reducible refine Ov.quo (by omega) (by omega) (by omega) (fun _ _ => ?_)); conv => whnf)
    | ((with_reducible refine And.intro (show ah _ _ _ _ = true by kernel_rfl) ?_); conv => whnf)
    | ((with_reducible refine And.intro zC ?_); conv => whnf)
    | ((with_reducible refine And.intro ?hb ?_); (case hb => exact ae (zzb rfl) (by omega)); (conv => whnf))
    | ((refine af.a rfl rfl rfl rfl rfl rfl ?hb ?_); (case hb => exact zB); (conv => whnf))
    | ((refine af.b rfl rfl rfl rfl rfl rfl rfl rfl ?hb ?ho ?_); (case hb => exact zB); (case ho => omega); (conv => whnf))
    | ((refine af.c rfl rfl rfl rfl rfl ?hb ?_); (case hb => exact zB); (conv => whnf))
    | ((refine af.d rfl rfl rfl rfl rfl rfl ?hb ?ho ?_); (case hb => exact zB); (case ho => omega); (conv => whnf))
    | (with_reducible refine Or.inl ?_)
    | ((with_reducible refine IxA.ptr ?_); conv => whnf)
    | ((with_reducible refine nil_no (by omega) ?_); (conv => whnf))
    | ((with_reducible refine ag ?_ (fun hn0 => ?_)) <;> (conv => whnf))
    | ((with_reducible refine ab.pure (hG) rfl rfl ?_); conv => whnf) | ((with_reducible refine ai.pure (hG) rfl rfl ?_); conv => whnf)
    | ((with_reducible refine ab.pure (hL) rfl rfl ?_); conv => whnf) | ((with_reducible refine ai.pure (hL) rfl rfl ?_); conv => whnf)
    | ((refine ap (fun hc => ?_) (fun hc => ?_)) <;> (try simp only [decide_eq_true_eq, decide_eq_false_iff_not, Q5, Q20, Bool.and_eq_false_iff, Bool.or_eq_false_iff, Bool.not_eq_true', Bool.not_eq_false', beq_iff_eq, bne_iff_ne, ne_eq, beq_eq_false_iff_ne, bne_eq_false_iff_eq, Bool.not_eq_true, Bool.not_eq_false] at hc) <;> (try (exfalso; omega)) <;> (conv => whnf))))
      have e9 : fP T tau tat now n = ⟨true, (if now > tat then now else tat) + n * T, 0, aJ T tau ((if now > tat then now else tat) + n * T) now⟩ := by
        unfold fP m6
        rw [if_pos ⟨hnl, by omega⟩, if_pos hnl, decide_eq_true hnl, e]
      rw [e9]; exact .rfl _
section
theorem bi : ∀ {ys : List Int} {l : Int}, cM l ys = true ↔ (∀ x ∈ ys, dI x = true ∧ l < x) ∧ ys.Pairwise (· < ·)
  | [], l => by simp [cM]
  | x :: r, l => by
    have ih := bi (ys := r) (l := x)
    simp only [cM, Q5, decide_eq_true_eq, ih, List.mem_cons, List.pairwise_cons]
    constructor
    · rintro ⟨⟨h1, h2⟩, h3, h4⟩
      refine ⟨fun y hy => ?_, fun y hy => (h3 y hy).2, h4⟩
      rcases hy with rfl | hy
      · exact ⟨h1, h2⟩
      · exact ⟨(h3 y hy).1, by have := (h3 y hy).2; omega⟩
    · rintro ⟨h1, h2, h3⟩
      exact ⟨h1 x (Or.inl rfl), fun y hy => ⟨(h1 y (Or.inr hy)).1, h2 y hy⟩, h3⟩
theorem oU {ys : List Int} {k : Nat} (h : k < ys.length) : ys.getD k default ∈ ys := by
  rw [Q1, Q0 h]; exact Q14 h
theorem bI {ys : List Int} {k : Nat} (h : k < ys.length) : ys.getD k default = ys[k] := by
  rw [Q1, Q0 h]; rfl
section
variable {ys : List Int} {t : Int}
theorem j7 (h : ys.Pairwise (· < ·)) : (∀ k, k < bW ys t → ys.getD k default < t) ∧ ∀ k, bW ys t ≤ k → k < ys.length → ¬ ys.getD k default < t := by
  have := pr (lt := fun k => decide (ys.getD k default < t)) (n := ys.length) (fun i j hij hj hlt => by
    simp only [decide_eq_true_eq] at hlt ⊢
    by_cases e : i = j
    · subst e; exact hlt
    · have := List.pairwise_iff_getElem.1 h i j (by omega) hj (by omega)
      rw [bI hj] at hlt
      rw [bI (show i < ys.length by omega)]
      omega)
  refine ⟨fun k hk => ?_, fun k hk hkn => ?_⟩
  · have := this.1 k hk
    simpa using this
  · have := this.2 k hk hkn
    simp only [decide_eq_false_iff_not] at this
    exact this
theorem fL (h : ys.Pairwise (· < ·)) : gw ys t = true ↔ t ∈ ys := by
  obtain ⟨h1, h2⟩ := j7 (t := t) h
  unfold gw
  simp only [Q5, decide_eq_true_eq]
  constructor
  · rintro ⟨a, b⟩
    rw [← b]; exact oU a
  · intro hm
    obtain ⟨k, hk, rfl⟩ := List.getElem_of_mem hm
    have g1 : ¬ k < bW ys ys[k] := fun hlt => by have := h1 k hlt; rw [bI hk] at this; omega
    have g2 : ¬ bW ys ys[k] < k := fun hlt => by
      have := h2 _ (Q4 _) (by omega)
      rw [bI (show bW ys ys[k] < ys.length by omega)] at this
      have := List.pairwise_iff_getElem.1 h _ k (show bW ys ys[k] < ys.length by omega) hk hlt
      omega
    have e : bW ys ys[k] = k := by omega
    rw [e, bI hk]
    exact ⟨hk, rfl⟩
theorem mn (h : cM 0 ys = true) (ht : dI t = true) (hn : t ∉ ys) : cM 0 (bE ys (bW ys t) t) = true ∧ ∀ x, x ∈ bE ys (bW ys t) t ↔ x = t ∨ x ∈ ys := by
  obtain ⟨a, b⟩ := bi.1 h
  obtain ⟨h1, h2⟩ := j7 (t := t) b
  have hm : ∀ x, x ∈ bE ys (bW ys t) t ↔ x = t ∨ x ∈ ys := fun x => by
    unfold bE
    rw [List.mem_append, List.mem_append, List.mem_singleton]
    constructor
    · rintro ((h | h) | h)
      · exact Or.inr (List.mem_of_mem_take h)
      · exact Or.inl h
      · exact Or.inr (List.mem_of_mem_drop h)
    · rintro (h | h)
      · exact Or.inl (Or.inr h)
      · rw [← List.take_append_drop (bW ys t) ys] at h
        rcases List.mem_append.1 h with h | h
        · exact Or.inl (Or.inl h)
        · exact Or.inr h
  refine ⟨bi.2 ⟨fun x hx => ?_, ?_⟩, hm⟩
  · rcases (hm x).1 hx with rfl | hx
    · refine ⟨ht, ?_⟩
      simp [dI] at ht; omega
    · exact a x hx
  · unfold bE
    rw [List.append_assoc, List.pairwise_append]
    refine ⟨b.sublist (List.take_sublist _ _), ?_, fun x hx y hy => ?_⟩
    · rw [List.singleton_append, List.pairwise_cons]
      refine ⟨fun y hy => ?_, b.sublist (List.drop_sublist _ _)⟩
      obtain ⟨k, hk, rfl⟩ := List.getElem_of_mem hy
      rw [List.length_drop] at hk
      rw [List.getElem_drop]
      have h3 := h2 (bW ys t + k) (by omega) (by omega)
      rw [bI (show bW ys t + k < ys.length by omega)] at h3
      have h4 : ys[bW ys t + k] ≠ t := fun e => hn (by rw [← e]; exact Q14 _)
      omega
    · obtain ⟨k, hk, rfl⟩ := List.getElem_of_mem hx
      rw [Q10] at hk
      rw [List.getElem_take]
      have h3 := h1 k (by omega)
      rw [bI (show k < ys.length by omega)] at h3
      rw [List.singleton_append] at hy
      rcases Q22 hy with rfl | hy
      · exact h3
      · obtain ⟨j, hj, rfl⟩ := List.getElem_of_mem hy
        rw [List.length_drop] at hj
        rw [List.getElem_drop]
        exact List.pairwise_iff_getElem.1 b k _ (by omega) (by omega) (by omega)
theorem mI (h : cM 0 ys = true) (hn : t ∈ ys) : cM 0 (bY ys (bW ys t)) = true ∧ (∀ x, x ∈ bY ys (bW ys t) ↔ x ≠ t ∧ x ∈ ys) ∧ (bY ys (bW ys t)).length + 1 = ys.length := by
  obtain ⟨a, b⟩ := bi.1 h
  have hh := (fL b).2 hn
  have hl := lu hh
  have he : ys.getD (bW ys t) default = t := by
    unfold gw at hh
    simp only [Q5, decide_eq_true_eq] at hh; exact hh.2
  rw [bI hl] at he
  have hsub : (bY ys (bW ys t)).Sublist ys := by
    unfold bY
    have h2 : (ys.take (bW ys t) ++ ys.drop (bW ys t)).Sublist ys := by rw [List.take_append_drop]; exact List.Sublist.refl _
    refine List.Sublist.trans (List.Sublist.append (List.Sublist.refl _) ?_) h2
    rw [List.drop_eq_getElem_cons hl]
    exact List.sublist_cons_self _ _
  refine ⟨bi.2 ⟨fun x hx => a x (hsub.subset hx), b.sublist hsub⟩, fun x => ?_, by rw [dj _ _ hl]; omega⟩
  constructor
  · intro hx
    refine ⟨fun e => ?_, hsub.subset hx⟩
    subst e
    unfold bY at hx
    rcases List.mem_append.1 hx with hx | hx
    · obtain ⟨k, hk, e⟩ := List.getElem_of_mem hx
      rw [Q10] at hk
      rw [List.getElem_take] at e
      have := List.pairwise_iff_getElem.1 b k _ (by omega) hl (by omega)
      omega
    · obtain ⟨k, hk, e⟩ := List.getElem_of_mem hx
      rw [List.length_drop] at hk
      rw [List.getElem_drop] at e
      have := List.pairwise_iff_getElem.1 b _ (bW ys x + 1 + k) hl (by omega) (by omega)
      omega
  · rintro ⟨h1, h2⟩
    unfold bY
    rw [← List.take_append_drop (bW ys t) ys] at h2
    rcases List.mem_append.1 h2 with h2 | h2
    · exact List.mem_append_left _ h2
    · rw [List.drop_eq_getElem_cons hl, he] at h2
      rcases Q22 h2 with h2 | h2
      · exact absurd h2 h1
      · exact List.mem_append_right _ h2
end
end
theorem iX : ∀ {xs ys : List Int}, xs.Pairwise (· < ·) → ys.Pairwise (· < ·) → (∀ d, d ∈ xs ↔ d ∈ ys) → xs = ys
  | [], [], _, _, _ => rfl
  | [], y :: _, _, _, h => by have := (h y).2 (by simp); simp at this
  | x :: _, [], _, _, h => by have := (h x).1 (by simp); simp at this
  | x :: r, y :: s, h1, h2, h => by
    obtain ⟨a1, a2⟩ := List.pairwise_cons.1 h1
    obtain ⟨b1, b2⟩ := List.pairwise_cons.1 h2
    have e : x = y := by
      have q1 := (h x).1 (by simp)
      have q2 := (h y).2 (by simp)
      rcases Q22 q1 with q1 | q1
      · exact q1
      · rcases Q22 q2 with q2 | q2
        · exact q2.symm
        · have := a1 y q2; have := b1 x q1; omega
    subst e
    rw [iX a2 b2 fun d => ?_]
    constructor
    · intro hd
      have := (h d).1 (by simp [hd])
      rcases Q22 this with q | q
      · have := a1 d hd; omega
      · exact q
    · intro hd
      have := (h d).2 (by simp [hd])
      rcases Q22 this with q | q
      · have := b1 d hd; omega
      · exact q
theorem i6 (n : Int) : ∀ (xs : List Int) (d : Int), d ∈ gY xs n ↔ d = n ∨ d ∈ xs
  | [], d => by simp [gY]
  | x :: r, d => by
    rw [gY]
    split
    · simp
    · rw [List.mem_cons, i6 n r, List.mem_cons]
      constructor
      · rintro (h | h | h)
        · exact Or.inr (Or.inl h)
        · exact Or.inl h
        · exact Or.inr (Or.inr h)
      · rintro (h | h | h)
        · exact Or.inr (Or.inl h)
        · exact Or.inl h
        · exact Or.inr (Or.inr h)
theorem j6 {n : Int} : ∀ {xs : List Int}, xs.Pairwise (· < ·) → n ∉ xs → (gY xs n).Pairwise (· < ·)
  | [], _, _ => by simp [gY]
  | x :: r, h, hn => by
    obtain ⟨h1, h2⟩ := List.pairwise_cons.1 h
    rw [gY]
    split
    · rename_i hlt
      refine List.pairwise_cons.2 ⟨fun y hy => ?_, h⟩
      rcases Q22 hy with rfl | hy
      · exact hlt
      · have := h1 y hy; omega
    · rename_i hlt
      have hne : n ≠ x := fun e => hn (by simp [e])
      refine List.pairwise_cons.2 ⟨fun y hy => ?_, j6 h2 (fun hm => hn (by simp [hm]))⟩
      rcases (i6 n r y).1 hy with rfl | hy
      · omega
      · exact h1 y hy
theorem rv {xs : List Int} {n : Int} (h : cM 0 xs = true) (hs : dI n = true) (hn : n ∉ xs) : gY xs n = bE xs (bW xs n) n := by
  obtain ⟨a, b⟩ := mn h hs hn
  exact iX (j6 (bi.1 h).2 hn) (bi.1 a).2 fun d => by rw [i6, b]
theorem rX {xs : List Int} {n : Int} (h : cM 0 xs = true) (hn : n ∈ xs) : (xs.filter fun x => decide (x ≠ n)) = bY xs (bW xs n) := by
  obtain ⟨a, b, _⟩ := mI h hn
  refine iX ((bi.1 h).2.filter _) (bi.1 a).2 fun d => ?_
  rw [b, List.mem_filter]
  simp [and_comm]
section
theorem sem_1 {p : Int} {xs : List Int} (h : dQ p xs = 0) : 1 ≤ p ∧ p ≤ 64 ∧ (xs.length : Int) ≤ p ∧ cM 0 xs = true := by
  unfold dQ at h
  split at h
  · assumption
  · omega
theorem oQ {xs : List Int} {n : Int} (h : cM 0 xs = true) : gw xs n = decide (n ∈ xs) := by
  have := fL (t := n) (bi.1 h).2
  cases e : gw xs n with
  | true => exact (decide_eq_true (this.1 e)).symm
  | false => exact (decide_eq_false fun hm => by rw [this.2 hm] at e; cases e).symm
@[reducible] def jy (op pol : Int) (key : List Int) (n : Int) : SV := .agg [.i .u8 op, .i .i64 pol, .d (ak 1 (ar .u8) key), .i .i64 n]
section
variable {p : Pol} {c : Cel} {pol n now s : Int} {key : List Int}
theorem one_D1 (h : g9 p.T p.tau [c.tat, now, n] = 0) : Pure TC 36 [p.S, c.S, jy 1 pol key n, .i .i64 now, .i .i64 s] (.tup [(cZ p c now n).S, (bU p c now n).S, .b ((cZ p c now n).g && decide (0 < n))]) := by
  obtain ⟨⟨hT, ht⟩, h3, h5, hn⟩ := (ey _ _ _ _ _).1 h
  have hD := oj (T := p.T) (tau := p.tau) (tat := c.tat) (now := now) (n := n) hT ht h3 h5 hn
  have e : fa p.T p.tau c.tat now n = fP p.T p.tau c.tat now n := by unfold fa; rw [if_pos h]
  have e1 : cZ p c now n = ⟨0, (fP p.T p.tau c.tat now n).g, (fP p.T p.tau c.tat now n).left, (fP p.T p.tau c.tat now n).wait, 0, now⟩ := by unfold cZ; rw [e]
  have e2 : bU p c now n = ⟨c.pol, c.key, (fP p.T p.tau c.tat now n).tat, c.held⟩ := by unfold bU; rw [e]
  rw [e1, e2]
  refine Pure.mk' Tryz.func36 rfl rfl (zzb rfl) ?_
  (repeat' (first
    | with_reducible refine Wp.seq ?_
    | with_reducible refine Wp.block ?_
    | ((with_reducible first | refine Wp.region ?_ | refine Wp.drawL ac ?_ | refine Wp.cond ?_ | refine Wp.ret ?_ | refine Wp.skip ?_ | refine Wp.exit ?_ | refine Go.mk ?_ | apply ao.of); conv => whnf)
    | with_reducible exact rfl
    | ((with_reducible refine Ov.ok zO ?_); conv => whnf)
    | (with_reducible refine Ov.sh1 (by with_unfolding_all exact rfl) ?_)
    | ((with_reducible refine Ov.quo (by omega) (by omega) (by omega) (fun _ _ => ?_)); conv => whnf)
    | ((with_reducible refine And.intro (show ah _ _ _ _ = true by kernel_rfl) ?_); conv => whnf)
    | ((with_reducible refine And.intro zC ?_); conv => whnf)
    | ((with_reducible refine And.intro ?hb ?_); (case hb => exact ae (zzb rfl) (by omega)); (conv => whnf))
    | ((refine af.a rfl rfl rfl rfl rfl rfl ?hb ?_); (case hb => exact zB); (conv => whnf))
    | ((refine af.b rfl rfl rfl rfl rfl rfl rfl rfl ?hb ?ho ?_); (case hb => exact zB); (case ho => omega); (conv => whnf))
    | ((refine af.c rfl rfl rfl rfl rfl ?hb ?_); (case hb => exact zB); (conv => whnf))
    | ((refine af.d rfl rfl rfl rfl rfl rfl ?hb ?ho ?_); (case hb => exact zB); (case ho => omega); (conv => whnf))
    | (with_reducible refine Or.inl ?_)
    | ((with_reducible refine IxA.ptr ?_); conv => whnf)
    | ((with_reducible refine nil_no (by omega) ?_); (conv => whnf))
    | ((with_reducible refine ag ?_ (fun hn0 => ?_)) <;> (conv => whnf))
    | ((with_reducible refine ab.pure (hD) rfl rfl ?_); conv => whnf) | ((with_reducible refine ai.pure (hD) rfl rfl ?_); conv => whnf)
    | ((refine ap (fun hc => ?_) (fun hc => ?_)) <;> (try simp only [decide_eq_true_eq, decide_eq_false_iff_not, Q5, Q20, Bool.and_eq_false_iff, Bool.or_eq_false_iff, Bool.not_eq_true', Bool.not_eq_false', beq_iff_eq, bne_iff_ne, ne_eq, beq_eq_false_iff_ne, bne_eq_false_iff_eq, Bool.not_eq_true, Bool.not_eq_false] at hc) <;> (try (exfalso; omega)) <;> (conv => whnf))))
  · rw [show (fP p.T p.tau c.tat now n).g = true by assumption]
    exact .tup (.cons (.rfl _) (.cons (.rfl _) (.cons (.rfl _) .nil)))
  · rw [show (fP p.T p.tau c.tat now n).g = false by assumption]
    exact .tup (.cons (.rfl _) (.cons (.rfl _) (.cons (.rfl _) .nil)))
theorem one_D2 (h : dQ p.permits c.held = 0) (hs : dI s = true) : Pure TC 36 [p.S, c.S, jy 2 pol key n, .i .i64 now, .i .i64 s] (.tup [(fS p c s).S, (ff p c s).S, .b (fS p c s).g]) := by
  obtain ⟨h1, h2, h3, h4⟩ := sem_1 h
  have hm := oQ (n := s) h4
  have hH := sH c.held s
  by_cases hmem : s ∈ c.held
  · rw [decide_eq_true hmem] at hH hm
    have e8 : aM p.permits c.held s = 8 := by
      unfold aM
      rw [if_neg (by rw [hs]; decide), if_neg (by rw [h]; simp), if_pos hm]
    have e1 : fS p c s = ⟨8, false, 0, 0, 0, 0⟩ := by unfold fS; rw [e8, if_neg (by decide)]
    have e2 : ff p c s = c := by unfold ff; rw [e8, if_neg (by decide)]
    rw [e1, e2]
    refine Pure.mk' Tryz.func36 rfl rfl (zzb rfl) ?_
    (repeat' (first
    | with_reducible refine Wp.seq ?_
    | with_reducible refine Wp.block ?_
    | ((with_reducible first | refine Wp.region ?_ | refine Wp.drawL ac ?_ | refine Wp.cond ?_ | refine Wp.ret ?_ | refine Wp.skip ?_ | refine Wp.exit ?_ | refine Go.mk ?_ | apply ao.of); conv => whnf)
    | with_reducible exact rfl
    | ((with_reducible refine Ov.ok zO ?_); conv => whnf)
    | (with_reducible refine Ov.sh1 (by with_unfolding_all exact rfl) ?_)
    | ((with_reducible refine Ov.quo (by omega) (by omega) (by omega) (fun _ _ => ?_)); conv => whnf)
    | ((with_reducible refine And.intro (show ah _ _ _ _ = true by kernel_rfl) ?_); conv => whnf)
    | ((with_reducible refine And.intro zC ?_); conv => whnf)
    | ((with_reducible refine And.intro ?hb ?_); (case hb => exact ae (zzb rfl) (by omega)); (conv => whnf))
    | ((refine af.a rfl rfl rfl rfl rfl rfl ?hb ?_); (case hb => exact zB); (conv => whnf))
    | ((refine af.b rfl rfl rfl rfl rfl rfl rfl rfl ?hb ?ho ?_); (case hb => exact zB); (case ho => omega); (conv => whnf))
    | ((refine af.c rfl rfl rfl rfl rfl ?hb ?_); (case hb => exact zB); (conv => whnf))
    | ((refine af.d rfl rfl rfl rfl rfl rfl ?hb ?ho ?_); (case hb => exact zB); (case ho => omega); (conv => whnf))
    | (with_reducible refine Or.inl ?_)
    | ((with_reducible refine IxA.ptr ?_); conv => whnf)
    | ((with_reducible refine nil_no (by omega) ?_); (conv => whnf))
    | ((with_reducible refine ag ?_ (fun hn0 => ?_)) <;> (conv => whnf))
    | ((with_reducible refine ab.pure (hH) rfl rfl ?_); conv => whnf) | ((with_reducible refine ai.pure (hH) rfl rfl ?_); conv => whnf)
    | ((refine ap (fun hc => ?_) (fun hc => ?_)) <;> (try simp only [decide_eq_true_eq, decide_eq_false_iff_not, Q5, Q20, Bool.and_eq_false_iff, Bool.or_eq_false_iff, Bool.not_eq_true', Bool.not_eq_false', beq_iff_eq, bne_iff_ne, ne_eq, beq_eq_false_iff_ne, bne_eq_false_iff_eq, Bool.not_eq_true, Bool.not_eq_false] at hc) <;> (try (exfalso; omega)) <;> (conv => whnf))))
    exact .tup (.cons (.rfl _) (.cons (.rfl _) (.cons (.rfl _) .nil)))
  · rw [decide_eq_false hmem] at hH hm
    by_cases hful : (c.held.length : Int) = p.permits
    · have e8 : aM p.permits c.held s = 9 := by
        unfold aM
        rw [if_neg (by rw [hs]; decide), if_neg (by rw [h]; simp), if_neg (by rw [hm]; decide), if_pos hful]
      have e1 : fS p c s = ⟨9, false, 0, 0, 0, 0⟩ := by unfold fS; rw [e8, if_neg (by decide)]
      have e2 : ff p c s = c := by unfold ff; rw [e8, if_neg (by decide)]
      rw [e1, e2]
      refine Pure.mk' Tryz.func36 rfl rfl (zzb rfl) ?_
      (repeat' (first
    | with_reducible refine Wp.seq ?_
    | with_reducible refine Wp.block ?_
    | ((with_reducible first | refine Wp.region ?_ | refine Wp.drawL ac ?_ | refine Wp.cond ?_ | refine Wp.ret ?_ | refine Wp.skip ?_ | refine Wp.exit ?_ | refine Go.mk ?_ | apply ao.of); conv => whnf)
    | with_reducible exact rfl
    | ((with_reducible refine Ov.ok zO ?_); conv => whnf)
    | (with_reducible refine Ov.sh1 (by with_unfolding_all exact rfl) ?_)
    | ((with_reducible refine Ov.quo (by omega) (by omega) (by omega) (fun _ _ => ?_)); conv => whnf)
    | ((with_reducible refine And.intro (show ah _ _ _ _ = true by kernel_rfl) ?_); conv => whnf)
    | ((with_reducible refine And.intro zC ?_); conv => whnf)
    | ((with_reducible refine And.intro ?hb ?_); (case hb => exact ae (zzb rfl) (by omega)); (conv => whnf))
    | ((refine af.a rfl rfl rfl rfl rfl rfl ?hb ?_); (case hb => exact zB); (conv => whnf))
    | ((refine af.b rfl rfl rfl rfl rfl rfl rfl rfl ?hb ?ho ?_); (case hb => exact zB); (case ho => omega); (conv => whnf))
    | ((refine af.c rfl rfl rfl rfl rfl ?hb ?_); (case hb => exact zB); (conv => whnf))
    | ((refine af.d rfl rfl rfl rfl rfl rfl ?hb ?ho ?_); (case hb => exact zB); (case ho => omega); (conv => whnf))
    | (with_reducible refine Or.inl ?_)
    | ((with_reducible refine IxA.ptr ?_); conv => whnf)
    | ((with_reducible refine nil_no (by omega) ?_); (conv => whnf))
    | ((with_reducible refine ag ?_ (fun hn0 => ?_)) <;> (conv => whnf))
    | ((with_reducible refine ab.pure (hH) rfl rfl ?_); conv => whnf) | ((with_reducible refine ai.pure (hH) rfl rfl ?_); conv => whnf)
    | ((refine ap (fun hc => ?_) (fun hc => ?_)) <;> (try simp only [decide_eq_true_eq, decide_eq_false_iff_not, Q5, Q20, Bool.and_eq_false_iff, Bool.or_eq_false_iff, Bool.not_eq_true', Bool.not_eq_false', beq_iff_eq, bne_iff_ne, ne_eq, beq_eq_false_iff_ne, bne_eq_false_iff_eq, Bool.not_eq_true, Bool.not_eq_false] at hc) <;> (try (exfalso; omega)) <;> (conv => whnf))))
      exact .tup (.cons (.rfl _) (.cons (.rfl _) (.cons (.rfl _) .nil)))
    · have e8 : aM p.permits c.held s = 0 := k8.2 ⟨hs, h, hm, hful⟩
      have ep := rv h4 hs hmem
      have eL : dC p.permits c.held s = gY c.held s := by unfold dC; rw [if_pos e8, ep]
      have el : (gY c.held s).length = c.held.length + 1 := by rw [ep, aD _ _ _ (gn _ _)]
      have e1 : fS p c s = ⟨0, true, p.permits - (gY c.held s).length, 0, s, 0⟩ := by unfold fS; rw [if_pos e8, eL]
      have e2 : ff p c s = ⟨c.pol, c.key, c.tat, gY c.held s⟩ := by unfold ff; rw [if_pos e8, eL]
      rw [e1, e2]
      have hF := i4 p ⟨c.pol, c.key, c.tat, gY c.held s⟩ (by omega) (by dsimp only; omega)
      refine Pure.mk' Tryz.func36 rfl rfl (zzb rfl) ?_
      (repeat' (first
    | with_reducible refine Wp.seq ?_
    | with_reducible refine Wp.block ?_
    | ((with_reducible first | refine Wp.region ?_ | refine Wp.drawL ac ?_ | refine Wp.cond ?_ | refine Wp.ret ?_ | refine Wp.skip ?_ | refine Wp.exit ?_ | refine Go.mk ?_ | apply ao.of); conv => whnf)
    | with_reducible exact rfl
    | ((with_reducible refine Ov.ok zO ?_); conv => whnf)
    | (with_reducible refine Ov.sh1 (by with_unfolding_all exact rfl) ?_)
    | ((with_reducible refine Ov.quo (by omega) (by omega) (by omega) (fun _ _ => ?_)); conv => whnf)
    | ((with_reducible refine And.intro (show ah _ _ _ _ = true by kernel_rfl) ?_); conv => whnf)
    | ((with_reducible refine And.intro zC ?_); conv => whnf)
    | ((with_reducible refine And.intro ?hb ?_); (case hb => exact ae (zzb rfl) (by omega)); (conv => whnf))
    | ((refine af.a rfl rfl rfl rfl rfl rfl ?hb ?_); (case hb => exact zB); (conv => whnf))
    | ((refine af.b rfl rfl rfl rfl rfl rfl rfl rfl ?hb ?ho ?_); (case hb => exact zB); (case ho => omega); (conv => whnf))
    | ((refine af.c rfl rfl rfl rfl rfl ?hb ?_); (case hb => exact zB); (conv => whnf))
    | ((refine af.d rfl rfl rfl rfl rfl rfl ?hb ?ho ?_); (case hb => exact zB); (case ho => omega); (conv => whnf))
    | (with_reducible refine Or.inl ?_)
    | ((with_reducible refine IxA.ptr ?_); conv => whnf)
    | ((with_reducible refine nil_no (by omega) ?_); (conv => whnf))
    | ((with_reducible refine ag ?_ (fun hn0 => ?_)) <;> (conv => whnf))
    | ((with_reducible refine ab.pure (hH) rfl rfl ?_); conv => whnf) | ((with_reducible refine ai.pure (hH) rfl rfl ?_); conv => whnf)
    | ((with_reducible refine ab.pure (sG c.held s (by omega)) rfl rfl ?_); conv => whnf) | ((with_reducible refine ai.pure (sG c.held s (by omega)) rfl rfl ?_); conv => whnf)
    | ((with_reducible refine ab.pure (hF) rfl rfl ?_); conv => whnf) | ((with_reducible refine ai.pure (hF) rfl rfl ?_); conv => whnf)
    | ((refine ap (fun hc => ?_) (fun hc => ?_)) <;> (try simp only [decide_eq_true_eq, decide_eq_false_iff_not, Q5, Q20, Bool.and_eq_false_iff, Bool.or_eq_false_iff, Bool.not_eq_true', Bool.not_eq_false', beq_iff_eq, bne_iff_ne, ne_eq, beq_eq_false_iff_ne, bne_eq_false_iff_eq, Bool.not_eq_true, Bool.not_eq_false] at hc) <;> (try (exfalso; omega)) <;> (conv => whnf))))
      exact .tup (.cons (.rfl _) (.cons (.rfl _) (.cons (.rfl _) .nil)))
theorem one_D3 (h : dQ p.permits c.held = 0) : Pure TC 36 [p.S, c.S, jy 3 pol key n, .i .i64 now, .i .i64 s] (.tup [(jU p c n).S, (fA p c n).S, .b (jU p c n).g]) := by
  obtain ⟨h1, h2, h3, h4⟩ := sem_1 h
  have hm := oQ (n := n) h4
  have hH := sH c.held n
  by_cases hmem : n ∈ c.held
  · rw [decide_eq_true hmem] at hH hm
    have e8 : ck p.permits c.held n = 0 := jo.2 ⟨h, hm⟩
    have ep := rX h4 hmem
    have eL : eb p.permits c.held n = c.held.filter fun x => decide (x ≠ n) := by unfold eb; rw [if_pos e8, ep]
    have el : (c.held.filter fun x => decide (x ≠ n)).length ≤ c.held.length := List.length_filter_le _ _
    have e1 : jU p c n = ⟨0, true, p.permits - (c.held.filter fun x => decide (x ≠ n)).length, 0, 0, 0⟩ := by unfold jU; rw [if_pos e8, eL]
    have e2 : fA p c n = ⟨c.pol, c.key, c.tat, c.held.filter fun x => decide (x ≠ n)⟩ := by unfold fA; rw [if_pos e8, eL]
    rw [e1, e2]
    have hF := i4 p ⟨c.pol, c.key, c.tat, c.held.filter fun x => decide (x ≠ n)⟩ (by omega) (by dsimp only; omega)
    refine Pure.mk' Tryz.func36 rfl rfl (zzb rfl) ?_
    (repeat' (first
    | with_reducible refine Wp.seq ?_
    | with_reducible refine Wp.block ?_
    | ((with_reducible first | refine Wp.region ?_ | refine Wp.drawL ac ?_ | refine Wp.cond ?_ | refine Wp.ret ?_ | refine Wp.skip ?_ | refine Wp.exit ?_ | refine Go.mk ?_ | apply ao.of); conv => whnf)
    | with_reducible exact rfl
    | ((with_reducible refine Ov.ok zO ?_); conv => whnf)
    | (with_reducible refine Ov.sh1 (by with_unfolding_all exact rfl) ?_)
    | ((with_reducible refine Ov.quo (by omega) (by omega) (by omega) (fun _ _ => ?_)); conv => whnf)
    | ((with_reducible refine And.intro (show ah _ _ _ _ = true by kernel_rfl) ?_); conv => whnf)
    | ((with_reducible refine And.intro zC ?_); conv => whnf)
    | ((with_reducible refine And.intro ?hb ?_); (case hb => exact ae (zzb rfl) (by omega)); (conv => whnf))
    | ((refine af.a rfl rfl rfl rfl rfl rfl ?hb ?_); (case hb => exact zB); (conv => whnf))
    | ((refine af.b rfl rfl rfl rfl rfl rfl rfl rfl ?hb ?ho ?_); (case hb => exact zB); (case ho => omega); (conv => whnf))
    | ((refine af.c rfl rfl rfl rfl rfl ?hb ?_); (case hb => exact zB); (conv => whnf))
    | ((refine af.d rfl rfl rfl rfl rfl rfl ?hb ?ho ?_); (case hb => exact zB); (case ho => omega); (conv => whnf))
    | (with_reducible refine Or.inl ?_)
    | ((with_reducible refine IxA.ptr ?_); conv => whnf)
    | ((with_reducible refine nil_no (by omega) ?_); (conv => whnf))
    | ((with_reducible refine ag ?_ (fun hn0 => ?_)) <;> (conv => whnf))
    | ((with_reducible refine ab.pure (hH) rfl rfl ?_); conv => whnf) | ((with_reducible refine ai.pure (hH) rfl rfl ?_); conv => whnf)
    | ((with_reducible refine ab.pure (oh c.held n (by omega)) rfl rfl ?_); conv => whnf) | ((with_reducible refine ai.pure (oh c.held n (by omega)) rfl rfl ?_); conv => whnf)
    | ((with_reducible refine ab.pure (hF) rfl rfl ?_); conv => whnf) | ((with_reducible refine ai.pure (hF) rfl rfl ?_); conv => whnf)
    | ((refine ap (fun hc => ?_) (fun hc => ?_)) <;> (try simp only [decide_eq_true_eq, decide_eq_false_iff_not, Q5, Q20, Bool.and_eq_false_iff, Bool.or_eq_false_iff, Bool.not_eq_true', Bool.not_eq_false', beq_iff_eq, bne_iff_ne, ne_eq, beq_eq_false_iff_ne, bne_eq_false_iff_eq, Bool.not_eq_true, Bool.not_eq_false] at hc) <;> (try (exfalso; omega)) <;> (conv => whnf))))
    exact .tup (.cons (.rfl _) (.cons (.rfl _) (.cons (.rfl _) .nil)))
  · rw [decide_eq_false hmem] at hH hm
    have e8 : ck p.permits c.held n = 11 := by
      unfold ck
      rw [if_neg (by rw [h]; simp), if_neg (by rw [hm]; decide)]
    have e1 : jU p c n = ⟨11, false, 0, 0, 0, 0⟩ := by unfold jU; rw [e8, if_neg (by decide)]
    have e2 : fA p c n = c := by unfold fA; rw [e8, if_neg (by decide)]
    rw [e1, e2]
    refine Pure.mk' Tryz.func36 rfl rfl (zzb rfl) ?_
    (repeat' (first
    | with_reducible refine Wp.seq ?_
    | with_reducible refine Wp.block ?_
    | ((with_reducible first | refine Wp.region ?_ | refine Wp.drawL ac ?_ | refine Wp.cond ?_ | refine Wp.ret ?_ | refine Wp.skip ?_ | refine Wp.exit ?_ | refine Go.mk ?_ | apply ao.of); conv => whnf)
    | with_reducible exact rfl
    | ((with_reducible refine Ov.ok zO ?_); conv => whnf)
    | (with_reducible refine Ov.sh1 (by with_unfolding_all exact rfl) ?_)
    | ((with_reducible refine Ov.quo (by omega) (by omega) (by omega) (fun _ _ => ?_)); conv => whnf)
    | ((with_reducible refine And.intro (show ah _ _ _ _ = true by kernel_rfl) ?_); conv => whnf)
    | ((with_reducible refine And.intro zC ?_); conv => whnf)
    | ((with_reducible refine And.intro ?hb ?_); (case hb => exact ae (zzb rfl) (by omega)); (conv => whnf))
    | ((refine af.a rfl rfl rfl rfl rfl rfl ?hb ?_); (case hb => exact zB); (conv => whnf))
    | ((refine af.b rfl rfl rfl rfl rfl rfl rfl rfl ?hb ?ho ?_); (case hb => exact zB); (case ho => omega); (conv => whnf))
    | ((refine af.c rfl rfl rfl rfl rfl ?hb ?_); (case hb => exact zB); (conv => whnf))
    | ((refine af.d rfl rfl rfl rfl rfl rfl ?hb ?ho ?_); (case hb => exact zB); (case ho => omega); (conv => whnf))
    | (with_reducible refine Or.inl ?_)
    | ((with_reducible refine IxA.ptr ?_); conv => whnf)
    | ((with_reducible refine nil_no (by omega) ?_); (conv => whnf))
    | ((with_reducible refine ag ?_ (fun hn0 => ?_)) <;> (conv => whnf))
    | ((with_reducible refine ab.pure (hH) rfl rfl ?_); conv => whnf) | ((with_reducible refine ai.pure (hH) rfl rfl ?_); conv => whnf)
    | ((refine ap (fun hc => ?_) (fun hc => ?_)) <;> (try simp only [decide_eq_true_eq, decide_eq_false_iff_not, Q5, Q20, Bool.and_eq_false_iff, Bool.or_eq_false_iff, Bool.not_eq_true', Bool.not_eq_false', beq_iff_eq, bne_iff_ne, ne_eq, beq_eq_false_iff_ne, bne_eq_false_iff_eq, Bool.not_eq_true, Bool.not_eq_false] at hc) <;> (try (exfalso; omega)) <;> (conv => whnf))))
    exact .tup (.cons (.rfl _) (.cons (.rfl _) (.cons (.rfl _) .nil)))
theorem one_D4s (hk : p.kind = 2) (hp : 1 ≤ p.permits ∧ p.permits ≤ 64) (hl : c.held.length ≤ 1000000) : Pure TC 36 [p.S, c.S, jy 4 pol key n, .i .i64 now, .i .i64 s] (.tup [(bX p c now).S, c.S, .b false]) := by
  have hF := i4 p c (by omega) (by omega)
  have e1 : bX p c now = ⟨0, false, p.permits - c.held.length, 0, 0, 0⟩ := by unfold bX; rw [if_pos hk]
  rw [e1]
  refine Pure.mk' Tryz.func36 rfl rfl (zzb rfl) ?_
  (repeat' (first
    | with_reducible refine Wp.seq ?_
    | with_reducible refine Wp.block ?_
    | ((with_reducible first | refine Wp.region ?_ | refine Wp.drawL ac ?_ | refine Wp.cond ?_ | refine Wp.ret ?_ | refine Wp.skip ?_ | refine Wp.exit ?_ | refine Go.mk ?_ | apply ao.of); conv => whnf)
    | with_reducible exact rfl
    | ((with_reducible refine Ov.ok zO ?_); conv => whnf)
    | (with_reducible refine Ov.sh1 (by with_unfolding_all exact rfl) ?_)
    | ((with_reducible refine Ov.quo (by omega) (by omega) (by omega) (fun _ _ => ?_)); conv => whnf)
    | ((with_reducible refine And.intro (show ah _ _ _ _ = true by kernel_rfl) ?_); conv => whnf)
    | ((with_reducible refine And.intro zC ?_); conv => whnf)
    | ((with_reducible refine And.intro ?hb ?_); (case hb => exact ae (zzb rfl) (by omega)); (conv => whnf))
    | ((refine af.a rfl rfl rfl rfl rfl rfl ?hb ?_); (case hb => exact zB); (conv => whnf))
    | ((refine af.b rfl rfl rfl rfl rfl rfl rfl rfl ?hb ?ho ?_); (case hb => exact zB); (case ho => omega); (conv => whnf))
    | ((refine af.c rfl rfl rfl rfl rfl ?hb ?_); (case hb => exact zB); (conv => whnf))
    | ((refine af.d rfl rfl rfl rfl rfl rfl ?hb ?ho ?_); (case hb => exact zB); (case ho => omega); (conv => whnf))
    | (with_reducible refine Or.inl ?_)
    | ((with_reducible refine IxA.ptr ?_); conv => whnf)
    | ((with_reducible refine nil_no (by omega) ?_); (conv => whnf))
    | ((with_reducible refine ag ?_ (fun hn0 => ?_)) <;> (conv => whnf))
    | ((with_reducible refine ab.pure (hF) rfl rfl ?_); conv => whnf) | ((with_reducible refine ai.pure (hF) rfl rfl ?_); conv => whnf)
    | ((refine ap (fun hc => ?_) (fun hc => ?_)) <;> (try simp only [decide_eq_true_eq, decide_eq_false_iff_not, Q5, Q20, Bool.and_eq_false_iff, Bool.or_eq_false_iff, Bool.not_eq_true', Bool.not_eq_false', beq_iff_eq, bne_iff_ne, ne_eq, beq_eq_false_iff_ne, bne_eq_false_iff_eq, Bool.not_eq_true, Bool.not_eq_false] at hc) <;> (try (exfalso; omega)) <;> (conv => whnf))))
  exact .tup (.cons (.rfl _) (.cons (.rfl _) (.cons (.rfl _) .nil)))
theorem one_D4r (hk : ¬ p.kind = 2) (h : g9 p.T p.tau [c.tat, now] = 0) : Pure TC 36 [p.S, c.S, jy 4 pol key n, .i .i64 now, .i .i64 s] (.tup [(bX p c now).S, c.S, .b false]) := by
  obtain ⟨⟨hT, ht⟩, h3, h5⟩ := (iF _ _ _ _).1 h
  have hL := i3 (T := p.T) (tau := p.tau) (tat := c.tat) (now := now) hT ht h3 h5
  have hS := r1_Sub c.tat now (by omega) (by omega)
  have e1 : bX p c now = ⟨0, false, aJ p.T p.tau c.tat now, max (c.tat - now) 0, 0, now⟩ := by
    unfold bX jL
    rw [if_neg hk, if_pos h, if_pos ((gK _ _).2 ⟨h3, h5⟩)]
  rw [e1]
  refine Pure.mk' Tryz.func36 rfl rfl (zzb rfl) ?_
  (repeat' (first
    | with_reducible refine Wp.seq ?_
    | with_reducible refine Wp.block ?_
    | ((with_reducible first | refine Wp.region ?_ | refine Wp.drawL ac ?_ | refine Wp.cond ?_ | refine Wp.ret ?_ | refine Wp.skip ?_ | refine Wp.exit ?_ | refine Go.mk ?_ | apply ao.of); conv => whnf)
    | with_reducible exact rfl
    | ((with_reducible refine Ov.ok zO ?_); conv => whnf)
    | (with_reducible refine Ov.sh1 (by with_unfolding_all exact rfl) ?_)
    | ((with_reducible refine Ov.quo (by omega) (by omega) (by omega) (fun _ _ => ?_)); conv => whnf)
    | ((with_reducible refine And.intro (show ah _ _ _ _ = true by kernel_rfl) ?_); conv => whnf)
    | ((with_reducible refine And.intro zC ?_); conv => whnf)
    | ((with_reducible refine And.intro ?hb ?_); (case hb => exact ae (zzb rfl) (by omega)); (conv => whnf))
    | ((refine af.a rfl rfl rfl rfl rfl rfl ?hb ?_); (case hb => exact zB); (conv => whnf))
    | ((refine af.b rfl rfl rfl rfl rfl rfl rfl rfl ?hb ?ho ?_); (case hb => exact zB); (case ho => omega); (conv => whnf))
    | ((refine af.c rfl rfl rfl rfl rfl ?hb ?_); (case hb => exact zB); (conv => whnf))
    | ((refine af.d rfl rfl rfl rfl rfl rfl ?hb ?ho ?_); (case hb => exact zB); (case ho => omega); (conv => whnf))
    | (with_reducible refine Or.inl ?_)
    | ((with_reducible refine IxA.ptr ?_); conv => whnf)
    | ((with_reducible refine nil_no (by omega) ?_); (conv => whnf))
    | ((with_reducible refine ag ?_ (fun hn0 => ?_)) <;> (conv => whnf))
    | ((with_reducible refine ab.pure (hL) rfl rfl ?_); conv => whnf) | ((with_reducible refine ai.pure (hL) rfl rfl ?_); conv => whnf)
    | ((with_reducible refine ab.pure (hS) rfl rfl ?_); conv => whnf) | ((with_reducible refine ai.pure (hS) rfl rfl ?_); conv => whnf)
    | ((refine ap (fun hc => ?_) (fun hc => ?_)) <;> (try simp only [decide_eq_true_eq, decide_eq_false_iff_not, Q5, Q20, Bool.and_eq_false_iff, Bool.or_eq_false_iff, Bool.not_eq_true', Bool.not_eq_false', beq_iff_eq, bne_iff_ne, ne_eq, beq_eq_false_iff_ne, bne_eq_false_iff_eq, Bool.not_eq_true, Bool.not_eq_false] at hc) <;> (try (exfalso; omega)) <;> (conv => whnf))))
  exact .tup (.cons (.rfl _) (.cons (.rfl _) (.cons (.rfl _) .nil)))
end
end
namespace Hist
theorem mA {a b : List HD} {k : Nat} (h : k < a.length) : (a ++ b).getD k default = a.getD k default := by
  rw [Q1, Q1, Q11 h]
def Good (ps : List Pol) (spare : Int) (g : List HD) : Prop := ∀ k, k < g.length → lZ ps spare (g.take k) (g.getD k default) = true
theorem Good.nil (ps : List Pol) (spare : Int) : Good ps spare [] := fun k hk => absurd hk (Nat.not_lt_zero k)
theorem Good.snoc {ps : List Pol} {spare : Int} {g : List HD} (h : Good ps spare g) {d : HD} (hd : lZ ps spare g d = true) : Good ps spare (g ++ [d]) := by
  intro k hk
  rw [Q9, List.length_singleton] at hk
  by_cases e : k < g.length
  · rw [List.take_append_of_le_length (by omega), mA e]
    exact h k e
  · obtain rfl : k = g.length := by omega
    rw [List.take_left]
    simpa [Q1] using hd
theorem Good.pre {ps : List Pol} {spare : Int} {a b : List HD} (h : Good ps spare (a ++ b)) : Good ps spare a := by
  intro k hk
  have := h k (by rw [Q9]; omega)
  rwa [List.take_append_of_le_length (by omega), mA hk] at this
theorem Good.at_ {ps : List Pol} {spare : Int} {a b : List HD} {d : HD} (h : Good ps spare (a ++ d :: b)) : lZ ps spare a d = true := by
  have := h a.length (by rw [Q9, List.length_cons]; omega)
  rw [List.take_left] at this
  simpa [Q1] using this
theorem lC : ∀ left : Nat, left < 256 → ∀ i : Nat, i < 8 → left.testBit i = true → ∀ j : Nat, j < 8 → (left - 2 ^ i).testBit j = (left.testBit j && !decide (j = i)) := by decide +kernel
theorem py {left j : Nat} (h : left < 256) (hj : left.testBit j = true) : j < 8 := by
  refine Classical.byContradiction fun h8 => ?_
  have h1 : left < 2 ^ j := Nat.lt_of_lt_of_le h (Q16 (show 0 < 2 by decide) (show 8 ≤ j by omega))
  rw [Nat.testBit_lt_two_pow h1] at hj
  cases hj
theorem bit_no : ∀ left : Nat, left < 256 → (∀ j : Nat, j < 8 → left.testBit j = false) → left = 0 := by decide +kernel
theorem bit_iff {left i : Nat} (h : left < 256) (hi : left.testBit i = true) (j : Nat) : (left - 2 ^ i).testBit j = true ↔ left.testBit j = true ∧ j ≠ i := by
  have hi8 := py h hi
  by_cases hj : j < 8
  · rw [lC left h i hi8 hi j hj]; simp
  · constructor
    · intro h9
      exact absurd (py (Nat.lt_of_le_of_lt (Nat.sub_le _ _) h) h9) hj
    · intro h9
      exact absurd (py h h9.1) hj
end Hist
section
section
variable {ps : List Pol} {room : Int} {xs : List Cel} {op pol : Int} {key : List Int} {n now serial : Int}
theorem dec_g {T tau tat now n : Int} (h : (fa T tau tat now n).g = true) : g9 T tau [tat, now, n] = 0 ∧ n ≤ aJ T tau tat now ∧ (fa T tau tat now n).tat = m6 T tau tat now n := by
  unfold fa at h ⊢
  split at h
  · rename_i h0
    rw [if_pos h0]
    exact ⟨h0, by simpa [fP] using h, rfl⟩
  · cases h
theorem one_tat {p : Pol} {c : Cel} (hg : (bV p c op n now serial).1.g = true) : c.tat ≤ (bV p c op n now serial).2.tat := by
  unfold bV at hg ⊢
  by_cases h1 : op = 1
  · rw [if_pos h1] at hg ⊢
    obtain ⟨h0, h2, h3⟩ := dec_g hg
    show c.tat ≤ (fa p.T p.tau c.tat now n).tat
    rw [h3]
    obtain ⟨⟨a1, a2⟩, _⟩ := (ey _ _ _ _ _).1 h0
    unfold m6
    split
    · rename_i h5
      have : 0 ≤ n * p.T := Int.mul_nonneg (by omega) (by omega)
      omega
    · omega
  · rw [if_neg h1] at hg ⊢
    split
    · unfold ff; split <;> exact Int.le_refl _
    · unfold fA; split <;> exact Int.le_refl _
end
end
section
def jD (p : Pol) (c : Cel) : Prop := if p.kind = 2 then c.tat = 0 else c.held = [] ∧ 0 ≤ c.tat
section
variable {ps : List Pol} {room : Int} {xs ys : List Cel} {op pol : Int} {key : List Int} {n now serial : Int}
theorem kg {T tau tat now : Int} (h1 : tat ≤ now) (h2 : 0 ≤ now) : aJ T tau tat now = aJ T tau 0 now := by
  unfold aJ
  rw [show max tat now = now by omega, show max (0 : Int) now = now by omega]
theorem nR : bk 0 = true := (bp 0).2 ⟨by omega, by omega⟩
theorem mN {T tau tat now n : Int} (h0 : 0 ≤ tat) (h1 : tat ≤ now) (h3 : now ≤ 4611686018427387903) : g9 T tau [tat, now, n] = g9 T tau [0, now, n] ∧ g9 T tau [tat, now] = g9 T tau [0, now] := by
  have : bk tat = true := (bp _).2 ⟨h0, by omega⟩
  unfold g9
  simp only [List.all_cons, this, nR, Bool.true_and]
  exact ⟨trivial, trivial⟩
theorem jI {T tau tat now n : Int} (hT : 1 ≤ T) (ht : 0 ≤ tau) (h1 : tat ≤ now) (hn : ¬ n ≤ aJ T tau tat now) : cK T tau tat now n = 4611686018427387903 := by
  unfold cK
  rw [if_neg]
  rintro ⟨a, b⟩
  refine hn ?_
  unfold aJ
  rw [show max tat now = now by omega] at b ⊢
  have : n - 1 ≤ tau / T := (Int.le_ediv_iff_mul_le (show 0 < T by omega)).2 a
  rw [if_neg (by omega), show tau - (now - now) = tau by omega]
  omega
theorem sa {T tau tat now n : Int} (h0 : 0 ≤ tat) (h1 : tat ≤ now) (h3 : now ≤ 4611686018427387903) :
    (fa T tau tat now n).g = (fa T tau 0 now n).g ∧ (fa T tau tat now n).wait = (fa T tau 0 now n).wait ∧ (fa T tau tat now n).left = (fa T tau 0 now n).left ∧ ((fa T tau tat now n).g = true → n ≠ 0 → (fa T tau tat now n).tat = (fa T tau 0 now n).tat) := by
  have hl : aJ T tau tat now = aJ T tau 0 now := kg h1 (by omega)
  have hc := (mN (T := T) (tau := tau) (n := n) h0 h1 h3).1
  unfold fa
  rw [hc]
  split
  · rename_i h9
    obtain ⟨⟨a1, a2⟩, _, _, a5⟩ := (ey _ _ _ _ _).1 h9
    unfold fP
    simp only [hl]
    have hm : max tat now = max 0 now := by omega
    refine ⟨trivial, ?_, ?_, ?_⟩
    · split
      · rfl
      · rename_i hn
        rw [jI a1.1 a2.1 h1 (by rw [hl]; exact hn), jI a1.1 a2.1 (by omega) hn]
    · unfold m6
      rw [hl, hm]
      split
      · rfl
      · exact hl
    · intro hg hn
      unfold m6
      rw [hl, hm, if_pos ⟨by simpa using hg, by omega⟩, if_pos ⟨by simpa using hg, by omega⟩]
  · exact ⟨rfl, rfl, rfl, fun _ _ => rfl⟩
theorem oK (hE : bJ ps op pol key n now serial = 0) : (op = 1 → (ps.getD pol.toNat default).kind = 1) ∧ (op = 2 ∨ op = 3 → (ps.getD pol.toNat default).kind = 2) := by
  obtain ⟨_, _, _, _, _, _, _, h⟩ := fx hE
  unfold fC at h
  constructor
  · intro h1
    subst h1
    simpa using h
  · intro h1
    have := h (by split <;> omega)
    rw [this]
    split
    · omega
    · rfl
theorem ko {c : Cel} (hcl : jD (ps.getD c.pol.toNat default) c) (hid : idn c = pol :: key) (hi : aQ ps c now = true) (hop : op < 5) : aT ps (some c) op pol key n now serial = aT ps none op pol key n now serial := by
  unfold aT
  split
  · rfl
  · rename_i hE
    have hE : bJ ps op pol key n now serial = 0 := Classical.byContradiction hE
    obtain ⟨k1, k2⟩ := oK hE
    obtain ⟨hnow, hop1, _⟩ := fx hE
    have e1 : c.pol = pol ∧ c.key = key := by simpa [idn] using hid
    rw [e1.1] at hcl
    unfold aQ at hi
    rw [e1.1] at hi
    unfold jD at hcl
    by_cases hk : (ps.getD pol.toNat default).kind = 2
    · rw [if_pos hk] at hcl hi
      have hh : c.held = [] := by
        have : c.held.length = 0 := by simpa using hi
        exact List.length_eq_zero_iff.1 this
      have : c = aw pol key := by
        cases c with | mk a b d e =>
        simp only at hcl hh e1
        rw [e1.1, e1.2, hcl, hh]; rfl
      rw [this]; rfl
    · rw [if_neg hk] at hcl hi
      have hi : c.tat ≤ now := by simpa using hi
      have hop2 : op = 1 ∨ op = 4 := by
        have : ¬ (op = 2 ∨ op = 3) := fun h => hk (k2 h)
        revert this hop hop1
        generalize op = o
        omega
      unfold bS
      simp only [Option.getD_some, Option.getD_none]
      rcases hop2 with h1 | h1
      · have h4 : ¬ op = 4 := by omega
        rw [if_neg h4, if_neg h4, c9 h1, c9 h1]
        obtain ⟨d1, d2, d3, d4⟩ := sa (T := (ps.getD pol.toNat default).T) (tau := (ps.getD pol.toNat default).tau) (n := n) hcl.2 hi hnow.2
        have hR : cZ (ps.getD pol.toNat default) c now n = cZ (ps.getD pol.toNat default) (aw pol key) now n := by
          unfold cZ
          simp only [aw, d1, d2, d3]
        simp only [hR]
        split
        · rfl
        · rename_i h9
          have hg : (fa (ps.getD pol.toNat default).T (ps.getD pol.toNat default).tau 0 now n).g = true := by
            cases h : (fa (ps.getD pol.toNat default).T (ps.getD pol.toNat default).tau 0 now n).g with
            | true => rfl
            | false => exact absurd (Or.inl h) h9
          have hn : n ≠ 0 := fun h => h9 (Or.inr ⟨h1, h⟩)
          have hC : bU (ps.getD pol.toNat default) c now n = bU (ps.getD pol.toNat default) (aw pol key) now n := by
            unfold bU
            simp only [aw, e1.1, e1.2, hcl.1, d4 (by rw [d1]; exact hg) hn]
          rw [hC]
      · rw [if_pos h1, if_pos h1]
        refine Prod.ext ?_ rfl
        show bX _ _ _ = bX _ _ _
        unfold bX
        rw [if_neg hk, if_neg hk]
        have e2 := (mN (T := (ps.getD pol.toNat default).T) (tau := (ps.getD pol.toNat default).tau) (n := n) hcl.2 hi hnow.2).2
        have e3 : aJ (ps.getD pol.toNat default).T (ps.getD pol.toNat default).tau c.tat now = aJ (ps.getD pol.toNat default).T (ps.getD pol.toNat default).tau 0 now := kg hi hnow.1
        have e4 : jL c.tat now = jL 0 now := by
          unfold jL
          rw [show max (c.tat - now) 0 = 0 by omega, show max (0 - now) 0 = 0 by omega]
          split <;> split <;> rfl
        simp only [aw, e2, e3, e4]
        rfl
theorem ie {o : Option Cel} {c : Cel} (ho : ∀ d, o = some d → jD (ps.getD d.pol.toNat default) d ∧ idn d = pol :: key) (hop : op < 5) (h : (aT ps o op pol key n now serial).2 = some c) : jD (ps.getD c.pol.toNat default) c ∧ idn c = pol :: key := by
  unfold aT at h
  split at h
  · cases h
  · rename_i hE
    have hE : bJ ps op pol key n now serial = 0 := Classical.byContradiction hE
    have hid : idn c = pol :: key := jx (fun d hd => (ho d hd).2) h
    refine ⟨?_, hid⟩
    obtain ⟨k1, k2⟩ := oK hE
    obtain ⟨hnow, hop1, _⟩ := fx hE
    have e1 : c.pol = pol ∧ c.key = key := by simpa [idn] using hid
    rw [e1.1]
    have hb : jD (ps.getD pol.toNat default) (o.getD (aw pol key)) := by
      cases o with
      | none =>
        unfold jD
        split
        · rfl
        · exact ⟨rfl, Int.le_refl _⟩
      | some d =>
        obtain ⟨h1, h2⟩ := ho d rfl
        have : d.pol = pol := by simp only [idn, List.cons.injEq] at h2; exact h2.1
        rw [this] at h1; exact h1
    unfold bS at h
    generalize o.getD (aw pol key) = b at hb h
    split at h
    · cases h
    · split at h
      · cases h
      · rename_i h4 h9
        simp only [Option.some.injEq] at h
        rw [← h]
        unfold jD at hb ⊢
        by_cases h1 : op = 1
        · have hk := k1 h1
          rw [if_neg (by omega)] at hb ⊢
          have hg : (bV (ps.getD pol.toNat default) b op n now serial).1.g = true := by
            cases hg : (bV (ps.getD pol.toNat default) b op n now serial).1.g with
            | true => rfl
            | false => exact absurd (Or.inl hg) h9
          have := one_tat hg
          refine ⟨?_, by omega⟩
          rw [c9 h1]; exact hb.1
        · have hk := k2 (by omega)
          rw [if_pos hk] at hb ⊢
          by_cases h2 : op = 2
          · rw [dF h2]
            simp only [ff]
            split <;> exact hb
          · rw [dZ (by omega)]
            simp only [fA]
            split <;> exact hb
structure Ev (ps : List Pol) (now : Int) (xs ys : List Cel) : Prop where
  rel : ∀ i, look ys i = look xs i ∨ (look ys i = none ∧ ∃ c, look xs i = some c ∧ aQ ps c now = true)
  cl : ∀ i c, look xs i = some c → jD (ps.getD c.pol.toNat default) c
theorem Ev.nil : Ev ps now [] [] := ⟨fun i => Or.inl rfl, fun i c h => by simp [look] at h⟩
theorem Ev.mono (h : Ev ps now xs ys) {m : Int} (hm : now ≤ m) : Ev ps m xs ys := by
  refine ⟨fun i => ?_, h.cl⟩
  rcases h.rel i with h1 | ⟨h1, c, h2, h3⟩
  · exact Or.inl h1
  · refine Or.inr ⟨h1, c, h2, ?_⟩
    unfold aQ at h3 ⊢
    split
    · rename_i hk; rw [if_pos hk] at h3; exact h3
    · rename_i hk
      rw [if_neg hk] at h3
      have : c.tat ≤ now := by simpa using h3
      exact decide_eq_true (by omega)
theorem Ev.step (h : Ev ps now xs ys) (hx : gN ps room xs) (hy : gN ps room ys) (hop : op < 5) (hrx : (xs.length : Int) < room) (hry : (ys.length : Int) < room) :
    (doS ps room ys op pol key n now serial).1 = (doS ps room xs op pol key n now serial).1 ∧ Ev ps now (doS ps room xs op pol key n now serial).2 (doS ps room ys op pol key n now serial).2 := by
  obtain ⟨a1, a2, _⟩ := e7 (op := op) (pol := pol) (key := key) (n := n) (now := now) (serial := serial) hx hop hrx
  obtain ⟨b1, b2, _⟩ := e7 (op := op) (pol := pol) (key := key) (n := n) (now := now) (serial := serial) hy hop hry
  have e : aT ps (look ys (pol :: key)) op pol key n now serial = aT ps (look xs (pol :: key)) op pol key n now serial := by
    rcases h.rel (pol :: key) with h1 | ⟨h1, c, h2, h3⟩
    · rw [h1]
    · rw [h1, h2]
      exact (ko (h.cl _ c h2) (bu h2).2 h3 hop).symm
  rw [e] at b1 b2
  refine ⟨b1.trans a1.symm, fun i => ?_, fun i c hc => ?_⟩
  · rw [a2, b2]
    split
    · rename_i hi
      subst hi
      cases (aT ps (look xs (pol :: key)) op pol key n now serial).2 with
      | none => rw [Option.none_or, Option.none_or]; exact h.rel _
      | some d => rw [Option.some_or, Option.some_or]; exact Or.inl rfl
    · exact h.rel i
  · rw [a2] at hc
    split at hc
    · cases hs : (aT ps (look xs (pol :: key)) op pol key n now serial).2 with
      | none => rw [hs, Option.none_or] at hc; exact h.cl _ _ hc
      | some d =>
        rw [hs, Option.some_or] at hc
        cases hc
        exact (ie (fun d hd => ⟨h.cl _ _ hd, (bu hd).2⟩) hop hs).1
    · exact h.cl _ _ hc
theorem Ev.stay (h : Ev ps now xs ys) (hy : gN ps room ys) : Ev ps now xs (stay ps now ys) := by
  refine ⟨fun i => ?_, h.cl⟩
  rw [jR hy.srt]
  rcases h.rel i with h1 | ⟨h1, h2⟩
  · rw [h1]
    cases hl : look xs i with
    | none => exact Or.inl rfl
    | some c =>
      by_cases hi : aQ ps c now = true
      · refine Or.inr ⟨?_, c, rfl, hi⟩
        simp [Option.filter, hi]
      · refine Or.inl ?_
        simp [Option.filter, hi]
  · rw [h1]
    exact Or.inr ⟨rfl, h2⟩
theorem Ev.len (h : Ev ps now xs ys) (hx : gN ps room xs) (hy : gN ps room ys) : ys.length ≤ xs.length := by
  have : ys = xs.filter fun c => (look ys (idn c)).isSome := by
    refine nV hy.srt (hx.srt.filter _) fun i => ?_
    rw [gD hx.srt]
    rcases h.rel i with h1 | ⟨h1, c, h2, _⟩
    · cases hl : look xs i with
      | none => rw [h1, hl]; rfl
      | some c =>
        have h3 := (bu hl).2
        have : (look ys (idn c)).isSome = true := by rw [h3, h1, hl]; rfl
        simp only [Option.filter, this, if_true]
        rw [h1, hl]
    · have h3 := (bu h2).2
      have : (look ys (idn c)).isSome = false := by rw [h3, h1]; rfl
      rw [h1, h2]
      simp [Option.filter, this]
  rw [this]
  exact List.length_filter_le _ _
end
end
end Go.Proofs.YtlplngmpggkloaaGreat
