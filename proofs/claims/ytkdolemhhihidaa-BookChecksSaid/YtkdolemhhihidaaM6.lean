/- Parts of the proof, one behind the other: Bk4, Sx21, Sx22, Bk5, Bk6. Lemmas and contracts of functions; no condition of its own. -/
import Derived.Test.YtkdolemhhihidaaM5
set_option linter.unusedVariables false
set_option linter.unusedSimpArgs false
namespace Go.Proofs.Ytkdolemhhihidaa
open Go.RowKit
set_option maxRecDepth 100000

theorem cmp_isNaN (n : Int) : Pure TC 86 [.i .i64 n] (.b false) := by
  refine Pure.mk' Try.func86 rfl rfl (Nat.le_of_ble_eq_true rfl) ?_
  (repeat' (first
    | with_reducible refine Wp.seq ?_
    | with_reducible refine Wp.block ?_
    | ((with_reducible refine Wp.region ?_); conv => whnf)
    | ((with_reducible refine Wp.drawL TC_mixed ?_); conv => whnf)
    | ((with_reducible refine Wp.cond ?_); conv => whnf)
    | ((with_reducible refine Wp.ret ?_); conv => whnf)
    | ((with_reducible refine Wp.skip ?_); conv => whnf)
    | ((with_reducible refine Wp.exit ?_); conv => whnf)
    | ((with_reducible refine Go.mk ?_); conv => whnf)
    | ((with_reducible apply Eff1.of); conv => whnf)
    | with_reducible exact rfl
    | ((with_reducible refine Ov.ok (by first | exact IntWalk.i64_in _ (by omega) | exact IntWalk.u64_in _ (by omega) | exact IntWalk.u8_in _ (by omega) | exact IntWalk.u32_in _ (by omega) | exact IntWalk.i32_in _ (by omega) | exact IntWalk.u16_in _ (by omega)) ?_); conv => whnf)
    | (with_reducible refine Ov.sh1 (by with_unfolding_all exact rfl) ?_)
    | ((with_reducible refine Ov.quo (by omega) (by omega) (by omega) (fun _ _ => ?_)); conv => whnf)
    | ((with_reducible refine And.intro (show drawOK _ _ _ _ = true by kernel_rfl) ?_); conv => whnf)
    | ((with_reducible refine And.intro (by first | omega | exact Nat.le_of_ble_eq_true rfl) ?_); conv => whnf)
    | ((with_reducible refine And.intro ?hb ?_); (case hb => exact bytes_bd (Nat.le_of_ble_eq_true rfl) (by omega)); (conv => whnf))
    | ((refine DApp.a rfl rfl rfl rfl rfl rfl ?hb ?_); (case hb => first | exact bytes_bd (Nat.le_of_ble_eq_true rfl) (by omega) | omega); (conv => whnf))
    | ((refine DApp.b rfl rfl rfl rfl rfl rfl rfl rfl ?hb ?ho ?_); (case hb => first | exact bytes_bd (Nat.le_of_ble_eq_true rfl) (by omega) | omega); (case ho => omega); (conv => whnf))
    | ((refine DApp.c rfl rfl rfl rfl rfl ?hb ?_); (case hb => first | exact bytes_bd (Nat.le_of_ble_eq_true rfl) (by omega) | omega); (conv => whnf))
    | ((refine DApp.d rfl rfl rfl rfl rfl rfl ?hb ?ho ?_); (case hb => first | exact bytes_bd (Nat.le_of_ble_eq_true rfl) (by omega) | omega); (case ho => omega); (conv => whnf))
    | ((with_reducible refine nil_no (by omega) ?_); (conv => whnf))
    | ((with_reducible refine nil_any ?_ (fun hn0 => ?_)) <;> (conv => whnf))
    
    | ((refine ways (fun hc => ?_) (fun hc => ?_)) <;> (try simp only [decide_eq_true_eq, decide_eq_false_iff_not, Bool.and_eq_true, Bool.or_eq_true, Bool.and_eq_false_iff, Bool.or_eq_false_iff, Bool.not_eq_true', Bool.not_eq_false', beq_iff_eq, bne_iff_ne, ne_eq, beq_eq_false_iff_ne, bne_eq_false_iff_eq, Bool.not_eq_true, Bool.not_eq_false] at hc) <;> (try (exfalso; omega)) <;> (conv => whnf))))
  all_goals exact .b (by simp)
theorem slices_isNaN (n : Int) : Pure TC 80 [.i .i64 n] (.b false) := by
  refine Pure.mk' Try.func80 rfl rfl (Nat.le_of_ble_eq_true rfl) ?_
  (repeat' (first
    | with_reducible refine Wp.seq ?_
    | with_reducible refine Wp.block ?_
    | ((with_reducible refine Wp.region ?_); conv => whnf)
    | ((with_reducible refine Wp.drawL TC_mixed ?_); conv => whnf)
    | ((with_reducible refine Wp.cond ?_); conv => whnf)
    | ((with_reducible refine Wp.ret ?_); conv => whnf)
    | ((with_reducible refine Wp.skip ?_); conv => whnf)
    | ((with_reducible refine Wp.exit ?_); conv => whnf)
    | ((with_reducible refine Go.mk ?_); conv => whnf)
    | ((with_reducible apply Eff1.of); conv => whnf)
    | with_reducible exact rfl
    | ((with_reducible refine Ov.ok (by first | exact IntWalk.i64_in _ (by omega) | exact IntWalk.u64_in _ (by omega) | exact IntWalk.u8_in _ (by omega) | exact IntWalk.u32_in _ (by omega) | exact IntWalk.i32_in _ (by omega) | exact IntWalk.u16_in _ (by omega)) ?_); conv => whnf)
    | (with_reducible refine Ov.sh1 (by with_unfolding_all exact rfl) ?_)
    | ((with_reducible refine Ov.quo (by omega) (by omega) (by omega) (fun _ _ => ?_)); conv => whnf)
    | ((with_reducible refine And.intro (show drawOK _ _ _ _ = true by kernel_rfl) ?_); conv => whnf)
    | ((with_reducible refine And.intro (by first | omega | exact Nat.le_of_ble_eq_true rfl) ?_); conv => whnf)
    | ((with_reducible refine And.intro ?hb ?_); (case hb => exact bytes_bd (Nat.le_of_ble_eq_true rfl) (by omega)); (conv => whnf))
    | ((refine DApp.a rfl rfl rfl rfl rfl rfl ?hb ?_); (case hb => first | exact bytes_bd (Nat.le_of_ble_eq_true rfl) (by omega) | omega); (conv => whnf))
    | ((refine DApp.b rfl rfl rfl rfl rfl rfl rfl rfl ?hb ?ho ?_); (case hb => first | exact bytes_bd (Nat.le_of_ble_eq_true rfl) (by omega) | omega); (case ho => omega); (conv => whnf))
    | ((refine DApp.c rfl rfl rfl rfl rfl ?hb ?_); (case hb => first | exact bytes_bd (Nat.le_of_ble_eq_true rfl) (by omega) | omega); (conv => whnf))
    | ((refine DApp.d rfl rfl rfl rfl rfl rfl ?hb ?ho ?_); (case hb => first | exact bytes_bd (Nat.le_of_ble_eq_true rfl) (by omega) | omega); (case ho => omega); (conv => whnf))
    | ((with_reducible refine nil_no (by omega) ?_); (conv => whnf))
    | ((with_reducible refine nil_any ?_ (fun hn0 => ?_)) <;> (conv => whnf))
    
    | ((refine ways (fun hc => ?_) (fun hc => ?_)) <;> (try simp only [decide_eq_true_eq, decide_eq_false_iff_not, Bool.and_eq_true, Bool.or_eq_true, Bool.and_eq_false_iff, Bool.or_eq_false_iff, Bool.not_eq_true', Bool.not_eq_false', beq_iff_eq, bne_iff_ne, ne_eq, beq_eq_false_iff_ne, bne_eq_false_iff_eq, Bool.not_eq_true, Bool.not_eq_false] at hc) <;> (try (exfalso; omega)) <;> (conv => whnf))))
  all_goals exact .b (by simp)
theorem cmp_Less (a b : Int) : Pure TC 79 [.i .i64 a, .i .i64 b] (.b (decide (a < b))) := by
  refine Pure.mk' Try.func79 rfl rfl (Nat.le_of_ble_eq_true rfl) ?_
  (repeat' (first
    | with_reducible refine Wp.seq ?_
    | with_reducible refine Wp.block ?_
    | ((with_reducible refine Wp.region ?_); conv => whnf)
    | ((with_reducible refine Wp.drawL TC_mixed ?_); conv => whnf)
    | ((with_reducible refine Wp.cond ?_); conv => whnf)
    | ((with_reducible refine Wp.ret ?_); conv => whnf)
    | ((with_reducible refine Wp.skip ?_); conv => whnf)
    | ((with_reducible refine Wp.exit ?_); conv => whnf)
    | ((with_reducible refine Go.mk ?_); conv => whnf)
    | ((with_reducible apply Eff1.of); conv => whnf)
    | with_reducible exact rfl
    | ((with_reducible refine Ov.ok (by first | exact IntWalk.i64_in _ (by omega) | exact IntWalk.u64_in _ (by omega) | exact IntWalk.u8_in _ (by omega) | exact IntWalk.u32_in _ (by omega) | exact IntWalk.i32_in _ (by omega) | exact IntWalk.u16_in _ (by omega)) ?_); conv => whnf)
    | (with_reducible refine Ov.sh1 (by with_unfolding_all exact rfl) ?_)
    | ((with_reducible refine Ov.quo (by omega) (by omega) (by omega) (fun _ _ => ?_)); conv => whnf)
    | ((with_reducible refine And.intro (show drawOK _ _ _ _ = true by kernel_rfl) ?_); conv => whnf)
    | ((with_reducible refine And.intro (by first | omega | exact Nat.le_of_ble_eq_true rfl) ?_); conv => whnf)
    | ((with_reducible refine And.intro ?hb ?_); (case hb => exact bytes_bd (Nat.le_of_ble_eq_true rfl) (by omega)); (conv => whnf))
    | ((refine DApp.a rfl rfl rfl rfl rfl rfl ?hb ?_); (case hb => first | exact bytes_bd (Nat.le_of_ble_eq_true rfl) (by omega) | omega); (conv => whnf))
    | ((refine DApp.b rfl rfl rfl rfl rfl rfl rfl rfl ?hb ?ho ?_); (case hb => first | exact bytes_bd (Nat.le_of_ble_eq_true rfl) (by omega) | omega); (case ho => omega); (conv => whnf))
    | ((refine DApp.c rfl rfl rfl rfl rfl ?hb ?_); (case hb => first | exact bytes_bd (Nat.le_of_ble_eq_true rfl) (by omega) | omega); (conv => whnf))
    | ((refine DApp.d rfl rfl rfl rfl rfl rfl ?hb ?ho ?_); (case hb => first | exact bytes_bd (Nat.le_of_ble_eq_true rfl) (by omega) | omega); (case ho => omega); (conv => whnf))
    | ((with_reducible refine nil_no (by omega) ?_); (conv => whnf))
    | ((with_reducible refine nil_any ?_ (fun hn0 => ?_)) <;> (conv => whnf))
    | ((with_reducible refine CallStop.pure (cmp_isNaN _) rfl rfl ?_); conv => whnf) | ((with_reducible refine DCall.pure (cmp_isNaN _) rfl rfl ?_); conv => whnf)
    | ((refine ways (fun hc => ?_) (fun hc => ?_)) <;> (try simp only [decide_eq_true_eq, decide_eq_false_iff_not, Bool.and_eq_true, Bool.or_eq_true, Bool.and_eq_false_iff, Bool.or_eq_false_iff, Bool.not_eq_true', Bool.not_eq_false', beq_iff_eq, bne_iff_ne, ne_eq, beq_eq_false_iff_ne, bne_eq_false_iff_eq, Bool.not_eq_true, Bool.not_eq_false] at hc) <;> (try (exfalso; omega)) <;> (conv => whnf))))
  all_goals exact .b (by simp; try omega)
def bsF (lt : Nat → Bool) : Nat → Nat → Nat → Nat
  | 0, i, _ => i
  | n + 1, i, j => if i < j then (if lt ((i + j) / 2) then bsF lt n ((i + j) / 2 + 1) j else bsF lt n i ((i + j) / 2)) else i
def bs (lt : Nat → Bool) (n : Nat) : Nat := bsF lt (n + 1) 0 n
def posI (xs : List Int) (t : Int) : Nat := bs (fun k => decide (xs.getD k default < t)) xs.length
theorem bsF_end {lt : Nat → Bool} {q i j : Nat} (h : ¬ i < j) : bsF lt q i j = i := by cases q <;> simp [bsF, h]
def hasI (xs : List Int) (t : Int) : Bool := decide (posI xs t < xs.length) && decide (xs.getD (posI xs t) default = t)
theorem search_i64 (xs : List Int) (t : Int) (hlen : xs.length ≤ 4611686018427387903) : Pure TC 72 [.d (slOf 1 (encI .i64) xs), .i .i64 t] (.tup [.i .i64 (posI xs t), .b (hasI xs t)]) := by
  refine Pure.mk' Try.func72 rfl rfl (Nat.le_of_ble_eq_true rfl) ?_
  (repeat' (first
    | with_reducible refine Wp.seq ?_
    | with_reducible refine Wp.block ?_
    | ((with_reducible refine Wp.region ?_); conv => whnf)
    | ((with_reducible refine Wp.drawL TC_mixed ?_); conv => whnf)
    | ((with_reducible refine Wp.cond ?_); conv => whnf)
    | ((with_reducible refine Wp.ret ?_); conv => whnf)
    | ((with_reducible refine Wp.skip ?_); conv => whnf)
    | ((with_reducible refine Wp.exit ?_); conv => whnf)
    | ((with_reducible refine Go.mk ?_); conv => whnf)
    | ((with_reducible apply Eff1.of); conv => whnf)
    | with_reducible exact rfl
    | ((with_reducible refine Ov.ok (by first | exact IntWalk.i64_in _ (by omega) | exact IntWalk.u64_in _ (by omega) | exact IntWalk.u8_in _ (by omega) | exact IntWalk.u32_in _ (by omega) | exact IntWalk.i32_in _ (by omega) | exact IntWalk.u16_in _ (by omega)) ?_); conv => whnf)
    | (with_reducible refine Ov.sh1 (by with_unfolding_all exact rfl) ?_)
    | ((with_reducible refine Ov.quo (by omega) (by omega) (by omega) (fun _ _ => ?_)); conv => whnf)
    | ((with_reducible refine And.intro (show drawOK _ _ _ _ = true by kernel_rfl) ?_); conv => whnf)
    | ((with_reducible refine And.intro (by first | omega | exact Nat.le_of_ble_eq_true rfl) ?_); conv => whnf)
    | ((with_reducible refine And.intro ?hb ?_); (case hb => exact bytes_bd (Nat.le_of_ble_eq_true rfl) (by omega)); (conv => whnf))
    | ((refine DApp.a rfl rfl rfl rfl rfl rfl ?hb ?_); (case hb => first | exact bytes_bd (Nat.le_of_ble_eq_true rfl) (by omega) | omega); (conv => whnf))
    | ((refine DApp.b rfl rfl rfl rfl rfl rfl rfl rfl ?hb ?ho ?_); (case hb => first | exact bytes_bd (Nat.le_of_ble_eq_true rfl) (by omega) | omega); (case ho => omega); (conv => whnf))
    | ((refine DApp.c rfl rfl rfl rfl rfl ?hb ?_); (case hb => first | exact bytes_bd (Nat.le_of_ble_eq_true rfl) (by omega) | omega); (conv => whnf))
    | ((refine DApp.d rfl rfl rfl rfl rfl rfl ?hb ?ho ?_); (case hb => first | exact bytes_bd (Nat.le_of_ble_eq_true rfl) (by omega) | omega); (case ho => omega); (conv => whnf))
    | ((with_reducible refine nil_no (by omega) ?_); (conv => whnf))
    | ((with_reducible refine nil_any ?_ (fun hn0 => ?_)) <;> (conv => whnf))
    
    | ((refine ways (fun hc => ?_) (fun hc => ?_)) <;> (try simp only [decide_eq_true_eq, decide_eq_false_iff_not, Bool.and_eq_true, Bool.or_eq_true, Bool.and_eq_false_iff, Bool.or_eq_false_iff, Bool.not_eq_true', Bool.not_eq_false', beq_iff_eq, bne_iff_ne, ne_eq, beq_eq_false_iff_ne, bne_eq_false_iff_eq, Bool.not_eq_true, Bool.not_eq_false] at hc) <;> (try (exfalso; omega)) <;> (conv => whnf))))
  refine Wp.loopP (ι := Nat × Nat × Nat) (fun k => k.1 ≤ k.2.1 ∧ k.2.1 ≤ xs.length ∧ k.2.1 - k.1 < k.2.2 ∧ bsF (fun k => decide (xs.getD k default < t)) k.2.2 k.1 k.2.1 = posI xs t) (fun k => ⟨⟨Try.f72.ntmps, 0⟩, 0, [(0, .d (slOf 1 (encI .i64) xs)), (1, .i .i64 t), (6, .i .i64 xs.length), (7, .i .i64 k.1), (8, .i .i64 k.2.1)], []⟩) (fun k => k.2.1 - k.1) (0, xs.length, xs.length + 1) ⟨by simp, by simp, by simp, rfl⟩ ?_ ?_
  · (refine Le.by [] rfl rfl rfl rfl ?_ ?_ <;> (conv => whnf) <;> (repeat' (first | exact trivial | exact ArgLe.rfl rfl | exact ArgLe.ptr rfl | exact ArgLe.sl rfl | ((with_reducible refine ArgLe.fn ?_); (conv => whnf)) | exact ⟨rfl, rfl, rfl⟩ | exact fun i hi => rfl | ((with_reducible refine And.intro ?_ ?_) <;> (conv => whnf)))))
  · rintro ⟨i, j, q⟩ ⟨h1, h2, h3, h4⟩
    dsimp only at h1 h2 h3 h4 ⊢
    (repeat' (first
    | with_reducible refine Wp.seq ?_
    | with_reducible refine Wp.block ?_
    | ((with_reducible refine Wp.region ?_); conv => whnf)
    | ((with_reducible refine Wp.drawL TC_mixed ?_); conv => whnf)
    | ((with_reducible refine Wp.cond ?_); conv => whnf)
    | ((with_reducible refine Wp.ret ?_); conv => whnf)
    | ((with_reducible refine Wp.skip ?_); conv => whnf)
    | ((with_reducible refine Wp.exit ?_); conv => whnf)
    | ((with_reducible refine Go.mk ?_); conv => whnf)
    | ((with_reducible apply Eff1.of); conv => whnf)
    | with_reducible exact rfl
    | ((with_reducible refine Ov.ok (by first | exact IntWalk.i64_in _ (by omega) | exact IntWalk.u64_in _ (by omega) | exact IntWalk.u8_in _ (by omega) | exact IntWalk.u32_in _ (by omega) | exact IntWalk.i32_in _ (by omega) | exact IntWalk.u16_in _ (by omega)) ?_); conv => whnf)
    | (with_reducible refine Ov.sh1 (by with_unfolding_all exact rfl) ?_)
    | ((with_reducible refine Ov.quo (by omega) (by omega) (by omega) (fun _ _ => ?_)); conv => whnf)
    | ((with_reducible refine And.intro (show drawOK _ _ _ _ = true by kernel_rfl) ?_); conv => whnf)
    | ((with_reducible refine And.intro (by first | omega | exact Nat.le_of_ble_eq_true rfl) ?_); conv => whnf)
    | ((with_reducible refine And.intro ?hb ?_); (case hb => exact bytes_bd (Nat.le_of_ble_eq_true rfl) (by omega)); (conv => whnf))
    | ((refine DApp.a rfl rfl rfl rfl rfl rfl ?hb ?_); (case hb => first | exact bytes_bd (Nat.le_of_ble_eq_true rfl) (by omega) | omega); (conv => whnf))
    | ((refine DApp.b rfl rfl rfl rfl rfl rfl rfl rfl ?hb ?ho ?_); (case hb => first | exact bytes_bd (Nat.le_of_ble_eq_true rfl) (by omega) | omega); (case ho => omega); (conv => whnf))
    | ((refine DApp.c rfl rfl rfl rfl rfl ?hb ?_); (case hb => first | exact bytes_bd (Nat.le_of_ble_eq_true rfl) (by omega) | omega); (conv => whnf))
    | ((refine DApp.d rfl rfl rfl rfl rfl rfl ?hb ?ho ?_); (case hb => first | exact bytes_bd (Nat.le_of_ble_eq_true rfl) (by omega) | omega); (case ho => omega); (conv => whnf))
    | ((with_reducible refine nil_no (by omega) ?_); (conv => whnf))
    | ((with_reducible refine nil_any ?_ (fun hn0 => ?_)) <;> (conv => whnf))
    | ((with_reducible refine CallStop.pure (cmp_Less _ _) rfl rfl ?_); conv => whnf) | ((with_reducible refine DCall.pure (cmp_Less _ _) rfl rfl ?_); conv => whnf)
    | ((with_reducible refine CallStop.pure (slices_isNaN _) rfl rfl ?_); conv => whnf) | ((with_reducible refine DCall.pure (slices_isNaN _) rfl rfl ?_); conv => whnf)
    | ((refine ways (fun hc => ?_) (fun hc => ?_)) <;> (try simp only [decide_eq_true_eq, decide_eq_false_iff_not, Bool.and_eq_true, Bool.or_eq_true, Bool.and_eq_false_iff, Bool.or_eq_false_iff, Bool.not_eq_true', Bool.not_eq_false', beq_iff_eq, bne_iff_ne, ne_eq, beq_eq_false_iff_ne, bne_eq_false_iff_eq, Bool.not_eq_true, Bool.not_eq_false] at hc) <;> (try (exfalso; omega)) <;> (conv => whnf))))
    · rw [show (((i : Int) + j) / 2).toNat = (i + j) / 2 by omega] at hc
      have hh : decide (xs.getD ((i + j) / 2) default < t) = true := by simpa using hc
      refine ⟨((i + j) / 2 + 1, j, q - 1), ⟨by dsimp only; omega, h2, by dsimp only; omega, ?_⟩, by dsimp only; omega, ?_⟩
      · rw [← h4]
        obtain ⟨q, rfl⟩ : ∃ r, q = r + 1 := ⟨q - 1, by omega⟩
        rw [bsF, if_pos (by omega), if_pos hh]; rfl
      · (refine Le.by [] rfl rfl rfl rfl ?_ ?_ <;> (conv => whnf) <;> (repeat' (first | exact trivial | exact ArgLe.rfl rfl | exact ArgLe.ptr rfl | exact ArgLe.sl rfl | ((with_reducible refine ArgLe.fn ?_); (conv => whnf)) | exact ⟨rfl, rfl, rfl⟩ | exact fun i hi => rfl | ((with_reducible refine And.intro ?_ ?_) <;> (conv => whnf)))))
    · rw [show (((i : Int) + j) / 2).toNat = (i + j) / 2 by omega] at hc
      have hh : ¬ decide (xs.getD ((i + j) / 2) default < t) = true := by simpa using hc
      refine ⟨(i, (i + j) / 2, q - 1), ⟨by dsimp only; omega, by dsimp only; omega, by dsimp only; omega, ?_⟩, by dsimp only; omega, ?_⟩
      · rw [← h4]
        obtain ⟨q, rfl⟩ : ∃ r, q = r + 1 := ⟨q - 1, by omega⟩
        rw [bsF, if_pos (by omega), if_neg hh]; rfl
      · (refine Le.by [] rfl rfl rfl rfl ?_ ?_ <;> (conv => whnf) <;> (repeat' (first | exact trivial | exact ArgLe.rfl rfl | exact ArgLe.ptr rfl | exact ArgLe.sl rfl | ((with_reducible refine ArgLe.fn ?_); (conv => whnf)) | exact ⟨rfl, rfl, rfl⟩ | exact fun i hi => rfl | ((with_reducible refine And.intro ?_ ?_) <;> (conv => whnf)))))
    all_goals rw [bsF_end (by omega)] at h4
    all_goals subst h4
    · exact .of_eq (by simp [hasI]; simp_all)
    · exact .of_eq (by simp [hasI]; simp_all)
    · exact .of_eq (by simp [hasI]; intros; omega)
def serB (n : Int) : Bool := decide (1 ≤ n) && decide (n ≤ 4611686018427387903)
theorem perm_serial (n : Int) : Pure TC 70 [.i .i64 n] (.b (serB n)) := by
  refine Pure.mk' Try.func70 rfl rfl (Nat.le_of_ble_eq_true rfl) ?_
  (repeat' (first
    | with_reducible refine Wp.seq ?_
    | with_reducible refine Wp.block ?_
    | ((with_reducible refine Wp.region ?_); conv => whnf)
    | ((with_reducible refine Wp.drawL TC_mixed ?_); conv => whnf)
    | ((with_reducible refine Wp.cond ?_); conv => whnf)
    | ((with_reducible refine Wp.ret ?_); conv => whnf)
    | ((with_reducible refine Wp.skip ?_); conv => whnf)
    | ((with_reducible refine Wp.exit ?_); conv => whnf)
    | ((with_reducible refine Go.mk ?_); conv => whnf)
    | ((with_reducible apply Eff1.of); conv => whnf)
    | with_reducible exact rfl
    | ((with_reducible refine Ov.ok (by first | exact IntWalk.i64_in _ (by omega) | exact IntWalk.u64_in _ (by omega) | exact IntWalk.u8_in _ (by omega) | exact IntWalk.u32_in _ (by omega) | exact IntWalk.i32_in _ (by omega) | exact IntWalk.u16_in _ (by omega)) ?_); conv => whnf)
    | (with_reducible refine Ov.sh1 (by with_unfolding_all exact rfl) ?_)
    | ((with_reducible refine Ov.quo (by omega) (by omega) (by omega) (fun _ _ => ?_)); conv => whnf)
    | ((with_reducible refine And.intro (show drawOK _ _ _ _ = true by kernel_rfl) ?_); conv => whnf)
    | ((with_reducible refine And.intro (by first | omega | exact Nat.le_of_ble_eq_true rfl) ?_); conv => whnf)
    | ((with_reducible refine And.intro ?hb ?_); (case hb => exact bytes_bd (Nat.le_of_ble_eq_true rfl) (by omega)); (conv => whnf))
    | ((refine DApp.a rfl rfl rfl rfl rfl rfl ?hb ?_); (case hb => first | exact bytes_bd (Nat.le_of_ble_eq_true rfl) (by omega) | omega); (conv => whnf))
    | ((refine DApp.b rfl rfl rfl rfl rfl rfl rfl rfl ?hb ?ho ?_); (case hb => first | exact bytes_bd (Nat.le_of_ble_eq_true rfl) (by omega) | omega); (case ho => omega); (conv => whnf))
    | ((refine DApp.c rfl rfl rfl rfl rfl ?hb ?_); (case hb => first | exact bytes_bd (Nat.le_of_ble_eq_true rfl) (by omega) | omega); (conv => whnf))
    | ((refine DApp.d rfl rfl rfl rfl rfl rfl ?hb ?ho ?_); (case hb => first | exact bytes_bd (Nat.le_of_ble_eq_true rfl) (by omega) | omega); (case ho => omega); (conv => whnf))
    | ((with_reducible refine nil_no (by omega) ?_); (conv => whnf))
    | ((with_reducible refine nil_any ?_ (fun hn0 => ?_)) <;> (conv => whnf))
    
    | ((refine ways (fun hc => ?_) (fun hc => ?_)) <;> (try simp only [decide_eq_true_eq, decide_eq_false_iff_not, Bool.and_eq_true, Bool.or_eq_true, Bool.and_eq_false_iff, Bool.or_eq_false_iff, Bool.not_eq_true', Bool.not_eq_false', beq_iff_eq, bne_iff_ne, ne_eq, beq_eq_false_iff_ne, bne_eq_false_iff_eq, Bool.not_eq_true, Bool.not_eq_false] at hc) <;> (try (exfalso; omega)) <;> (conv => whnf))))
  all_goals exact .b (by simp [serB]; try omega)
/-- serials that rise -/
def riseB : Int → List Int → Bool
  | _, [] => true
  | l, x :: r => serB x && decide (l < x) && riseB x r
def semE (p : Int) (xs : List Int) : Int := if 1 ≤ p ∧ p ≤ 64 ∧ (xs.length : Int) ≤ p ∧ riseB 0 xs = true then 0 else 3
theorem drop_getD {α : Type} [Inhabited α] {xs : List α} {k : Nat} (h : k < xs.length) : xs.drop k = xs.getD k default :: xs.drop (k + 1) := by
  rw [List.drop_eq_getElem_cons h]; simp [List.getD, List.getElem?_eq_getElem h]
theorem perm_Check (p : Int) (xs : List Int) : Pure TC 71 [.agg [.i .i64 p, .d (slOf 1 (encI .i64) xs)]] (.i .i64 (semE p xs)) := by
  refine Pure.mk' Try.func71 rfl rfl (Nat.le_of_ble_eq_true rfl) ?_
  (repeat' (first
    | with_reducible refine Wp.seq ?_
    | with_reducible refine Wp.block ?_
    | ((with_reducible refine Wp.region ?_); conv => whnf)
    | ((with_reducible refine Wp.drawL TC_mixed ?_); conv => whnf)
    | ((with_reducible refine Wp.cond ?_); conv => whnf)
    | ((with_reducible refine Wp.ret ?_); conv => whnf)
    | ((with_reducible refine Wp.skip ?_); conv => whnf)
    | ((with_reducible refine Wp.exit ?_); conv => whnf)
    | ((with_reducible refine Go.mk ?_); conv => whnf)
    | ((with_reducible apply Eff1.of); conv => whnf)
    | with_reducible exact rfl
    | ((with_reducible refine Ov.ok (by first | exact IntWalk.i64_in _ (by omega) | exact IntWalk.u64_in _ (by omega) | exact IntWalk.u8_in _ (by omega) | exact IntWalk.u32_in _ (by omega) | exact IntWalk.i32_in _ (by omega) | exact IntWalk.u16_in _ (by omega)) ?_); conv => whnf)
    | (with_reducible refine Ov.sh1 (by with_unfolding_all exact rfl) ?_)
    | ((with_reducible refine Ov.quo (by omega) (by omega) (by omega) (fun _ _ => ?_)); conv => whnf)
    | ((with_reducible refine And.intro (show drawOK _ _ _ _ = true by kernel_rfl) ?_); conv => whnf)
    | ((with_reducible refine And.intro (by first | omega | exact Nat.le_of_ble_eq_true rfl) ?_); conv => whnf)
    | ((with_reducible refine And.intro ?hb ?_); (case hb => exact bytes_bd (Nat.le_of_ble_eq_true rfl) (by omega)); (conv => whnf))
    | ((refine DApp.a rfl rfl rfl rfl rfl rfl ?hb ?_); (case hb => first | exact bytes_bd (Nat.le_of_ble_eq_true rfl) (by omega) | omega); (conv => whnf))
    | ((refine DApp.b rfl rfl rfl rfl rfl rfl rfl rfl ?hb ?ho ?_); (case hb => first | exact bytes_bd (Nat.le_of_ble_eq_true rfl) (by omega) | omega); (case ho => omega); (conv => whnf))
    | ((refine DApp.c rfl rfl rfl rfl rfl ?hb ?_); (case hb => first | exact bytes_bd (Nat.le_of_ble_eq_true rfl) (by omega) | omega); (conv => whnf))
    | ((refine DApp.d rfl rfl rfl rfl rfl rfl ?hb ?ho ?_); (case hb => first | exact bytes_bd (Nat.le_of_ble_eq_true rfl) (by omega) | omega); (case ho => omega); (conv => whnf))
    | ((with_reducible refine nil_no (by omega) ?_); (conv => whnf))
    | ((with_reducible refine nil_any ?_ (fun hn0 => ?_)) <;> (conv => whnf))
    
    | ((refine ways (fun hc => ?_) (fun hc => ?_)) <;> (try simp only [decide_eq_true_eq, decide_eq_false_iff_not, Bool.and_eq_true, Bool.or_eq_true, Bool.and_eq_false_iff, Bool.or_eq_false_iff, Bool.not_eq_true', Bool.not_eq_false', beq_iff_eq, bne_iff_ne, ne_eq, beq_eq_false_iff_ne, bne_eq_false_iff_eq, Bool.not_eq_true, Bool.not_eq_false] at hc) <;> (try (exfalso; omega)) <;> (conv => whnf))))
  · exact .i (by rw [semE, if_neg (by omega)])
  · exact .i (by rw [semE, if_neg (by omega)])
  · exact .i (by rw [semE, if_neg (by omega)])
  refine Wp.loopP (ι := Nat × Int) (fun k => k.1 ≤ xs.length ∧ riseB k.2 (xs.drop k.1) = riseB 0 xs) (fun k => ⟨⟨Try.f71.ntmps, 0⟩, 0, [(3, .i .i64 k.2), (23, .d (slOf 1 (encI .i64) xs)), (24, .i .i64 xs.length), (25, .i .i64 k.1)], []⟩) (fun k => xs.length - k.1) (0, 0) ⟨by simp, by simp⟩ ?_ ?_
  · (refine Le.by [] rfl rfl rfl rfl ?_ ?_ <;> (conv => whnf) <;> (repeat' (first | exact trivial | exact ArgLe.rfl rfl | exact ArgLe.ptr rfl | exact ArgLe.sl rfl | ((with_reducible refine ArgLe.fn ?_); (conv => whnf)) | exact ⟨rfl, rfl, rfl⟩ | exact fun i hi => rfl | ((with_reducible refine And.intro ?_ ?_) <;> (conv => whnf)))))
  · rintro ⟨k, l⟩ ⟨h1, h2⟩
    dsimp only at h1 h2 ⊢
    (repeat' (first
    | with_reducible refine Wp.seq ?_
    | with_reducible refine Wp.block ?_
    | ((with_reducible refine Wp.region ?_); conv => whnf)
    | ((with_reducible refine Wp.drawL TC_mixed ?_); conv => whnf)
    | ((with_reducible refine Wp.cond ?_); conv => whnf)
    | ((with_reducible refine Wp.ret ?_); conv => whnf)
    | ((with_reducible refine Wp.skip ?_); conv => whnf)
    | ((with_reducible refine Wp.exit ?_); conv => whnf)
    | ((with_reducible refine Go.mk ?_); conv => whnf)
    | ((with_reducible apply Eff1.of); conv => whnf)
    | with_reducible exact rfl
    | ((with_reducible refine Ov.ok (by first | exact IntWalk.i64_in _ (by omega) | exact IntWalk.u64_in _ (by omega) | exact IntWalk.u8_in _ (by omega) | exact IntWalk.u32_in _ (by omega) | exact IntWalk.i32_in _ (by omega) | exact IntWalk.u16_in _ (by omega)) ?_); conv => whnf)
    | (with_reducible refine Ov.sh1 (by with_unfolding_all exact rfl) ?_)
    | ((with_reducible refine Ov.quo (by omega) (by omega) (by omega) (fun _ _ => ?_)); conv => whnf)
    | ((with_reducible refine And.intro (show drawOK _ _ _ _ = true by kernel_rfl) ?_); conv => whnf)
    | ((with_reducible refine And.intro (by first | omega | exact Nat.le_of_ble_eq_true rfl) ?_); conv => whnf)
    | ((with_reducible refine And.intro ?hb ?_); (case hb => exact bytes_bd (Nat.le_of_ble_eq_true rfl) (by omega)); (conv => whnf))
    | ((refine DApp.a rfl rfl rfl rfl rfl rfl ?hb ?_); (case hb => first | exact bytes_bd (Nat.le_of_ble_eq_true rfl) (by omega) | omega); (conv => whnf))
    | ((refine DApp.b rfl rfl rfl rfl rfl rfl rfl rfl ?hb ?ho ?_); (case hb => first | exact bytes_bd (Nat.le_of_ble_eq_true rfl) (by omega) | omega); (case ho => omega); (conv => whnf))
    | ((refine DApp.c rfl rfl rfl rfl rfl ?hb ?_); (case hb => first | exact bytes_bd (Nat.le_of_ble_eq_true rfl) (by omega) | omega); (conv => whnf))
    | ((refine DApp.d rfl rfl rfl rfl rfl rfl ?hb ?ho ?_); (case hb => first | exact bytes_bd (Nat.le_of_ble_eq_true rfl) (by omega) | omega); (case ho => omega); (conv => whnf))
    | ((with_reducible refine nil_no (by omega) ?_); (conv => whnf))
    | ((with_reducible refine nil_any ?_ (fun hn0 => ?_)) <;> (conv => whnf))
    | ((with_reducible refine CallStop.pure (perm_serial _) rfl rfl ?_); conv => whnf) | ((with_reducible refine DCall.pure (perm_serial _) rfl rfl ?_); conv => whnf)
    | ((refine ways (fun hc => ?_) (fun hc => ?_)) <;> (try simp only [decide_eq_true_eq, decide_eq_false_iff_not, Bool.and_eq_true, Bool.or_eq_true, Bool.and_eq_false_iff, Bool.or_eq_false_iff, Bool.not_eq_true', Bool.not_eq_false', beq_iff_eq, bne_iff_ne, ne_eq, beq_eq_false_iff_ne, bne_eq_false_iff_eq, Bool.not_eq_true, Bool.not_eq_false] at hc) <;> (try (exfalso; omega)) <;> (conv => whnf))))
    all_goals try simp only [Int.toNat_natCast] at *
    · rw [drop_getD (by omega), riseB, hc] at h2
      exact .i (by rw [semE, if_neg (by rw [← h2]; simp)])
    · rw [drop_getD (by omega), riseB, decide_eq_false (by omega)] at h2
      exact .i (by rw [semE, if_neg (by rw [← h2]; simp)])
    · rename_i hs
      rw [drop_getD (by omega), riseB, hs, decide_eq_true (by omega)] at h2
      refine ⟨(k + 1, xs.getD k default), ⟨by dsimp only; omega, by simpa using h2⟩, by dsimp only; omega, ?_⟩
      (refine Le.by [] rfl rfl rfl rfl ?_ ?_ <;> (conv => whnf) <;> (repeat' (first | exact trivial | exact ArgLe.rfl rfl | exact ArgLe.ptr rfl | exact ArgLe.sl rfl | ((with_reducible refine ArgLe.fn ?_); (conv => whnf)) | exact ⟨rfl, rfl, rfl⟩ | exact fun i hi => rfl | ((with_reducible refine And.intro ?_ ?_) <;> (conv => whnf)))))
    · rw [List.drop_eq_nil_of_le (by omega), riseB] at h2
      exact .i (by rw [semE, if_pos ⟨by omega, by omega, by omega, h2.symm⟩])
end Go.Proofs.Ytkdolemhhihidaa

namespace Go.Proofs.Ytkdolemhhihidaa
open Go.RowKit

/-- a row of one's own -/
def rowOf {α : Type} [Inhabited α] (e : TypeId) (z : Nat) (enc : α → List D) (xs : List α) : Blk := .row e z xs.length fun i => enc (xs.getD i default)
def insAt {α : Type} (xs : List α) (i : Nat) (x : α) : List α := xs.take i ++ [x] ++ xs.drop i
def delAt {α : Type} (xs : List α) (i : Nat) : List α := xs.take i ++ xs.drop (i + 1)
theorem insAt_length {α : Type} (xs : List α) (i : Nat) (x : α) (hi : i ≤ xs.length) : (insAt xs i x).length = xs.length + 1 := by simp [insAt]; omega
theorem delAt_length {α : Type} (xs : List α) (i : Nat) (hi : i < xs.length) : (delAt xs i).length = xs.length - 1 := by simp [delAt]; omega
theorem insAt_getD {α : Type} [Inhabited α] (xs : List α) (i : Nat) (x : α) (hi : i ≤ xs.length) (k : Nat) : (insAt xs i x).getD k default = if k < i then xs.getD k default else if k = i then x else xs.getD (k - 1) default := by
  have hl : (xs.take i).length = i := by simp; omega
  simp only [insAt, List.getD_eq_getElem?_getD, List.append_assoc]
  by_cases h : k < i
  · rw [if_pos h, List.getElem?_append_left (by omega), List.getElem?_take, if_pos h]
  · rw [if_neg h, List.getElem?_append_right (by omega), hl]
    by_cases h2 : k = i
    · subst h2; simp
    · rw [if_neg h2, List.getElem?_append_right (by simp; omega), List.getElem?_drop]
      congr 2; simp; omega
theorem delAt_getD {α : Type} [Inhabited α] (xs : List α) (i : Nat) (hi : i < xs.length) (k : Nat) : (delAt xs i).getD k default = if k < i then xs.getD k default else xs.getD (k + 1) default := by
  have hl : (xs.take i).length = i := by simp; omega
  simp only [delAt, List.getD_eq_getElem?_getD]
  by_cases h : k < i
  · rw [if_pos h, List.getElem?_append_left (by omega), List.getElem?_take, if_pos h]
  · rw [if_neg h, List.getElem?_append_right (by omega), hl, List.getElem?_drop]
    congr 2; omega
theorem lay_ins (F vs : List Value) (n i z k j : Nat) (hF : F.length = n * z) (hv : vs.length = z) (hi : i ≤ n) (hj : j < z) :
    (F.take (i * z) ++ vs ++ F.drop (i * z))[k * z + j]? = if k < i then F[k * z + j]? else if k = i then vs[j]? else F[(k - 1) * z + j]? := by
  have h1 : i * z ≤ n * z := Nat.mul_le_mul_right _ hi
  have hl : (F.take (i * z)).length = i * z := by simp; omega
  simp only [List.append_assoc]
  by_cases h : k < i
  · have h2 : (k + 1) * z ≤ i * z := Nat.mul_le_mul_right _ h
    rw [Nat.add_mul] at h2
    rw [if_pos h, List.getElem?_append_left (by omega), List.getElem?_take, if_pos (by omega)]
  · have h2 : i * z ≤ k * z := Nat.mul_le_mul_right _ (by omega)
    rw [if_neg h, List.getElem?_append_right (by omega), hl]
    by_cases h3 : k = i
    · subst h3; rw [if_pos rfl, List.getElem?_append_left (by omega)]; congr 1; omega
    · have h4 : (i + 1) * z ≤ k * z := Nat.mul_le_mul_right _ (by omega)
      have h5 : (k - 1) * z + z = k * z := by rw [show k = (k - 1) + 1 by omega, Nat.add_mul]; simp
      rw [Nat.add_mul] at h4
      rw [if_neg h3, List.getElem?_append_right (by omega), List.getElem?_drop]
      congr 1; omega
theorem lay_del (F : List Value) (n i z k j : Nat) (hF : F.length = n * z) (hi : i < n) (hj : j < z) :
    (F.take (i * z) ++ F.drop (i * z + z))[k * z + j]? = if k < i then F[k * z + j]? else F[(k + 1) * z + j]? := by
  have h1 : (i + 1) * z ≤ n * z := Nat.mul_le_mul_right _ hi
  rw [Nat.add_mul] at h1
  have hl : (F.take (i * z)).length = i * z := by simp; omega
  by_cases h : k < i
  · have h2 : (k + 1) * z ≤ i * z := Nat.mul_le_mul_right _ h
    rw [Nat.add_mul] at h2
    rw [if_pos h, List.getElem?_append_left (by omega), List.getElem?_take, if_pos (by omega)]
  · have h2 : i * z ≤ k * z := Nat.mul_le_mul_right _ (by omega)
    rw [if_neg h, List.getElem?_append_right (by omega), hl, List.getElem?_drop]
    congr 1; rw [Nat.add_mul]; omega

/-- a block that is owned by the kit's words: told as a row -/
theorem HSat.ofOwn {E : Env} {m : Nat} {H : List (Nat × Option Blk)} {w w' : World} {e z : Nat} {α : Type} [Inhabited α] {enc : α → List D} {ys : List α} {G : List Value} {v' : Value} {g cap : Nat} {cur : Array Value} {row : Option Nat}
    (hS : HSat E m H w) (hz : 0 < z) (henc : ∀ x, (enc x).length = z) (hG : G.length = ys.length * z) (hcap : ys.length ≤ cap) (hmax : cap ≤ maxLen) (hsz : cur.size = cap * z)
    (hb : w'.heap[g]? = some (.cells cur e (0, 0))) (htk : cur.toList.take (ys.length * z) = G) (hgr : w.grownBy w' row) (hrow : ∀ k, row = some k → HB E H k) (hnew : HB E H g ∨ w.heap.size ≤ g)
    (h1 : ∀ u ∈ G, u.oneCell' = true) (hd : ∀ k j, k < ys.length → j < z → ∀ hj : j < (enc (ys.getD k default)).length, ∃ u, G[k * z + j]? = some u ∧ RD w E.Im ((enc (ys.getD k default))[j]) u) (H' : List (Nat × Option Blk)) (hH' : ∀ l b, lkh H' l = some b → l = m ∧ b = rowOf e z enc ys) (hm0 : 0 < cap) (hv' : v' = .slice (some ⟨g, 0, none⟩) ys.length cap) :
    ∃ E', Kq (HB E H) w w' ∧ (∀ l, l < m → E'.ρ l = E.ρ l ∧ E'.κ l = E.κ l) ∧ HSat E' (m + 1) H' w' ∧ (∀ b, HB E' H' b → HB E H b ∨ w.heap.size ≤ b) ∧ (∀ b, E'.Im b → E.Im b ∨ HB E H b ∨ w.heap.size ≤ b) ∧ (∀ b, E.Im b → E'.Im b) ∧ RS E' (m + 1) w' (.sl m z 0 ys.length) v' := by
  subst hv'
  have hni : ∀ b, HB E H b → ¬ E.Im b := by
    rintro b ⟨l, x, hl, hr, rfl⟩ hi
    exact (hS.im _ hi).2 l x hl hr rfl
  have hwi : ∀ b, E.Im b → w'.heap[b]? = w.heap[b]? := fun b hb => hgr.block b (hS.im b hb).1 (fun h => hni b (hrow b h.symm) hb)
  have hgi : ∀ b, E.Im b → g ≠ b := by
    rintro b hb rfl
    rcases hnew with h | h
    · exact hni _ h hb
    · have := (hS.im _ hb).1; omega
  let E' : Env := ⟨fun l => if l = m then g else E.ρ l, fun l => if l = m then cap else E.κ l, E.Im⟩
  have hBS : BS E' (m + 1) w' m (rowOf e z enc ys) := by
    refine ⟨by show _ ≤ (if m = m then cap else _); simpa using hcap, by show (if m = m then cap else _) ≤ _; simpa using hmax, hz, fun i hi => henc _, fun _ => ?_⟩
    refine ⟨cur, by show w'.heap[if m = m then g else _]? = _; simpa using hb, by show cur.size = (if m = m then cap else _) * z; simpa using hsz, fun j hj => ?_, fun i j hi hj => ?_⟩
    · have hlt : j < G.length := by rw [hG]; exact hj
      have : cur.getD j undef = G[j] := by
        rw [arr_get (v := G[j])]
        have : G[j]? = some G[j] := List.getElem?_eq_getElem hlt
        rw [← this, ← htk, List.getElem?_take, if_pos hj]
      rw [this]; exact h1 _ (List.getElem_mem hlt)
    · have hjz : j < z := by rw [← henc (ys.getD i default)]; exact hj
      obtain ⟨u, k1, k2⟩ := hd i j hi hjz hj
      have hlt : (i + 1) * z ≤ ys.length * z := Nat.mul_le_mul_right _ hi
      rw [Nat.add_mul] at hlt
      have : cur.getD (i * z + j) undef = u := by
        apply arr_get
        rw [← k1, ← htk, List.getElem?_take, if_pos (by omega)]
      rw [this]; exact k2.mono (fun _ h => h) hwi
  have hem : E'.ρ m = g ∧ E'.κ m = cap := ⟨if_pos rfl, if_pos rfl⟩
  refine ⟨E', ⟨hgr.os, hgr.tape, hgr.output, hgr.size, fun k hk hn => hgr.block k hk (fun h => hn (hrow k h.symm))⟩, fun l hl => ⟨if_neg (by omega), if_neg (by omega)⟩, ⟨?_, ?_, ?_, ?_⟩, ?_, fun b hb => Or.inl hb, fun b hb => hb, ?_⟩
  · intro l b hl; obtain ⟨rfl, rfl⟩ := hH' l b hl; exact hBS
  · intro l b hl; obtain ⟨rfl, rfl⟩ := hH' l b hl; omega
  · intro l l' b b' hl hl' _ _ hne; exact absurd ((hH' l b hl).1.trans (hH' l' b' hl').1.symm) hne
  · intro b hb
    refine ⟨Nat.lt_of_lt_of_le (hS.im b hb).1 hgr.size, fun l x hl _ => ?_⟩
    obtain ⟨rfl, rfl⟩ := hH' l x hl
    rw [hem.1]; exact hgi b hb
  · rintro b ⟨l, x, hl, hr, rfl⟩
    obtain ⟨rfl, rfl⟩ := hH' l x hl
    rw [hem.1]; exact hnew
  · exact .sl _ _ _ _ _ _ (by omega) hcap hmax (fun _ => by rw [hem.1]; simp) (fun _ => ⟨hem.2.symm, fun _ => by rw [hem.1]⟩)

theorem vs_args {n : Nat} {vs : Array Value} (h : vs.size = n) : vs = (List.ofFn fun i : Fin n => vs.getD i undef).toArray := by
  apply Array.ext (by simp [h])
  intro i h1 h2
  simp [Array.getD, h1]

/-- what the reader's words say of a row that is handed in, in the kit's -/
theorem HSat.toOwn {E : Env} {m : Nat} {H : List (Nat × Option Blk)} {w : World} {e z n l : Nat} {f : Nat → List D} {v : Value} (hS : HSat E m H w) (hl : lkh H l = some (.row e z n f)) (hv : RS E m w (.sl l z 0 n) v) (hn : 0 < n) :
    ∃ cap cur, v = .slice (some ⟨E.ρ l, 0, none⟩) n cap ∧ 0 < cap ∧ cap = E.κ l ∧ w.heap[E.ρ l]? = some (.cells cur e (0, 0)) ∧ n ≤ cap ∧ cap ≤ maxLen ∧ cur.size = cap * z ∧ (cur.toList.take (n * z)).length = n * z ∧ (∀ u ∈ cur.toList.take (n * z), u.oneCell' = true) ∧
      ∀ k j, k < n → ∀ hj : j < (f k).length, ∃ u, (cur.toList.take (n * z))[k * z + j]? = some u ∧ RD w E.Im ((f k)[j]) u := by
  obtain ⟨h1, h2, h3, h4, h5⟩ := hS.hp l _ hl
  cases hv with
  | sl _ _ _ _ a cap hlx hc hm ha h0 =>
    obtain ⟨e1, e2⟩ := h0 rfl
    subst e1
    have hpos : 0 < E.κ l := by omega
    obtain ⟨cur, g1, g2, g3, g4⟩ := h5 hpos
    have hmul : n * z ≤ E.κ l * z := Nat.mul_le_mul_right _ hc
    have hlen : (cur.toList.take (n * z)).length = n * z := by simp; omega
    refine ⟨_, cur, by rw [e2 hpos], hpos, rfl, g1, hc, hm, g2, hlen, fun u hu => ?_, fun k j hk hj => ?_⟩
    · obtain ⟨i, hi, rfl⟩ := List.getElem_of_mem hu
      have hi' : i < n * z := by omega
      have := g3 i hi'
      rw [Array.getD_eq_getD_getElem?, Array.getElem?_eq_getElem (by omega)] at this
      simpa using this
    · have hjz : j < z := by rw [← h4 k hk]; exact hj
      have hlt : (k + 1) * z ≤ n * z := Nat.mul_le_mul_right _ hk
      rw [Nat.add_mul] at hlt
      refine ⟨cur.getD (k * z + j) undef, ?_, g4 k j hk hj⟩
      rw [List.getElem?_take, if_pos (by omega), Array.getElem?_toList, Array.getD_eq_getD_getElem?, Array.getElem?_eq_getElem (by omega)]; rfl

theorem insFun {C : Cx} {g e z : Nat} {α : Type} [Inhabited α] {enc : α → List D} (hz : 0 < z) (ent : Enters C.P g) (henc : ∀ x, (enc x).length = z) (xs : List α) (i : Nat) (x : α) (hi : i < xs.length)
    (hcall : ∀ (v : Value) (vb cv : Nat) (vcur : Array Value) (F vs : List Value) (w : World), w.ownsRow 0 e z v xs.length F → vs.length = z → w.heap[vb]? = some (.cells vcur e (0, 0)) → (∀ (j : Nat) (u : Value), vs[j]? = some u → vcur[j]? = some u) → v.ownBlock ≠ some vb → (∀ u ∈ vs, u.oneCell' = true) → (∀ u ∈ F, u.oneCell' = true) →
      Calls C.P g #[v, .int .i64 i, .slice (some ⟨vb, 0, none⟩) 1 cv] w fun e' w' => ∃ v', e' = .returned v' ∧ w'.ownsRow 0 e z v' (xs.length + 1) (F.take (i * z) ++ vs ++ F.drop (i * z)) ∧ w.grownBy w' v.ownBlock ∧ ∀ k, v'.ownBlock = some k → v.ownBlock = some k ∨ w.heap.size ≤ k) :
    Fun C g 2 [.sl 0 z 0 xs.length, .i .i64 i, .sl 1 z 0 1] [(0, some (rowOf e z enc xs)), (1, some (rowOf e z enc [x]))] 3 (.sl 2 z 0 (insAt xs i x).length) [(0, none), (1, none), (2, some (rowOf e z enc (insAt xs i x)))] := by
  refine ⟨ent, by omega, fun E w vs hS hsz hargs => ?_⟩
  have a0 := hargs 0 (by simp)
  have a1 := hargs 1 (by simp)
  have a2 := hargs 2 (by simp)
  have hvs : vs = #[vs.getD 0 undef, vs.getD 1 undef, vs.getD 2 undef] := vs_args (n := 3) (by simpa using hsz)
  obtain ⟨cap, cur, e0, hc0, hκ, g1, g2, g3, g4, g5, g6, g7⟩ := hS.toOwn (l := 0) rfl a0 (by omega)
  obtain ⟨cap1, cur1, e1, hc1, hκ1, k1, k2, k3, k4, k5, k6, k7⟩ := hS.toOwn (l := 1) (n := 1) rfl a2 (by omega)
  have e2 : vs.getD 1 undef = .int .i64 i := a1.val_inv
  rw [e0, e1, e2] at hvs
  subst hvs
  have hne : E.ρ 0 ≠ E.ρ 1 := hS.inj 0 1 _ _ rfl rfl (show 0 < E.κ 0 by omega) (show 0 < E.κ 1 by omega) (by omega)
  simp only [Nat.one_mul] at k5 k6 k7
  refine (hcall (.slice (some ⟨E.ρ 0, 0, none⟩) xs.length cap) (E.ρ 1) cap1 cur1 (cur.toList.take (xs.length * z)) (cur1.toList.take z) w ⟨g5, Or.inr ⟨_, cap, cur, rfl, Nat.zero_le _, g1, g2, g3, g4, rfl⟩⟩ k5 k1 (fun j u hj => ?_) (by simpa [Value.ownBlock] using hne) k6 g6).mono ?_
  · rw [List.getElem?_take] at hj
    split at hj
    · simpa using hj
    · cases hj
  rintro e' w' ⟨v', rfl, ⟨o1, o2⟩, hgr, hfr⟩
  rcases o2 with ⟨_, h⟩ | ⟨gb, cap', cur', rfl, _, p1, p2, p3, p4, p5⟩
  · omega
  have hL := insAt_length xs i x (by omega)
  obtain ⟨E', q1, q2, q3, q4, q5, q6, q7⟩ := HSat.ofOwn (w' := w') (ys := insAt xs i x) (enc := enc) (cur := cur') (g := gb) (cap := cap') (e := e) hS hz henc (by rw [o1, hL]) (by rw [hL]; exact p2) p3 p4 p1 (by rw [hL]; exact p5) hgr
    (fun k hk => by simp only [Value.ownBlock, Option.some.injEq] at hk; subst hk; exact ⟨0, _, rfl, show 0 < E.κ 0 by omega, rfl⟩)
    (by
      rcases hfr gb rfl with h | h
      · simp only [Value.ownBlock, Option.some.injEq] at h; subst h; exact Or.inl ⟨0, _, rfl, show 0 < E.κ 0 by omega, rfl⟩
      · exact Or.inr h)
    (fun u hu => by
      rcases List.mem_append.1 hu with hu | hu
      · rcases List.mem_append.1 hu with hu | hu
        · exact g6 u (List.mem_of_mem_take hu)
        · exact k6 u hu
      · exact g6 u (List.mem_of_mem_drop hu))
    (fun k j hk hj hjl => by
      rw [lay_ins _ _ xs.length i z k j g5 k5 (by omega) hj]
      have hgd := insAt_getD xs i x (by omega) k
      rw [hL] at hk
      by_cases h1 : k < i
      · rw [if_pos h1] at hgd ⊢
        have h9 := g7 k j (by omega)
        simp only [hgd]
        exact h9 (by rw [henc]; exact hj)
      · rw [if_neg h1] at hgd ⊢
        by_cases h2 : k = i
        · rw [if_pos h2] at hgd ⊢
          have h9 := k7 0 j (by omega)
          simp only [hgd]
          rw [show 0 * z + j = j by omega] at h9
          exact h9 (by rw [henc]; exact hj)
        · rw [if_neg h2] at hgd ⊢
          have h9 := g7 (k - 1) j (by omega)
          simp only [hgd]
          exact h9 (by rw [henc]; exact hj))
    [(0, none), (1, none), (2, some (rowOf e z enc (insAt xs i x)))] (fun l b hl => by
      rw [lkh_cons] at hl
      split at hl
      · cases hl
      · rw [lkh_cons] at hl
        split at hl
        · cases hl
        · rw [lkh_cons] at hl
          split at hl
          · cases hl; exact ⟨by omega, rfl⟩
          · cases hl) (by omega) (by rw [hL])
  exact ⟨_, E', rfl, q1, q2, q3, q4, q5, q6, q7⟩

theorem delFun {C : Cx} {g e z : Nat} {α : Type} [Inhabited α] {enc : α → List D} (hz : 0 < z) (ent : Enters C.P g) (henc : ∀ x, (enc x).length = z) (xs : List α) (i : Nat) (hi : i < xs.length) (hm : xs.length ≤ maxLen)
    (hcall : ∀ (v : Value) (F : List Value) (w : World), w.ownsRow 0 e z v xs.length F → (∀ u ∈ F, u.oneCell' = true) →
      Calls C.P g #[v, .int .i64 i, .int .i64 ((i : Int) + 1)] w fun e' w' => ∃ v', e' = .returned v' ∧ w'.ownsRow 0 e z v' (xs.length - 1) (F.take (i * z) ++ F.drop (i * z + z)) ∧ w.grownBy w' v.ownBlock ∧ ∃ cap, v' = .slice (v.ownBlock.map fun k => ⟨k, 0, none⟩) (xs.length - 1) cap ∧ 0 < cap) :
    Fun C g 1 [.sl 0 z 0 xs.length, .i .i64 i, .i .i64 ((i : Int) + 1)] [(0, some (rowOf e z enc xs))] 2 (.sl 1 z 0 (delAt xs i).length) [(0, none), (1, some (rowOf e z enc (delAt xs i)))] := by
  refine ⟨ent, by omega, fun E w vs hS hsz hargs => ?_⟩
  have a0 := hargs 0 (by simp)
  have a1 := hargs 1 (by simp)
  have a2 := hargs 2 (by simp)
  have hvs : vs = #[vs.getD 0 undef, vs.getD 1 undef, vs.getD 2 undef] := vs_args (n := 3) (by simpa using hsz)
  obtain ⟨cap, cur, e0, hc0, hκ, g1, g2, g3, g4, g5, g6, g7⟩ := hS.toOwn (l := 0) rfl a0 (by omega)
  have e1 : vs.getD 1 undef = .int .i64 i := a1.val_inv
  have e2 : vs.getD 2 undef = .int .i64 ((i : Int) + 1) := a2.val_inv
  rw [e0, e1, e2] at hvs
  subst hvs
  refine (hcall (.slice (some ⟨E.ρ 0, 0, none⟩) xs.length cap) (cur.toList.take (xs.length * z)) w ⟨g5, Or.inr ⟨_, cap, cur, rfl, Nat.zero_le _, g1, g2, g3, g4, rfl⟩⟩ g6).mono ?_
  rintro e' w' ⟨v', rfl, ⟨o1, o2⟩, hgr, cap2, e3, hc2⟩
  rcases o2 with ⟨h, _⟩ | ⟨gb, cap', cur', e4, _, p1, p2, p3, p4, p5⟩
  · rw [h] at e3; simp [Value.ownBlock] at e3
  rw [e4] at e3
  simp only [Value.ownBlock, Option.map_some, Value.slice.injEq, Option.some.injEq, Addr.mk.injEq, true_and, and_true] at e3
  obtain ⟨rfl, rfl⟩ := e3
  subst e4
  have hL := delAt_length xs i hi
  have hB0 : HB E [(0, some (rowOf e z enc xs))] (E.ρ 0) := ⟨0, _, rfl, show 0 < E.κ 0 by omega, rfl⟩
  obtain ⟨E', q1, q2, q3, q4, q5, q6, q7⟩ := HSat.ofOwn (w' := w') (ys := delAt xs i) (enc := enc) (cur := cur') (g := E.ρ 0) (cap := cap') (e := e) hS hz henc (by rw [o1, hL]) (by rw [hL]; exact p2) p3 p4 p1 (by rw [hL]; exact p5) hgr
    (fun k hk => by simp only [Value.ownBlock, Option.some.injEq] at hk; subst hk; exact hB0) (Or.inl hB0)
    (fun u hu => by
      rcases List.mem_append.1 hu with hu | hu
      · exact g6 u (List.mem_of_mem_take hu)
      · exact g6 u (List.mem_of_mem_drop hu))
    (fun k j hk hj hjl => by
      rw [lay_del _ xs.length i z k j g5 hi hj]
      have hgd := delAt_getD xs i hi k
      rw [hL] at hk
      by_cases h1 : k < i
      · rw [if_pos h1] at hgd ⊢
        have h9 := g7 k j (by omega)
        simp only [hgd]
        exact h9 (by rw [henc]; exact hj)
      · rw [if_neg h1] at hgd ⊢
        have h9 := g7 (k + 1) j (by omega)
        simp only [hgd]
        exact h9 (by rw [henc]; exact hj))
    [(0, none), (1, some (rowOf e z enc (delAt xs i)))] (fun l b hl => by
      rw [lkh_cons] at hl
      split at hl
      · cases hl
      · rw [lkh_cons] at hl
        split at hl
        · cases hl; exact ⟨by omega, rfl⟩
        · cases hl) hc2 (by rw [hL])
  exact ⟨_, E', rfl, q1, q2, q3, q4, q5, q6, q7⟩
end Go.Proofs.Ytkdolemhhihidaa

namespace Go.Proofs.Ytkdolemhhihidaa
open Go.RowKit

/-- blocks told in other words -/
theorem Sat.rehp {O : Org} {E : Env} {nt : NT} {nx : Nat} {fr : List (Nat × SV)} {hp hp' : List (Nat × Option Blk)} {a : Act} {w : World} (h : Sat O E ⟨nt, nx, fr, hp⟩ a w)
    (hx : ∀ k b', lkh hp' k = some b' → ∃ b, lkh hp k = some b ∧ (∀ κ, b'.real κ → b.real κ) ∧ (BS E nx w k b → BS E nx w k b')) : Sat O E ⟨nt, nx, fr, hp'⟩ a w := by
  refine ⟨h.fr, h.nt, h.df, fun l b hb => ?_, fun l b hb => ?_, fun l l' b b' hb hb' hr hr' hne => ?_, fun b hb => ⟨(h.im b hb).1, (h.im b hb).2.1, fun l x hl hr => ?_⟩, fun l b hb hr => ?_, h.kq, h.lab, h.nl, h.imo⟩
  · obtain ⟨b0, h1, _, h3⟩ := hx l b hb; exact h3 (h.hp l b0 h1)
  · obtain ⟨b0, h1, _, _⟩ := hx l b hb; exact h.nx l b0 h1
  · obtain ⟨b0, h1, h2, _⟩ := hx l b hb
    obtain ⟨b1, h3, h4, _⟩ := hx l' b' hb'
    exact h.inj l l' b0 b1 h1 h3 (h2 _ hr) (h4 _ hr') hne
  · obtain ⟨b0, h1, h2, _⟩ := hx l x hl; exact (h.im b hb).2.2 l b0 h1 (h2 _ hr)
  · obtain ⟨b0, h1, h2, _⟩ := hx l b hb; exact h.own l b0 h1 (h2 _ hr)

def pm (l nx k : Nat) : Nat := bif Nat.beq k l then nx else k
def mvH (l nx : Nat) : List (Nat × Option Blk) → List (Nat × Option Blk)
  | [] => []
  | (k, none) :: r => (k, none) :: mvH l nx r
  | (k, some b) :: r => (k, some (renB (pm l nx) b)) :: mvH l nx r
theorem mvH_look {l nx : Nat} : ∀ (hp : List (Nat × Option Blk)) (k : Nat), lkh (mvH l nx hp) k = (lkh hp k).map (renB (pm l nx))
  | [], k => rfl
  | (j, none) :: r, k => by
    simp only [mvH, lkh_cons, mvH_look r k]; split <;> rfl
  | (j, some b) :: r, k => by
    simp only [mvH, lkh_cons, mvH_look r k]; split <;> rfl
theorem Sat.mv {O : Org} {E : Env} {nt : NT} {nx : Nat} {fr : List (Nat × SV)} {hp : List (Nat × Option Blk)} {a : Act} {w : World} (h : Sat O E ⟨nt, nx, fr, hp⟩ a w) {l e z n : Nat} {f : Nat → List D} (hl : lkh hp l = some (.row e z n f)) :
    Sat O (E.newrow nx (E.ρ l) (E.κ l)) ⟨nt, nx + 1, fr, (nx, some (.row e z n f)) :: (l, none) :: mvH l nx hp⟩ a w := by
  have hlx : l < nx := h.nx l _ hl
  have h0 := h.hp l _ hl
  have h1 := h.rename (w' := w) (b' := .row e z n f) hl (fun h => h) (fun _ _ _ => rfl) rfl ⟨rfl, rfl, rfl⟩ (by
    have := renB_ok (E := E) (E' := E.newrow nx (E.ρ l) (E.κ l)) (nx := nx) (nx' := nx + 1) (w := w) (π := pm l nx) (fun j hj => ?_) (fun j hj => ?_) (fun _ h => h) (l := l) (b := .row e z n f) hlx h0
    · have e1 : pm l nx l = nx := by simp [pm]
      rw [e1] at this; exact this
    · unfold pm
      cases hb : Nat.beq j l with
      | true => obtain rfl := Nat.eq_of_beq_eq_true hb; simp [Env.newrow]
      | false => simp only [cond_false, Env.newrow]; rw [if_neg (by omega), if_neg (by omega)]; exact ⟨rfl, rfl⟩
    · unfold pm
      cases hb : Nat.beq j l with
      | true => simp
      | false => simp only [cond_false]; omega)
  refine h1.rehp fun k b' hb' => ?_
  rw [lkh_cons] at hb'
  by_cases e1 : nx = k
  · rw [if_pos e1] at hb'; cases hb'
    exact ⟨_, by rw [lkh_cons, if_pos e1], fun _ h => h, fun h => h⟩
  · rw [if_neg e1, lkh_cons] at hb'
    by_cases e2 : l = k
    · rw [if_pos e2] at hb'; cases hb'
    · rw [if_neg e2, mvH_look] at hb'
      cases hq : lkh hp k with
      | none => rw [hq] at hb'; cases hb'
      | some b =>
        rw [hq] at hb'; cases hb'
        have hkx : k < nx := h.nx k b hq
        refine ⟨b, by rw [lkh_cons, if_neg e1, lkh_cons, if_neg e2]; exact hq, fun κ hr => (renB_real _ _ _).1 hr, fun hb => ?_⟩
        have := renB_ok (E := E.newrow nx (E.ρ l) (E.κ l)) (E' := E.newrow nx (E.ρ l) (E.κ l)) (nx := nx + 1) (nx' := nx + 1) (w := w) (π := pm l nx) (fun j hj => ?_) (fun j hj => ?_) (fun _ h => h) (l := k) (b := b) (by omega) hb
        · have e3 : pm l nx k = k := by
            unfold pm
            cases hb : Nat.beq k l with
            | true => exact absurd (Nat.eq_of_beq_eq_true hb).symm e2
            | false => rfl
          rw [e3] at this; exact this
        · unfold pm
          cases hb : Nat.beq j l with
          | true =>
            obtain rfl := Nat.eq_of_beq_eq_true hb
            have e4 : ¬ j = nx := by omega
            simp [Env.newrow, e4]
          | false => exact ⟨rfl, rfl⟩
        · unfold pm
          cases hb : Nat.beq j l with
          | true => simp
          | false => simp only [cond_false]; omega

theorem HB.sub {E E1 : Env} {hp hp1 : List (Nat × Option Blk)} (h : ∀ k b, lkh hp1 k = some b → b.real (E1.κ k) → ∃ l b', lkh hp l = some b' ∧ b'.real (E.κ l) ∧ E.ρ l = E1.ρ k) : ∀ b, HB E1 hp1 b → HB E hp b := by
  rintro b ⟨k, x, hk, hr, rfl⟩
  obtain ⟨l, b', h1, h2, h3⟩ := h k x hk hr
  exact ⟨l, b', h1, h2, h3⟩
theorem FinLe.via {m m' nx nx1 : Nat} {nt : NT} {fr fr1 : List (Nat × SV)} {hp hp1 : List (Nat × Option Blk)} {x r : SV} {H' : List (Nat × Option Blk)} (hm : m ≤ nx) (hn : nx ≤ nx1)
    (hs : ∀ O E a w, Sat O E ⟨nt, nx, fr, hp⟩ a w → ∃ E1, Sat O E1 ⟨nt, nx1, fr1, hp1⟩ a w ∧ (∀ l, l < nx → E1.ρ l = E.ρ l ∧ E1.κ l = E.κ l) ∧ E1.Im = E.Im ∧ ∀ b, HB E1 hp1 b → HB E hp b)
    (h : FinLe m ⟨nt, nx1, fr1, hp1⟩ x m' r H') : FinLe m ⟨nt, nx, fr, hp⟩ x m' r H' := by
  refine ⟨fun O E a w v hO hs0 hv => ?_⟩
  obtain ⟨E1, h1, h2, h3, h4⟩ := hs O E a w hs0
  obtain ⟨E', k1, k2, k3, k4, k5, k6⟩ := h.out O E1 a w v hO h1 (RS.mono (E := E) h2 hn (fun b hb => by rw [h3]; exact hb) (fun _ _ => rfl) hv)
  refine ⟨E', k1, fun l hl => ?_, fun b hb => h4 b (k3 b hb), fun b hb => ?_, fun b hb => k5 b (by rw [h3]; exact hb), k6⟩
  · obtain ⟨p1, p2⟩ := k2 l hl
    obtain ⟨p3, p4⟩ := h2 l (by omega)
    exact ⟨p1.trans p3, p2.trans p4⟩
  · rcases k4 b hb with hb | hb
    · exact Or.inl (by rw [← h3]; exact hb)
    · exact Or.inr (h4 b hb)
theorem newrow_lt {E : Env} {nx b c : Nat} : ∀ l, l < nx → (E.newrow nx b c).ρ l = E.ρ l ∧ (E.newrow nx b c).κ l = E.κ l := fun l hl => ⟨by simp only [Env.newrow]; rw [if_neg (by omega)], by simp only [Env.newrow]; rw [if_neg (by omega)]⟩
/-- label l goes on as a new one -/
theorem FinLe.mv {m m' nx : Nat} {nt : NT} {fr : List (Nat × SV)} {hp : List (Nat × Option Blk)} {x r : SV} {H' : List (Nat × Option Blk)} (l : Nat) {e z n : Nat} {f : Nat → List D} (hl : lkh hp l = some (.row e z n f)) (hm : m ≤ nx)
    (h : FinLe m ⟨nt, nx + 1, fr, (nx, some (.row e z n f)) :: (l, none) :: mvH l nx hp⟩ x m' r H') : FinLe m ⟨nt, nx, fr, hp⟩ x m' r H' := by
  refine FinLe.via hm (by omega) (fun O E a w hs => ⟨_, hs.mv hl, newrow_lt, rfl, HB.sub fun k b hk hr => ?_⟩) h
  rw [lkh_cons] at hk
  by_cases e1 : nx = k
  · subst e1; rw [if_pos rfl] at hk; cases hk
    exact ⟨l, _, hl, by simpa [Env.newrow] using hr, by simp [Env.newrow]⟩
  · rw [if_neg e1, lkh_cons] at hk
    by_cases e2 : l = k
    · rw [if_pos e2] at hk; cases hk
    · rw [if_neg e2, mvH_look] at hk
      cases hq : lkh hp k with
      | none => rw [hq] at hk; cases hk
      | some b0 =>
        rw [hq] at hk; cases hk
        have hkx := hs.nx k b0 hq
        obtain ⟨p1, p2⟩ := newrow_lt (E := E) (nx := nx) (b := E.ρ l) (c := E.κ l) k hkx
        rw [p2] at hr
        exact ⟨k, b0, hq, (renB_real _ _ _).1 hr, p1.symm⟩
theorem Le.mv {nx : Nat} {nt : NT} {fr : List (Nat × SV)} {hp : List (Nat × Option Blk)} (l : Nat) {e z n : Nat} {f : Nat → List D} (hl : lkh hp l = some (.row e z n f)) : Le ⟨nt, nx, fr, hp⟩ ⟨nt, nx + 1, fr, (nx, some (.row e z n f)) :: (l, none) :: mvH l nx hp⟩ :=
  ⟨fun _ _ _ _ hs => ⟨_, hs.mv hl⟩⟩

/-- nil in cell j of block k: an empty row -/
theorem Sat.virtC {O : Org} {E : Env} {nt : NT} {nx : Nat} {fr : List (Nat × SV)} {hp : List (Nat × Option Blk)} {a : Act} {w : World} (h : Sat O E ⟨nt, nx, fr, hp⟩ a w) (k j : Nat) {cs : List SV} (e z : Nat) (f : Nat → List D) (hz : 0 < z) (hk : lkh hp k = some (.cells cs)) (hj : cs[j]? = some (.d (.val (.slice none 0 0)))) :
    Sat O (E.newrow nx 0 0) ⟨nt, nx + 1, fr, (k, some (.cells (cs.set j (.sl nx z 0 0)))) :: (nx, some (.row e z 0 f)) :: hp⟩ a w := by
  have hkx : k < nx := h.nx k _ hk
  have h1 := h.virt (e := e) (f := f) hz
  refine h1.rehp fun q b' hb' => ?_
  rw [lkh_cons] at hb'
  by_cases e1 : k = q
  · subst e1
    rw [if_pos rfl] at hb'; cases hb'
    refine ⟨.cells cs, by rw [lkh_cons, if_neg (show ¬ nx = k by omega)]; exact hk, fun _ h => h, fun hb => ?_⟩
    obtain ⟨vs, T, g1, g2, g3⟩ := hb
    refine ⟨vs, T, g1, by simpa using g2, fun i hi => ?_⟩
    have hi' : i < cs.length := by simpa using hi
    by_cases e2 : j = i
    · subst e2
      have := (g3 j hi').1
      have e3 : cs[j] = .d (.val (.slice none 0 0)) := by rw [List.getElem?_eq_getElem hi'] at hj; exact Option.some.inj hj
      rw [e3] at this
      have hv := this.val_inv
      refine ⟨?_, (g3 j hi').2⟩
      rw [List.getElem_set_self, hv]
      exact .sl _ _ _ _ _ _ (by show nx < nx + 1; omega) (Nat.le_refl _) (by unfold maxLen; omega) (fun h => by omega) (fun _ => ⟨by simp [Env.newrow], fun h => by omega⟩)
    · rw [List.getElem_set_ne e2]; exact g3 i hi'
  · rw [if_neg e1] at hb'
    exact ⟨b', hb', fun _ h => h, fun h => h⟩
theorem FinLe.virtC {m m' nx : Nat} {nt : NT} {fr : List (Nat × SV)} {hp : List (Nat × Option Blk)} {x r : SV} {H' : List (Nat × Option Blk)} (k j e z : Nat) (f : Nat → List D) {cs : List SV} (hz : 0 < z) (hk : lkh hp k = some (.cells cs)) (hj : cs[j]? = some (.d (.val (.slice none 0 0)))) (hm : m ≤ nx)
    (h : FinLe m ⟨nt, nx + 1, fr, (k, some (.cells (cs.set j (.sl nx z 0 0)))) :: (nx, some (.row e z 0 f)) :: hp⟩ x m' r H') : FinLe m ⟨nt, nx, fr, hp⟩ x m' r H' := by
  refine FinLe.via hm (by omega) (fun O E a w hs => ⟨_, hs.virtC k j e z f hz hk hj, newrow_lt, rfl, HB.sub fun q b hq hr => ?_⟩) h
  have hkx : k < nx := hs.nx k _ hk
  rw [lkh_cons] at hq
  by_cases e1 : k = q
  · subst e1; rw [if_pos rfl] at hq; cases hq
    exact ⟨k, _, hk, trivial, (newrow_lt (E := E) k hkx).1.symm⟩
  · rw [if_neg e1, lkh_cons] at hq
    by_cases e2 : nx = q
    · subst e2; rw [if_pos rfl] at hq; cases hq
      simp [Blk.real, Env.newrow] at hr
    · rw [if_neg e2] at hq
      have hqx := hs.nx q b hq
      obtain ⟨p1, p2⟩ := newrow_lt (E := E) (nx := nx) (b := 0) (c := 0) q hqx
      rw [p2] at hr
      exact ⟨q, b, hq, hr, p1.symm⟩
theorem Le.virtC {nx : Nat} {nt : NT} {fr : List (Nat × SV)} {hp : List (Nat × Option Blk)} (k j e z : Nat) (f : Nat → List D) {cs : List SV} (hz : 0 < z) (hk : lkh hp k = some (.cells cs)) (hj : cs[j]? = some (.d (.val (.slice none 0 0)))) :
    Le ⟨nt, nx, fr, hp⟩ ⟨nt, nx + 1, fr, (k, some (.cells (cs.set j (.sl nx z 0 0)))) :: (nx, some (.row e z 0 f)) :: hp⟩ :=
  ⟨fun _ _ _ _ hs => ⟨_, hs.virtC k j e z f hz hk hj⟩⟩
theorem ArgLe.fn {L : List Nat} {f : Fn} {cs cs0 : List SV} (h : ArgLes L cs cs0) : ArgLe L (.fn f cs) (.fn f cs0) := by
  obtain ⟨h1, h2⟩ := h.out
  refine ⟨fun E nx w v hv => ?_⟩
  cases hv with
  | fn _ _ us hs hh =>
    refine .fn _ _ _ (by omega) fun j hj => ?_
    obtain ⟨x, g1, g2⟩ := h2 j _ (List.getElem?_eq_getElem hj)
    obtain ⟨q1, q2⟩ := List.getElem?_eq_some_iff.1 g1
    have := hh j q1
    rw [q2] at this
    exact g2.out _ _ _ _ this
theorem FinLe.mv2 {nx : Nat} {nt : NT} {fr : List (Nat × SV)} {hp : List (Nat × Option Blk)} {x r : SV} {H' : List (Nat × Option Blk)} {e z n : Nat} {f : Nat → List D} (hl : lkh hp 1 = some (.row e z n f)) (hm : Nat.ble 2 nx = true)
    (hx : rs2 ⟨nt, nx + 1, fr, (nx, some (.row e z n f)) :: (1, none) :: mvH 1 nx hp⟩ [0, 1, nx] x fun y => SV.Le y r) (hH : heapK ⟨nt, nx + 1, fr, (nx, some (.row e z n f)) :: (1, none) :: mvH 1 nx hp⟩ [0, 1, nx] H') : FinLe 2 ⟨nt, nx, fr, hp⟩ x 3 r H' := by
  have h2 : 2 ≤ nx := Nat.le_of_ble_eq_true hm
  refine FinLe.mv 1 hl h2 (FinLe.of [0, 1, nx] rfl (fun i hi => by have : i = 0 ∨ i = 1 := (by omega); rcases this with h | h <;> subst h <;> rfl) ?_ hx hH)
  have e1 : Nat.beq 0 nx = false := by cases h : Nat.beq 0 nx with | true => have := Nat.eq_of_beq_eq_true h; omega | false => rfl
  have e2 : Nat.beq 1 nx = false := by cases h : Nat.beq 1 nx with | true => have := Nat.eq_of_beq_eq_true h; omega | false => rfl
  have e3 : Nat.beq 0 1 = false := rfl
  simp [noDup, e1, e2, e3]
end Go.Proofs.Ytkdolemhhihidaa

namespace Go.Proofs.Ytkdolemhhihidaa
open Go.RowKit
set_option maxRecDepth 100000

structure Cel where
  pol : Int
  key : List Int
  tat : Int
  held : List Int
  deriving Inhabited
def Cel.D (c : Cel) : List D := [.val (.int .i64 c.pol), slOf 1 (encI .u8) c.key, .val (.int .i64 c.tat), slOf 1 (encI .i64) c.held]

theorem bytes_Clone (xs : List Int) (hn : xs.length ≤ 16777216) : Fun TC 58 0 [.d (slOf 1 (encI .u8) xs)] [] 1 (.sl 0 1 0 xs.length) [(0, some (rowOf 5 1 (encI .u8) xs))] := by
  refine Fun.mk' Try.func58 rfl rfl (Nat.le_of_ble_eq_true rfl) (by decide) ?_
  (repeat' (first
    | with_reducible refine Wp.seq ?_
    | with_reducible refine Wp.block ?_
    | ((with_reducible refine Wp.region ?_); conv => whnf)
    | ((with_reducible refine Wp.drawL TC_mixed ?_); conv => whnf)
    | ((with_reducible refine Wp.cond ?_); conv => whnf)
    | ((with_reducible refine Wp.ret ?_); conv => whnf)
    | ((with_reducible refine Wp.skip ?_); conv => whnf)
    | ((with_reducible refine Wp.exit ?_); conv => whnf)
    | ((with_reducible refine Go.mk ?_); conv => whnf)
    | ((with_reducible apply Eff1.of); conv => whnf)
    | with_reducible exact rfl
    | ((with_reducible refine Ov.ok (by first | exact IntWalk.i64_in _ (by omega) | exact IntWalk.u64_in _ (by omega) | exact IntWalk.u8_in _ (by omega) | exact IntWalk.u32_in _ (by omega) | exact IntWalk.i32_in _ (by omega) | exact IntWalk.u16_in _ (by omega)) ?_); conv => whnf)
    | (with_reducible refine Ov.sh1 (by with_unfolding_all exact rfl) ?_)
    | ((with_reducible refine Ov.quo (by omega) (by omega) (by omega) (fun _ _ => ?_)); conv => whnf)
    | ((with_reducible refine And.intro (show drawOK _ _ _ _ = true by kernel_rfl) ?_); conv => whnf)
    | ((with_reducible refine And.intro (by first | omega | exact Nat.le_of_ble_eq_true rfl) ?_); conv => whnf)
    | ((with_reducible refine And.intro ?hb ?_); (case hb => exact bytes_bd (Nat.le_of_ble_eq_true rfl) (by omega)); (conv => whnf))
    | ((refine DApp.a rfl rfl rfl rfl rfl rfl ?hb ?_); (case hb => first | exact bytes_bd (Nat.le_of_ble_eq_true rfl) (by omega) | omega); (conv => whnf))
    | ((refine DApp.b rfl rfl rfl rfl rfl rfl rfl rfl ?hb ?ho ?_); (case hb => first | exact bytes_bd (Nat.le_of_ble_eq_true rfl) (by omega) | omega); (case ho => omega); (conv => whnf))
    | ((refine DApp.c rfl rfl rfl rfl rfl ?hb ?_); (case hb => first | exact bytes_bd (Nat.le_of_ble_eq_true rfl) (by omega) | omega); (conv => whnf))
    | ((refine DApp.d rfl rfl rfl rfl rfl rfl ?hb ?ho ?_); (case hb => first | exact bytes_bd (Nat.le_of_ble_eq_true rfl) (by omega) | omega); (case ho => omega); (conv => whnf))
    | ((with_reducible refine nil_no (by omega) ?_); (conv => whnf))
    | ((with_reducible refine nil_any ?_ (fun hn0 => ?_)) <;> (conv => whnf))
    
    | ((refine ways (fun hc => ?_) (fun hc => ?_)) <;> (try simp only [decide_eq_true_eq, decide_eq_false_iff_not, Bool.and_eq_true, Bool.or_eq_true, Bool.and_eq_false_iff, Bool.or_eq_false_iff, Bool.not_eq_true', Bool.not_eq_false', beq_iff_eq, bne_iff_ne, ne_eq, beq_eq_false_iff_ne, bne_eq_false_iff_eq, Bool.not_eq_true, Bool.not_eq_false] at hc) <;> (try (exfalso; omega)) <;> (conv => whnf))))
  · refine FinLe.of [1] rfl (by simp) rfl ?_ ?_
    · exact .of_eq (congrArg (SV.sl _ _ _) (Nat.zero_add _))
    · refine ⟨⟨⟨rfl, rfl, Nat.zero_add _⟩, fun i hi => ?_⟩, trivial⟩
      simp [catF]
  · obtain rfl := List.eq_nil_of_length_eq_zero hn0
    refine FinLe.virt 5 1 (fun i => (encI .u8) (([] : List Int).getD i default)) (by decide) (by decide) ?_
    refine FinLe.of [0] rfl (by simp) rfl ?_ ?_
    · exact .of_eq rfl
    · exact ⟨⟨⟨rfl, rfl, rfl⟩, fun i hi => rfl⟩, trivial⟩
theorem bytes_Clone_own (xs : List Int) (hn : xs.length ≤ 16777216) : Fun TC 58 1 [.sl 0 1 0 xs.length] [(0, some (rowOf 5 1 (encI .u8) xs))] 2 (.sl 1 1 0 xs.length) [(0, some (rowOf 5 1 (encI .u8) xs)), (1, some (rowOf 5 1 (encI .u8) xs))] := by
  refine Fun.mk' Try.func58 rfl rfl (Nat.le_of_ble_eq_true rfl) (by decide) ?_
  (repeat' (first
    | with_reducible refine Wp.seq ?_
    | with_reducible refine Wp.block ?_
    | ((with_reducible refine Wp.region ?_); conv => whnf)
    | ((with_reducible refine Wp.drawL TC_mixed ?_); conv => whnf)
    | ((with_reducible refine Wp.cond ?_); conv => whnf)
    | ((with_reducible refine Wp.ret ?_); conv => whnf)
    | ((with_reducible refine Wp.skip ?_); conv => whnf)
    | ((with_reducible refine Wp.exit ?_); conv => whnf)
    | ((with_reducible refine Go.mk ?_); conv => whnf)
    | ((with_reducible apply Eff1.of); conv => whnf)
    | with_reducible exact rfl
    | ((with_reducible refine Ov.ok (by first | exact IntWalk.i64_in _ (by omega) | exact IntWalk.u64_in _ (by omega) | exact IntWalk.u8_in _ (by omega) | exact IntWalk.u32_in _ (by omega) | exact IntWalk.i32_in _ (by omega) | exact IntWalk.u16_in _ (by omega)) ?_); conv => whnf)
    | (with_reducible refine Ov.sh1 (by with_unfolding_all exact rfl) ?_)
    | ((with_reducible refine Ov.quo (by omega) (by omega) (by omega) (fun _ _ => ?_)); conv => whnf)
    | ((with_reducible refine And.intro (show drawOK _ _ _ _ = true by kernel_rfl) ?_); conv => whnf)
    | ((with_reducible refine And.intro (by first | omega | exact Nat.le_of_ble_eq_true rfl) ?_); conv => whnf)
    | ((with_reducible refine And.intro ?hb ?_); (case hb => exact bytes_bd (Nat.le_of_ble_eq_true rfl) (by omega)); (conv => whnf))
    | ((refine DApp.a rfl rfl rfl rfl rfl rfl ?hb ?_); (case hb => first | exact bytes_bd (Nat.le_of_ble_eq_true rfl) (by omega) | omega); (conv => whnf))
    | ((refine DApp.b rfl rfl rfl rfl rfl rfl rfl rfl ?hb ?ho ?_); (case hb => first | exact bytes_bd (Nat.le_of_ble_eq_true rfl) (by omega) | omega); (case ho => omega); (conv => whnf))
    | ((refine DApp.c rfl rfl rfl rfl rfl ?hb ?_); (case hb => first | exact bytes_bd (Nat.le_of_ble_eq_true rfl) (by omega) | omega); (conv => whnf))
    | ((refine DApp.d rfl rfl rfl rfl rfl rfl ?hb ?ho ?_); (case hb => first | exact bytes_bd (Nat.le_of_ble_eq_true rfl) (by omega) | omega); (case ho => omega); (conv => whnf))
    | ((with_reducible refine nil_no (by omega) ?_); (conv => whnf))
    | ((with_reducible refine nil_any ?_ (fun hn0 => ?_)) <;> (conv => whnf))
    
    | ((refine ways (fun hc => ?_) (fun hc => ?_)) <;> (try simp only [decide_eq_true_eq, decide_eq_false_iff_not, Bool.and_eq_true, Bool.or_eq_true, Bool.and_eq_false_iff, Bool.or_eq_false_iff, Bool.not_eq_true', Bool.not_eq_false', beq_iff_eq, bne_iff_ne, ne_eq, beq_eq_false_iff_ne, bne_eq_false_iff_eq, Bool.not_eq_true, Bool.not_eq_false] at hc) <;> (try (exfalso; omega)) <;> (conv => whnf))))
  · refine FinLe.of [0, 2] rfl (fun i hi => by have : i = 0 := (by omega); subst this; rfl) rfl ?_ ?_
    · exact .of_eq (congrArg (SV.sl _ _ _) (Nat.zero_add _))
    · refine ⟨⟨⟨rfl, rfl, rfl⟩, fun i hi => rfl⟩, ⟨⟨rfl, rfl, Nat.zero_add _⟩, fun i hi => ?_⟩, trivial⟩
      simp [catF]
  · obtain rfl := List.eq_nil_of_length_eq_zero hn0
    refine FinLe.virt 5 1 (fun i => (encI .u8) (([] : List Int).getD i default)) (by decide) (by decide) ?_
    refine FinLe.of [0, 1] rfl (fun i hi => by have : i = 0 := (by omega); subst this; rfl) rfl ?_ ?_
    · exact .of_eq rfl
    · exact ⟨⟨⟨rfl, rfl, rfl⟩, fun i hi => rfl⟩, ⟨⟨rfl, rfl, rfl⟩, fun i hi => rfl⟩, trivial⟩
theorem i64_Clone (xs : List Int) (hn : xs.length ≤ 16777216) : Fun TC 62 0 [.d (slOf 1 (encI .i64) xs)] [] 1 (.sl 0 1 0 xs.length) [(0, some (rowOf 2 1 (encI .i64) xs))] := by
  refine Fun.mk' Try.func62 rfl rfl (Nat.le_of_ble_eq_true rfl) (by decide) ?_
  (repeat' (first
    | with_reducible refine Wp.seq ?_
    | with_reducible refine Wp.block ?_
    | ((with_reducible refine Wp.region ?_); conv => whnf)
    | ((with_reducible refine Wp.drawL TC_mixed ?_); conv => whnf)
    | ((with_reducible refine Wp.cond ?_); conv => whnf)
    | ((with_reducible refine Wp.ret ?_); conv => whnf)
    | ((with_reducible refine Wp.skip ?_); conv => whnf)
    | ((with_reducible refine Wp.exit ?_); conv => whnf)
    | ((with_reducible refine Go.mk ?_); conv => whnf)
    | ((with_reducible apply Eff1.of); conv => whnf)
    | with_reducible exact rfl
    | ((with_reducible refine Ov.ok (by first | exact IntWalk.i64_in _ (by omega) | exact IntWalk.u64_in _ (by omega) | exact IntWalk.u8_in _ (by omega) | exact IntWalk.u32_in _ (by omega) | exact IntWalk.i32_in _ (by omega) | exact IntWalk.u16_in _ (by omega)) ?_); conv => whnf)
    | (with_reducible refine Ov.sh1 (by with_unfolding_all exact rfl) ?_)
    | ((with_reducible refine Ov.quo (by omega) (by omega) (by omega) (fun _ _ => ?_)); conv => whnf)
    | ((with_reducible refine And.intro (show drawOK _ _ _ _ = true by kernel_rfl) ?_); conv => whnf)
    | ((with_reducible refine And.intro (by first | omega | exact Nat.le_of_ble_eq_true rfl) ?_); conv => whnf)
    | ((with_reducible refine And.intro ?hb ?_); (case hb => exact bytes_bd (Nat.le_of_ble_eq_true rfl) (by omega)); (conv => whnf))
    | ((refine DApp.a rfl rfl rfl rfl rfl rfl ?hb ?_); (case hb => first | exact bytes_bd (Nat.le_of_ble_eq_true rfl) (by omega) | omega); (conv => whnf))
    | ((refine DApp.b rfl rfl rfl rfl rfl rfl rfl rfl ?hb ?ho ?_); (case hb => first | exact bytes_bd (Nat.le_of_ble_eq_true rfl) (by omega) | omega); (case ho => omega); (conv => whnf))
    | ((refine DApp.c rfl rfl rfl rfl rfl ?hb ?_); (case hb => first | exact bytes_bd (Nat.le_of_ble_eq_true rfl) (by omega) | omega); (conv => whnf))
    | ((refine DApp.d rfl rfl rfl rfl rfl rfl ?hb ?ho ?_); (case hb => first | exact bytes_bd (Nat.le_of_ble_eq_true rfl) (by omega) | omega); (case ho => omega); (conv => whnf))
    | ((with_reducible refine nil_no (by omega) ?_); (conv => whnf))
    | ((with_reducible refine nil_any ?_ (fun hn0 => ?_)) <;> (conv => whnf))
    
    | ((refine ways (fun hc => ?_) (fun hc => ?_)) <;> (try simp only [decide_eq_true_eq, decide_eq_false_iff_not, Bool.and_eq_true, Bool.or_eq_true, Bool.and_eq_false_iff, Bool.or_eq_false_iff, Bool.not_eq_true', Bool.not_eq_false', beq_iff_eq, bne_iff_ne, ne_eq, beq_eq_false_iff_ne, bne_eq_false_iff_eq, Bool.not_eq_true, Bool.not_eq_false] at hc) <;> (try (exfalso; omega)) <;> (conv => whnf))))
  · refine FinLe.of [1] rfl (by simp) rfl ?_ ?_
    · exact .of_eq (congrArg (SV.sl _ _ _) (Nat.zero_add _))
    · refine ⟨⟨⟨rfl, rfl, Nat.zero_add _⟩, fun i hi => ?_⟩, trivial⟩
      simp [catF]
  · obtain rfl := List.eq_nil_of_length_eq_zero hn0
    refine FinLe.virt 2 1 (fun i => (encI .i64) (([] : List Int).getD i default)) (by decide) (by decide) ?_
    refine FinLe.of [0] rfl (by simp) rfl ?_ ?_
    · exact .of_eq rfl
    · exact ⟨⟨⟨rfl, rfl, rfl⟩, fun i hi => rfl⟩, trivial⟩
theorem i64_Clone_own (xs : List Int) (hn : xs.length ≤ 16777216) : Fun TC 62 1 [.sl 0 1 0 xs.length] [(0, some (rowOf 2 1 (encI .i64) xs))] 2 (.sl 1 1 0 xs.length) [(0, some (rowOf 2 1 (encI .i64) xs)), (1, some (rowOf 2 1 (encI .i64) xs))] := by
  refine Fun.mk' Try.func62 rfl rfl (Nat.le_of_ble_eq_true rfl) (by decide) ?_
  (repeat' (first
    | with_reducible refine Wp.seq ?_
    | with_reducible refine Wp.block ?_
    | ((with_reducible refine Wp.region ?_); conv => whnf)
    | ((with_reducible refine Wp.drawL TC_mixed ?_); conv => whnf)
    | ((with_reducible refine Wp.cond ?_); conv => whnf)
    | ((with_reducible refine Wp.ret ?_); conv => whnf)
    | ((with_reducible refine Wp.skip ?_); conv => whnf)
    | ((with_reducible refine Wp.exit ?_); conv => whnf)
    | ((with_reducible refine Go.mk ?_); conv => whnf)
    | ((with_reducible apply Eff1.of); conv => whnf)
    | with_reducible exact rfl
    | ((with_reducible refine Ov.ok (by first | exact IntWalk.i64_in _ (by omega) | exact IntWalk.u64_in _ (by omega) | exact IntWalk.u8_in _ (by omega) | exact IntWalk.u32_in _ (by omega) | exact IntWalk.i32_in _ (by omega) | exact IntWalk.u16_in _ (by omega)) ?_); conv => whnf)
    | (with_reducible refine Ov.sh1 (by with_unfolding_all exact rfl) ?_)
    | ((with_reducible refine Ov.quo (by omega) (by omega) (by omega) (fun _ _ => ?_)); conv => whnf)
    | ((with_reducible refine And.intro (show drawOK _ _ _ _ = true by kernel_rfl) ?_); conv => whnf)
    | ((with_reducible refine And.intro (by first | omega | exact Nat.le_of_ble_eq_true rfl) ?_); conv => whnf)
    | ((with_reducible refine And.intro ?hb ?_); (case hb => exact bytes_bd (Nat.le_of_ble_eq_true rfl) (by omega)); (conv => whnf))
    | ((refine DApp.a rfl rfl rfl rfl rfl rfl ?hb ?_); (case hb => first | exact bytes_bd (Nat.le_of_ble_eq_true rfl) (by omega) | omega); (conv => whnf))
    | ((refine DApp.b rfl rfl rfl rfl rfl rfl rfl rfl ?hb ?ho ?_); (case hb => first | exact bytes_bd (Nat.le_of_ble_eq_true rfl) (by omega) | omega); (case ho => omega); (conv => whnf))
    | ((refine DApp.c rfl rfl rfl rfl rfl ?hb ?_); (case hb => first | exact bytes_bd (Nat.le_of_ble_eq_true rfl) (by omega) | omega); (conv => whnf))
    | ((refine DApp.d rfl rfl rfl rfl rfl rfl ?hb ?ho ?_); (case hb => first | exact bytes_bd (Nat.le_of_ble_eq_true rfl) (by omega) | omega); (case ho => omega); (conv => whnf))
    | ((with_reducible refine nil_no (by omega) ?_); (conv => whnf))
    | ((with_reducible refine nil_any ?_ (fun hn0 => ?_)) <;> (conv => whnf))
    
    | ((refine ways (fun hc => ?_) (fun hc => ?_)) <;> (try simp only [decide_eq_true_eq, decide_eq_false_iff_not, Bool.and_eq_true, Bool.or_eq_true, Bool.and_eq_false_iff, Bool.or_eq_false_iff, Bool.not_eq_true', Bool.not_eq_false', beq_iff_eq, bne_iff_ne, ne_eq, beq_eq_false_iff_ne, bne_eq_false_iff_eq, Bool.not_eq_true, Bool.not_eq_false] at hc) <;> (try (exfalso; omega)) <;> (conv => whnf))))
  · refine FinLe.of [0, 2] rfl (fun i hi => by have : i = 0 := (by omega); subst this; rfl) rfl ?_ ?_
    · exact .of_eq (congrArg (SV.sl _ _ _) (Nat.zero_add _))
    · refine ⟨⟨⟨rfl, rfl, rfl⟩, fun i hi => rfl⟩, ⟨⟨rfl, rfl, Nat.zero_add _⟩, fun i hi => ?_⟩, trivial⟩
      simp [catF]
  · obtain rfl := List.eq_nil_of_length_eq_zero hn0
    refine FinLe.virt 2 1 (fun i => (encI .i64) (([] : List Int).getD i default)) (by decide) (by decide) ?_
    refine FinLe.of [0, 1] rfl (fun i hi => by have : i = 0 := (by omega); subst this; rfl) rfl ?_ ?_
    · exact .of_eq rfl
    · exact ⟨⟨⟨rfl, rfl, rfl⟩, fun i hi => rfl⟩, ⟨⟨rfl, rfl, rfl⟩, fun i hi => rfl⟩, trivial⟩
theorem cel_Clone (xs : List Cel) (hn : xs.length ≤ 16777216) : Fun TC 57 0 [.d (slOf 4 Cel.D xs)] [] 1 (.sl 0 4 0 xs.length) [(0, some (rowOf 73 4 Cel.D xs))] := by
  refine Fun.mk' Try.func57 rfl rfl (Nat.le_of_ble_eq_true rfl) (by decide) ?_
  (repeat' (first
    | with_reducible refine Wp.seq ?_
    | with_reducible refine Wp.block ?_
    | ((with_reducible refine Wp.region ?_); conv => whnf)
    | ((with_reducible refine Wp.drawL TC_mixed ?_); conv => whnf)
    | ((with_reducible refine Wp.cond ?_); conv => whnf)
    | ((with_reducible refine Wp.ret ?_); conv => whnf)
    | ((with_reducible refine Wp.skip ?_); conv => whnf)
    | ((with_reducible refine Wp.exit ?_); conv => whnf)
    | ((with_reducible refine Go.mk ?_); conv => whnf)
    | ((with_reducible apply Eff1.of); conv => whnf)
    | with_reducible exact rfl
    | ((with_reducible refine Ov.ok (by first | exact IntWalk.i64_in _ (by omega) | exact IntWalk.u64_in _ (by omega) | exact IntWalk.u8_in _ (by omega) | exact IntWalk.u32_in _ (by omega) | exact IntWalk.i32_in _ (by omega) | exact IntWalk.u16_in _ (by omega)) ?_); conv => whnf)
    | (with_reducible refine Ov.sh1 (by with_unfolding_all exact rfl) ?_)
    | ((with_reducible refine Ov.quo (by omega) (by omega) (by omega) (fun _ _ => ?_)); conv => whnf)
    | ((with_reducible refine And.intro (show drawOK _ _ _ _ = true by kernel_rfl) ?_); conv => whnf)
    | ((with_reducible refine And.intro (by first | omega | exact Nat.le_of_ble_eq_true rfl) ?_); conv => whnf)
    | ((with_reducible refine And.intro ?hb ?_); (case hb => exact bytes_bd (Nat.le_of_ble_eq_true rfl) (by omega)); (conv => whnf))
    | ((refine DApp.a rfl rfl rfl rfl rfl rfl ?hb ?_); (case hb => first | exact bytes_bd (Nat.le_of_ble_eq_true rfl) (by omega) | omega); (conv => whnf))
    | ((refine DApp.b rfl rfl rfl rfl rfl rfl rfl rfl ?hb ?ho ?_); (case hb => first | exact bytes_bd (Nat.le_of_ble_eq_true rfl) (by omega) | omega); (case ho => omega); (conv => whnf))
    | ((refine DApp.c rfl rfl rfl rfl rfl ?hb ?_); (case hb => first | exact bytes_bd (Nat.le_of_ble_eq_true rfl) (by omega) | omega); (conv => whnf))
    | ((refine DApp.d rfl rfl rfl rfl rfl rfl ?hb ?ho ?_); (case hb => first | exact bytes_bd (Nat.le_of_ble_eq_true rfl) (by omega) | omega); (case ho => omega); (conv => whnf))
    | ((with_reducible refine nil_no (by omega) ?_); (conv => whnf))
    | ((with_reducible refine nil_any ?_ (fun hn0 => ?_)) <;> (conv => whnf))
    
    | ((refine ways (fun hc => ?_) (fun hc => ?_)) <;> (try simp only [decide_eq_true_eq, decide_eq_false_iff_not, Bool.and_eq_true, Bool.or_eq_true, Bool.and_eq_false_iff, Bool.or_eq_false_iff, Bool.not_eq_true', Bool.not_eq_false', beq_iff_eq, bne_iff_ne, ne_eq, beq_eq_false_iff_ne, bne_eq_false_iff_eq, Bool.not_eq_true, Bool.not_eq_false] at hc) <;> (try (exfalso; omega)) <;> (conv => whnf))))
  · refine FinLe.of [1] rfl (by simp) rfl ?_ ?_
    · exact .of_eq (congrArg (SV.sl _ _ _) (Nat.zero_add _))
    · refine ⟨⟨⟨rfl, rfl, Nat.zero_add _⟩, fun i hi => ?_⟩, trivial⟩
      simp [catF]
  · obtain rfl := List.eq_nil_of_length_eq_zero hn0
    refine FinLe.virt 73 4 (fun i => Cel.D (([] : List Cel).getD i default)) (by decide) (by decide) ?_
    refine FinLe.of [0] rfl (by simp) rfl ?_ ?_
    · exact .of_eq rfl
    · exact ⟨⟨⟨rfl, rfl, rfl⟩, fun i hi => rfl⟩, trivial⟩
theorem cel_Clone_own (xs : List Cel) (hn : xs.length ≤ 16777216) : Fun TC 57 1 [.sl 0 4 0 xs.length] [(0, some (rowOf 73 4 Cel.D xs))] 2 (.sl 1 4 0 xs.length) [(0, some (rowOf 73 4 Cel.D xs)), (1, some (rowOf 73 4 Cel.D xs))] := by
  refine Fun.mk' Try.func57 rfl rfl (Nat.le_of_ble_eq_true rfl) (by decide) ?_
  (repeat' (first
    | with_reducible refine Wp.seq ?_
    | with_reducible refine Wp.block ?_
    | ((with_reducible refine Wp.region ?_); conv => whnf)
    | ((with_reducible refine Wp.drawL TC_mixed ?_); conv => whnf)
    | ((with_reducible refine Wp.cond ?_); conv => whnf)
    | ((with_reducible refine Wp.ret ?_); conv => whnf)
    | ((with_reducible refine Wp.skip ?_); conv => whnf)
    | ((with_reducible refine Wp.exit ?_); conv => whnf)
    | ((with_reducible refine Go.mk ?_); conv => whnf)
    | ((with_reducible apply Eff1.of); conv => whnf)
    | with_reducible exact rfl
    | ((with_reducible refine Ov.ok (by first | exact IntWalk.i64_in _ (by omega) | exact IntWalk.u64_in _ (by omega) | exact IntWalk.u8_in _ (by omega) | exact IntWalk.u32_in _ (by omega) | exact IntWalk.i32_in _ (by omega) | exact IntWalk.u16_in _ (by omega)) ?_); conv => whnf)
    | (with_reducible refine Ov.sh1 (by with_unfolding_all exact rfl) ?_)
    | ((with_reducible refine Ov.quo (by omega) (by omega) (by omega) (fun _ _ => ?_)); conv => whnf)
    | ((with_reducible refine And.intro (show drawOK _ _ _ _ = true by kernel_rfl) ?_); conv => whnf)
    | ((with_reducible refine And.intro (by first | omega | exact Nat.le_of_ble_eq_true rfl) ?_); conv => whnf)
    | ((with_reducible refine And.intro ?hb ?_); (case hb => exact bytes_bd (Nat.le_of_ble_eq_true rfl) (by omega)); (conv => whnf))
    | ((refine DApp.a rfl rfl rfl rfl rfl rfl ?hb ?_); (case hb => first | exact bytes_bd (Nat.le_of_ble_eq_true rfl) (by omega) | omega); (conv => whnf))
    | ((refine DApp.b rfl rfl rfl rfl rfl rfl rfl rfl ?hb ?ho ?_); (case hb => first | exact bytes_bd (Nat.le_of_ble_eq_true rfl) (by omega) | omega); (case ho => omega); (conv => whnf))
    | ((refine DApp.c rfl rfl rfl rfl rfl ?hb ?_); (case hb => first | exact bytes_bd (Nat.le_of_ble_eq_true rfl) (by omega) | omega); (conv => whnf))
    | ((refine DApp.d rfl rfl rfl rfl rfl rfl ?hb ?ho ?_); (case hb => first | exact bytes_bd (Nat.le_of_ble_eq_true rfl) (by omega) | omega); (case ho => omega); (conv => whnf))
    | ((with_reducible refine nil_no (by omega) ?_); (conv => whnf))
    | ((with_reducible refine nil_any ?_ (fun hn0 => ?_)) <;> (conv => whnf))
    
    | ((refine ways (fun hc => ?_) (fun hc => ?_)) <;> (try simp only [decide_eq_true_eq, decide_eq_false_iff_not, Bool.and_eq_true, Bool.or_eq_true, Bool.and_eq_false_iff, Bool.or_eq_false_iff, Bool.not_eq_true', Bool.not_eq_false', beq_iff_eq, bne_iff_ne, ne_eq, beq_eq_false_iff_ne, bne_eq_false_iff_eq, Bool.not_eq_true, Bool.not_eq_false] at hc) <;> (try (exfalso; omega)) <;> (conv => whnf))))
  · refine FinLe.of [0, 2] rfl (fun i hi => by have : i = 0 := (by omega); subst this; rfl) rfl ?_ ?_
    · exact .of_eq (congrArg (SV.sl _ _ _) (Nat.zero_add _))
    · refine ⟨⟨⟨rfl, rfl, rfl⟩, fun i hi => rfl⟩, ⟨⟨rfl, rfl, Nat.zero_add _⟩, fun i hi => ?_⟩, trivial⟩
      simp [catF]
  · obtain rfl := List.eq_nil_of_length_eq_zero hn0
    refine FinLe.virt 73 4 (fun i => Cel.D (([] : List Cel).getD i default)) (by decide) (by decide) ?_
    refine FinLe.of [0, 1] rfl (fun i hi => by have : i = 0 := (by omega); subst this; rfl) rfl ?_ ?_
    · exact .of_eq rfl
    · exact ⟨⟨⟨rfl, rfl, rfl⟩, fun i hi => rfl⟩, ⟨⟨rfl, rfl, rfl⟩, fun i hi => rfl⟩, trivial⟩
theorem pol_Clone (xs : List Pol) (hn : xs.length ≤ 16777216) : Fun TC 32 0 [.d (slOf 4 Pol.D xs)] [] 1 (.sl 0 4 0 xs.length) [(0, some (rowOf 51 4 Pol.D xs))] := by
  refine Fun.mk' Try.func32 rfl rfl (Nat.le_of_ble_eq_true rfl) (by decide) ?_
  (repeat' (first
    | with_reducible refine Wp.seq ?_
    | with_reducible refine Wp.block ?_
    | ((with_reducible refine Wp.region ?_); conv => whnf)
    | ((with_reducible refine Wp.drawL TC_mixed ?_); conv => whnf)
    | ((with_reducible refine Wp.cond ?_); conv => whnf)
    | ((with_reducible refine Wp.ret ?_); conv => whnf)
    | ((with_reducible refine Wp.skip ?_); conv => whnf)
    | ((with_reducible refine Wp.exit ?_); conv => whnf)
    | ((with_reducible refine Go.mk ?_); conv => whnf)
    | ((with_reducible apply Eff1.of); conv => whnf)
    | with_reducible exact rfl
    | ((with_reducible refine Ov.ok (by first | exact IntWalk.i64_in _ (by omega) | exact IntWalk.u64_in _ (by omega) | exact IntWalk.u8_in _ (by omega) | exact IntWalk.u32_in _ (by omega) | exact IntWalk.i32_in _ (by omega) | exact IntWalk.u16_in _ (by omega)) ?_); conv => whnf)
    | (with_reducible refine Ov.sh1 (by with_unfolding_all exact rfl) ?_)
    | ((with_reducible refine Ov.quo (by omega) (by omega) (by omega) (fun _ _ => ?_)); conv => whnf)
    | ((with_reducible refine And.intro (show drawOK _ _ _ _ = true by kernel_rfl) ?_); conv => whnf)
    | ((with_reducible refine And.intro (by first | omega | exact Nat.le_of_ble_eq_true rfl) ?_); conv => whnf)
    | ((with_reducible refine And.intro ?hb ?_); (case hb => exact bytes_bd (Nat.le_of_ble_eq_true rfl) (by omega)); (conv => whnf))
    | ((refine DApp.a rfl rfl rfl rfl rfl rfl ?hb ?_); (case hb => first | exact bytes_bd (Nat.le_of_ble_eq_true rfl) (by omega) | omega); (conv => whnf))
    | ((refine DApp.b rfl rfl rfl rfl rfl rfl rfl rfl ?hb ?ho ?_); (case hb => first | exact bytes_bd (Nat.le_of_ble_eq_true rfl) (by omega) | omega); (case ho => omega); (conv => whnf))
    | ((refine DApp.c rfl rfl rfl rfl rfl ?hb ?_); (case hb => first | exact bytes_bd (Nat.le_of_ble_eq_true rfl) (by omega) | omega); (conv => whnf))
    | ((refine DApp.d rfl rfl rfl rfl rfl rfl ?hb ?ho ?_); (case hb => first | exact bytes_bd (Nat.le_of_ble_eq_true rfl) (by omega) | omega); (case ho => omega); (conv => whnf))
    | ((with_reducible refine nil_no (by omega) ?_); (conv => whnf))
    | ((with_reducible refine nil_any ?_ (fun hn0 => ?_)) <;> (conv => whnf))
    
    | ((refine ways (fun hc => ?_) (fun hc => ?_)) <;> (try simp only [decide_eq_true_eq, decide_eq_false_iff_not, Bool.and_eq_true, Bool.or_eq_true, Bool.and_eq_false_iff, Bool.or_eq_false_iff, Bool.not_eq_true', Bool.not_eq_false', beq_iff_eq, bne_iff_ne, ne_eq, beq_eq_false_iff_ne, bne_eq_false_iff_eq, Bool.not_eq_true, Bool.not_eq_false] at hc) <;> (try (exfalso; omega)) <;> (conv => whnf))))
  · refine FinLe.of [1] rfl (by simp) rfl ?_ ?_
    · exact .of_eq (congrArg (SV.sl _ _ _) (Nat.zero_add _))
    · refine ⟨⟨⟨rfl, rfl, Nat.zero_add _⟩, fun i hi => ?_⟩, trivial⟩
      simp [catF]
  · obtain rfl := List.eq_nil_of_length_eq_zero hn0
    refine FinLe.virt 51 4 (fun i => Pol.D (([] : List Pol).getD i default)) (by decide) (by decide) ?_
    refine FinLe.of [0] rfl (by simp) rfl ?_ ?_
    · exact .of_eq rfl
    · exact ⟨⟨⟨rfl, rfl, rfl⟩, fun i hi => rfl⟩, trivial⟩
theorem pol_Clone_own (xs : List Pol) (hn : xs.length ≤ 16777216) : Fun TC 32 1 [.sl 0 4 0 xs.length] [(0, some (rowOf 51 4 Pol.D xs))] 2 (.sl 1 4 0 xs.length) [(0, some (rowOf 51 4 Pol.D xs)), (1, some (rowOf 51 4 Pol.D xs))] := by
  refine Fun.mk' Try.func32 rfl rfl (Nat.le_of_ble_eq_true rfl) (by decide) ?_
  (repeat' (first
    | with_reducible refine Wp.seq ?_
    | with_reducible refine Wp.block ?_
    | ((with_reducible refine Wp.region ?_); conv => whnf)
    | ((with_reducible refine Wp.drawL TC_mixed ?_); conv => whnf)
    | ((with_reducible refine Wp.cond ?_); conv => whnf)
    | ((with_reducible refine Wp.ret ?_); conv => whnf)
    | ((with_reducible refine Wp.skip ?_); conv => whnf)
    | ((with_reducible refine Wp.exit ?_); conv => whnf)
    | ((with_reducible refine Go.mk ?_); conv => whnf)
    | ((with_reducible apply Eff1.of); conv => whnf)
    | with_reducible exact rfl
    | ((with_reducible refine Ov.ok (by first | exact IntWalk.i64_in _ (by omega) | exact IntWalk.u64_in _ (by omega) | exact IntWalk.u8_in _ (by omega) | exact IntWalk.u32_in _ (by omega) | exact IntWalk.i32_in _ (by omega) | exact IntWalk.u16_in _ (by omega)) ?_); conv => whnf)
    | (with_reducible refine Ov.sh1 (by with_unfolding_all exact rfl) ?_)
    | ((with_reducible refine Ov.quo (by omega) (by omega) (by omega) (fun _ _ => ?_)); conv => whnf)
    | ((with_reducible refine And.intro (show drawOK _ _ _ _ = true by kernel_rfl) ?_); conv => whnf)
    | ((with_reducible refine And.intro (by first | omega | exact Nat.le_of_ble_eq_true rfl) ?_); conv => whnf)
    | ((with_reducible refine And.intro ?hb ?_); (case hb => exact bytes_bd (Nat.le_of_ble_eq_true rfl) (by omega)); (conv => whnf))
    | ((refine DApp.a rfl rfl rfl rfl rfl rfl ?hb ?_); (case hb => first | exact bytes_bd (Nat.le_of_ble_eq_true rfl) (by omega) | omega); (conv => whnf))
    | ((refine DApp.b rfl rfl rfl rfl rfl rfl rfl rfl ?hb ?ho ?_); (case hb => first | exact bytes_bd (Nat.le_of_ble_eq_true rfl) (by omega) | omega); (case ho => omega); (conv => whnf))
    | ((refine DApp.c rfl rfl rfl rfl rfl ?hb ?_); (case hb => first | exact bytes_bd (Nat.le_of_ble_eq_true rfl) (by omega) | omega); (conv => whnf))
    | ((refine DApp.d rfl rfl rfl rfl rfl rfl ?hb ?ho ?_); (case hb => first | exact bytes_bd (Nat.le_of_ble_eq_true rfl) (by omega) | omega); (case ho => omega); (conv => whnf))
    | ((with_reducible refine nil_no (by omega) ?_); (conv => whnf))
    | ((with_reducible refine nil_any ?_ (fun hn0 => ?_)) <;> (conv => whnf))
    
    | ((refine ways (fun hc => ?_) (fun hc => ?_)) <;> (try simp only [decide_eq_true_eq, decide_eq_false_iff_not, Bool.and_eq_true, Bool.or_eq_true, Bool.and_eq_false_iff, Bool.or_eq_false_iff, Bool.not_eq_true', Bool.not_eq_false', beq_iff_eq, bne_iff_ne, ne_eq, beq_eq_false_iff_ne, bne_eq_false_iff_eq, Bool.not_eq_true, Bool.not_eq_false] at hc) <;> (try (exfalso; omega)) <;> (conv => whnf))))
  · refine FinLe.of [0, 2] rfl (fun i hi => by have : i = 0 := (by omega); subst this; rfl) rfl ?_ ?_
    · exact .of_eq (congrArg (SV.sl _ _ _) (Nat.zero_add _))
    · refine ⟨⟨⟨rfl, rfl, rfl⟩, fun i hi => rfl⟩, ⟨⟨rfl, rfl, Nat.zero_add _⟩, fun i hi => ?_⟩, trivial⟩
      simp [catF]
  · obtain rfl := List.eq_nil_of_length_eq_zero hn0
    refine FinLe.virt 51 4 (fun i => Pol.D (([] : List Pol).getD i default)) (by decide) (by decide) ?_
    refine FinLe.of [0, 1] rfl (fun i hi => by have : i = 0 := (by omega); subst this; rfl) rfl ?_ ?_
    · exact .of_eq rfl
    · exact ⟨⟨⟨rfl, rfl, rfl⟩, fun i hi => rfl⟩, ⟨⟨rfl, rfl, rfl⟩, fun i hi => rfl⟩, trivial⟩
end Go.Proofs.Ytkdolemhhihidaa

namespace Go.Proofs.Ytkdolemhhihidaa
open Go.RowKit
set_option maxRecDepth 100000

def identE (p : Int) (key : List Int) : Int := if p < 0 ∨ 32 ≤ p then 1 else if 255 < key.length then 2 else 0
def identL (p : Int) (key : List Int) : List Int := if identE p key = 0 then p :: key else []
theorem hash_Ident (p : Int) (key : List Int) : Pure TC 63 [.i .i64 p, .d (slOf 1 (encI .u8) key)] (.tup [.d (slOf 1 (encI .u8) (identL p key)), .i .i64 (identE p key)]) := by
  refine Pure.mk' Try.func63 rfl rfl (Nat.le_of_ble_eq_true rfl) ?_
  (repeat' (first
    | with_reducible refine Wp.seq ?_
    | with_reducible refine Wp.block ?_
    | ((with_reducible refine Wp.region ?_); conv => whnf)
    | ((with_reducible refine Wp.drawL TC_mixed ?_); conv => whnf)
    | ((with_reducible refine Wp.cond ?_); conv => whnf)
    | ((with_reducible refine Wp.ret ?_); conv => whnf)
    | ((with_reducible refine Wp.skip ?_); conv => whnf)
    | ((with_reducible refine Wp.exit ?_); conv => whnf)
    | ((with_reducible refine Go.mk ?_); conv => whnf)
    | ((with_reducible apply Eff1.of); conv => whnf)
    | with_reducible exact rfl
    | ((with_reducible refine Ov.ok (by first | exact IntWalk.i64_in _ (by omega) | exact IntWalk.u64_in _ (by omega) | exact IntWalk.u8_in _ (by omega) | exact IntWalk.u32_in _ (by omega) | exact IntWalk.i32_in _ (by omega) | exact IntWalk.u16_in _ (by omega)) ?_); conv => whnf)
    | (with_reducible refine Ov.sh1 (by with_unfolding_all exact rfl) ?_)
    | ((with_reducible refine Ov.quo (by omega) (by omega) (by omega) (fun _ _ => ?_)); conv => whnf)
    | ((with_reducible refine And.intro (show drawOK _ _ _ _ = true by kernel_rfl) ?_); conv => whnf)
    | ((with_reducible refine And.intro (by first | omega | exact Nat.le_of_ble_eq_true rfl) ?_); conv => whnf)
    | ((with_reducible refine And.intro ?hb ?_); (case hb => exact bytes_bd (Nat.le_of_ble_eq_true rfl) (by omega)); (conv => whnf))
    | ((refine DApp.a rfl rfl rfl rfl rfl rfl ?hb ?_); (case hb => first | exact bytes_bd (Nat.le_of_ble_eq_true rfl) (by omega) | omega); (conv => whnf))
    | ((refine DApp.b rfl rfl rfl rfl rfl rfl rfl rfl ?hb ?ho ?_); (case hb => first | exact bytes_bd (Nat.le_of_ble_eq_true rfl) (by omega) | omega); (case ho => omega); (conv => whnf))
    | ((refine DApp.c rfl rfl rfl rfl rfl ?hb ?_); (case hb => first | exact bytes_bd (Nat.le_of_ble_eq_true rfl) (by omega) | omega); (conv => whnf))
    | ((refine DApp.d rfl rfl rfl rfl rfl rfl ?hb ?ho ?_); (case hb => first | exact bytes_bd (Nat.le_of_ble_eq_true rfl) (by omega) | omega); (case ho => omega); (conv => whnf))
    | ((with_reducible refine nil_no (by omega) ?_); (conv => whnf))
    | ((with_reducible refine nil_any ?_ (fun hn0 => ?_)) <;> (conv => whnf))
    
    | ((refine ways (fun hc => ?_) (fun hc => ?_)) <;> (try simp only [decide_eq_true_eq, decide_eq_false_iff_not, Bool.and_eq_true, Bool.or_eq_true, Bool.and_eq_false_iff, Bool.or_eq_false_iff, Bool.not_eq_true', Bool.not_eq_false', beq_iff_eq, bne_iff_ne, ne_eq, beq_eq_false_iff_ne, bne_eq_false_iff_eq, Bool.not_eq_true, Bool.not_eq_false] at hc) <;> (try (exfalso; omega)) <;> (conv => whnf))))
  · have hE : identE p key = 1 := by rw [identE, if_pos (by omega)]
    rw [identL, hE]; exact .tup (.cons .nil (.cons (.rfl _) .nil))
  · have hE : identE p key = 1 := by rw [identE, if_pos (by omega)]
    rw [identL, hE]; exact .tup (.cons .nil (.cons (.rfl _) .nil))
  · have hE : identE p key = 2 := by rw [identE, if_neg (by omega), if_pos (by omega)]
    rw [identL, hE]; exact .tup (.cons .nil (.cons (.rfl _) .nil))
  · have hE : identE p key = 0 := by rw [identE, if_neg (by omega), if_neg (by omega)]
    rw [identL, hE, Nat.add_comm 1]
    refine .tup (.cons (SV.Le.sl fun i hi => ?_) (.cons (.rfl _) .nil))
    rcases i with _ | i
    · rfl
    · simp [catF]
def idleB (ps : List Pol) (c : Cel) (now : Int) : Bool := if (ps.getD c.pol.toNat default).kind = 2 then (c.held.length : Int) == 0 else decide (c.tat ≤ now)
@[reducible] def Cel.S (c : Cel) : SV := .agg [.i .i64 c.pol, .d (slOf 1 (encI .u8) c.key), .i .i64 c.tat, .d (slOf 1 (encI .i64) c.held)]
theorem book_Idle (ps : List Pol) (c : Cel) (now : Int) (h0 : 0 ≤ c.pol) (h1 : c.pol < ps.length) : Pure TC 36 [.d (slOf 4 Pol.D ps), c.S, .i .i64 now] (.b (idleB ps c now)) := by
  refine Pure.mk' Try.func36 rfl rfl (Nat.le_of_ble_eq_true rfl) ?_
  (repeat' (first
    | with_reducible refine Wp.seq ?_
    | with_reducible refine Wp.block ?_
    | ((with_reducible refine Wp.region ?_); conv => whnf)
    | ((with_reducible refine Wp.drawL TC_mixed ?_); conv => whnf)
    | ((with_reducible refine Wp.cond ?_); conv => whnf)
    | ((with_reducible refine Wp.ret ?_); conv => whnf)
    | ((with_reducible refine Wp.skip ?_); conv => whnf)
    | ((with_reducible refine Wp.exit ?_); conv => whnf)
    | ((with_reducible refine Go.mk ?_); conv => whnf)
    | ((with_reducible apply Eff1.of); conv => whnf)
    | with_reducible exact rfl
    | ((with_reducible refine Ov.ok (by first | exact IntWalk.i64_in _ (by omega) | exact IntWalk.u64_in _ (by omega) | exact IntWalk.u8_in _ (by omega) | exact IntWalk.u32_in _ (by omega) | exact IntWalk.i32_in _ (by omega) | exact IntWalk.u16_in _ (by omega)) ?_); conv => whnf)
    | (with_reducible refine Ov.sh1 (by with_unfolding_all exact rfl) ?_)
    | ((with_reducible refine Ov.quo (by omega) (by omega) (by omega) (fun _ _ => ?_)); conv => whnf)
    | ((with_reducible refine And.intro (show drawOK _ _ _ _ = true by kernel_rfl) ?_); conv => whnf)
    | ((with_reducible refine And.intro (by first | omega | exact Nat.le_of_ble_eq_true rfl) ?_); conv => whnf)
    | ((with_reducible refine And.intro ?hb ?_); (case hb => exact bytes_bd (Nat.le_of_ble_eq_true rfl) (by omega)); (conv => whnf))
    | ((refine DApp.a rfl rfl rfl rfl rfl rfl ?hb ?_); (case hb => first | exact bytes_bd (Nat.le_of_ble_eq_true rfl) (by omega) | omega); (conv => whnf))
    | ((refine DApp.b rfl rfl rfl rfl rfl rfl rfl rfl ?hb ?ho ?_); (case hb => first | exact bytes_bd (Nat.le_of_ble_eq_true rfl) (by omega) | omega); (case ho => omega); (conv => whnf))
    | ((refine DApp.c rfl rfl rfl rfl rfl ?hb ?_); (case hb => first | exact bytes_bd (Nat.le_of_ble_eq_true rfl) (by omega) | omega); (conv => whnf))
    | ((refine DApp.d rfl rfl rfl rfl rfl rfl ?hb ?ho ?_); (case hb => first | exact bytes_bd (Nat.le_of_ble_eq_true rfl) (by omega) | omega); (case ho => omega); (conv => whnf))
    | ((with_reducible refine nil_no (by omega) ?_); (conv => whnf))
    | ((with_reducible refine nil_any ?_ (fun hn0 => ?_)) <;> (conv => whnf))
    
    | ((refine ways (fun hc => ?_) (fun hc => ?_)) <;> (try simp only [decide_eq_true_eq, decide_eq_false_iff_not, Bool.and_eq_true, Bool.or_eq_true, Bool.and_eq_false_iff, Bool.or_eq_false_iff, Bool.not_eq_true', Bool.not_eq_false', beq_iff_eq, bne_iff_ne, ne_eq, beq_eq_false_iff_ne, bne_eq_false_iff_eq, Bool.not_eq_true, Bool.not_eq_false] at hc) <;> (try (exfalso; omega)) <;> (conv => whnf))))
  · exact .b (by rw [idleB, if_pos hc])
  · exact .b (by rw [idleB, if_neg hc])
structure Rpl where
  e : Int
  g : Bool
  left : Int
  wait : Int
  serial : Int
  now : Int
  deriving Inhabited
@[reducible] def Rpl.S (r : Rpl) : SV := .agg [.i .i64 r.e, .b r.g, .i .i64 r.left, .i .i64 r.wait, .i .i64 r.serial, .i .i64 r.now]
@[reducible] def Pol.S (p : Pol) : SV := .agg [.i .u8 p.kind, .i .i64 p.T, .i .i64 p.tau, .i .i64 p.permits]
def allowR (p : Pol) (c : Cel) (now n : Int) : Rpl := let a := decA p.T p.tau c.tat now n; ⟨0, a.g, a.left, a.wait, 0, now⟩
def allowC (p : Pol) (c : Cel) (now n : Int) : Cel := ⟨c.pol, c.key, (decA p.T p.tau c.tat now n).tat, c.held⟩
theorem book_Allow (p : Pol) (c : Cel) (now n : Int) : Pure TC 39 [p.S, c.S, .i .i64 now, .i .i64 n] (.tup [(allowR p c now n).S, (allowC p c now n).S]) := by
  refine Pure.mk' Try.func39 rfl rfl (Nat.le_of_ble_eq_true rfl) ?_
  (repeat' (first
    | with_reducible refine Wp.seq ?_
    | with_reducible refine Wp.block ?_
    | ((with_reducible refine Wp.region ?_); conv => whnf)
    | ((with_reducible refine Wp.drawL TC_mixed ?_); conv => whnf)
    | ((with_reducible refine Wp.cond ?_); conv => whnf)
    | ((with_reducible refine Wp.ret ?_); conv => whnf)
    | ((with_reducible refine Wp.skip ?_); conv => whnf)
    | ((with_reducible refine Wp.exit ?_); conv => whnf)
    | ((with_reducible refine Go.mk ?_); conv => whnf)
    | ((with_reducible apply Eff1.of); conv => whnf)
    | with_reducible exact rfl
    | ((with_reducible refine Ov.ok (by first | exact IntWalk.i64_in _ (by omega) | exact IntWalk.u64_in _ (by omega) | exact IntWalk.u8_in _ (by omega) | exact IntWalk.u32_in _ (by omega) | exact IntWalk.i32_in _ (by omega) | exact IntWalk.u16_in _ (by omega)) ?_); conv => whnf)
    | (with_reducible refine Ov.sh1 (by with_unfolding_all exact rfl) ?_)
    | ((with_reducible refine Ov.quo (by omega) (by omega) (by omega) (fun _ _ => ?_)); conv => whnf)
    | ((with_reducible refine And.intro (show drawOK _ _ _ _ = true by kernel_rfl) ?_); conv => whnf)
    | ((with_reducible refine And.intro (by first | omega | exact Nat.le_of_ble_eq_true rfl) ?_); conv => whnf)
    | ((with_reducible refine And.intro ?hb ?_); (case hb => exact bytes_bd (Nat.le_of_ble_eq_true rfl) (by omega)); (conv => whnf))
    | ((refine DApp.a rfl rfl rfl rfl rfl rfl ?hb ?_); (case hb => first | exact bytes_bd (Nat.le_of_ble_eq_true rfl) (by omega) | omega); (conv => whnf))
    | ((refine DApp.b rfl rfl rfl rfl rfl rfl rfl rfl ?hb ?ho ?_); (case hb => first | exact bytes_bd (Nat.le_of_ble_eq_true rfl) (by omega) | omega); (case ho => omega); (conv => whnf))
    | ((refine DApp.c rfl rfl rfl rfl rfl ?hb ?_); (case hb => first | exact bytes_bd (Nat.le_of_ble_eq_true rfl) (by omega) | omega); (conv => whnf))
    | ((refine DApp.d rfl rfl rfl rfl rfl rfl ?hb ?ho ?_); (case hb => first | exact bytes_bd (Nat.le_of_ble_eq_true rfl) (by omega) | omega); (case ho => omega); (conv => whnf))
    | ((with_reducible refine nil_no (by omega) ?_); (conv => whnf))
    | ((with_reducible refine nil_any ?_ (fun hn0 => ?_)) <;> (conv => whnf))
    | ((with_reducible refine CallStop.pure (gcra_Decide _ _ _ _ _) rfl rfl ?_); conv => whnf) | ((with_reducible refine DCall.pure (gcra_Decide _ _ _ _ _) rfl rfl ?_); conv => whnf)
    | ((refine ways (fun hc => ?_) (fun hc => ?_)) <;> (try simp only [decide_eq_true_eq, decide_eq_false_iff_not, Bool.and_eq_true, Bool.or_eq_true, Bool.and_eq_false_iff, Bool.or_eq_false_iff, Bool.not_eq_true', Bool.not_eq_false', beq_iff_eq, bne_iff_ne, ne_eq, beq_eq_false_iff_ne, bne_eq_false_iff_eq, Bool.not_eq_true, Bool.not_eq_false] at hc) <;> (try (exfalso; omega)) <;> (conv => whnf))))
  exact .of_eq rfl
def peekR (p : Pol) (c : Cel) (now : Int) : Rpl := if p.kind = 2 then ⟨0, false, p.permits - c.held.length, 0, 0, 0⟩ else ⟨0, false, if chkL p.T p.tau [c.tat, now] = 0 then leftI p.T p.tau c.tat now else 0, tkSub c.tat now, 0, now⟩
theorem book_Peek (p : Pol) (c : Cel) (now : Int) (h1 : p.kind = 2 → -4611686018427387904 ≤ p.permits ∧ p.permits ≤ 4611686018427387903) (h3 : c.held.length ≤ 4611686018427387903) : Pure TC 38 [p.S, c.S, .i .i64 now] (peekR p c now).S := by
  refine Pure.mk' Try.func38 rfl rfl (Nat.le_of_ble_eq_true rfl) ?_
  (repeat' (first
    | with_reducible refine Wp.seq ?_
    | with_reducible refine Wp.block ?_
    | ((with_reducible refine Wp.region ?_); conv => whnf)
    | ((with_reducible refine Wp.drawL TC_mixed ?_); conv => whnf)
    | ((with_reducible refine Wp.cond ?_); conv => whnf)
    | ((with_reducible refine Wp.ret ?_); conv => whnf)
    | ((with_reducible refine Wp.skip ?_); conv => whnf)
    | ((with_reducible refine Wp.exit ?_); conv => whnf)
    | ((with_reducible refine Go.mk ?_); conv => whnf)
    | ((with_reducible apply Eff1.of); conv => whnf)
    | with_reducible exact rfl
    | ((with_reducible refine Ov.ok (by first | exact IntWalk.i64_in _ (by omega) | exact IntWalk.u64_in _ (by omega) | exact IntWalk.u8_in _ (by omega) | exact IntWalk.u32_in _ (by omega) | exact IntWalk.i32_in _ (by omega) | exact IntWalk.u16_in _ (by omega)) ?_); conv => whnf)
    | (with_reducible refine Ov.sh1 (by with_unfolding_all exact rfl) ?_)
    | ((with_reducible refine Ov.quo (by omega) (by omega) (by omega) (fun _ _ => ?_)); conv => whnf)
    | ((with_reducible refine And.intro (show drawOK _ _ _ _ = true by kernel_rfl) ?_); conv => whnf)
    | ((with_reducible refine And.intro (by first | omega | exact Nat.le_of_ble_eq_true rfl) ?_); conv => whnf)
    | ((with_reducible refine And.intro ?hb ?_); (case hb => exact bytes_bd (Nat.le_of_ble_eq_true rfl) (by omega)); (conv => whnf))
    | ((refine DApp.a rfl rfl rfl rfl rfl rfl ?hb ?_); (case hb => first | exact bytes_bd (Nat.le_of_ble_eq_true rfl) (by omega) | omega); (conv => whnf))
    | ((refine DApp.b rfl rfl rfl rfl rfl rfl rfl rfl ?hb ?ho ?_); (case hb => first | exact bytes_bd (Nat.le_of_ble_eq_true rfl) (by omega) | omega); (case ho => omega); (conv => whnf))
    | ((refine DApp.c rfl rfl rfl rfl rfl ?hb ?_); (case hb => first | exact bytes_bd (Nat.le_of_ble_eq_true rfl) (by omega) | omega); (conv => whnf))
    | ((refine DApp.d rfl rfl rfl rfl rfl rfl ?hb ?ho ?_); (case hb => first | exact bytes_bd (Nat.le_of_ble_eq_true rfl) (by omega) | omega); (case ho => omega); (conv => whnf))
    | ((with_reducible refine nil_no (by omega) ?_); (conv => whnf))
    | ((with_reducible refine nil_any ?_ (fun hn0 => ?_)) <;> (conv => whnf))
    | ((with_reducible refine CallStop.pure (gcra_Left _ _ _ _) rfl rfl ?_); conv => whnf) | ((with_reducible refine DCall.pure (gcra_Left _ _ _ _) rfl rfl ?_); conv => whnf)
    | ((with_reducible refine CallStop.pure (tick_Sub _ _) rfl rfl ?_); conv => whnf) | ((with_reducible refine DCall.pure (tick_Sub _ _) rfl rfl ?_); conv => whnf)
    | ((refine ways (fun hc => ?_) (fun hc => ?_)) <;> (try simp only [decide_eq_true_eq, decide_eq_false_iff_not, Bool.and_eq_true, Bool.or_eq_true, Bool.and_eq_false_iff, Bool.or_eq_false_iff, Bool.not_eq_true', Bool.not_eq_false', beq_iff_eq, bne_iff_ne, ne_eq, beq_eq_false_iff_ne, bne_eq_false_iff_eq, Bool.not_eq_true, Bool.not_eq_false] at hc) <;> (try (exfalso; omega)) <;> (conv => whnf))))
  · exact .of_eq (by rw [peekR, if_pos hc])
  · exact .of_eq (by rw [peekR, if_neg hc])
end Go.Proofs.Ytkdolemhhihidaa
