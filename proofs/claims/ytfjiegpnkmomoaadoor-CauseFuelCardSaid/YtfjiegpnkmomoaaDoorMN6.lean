/- Parts of the proof, one behind the other: Ca4, Ca7, Ca3, Sx52, Ca5, Ca8, Sx53, Ca6. Lemmas and contracts of functions; no condition of its own. -/
import Derived.Test.YtfjiegpnkmomoaaDoorMN5
set_option linter.unusedVariables false
set_option linter.unusedSimpArgs false
set_option maxHeartbeats 1000000
namespace Go.Proofs.YtfjiegpnkmomoaaDoor
open Go.RowKit
set_option maxRecDepth 100000
set_option maxHeartbeats 4000000
@[reducible] def prD (N : Nat) (ln : Nat → Nat) (F : Nat → Nat → Int × Int) : D := .sl 1 N fun i => fnD (ln i) (F i)
structure PrOk (N : Nat) (ln : Nat → Nat) (F : Nat → Nat → Int × Int) : Prop where
  n : 1 ≤ N ∧ N ≤ 32
  le : ∀ i, i < N → ln i ≤ 64
  kd : ∀ i j, i < N → j < ln i → (1 ≤ (F i j).1 ∧ (F i j).1 ≤ 5) ∨ (F i j).1 = 11
  to : ∀ i j, i < N → j < ln i → (F i j).1 = 2 ∨ (F i j).1 = 3 → (i : Int) < (F i j).2 ∧ (F i j).2 < N
theorem cause_known (k : Int) (h : (1 ≤ k ∧ k ≤ 5) ∨ k = 11) : Pure TC 11 [.i .u8 k] (.b true) := by
  refine Pure.mk' Tryd.func11 rfl rfl (Nat.le_of_ble_eq_true rfl) ?_
  (repeat' (first
    | with_reducible refine Wp.seq ?_
    | with_reducible refine Wp.block ?_
    | ((with_reducible first | refine Wp.region ?_ | refine Wp.drawL TC_mixed ?_ | refine Wp.cond ?_ | refine Wp.ret ?_ | refine Wp.skip ?_ | refine Wp.exit ?_ | refine Go.mk ?_ | apply Eff1.of); conv => whnf)
    | with_reducible exact rfl
    | ((with_reducible refine Ov.ok zO ?_); conv => whnf)
    | (with_reducible refine Ov.sh1 (by with_unfolding_all exact rfl) ?_)
    | ((with_reducible refine Ov.quo (by omega) (by omega) (by omega) (fun _ _ => ?_)); conv => whnf)
    | ((with_reducible refine And.intro (show drawOK _ _ _ _ = true by kernel_rfl) ?_); conv => whnf)
    | ((with_reducible refine And.intro zC ?_); conv => whnf)
    | ((with_reducible refine And.intro ?hb ?_); (case hb => exact bytes_bd (Nat.le_of_ble_eq_true rfl) (by omega)); (conv => whnf))
    | ((refine DApp.a rfl rfl rfl rfl rfl rfl ?hb ?_); (case hb => exact zB); (conv => whnf))
    | ((refine DApp.b rfl rfl rfl rfl rfl rfl rfl rfl ?hb ?ho ?_); (case hb => exact zB); (case ho => omega); (conv => whnf))
    | ((refine DApp.c rfl rfl rfl rfl rfl ?hb ?_); (case hb => exact zB); (conv => whnf))
    | ((refine DApp.d rfl rfl rfl rfl rfl rfl ?hb ?ho ?_); (case hb => exact zB); (case ho => omega); (conv => whnf))
    | (with_reducible refine Or.inl ?_)
    | ((with_reducible refine IxA.ptr ?_); conv => whnf)
    | ((with_reducible refine nil_no (by omega) ?_); (conv => whnf))
    | ((with_reducible refine nil_any ?_ (fun hn0 => ?_)) <;> (conv => whnf))
    
    | ((refine ways (fun hc => ?_) (fun hc => ?_)) <;> (try simp only [decide_eq_true_eq, decide_eq_false_iff_not, Bool.and_eq_true, Bool.or_eq_true, Bool.and_eq_false_iff, Bool.or_eq_false_iff, Bool.not_eq_true', Bool.not_eq_false', beq_iff_eq, bne_iff_ne, ne_eq, beq_eq_false_iff_ne, bne_eq_false_iff_eq, Bool.not_eq_true, Bool.not_eq_false] at hc) <;> (try (exfalso; omega)) <;> (conv => whnf))))
  all_goals first | exact .rfl _ | (exfalso; omega) | (refine .b ?_; simp; omega)
theorem cause_Check {N : Nat} {ln : Nat → Nat} {F : Nat → Nat → Int × Int} (h : PrOk N ln F) : Pure TC 7 [.d (prD N ln F)] (.i .i64 0) := by
  obtain ⟨⟨h1, h2⟩, h3, h4, h5⟩ := h
  refine Pure.mk' Tryd.func7 rfl rfl (Nat.le_of_ble_eq_true rfl) ?_
  (repeat' (first
    | with_reducible refine Wp.seq ?_
    | with_reducible refine Wp.block ?_
    | ((with_reducible first | refine Wp.region ?_ | refine Wp.drawL TC_mixed ?_ | refine Wp.cond ?_ | refine Wp.ret ?_ | refine Wp.skip ?_ | refine Wp.exit ?_ | refine Go.mk ?_ | apply Eff1.of); conv => whnf)
    | with_reducible exact rfl
    | ((with_reducible refine Ov.ok zO ?_); conv => whnf)
    | (with_reducible refine Ov.sh1 (by with_unfolding_all exact rfl) ?_)
    | ((with_reducible refine Ov.quo (by omega) (by omega) (by omega) (fun _ _ => ?_)); conv => whnf)
    | ((with_reducible refine And.intro (show drawOK _ _ _ _ = true by kernel_rfl) ?_); conv => whnf)
    | ((with_reducible refine And.intro zC ?_); conv => whnf)
    | ((with_reducible refine And.intro ?hb ?_); (case hb => exact bytes_bd (Nat.le_of_ble_eq_true rfl) (by omega)); (conv => whnf))
    | ((refine DApp.a rfl rfl rfl rfl rfl rfl ?hb ?_); (case hb => exact zB); (conv => whnf))
    | ((refine DApp.b rfl rfl rfl rfl rfl rfl rfl rfl ?hb ?ho ?_); (case hb => exact zB); (case ho => omega); (conv => whnf))
    | ((refine DApp.c rfl rfl rfl rfl rfl ?hb ?_); (case hb => exact zB); (conv => whnf))
    | ((refine DApp.d rfl rfl rfl rfl rfl rfl ?hb ?ho ?_); (case hb => exact zB); (case ho => omega); (conv => whnf))
    | (with_reducible refine Or.inl ?_)
    | ((with_reducible refine IxA.ptr ?_); conv => whnf)
    | ((with_reducible refine nil_no (by omega) ?_); (conv => whnf))
    | ((with_reducible refine nil_any ?_ (fun hn0 => ?_)) <;> (conv => whnf))
    
    | ((refine ways (fun hc => ?_) (fun hc => ?_)) <;> (try simp only [decide_eq_true_eq, decide_eq_false_iff_not, Bool.and_eq_true, Bool.or_eq_true, Bool.and_eq_false_iff, Bool.or_eq_false_iff, Bool.not_eq_true', Bool.not_eq_false', beq_iff_eq, bne_iff_ne, ne_eq, beq_eq_false_iff_ne, bne_eq_false_iff_eq, Bool.not_eq_true, Bool.not_eq_false] at hc) <;> (try (exfalso; omega)) <;> (conv => whnf))))
  refine Wp.loopP (ι := Nat) (fun i => i ≤ N) (fun i => ⟨⟨Tryd.f7.ntmps, 0⟩, 0, [(0, .d (prD N ln F)), (3, .i .i64 0), (14, .d (prD N ln F)), (15, .i .i64 N), (16, .i .i64 i)], []⟩) (fun i => N - i) 0 (Nat.zero_le _) ?_ ?_
  · (refine Le.by [] rfl rfl rfl rfl ?_ ?_ <;> ((conv => whnf); repeat' (first | exact trivial | exact law_argR (by decide) (fun l hl => by rcases l with _ | _ | _ | _ | l <;> first | exact ⟨Nat.le_of_ble_eq_true rfl, rfl⟩ | exact ⟨Nat.le_of_ble_eq_true rfl, rfl, rfl⟩ | omega) (fun q hq => by rcases q with _ | _ | _ | _ | _ | _ | _ | _ | _ | q <;> first | exact ⟨Nat.le_of_ble_eq_true rfl, rfl⟩ | omega) | exact law_argI (by decide) (by decide) (fun l hl => by rcases l with _ | _ | _ | _ | l <;> first | exact ⟨Nat.le_of_ble_eq_true rfl, rfl⟩ | exact ⟨Nat.le_of_ble_eq_true rfl, rfl, rfl⟩ | omega) (fun q hq => by rcases q with _ | _ | _ | _ | _ | _ | _ | _ | _ | q <;> first | exact ⟨Nat.le_of_ble_eq_true rfl, rfl⟩ | omega) | exact ArgLe.rfl rfl | exact ArgLe.ptr rfl | exact ArgLe.sl rfl | exact ArgLe.free SV.Le.any rfl | exact ⟨rfl, rfl, rfl⟩ | exact ⟨rfl, Nat.le_of_ble_eq_true rfl⟩ | exact x_argRA (by assumption) rfl | exact x_argA (by assumption) | exact fun i hi => rfl | exact app_rowI _ _ | ((with_reducible refine And.intro ?_ ?_) <;> (conv => whnf)))))
  · rintro i hi0
    by_cases hi : i < N
    · have g3 := h3 i hi
      have g3' : ln (i : Int).toNat ≤ 64 := g3
      (repeat' (first
    | with_reducible refine Wp.seq ?_
    | with_reducible refine Wp.block ?_
    | ((with_reducible first | refine Wp.region ?_ | refine Wp.drawL TC_mixed ?_ | refine Wp.cond ?_ | refine Wp.ret ?_ | refine Wp.skip ?_ | refine Wp.exit ?_ | refine Go.mk ?_ | apply Eff1.of); conv => whnf)
    | with_reducible exact rfl
    | ((with_reducible refine Ov.ok zO ?_); conv => whnf)
    | (with_reducible refine Ov.sh1 (by with_unfolding_all exact rfl) ?_)
    | ((with_reducible refine Ov.quo (by omega) (by omega) (by omega) (fun _ _ => ?_)); conv => whnf)
    | ((with_reducible refine And.intro (show drawOK _ _ _ _ = true by kernel_rfl) ?_); conv => whnf)
    | ((with_reducible refine And.intro zC ?_); conv => whnf)
    | ((with_reducible refine And.intro ?hb ?_); (case hb => exact bytes_bd (Nat.le_of_ble_eq_true rfl) (by omega)); (conv => whnf))
    | ((refine DApp.a rfl rfl rfl rfl rfl rfl ?hb ?_); (case hb => exact zB); (conv => whnf))
    | ((refine DApp.b rfl rfl rfl rfl rfl rfl rfl rfl ?hb ?ho ?_); (case hb => exact zB); (case ho => omega); (conv => whnf))
    | ((refine DApp.c rfl rfl rfl rfl rfl ?hb ?_); (case hb => exact zB); (conv => whnf))
    | ((refine DApp.d rfl rfl rfl rfl rfl rfl ?hb ?ho ?_); (case hb => exact zB); (case ho => omega); (conv => whnf))
    | (with_reducible refine Or.inl ?_)
    | ((with_reducible refine IxA.ptr ?_); conv => whnf)
    | ((with_reducible refine nil_no (by omega) ?_); (conv => whnf))
    | ((with_reducible refine nil_any ?_ (fun hn0 => ?_)) <;> (conv => whnf))
    
    | ((refine ways (fun hc => ?_) (fun hc => ?_)) <;> (try simp only [decide_eq_true_eq, decide_eq_false_iff_not, Bool.and_eq_true, Bool.or_eq_true, Bool.and_eq_false_iff, Bool.or_eq_false_iff, Bool.not_eq_true', Bool.not_eq_false', beq_iff_eq, bne_iff_ne, ne_eq, beq_eq_false_iff_ne, bne_eq_false_iff_eq, Bool.not_eq_true, Bool.not_eq_false] at hc) <;> (try (exfalso; omega)) <;> (conv => whnf))))
      refine Wp.loopP (ι := Nat) (fun j => j ≤ ln i) (fun j => ⟨⟨Tryd.f7.ntmps, 0⟩, 0, [(0, .d (prD N ln F)), (3, .i .i64 0), (4, .i .i64 i), (14, .d (prD N ln F)), (15, .i .i64 N), (16, .i .i64 i), (24, .d (.sl 2 (ln i) fun j => actD (F i j))), (25, .i .i64 (ln i)), (26, .i .i64 j)], []⟩) (fun j => ln i - j) 0 (Nat.zero_le _) ?_ ?_
      · (refine Le.by [] rfl rfl rfl rfl ?_ ?_ <;> ((conv => whnf); repeat' (first | exact trivial | exact law_argR (by decide) (fun l hl => by rcases l with _ | _ | _ | _ | l <;> first | exact ⟨Nat.le_of_ble_eq_true rfl, rfl⟩ | exact ⟨Nat.le_of_ble_eq_true rfl, rfl, rfl⟩ | omega) (fun q hq => by rcases q with _ | _ | _ | _ | _ | _ | _ | _ | _ | q <;> first | exact ⟨Nat.le_of_ble_eq_true rfl, rfl⟩ | omega) | exact law_argI (by decide) (by decide) (fun l hl => by rcases l with _ | _ | _ | _ | l <;> first | exact ⟨Nat.le_of_ble_eq_true rfl, rfl⟩ | exact ⟨Nat.le_of_ble_eq_true rfl, rfl, rfl⟩ | omega) (fun q hq => by rcases q with _ | _ | _ | _ | _ | _ | _ | _ | _ | q <;> first | exact ⟨Nat.le_of_ble_eq_true rfl, rfl⟩ | omega) | exact ArgLe.rfl rfl | exact ArgLe.ptr rfl | exact ArgLe.sl rfl | exact ArgLe.free SV.Le.any rfl | exact ⟨rfl, rfl, rfl⟩ | exact ⟨rfl, Nat.le_of_ble_eq_true rfl⟩ | exact x_argRA (by assumption) rfl | exact x_argA (by assumption) | exact fun i hi => rfl | exact app_rowI _ _ | ((with_reducible refine And.intro ?_ ?_) <;> (conv => whnf)))))
      · rintro j hj0
        by_cases hj : j < ln i
        · have g4 : (1 ≤ (F i (j : Int).toNat).1 ∧ (F i (j : Int).toNat).1 ≤ 5) ∨ (F i (j : Int).toNat).1 = 11 := h4 i j hi hj
          have g5 : (F i (j : Int).toNat).1 = 2 ∨ (F i (j : Int).toNat).1 = 3 → (i : Int) < (F i (j : Int).toNat).2 ∧ (F i (j : Int).toNat).2 < N := h5 i j hi hj
          have hK := cause_known _ g4
          (repeat' (first
    | with_reducible refine Wp.seq ?_
    | with_reducible refine Wp.block ?_
    | ((with_reducible first | refine Wp.region ?_ | refine Wp.drawL TC_mixed ?_ | refine Wp.cond ?_ | refine Wp.ret ?_ | refine Wp.skip ?_ | refine Wp.exit ?_ | refine Go.mk ?_ | apply Eff1.of); conv => whnf)
    | with_reducible exact rfl
    | ((with_reducible refine Ov.ok zO ?_); conv => whnf)
    | (with_reducible refine Ov.sh1 (by with_unfolding_all exact rfl) ?_)
    | ((with_reducible refine Ov.quo (by omega) (by omega) (by omega) (fun _ _ => ?_)); conv => whnf)
    | ((with_reducible refine And.intro (show drawOK _ _ _ _ = true by kernel_rfl) ?_); conv => whnf)
    | ((with_reducible refine And.intro zC ?_); conv => whnf)
    | ((with_reducible refine And.intro ?hb ?_); (case hb => exact bytes_bd (Nat.le_of_ble_eq_true rfl) (by omega)); (conv => whnf))
    | ((refine DApp.a rfl rfl rfl rfl rfl rfl ?hb ?_); (case hb => exact zB); (conv => whnf))
    | ((refine DApp.b rfl rfl rfl rfl rfl rfl rfl rfl ?hb ?ho ?_); (case hb => exact zB); (case ho => omega); (conv => whnf))
    | ((refine DApp.c rfl rfl rfl rfl rfl ?hb ?_); (case hb => exact zB); (conv => whnf))
    | ((refine DApp.d rfl rfl rfl rfl rfl rfl ?hb ?ho ?_); (case hb => exact zB); (case ho => omega); (conv => whnf))
    | (with_reducible refine Or.inl ?_)
    | ((with_reducible refine IxA.ptr ?_); conv => whnf)
    | ((with_reducible refine nil_no (by omega) ?_); (conv => whnf))
    | ((with_reducible refine nil_any ?_ (fun hn0 => ?_)) <;> (conv => whnf))
    | ((with_reducible refine CallStop.pure (hK) rfl rfl ?_); conv => whnf) | ((with_reducible refine DCall.pure (hK) rfl rfl ?_); conv => whnf)
    | ((refine ways (fun hc => ?_) (fun hc => ?_)) <;> (try simp only [decide_eq_true_eq, decide_eq_false_iff_not, Bool.and_eq_true, Bool.or_eq_true, Bool.and_eq_false_iff, Bool.or_eq_false_iff, Bool.not_eq_true', Bool.not_eq_false', beq_iff_eq, bne_iff_ne, ne_eq, beq_eq_false_iff_ne, bne_eq_false_iff_eq, Bool.not_eq_true, Bool.not_eq_false] at hc) <;> (try (exfalso; omega)) <;> (conv => whnf))))
          all_goals
            refine ⟨j + 1, by dsimp only; omega, by dsimp only; omega, ?_⟩
            (refine Le.by [] rfl rfl rfl rfl ?_ ?_ <;> ((conv => whnf); repeat' (first | exact trivial | exact law_argR (by decide) (fun l hl => by rcases l with _ | _ | _ | _ | l <;> first | exact ⟨Nat.le_of_ble_eq_true rfl, rfl⟩ | exact ⟨Nat.le_of_ble_eq_true rfl, rfl, rfl⟩ | omega) (fun q hq => by rcases q with _ | _ | _ | _ | _ | _ | _ | _ | _ | q <;> first | exact ⟨Nat.le_of_ble_eq_true rfl, rfl⟩ | omega) | exact law_argI (by decide) (by decide) (fun l hl => by rcases l with _ | _ | _ | _ | l <;> first | exact ⟨Nat.le_of_ble_eq_true rfl, rfl⟩ | exact ⟨Nat.le_of_ble_eq_true rfl, rfl, rfl⟩ | omega) (fun q hq => by rcases q with _ | _ | _ | _ | _ | _ | _ | _ | _ | q <;> first | exact ⟨Nat.le_of_ble_eq_true rfl, rfl⟩ | omega) | exact ArgLe.rfl rfl | exact ArgLe.ptr rfl | exact ArgLe.sl rfl | exact ArgLe.free SV.Le.any rfl | exact ⟨rfl, rfl, rfl⟩ | exact ⟨rfl, Nat.le_of_ble_eq_true rfl⟩ | exact x_argRA (by assumption) rfl | exact x_argA (by assumption) | exact fun i hi => rfl | exact app_rowI _ _ | ((with_reducible refine And.intro ?_ ?_) <;> (conv => whnf)))))
        · (repeat' (first
    | with_reducible refine Wp.seq ?_
    | with_reducible refine Wp.block ?_
    | ((with_reducible first | refine Wp.region ?_ | refine Wp.drawL TC_mixed ?_ | refine Wp.cond ?_ | refine Wp.ret ?_ | refine Wp.skip ?_ | refine Wp.exit ?_ | refine Go.mk ?_ | apply Eff1.of); conv => whnf)
    | with_reducible exact rfl
    | ((with_reducible refine Ov.ok zO ?_); conv => whnf)
    | (with_reducible refine Ov.sh1 (by with_unfolding_all exact rfl) ?_)
    | ((with_reducible refine Ov.quo (by omega) (by omega) (by omega) (fun _ _ => ?_)); conv => whnf)
    | ((with_reducible refine And.intro (show drawOK _ _ _ _ = true by kernel_rfl) ?_); conv => whnf)
    | ((with_reducible refine And.intro zC ?_); conv => whnf)
    | ((with_reducible refine And.intro ?hb ?_); (case hb => exact bytes_bd (Nat.le_of_ble_eq_true rfl) (by omega)); (conv => whnf))
    | ((refine DApp.a rfl rfl rfl rfl rfl rfl ?hb ?_); (case hb => exact zB); (conv => whnf))
    | ((refine DApp.b rfl rfl rfl rfl rfl rfl rfl rfl ?hb ?ho ?_); (case hb => exact zB); (case ho => omega); (conv => whnf))
    | ((refine DApp.c rfl rfl rfl rfl rfl ?hb ?_); (case hb => exact zB); (conv => whnf))
    | ((refine DApp.d rfl rfl rfl rfl rfl rfl ?hb ?ho ?_); (case hb => exact zB); (case ho => omega); (conv => whnf))
    | (with_reducible refine Or.inl ?_)
    | ((with_reducible refine IxA.ptr ?_); conv => whnf)
    | ((with_reducible refine nil_no (by omega) ?_); (conv => whnf))
    | ((with_reducible refine nil_any ?_ (fun hn0 => ?_)) <;> (conv => whnf))
    
    | ((refine ways (fun hc => ?_) (fun hc => ?_)) <;> (try simp only [decide_eq_true_eq, decide_eq_false_iff_not, Bool.and_eq_true, Bool.or_eq_true, Bool.and_eq_false_iff, Bool.or_eq_false_iff, Bool.not_eq_true', Bool.not_eq_false', beq_iff_eq, bne_iff_ne, ne_eq, beq_eq_false_iff_ne, bne_eq_false_iff_eq, Bool.not_eq_true, Bool.not_eq_false] at hc) <;> (try (exfalso; omega)) <;> (conv => whnf))))
          refine ⟨i + 1, by dsimp only; omega, by dsimp only; omega, ?_⟩
          (refine Le.by [] rfl rfl rfl rfl ?_ ?_ <;> ((conv => whnf); repeat' (first | exact trivial | exact law_argR (by decide) (fun l hl => by rcases l with _ | _ | _ | _ | l <;> first | exact ⟨Nat.le_of_ble_eq_true rfl, rfl⟩ | exact ⟨Nat.le_of_ble_eq_true rfl, rfl, rfl⟩ | omega) (fun q hq => by rcases q with _ | _ | _ | _ | _ | _ | _ | _ | _ | q <;> first | exact ⟨Nat.le_of_ble_eq_true rfl, rfl⟩ | omega) | exact law_argI (by decide) (by decide) (fun l hl => by rcases l with _ | _ | _ | _ | l <;> first | exact ⟨Nat.le_of_ble_eq_true rfl, rfl⟩ | exact ⟨Nat.le_of_ble_eq_true rfl, rfl, rfl⟩ | omega) (fun q hq => by rcases q with _ | _ | _ | _ | _ | _ | _ | _ | _ | q <;> first | exact ⟨Nat.le_of_ble_eq_true rfl, rfl⟩ | omega) | exact ArgLe.rfl rfl | exact ArgLe.ptr rfl | exact ArgLe.sl rfl | exact ArgLe.free SV.Le.any rfl | exact ⟨rfl, rfl, rfl⟩ | exact ⟨rfl, Nat.le_of_ble_eq_true rfl⟩ | exact x_argRA (by assumption) rfl | exact x_argA (by assumption) | exact fun i hi => rfl | exact app_rowI _ _ | ((with_reducible refine And.intro ?_ ?_) <;> (conv => whnf)))))
    · (repeat' (first
    | with_reducible refine Wp.seq ?_
    | with_reducible refine Wp.block ?_
    | ((with_reducible first | refine Wp.region ?_ | refine Wp.drawL TC_mixed ?_ | refine Wp.cond ?_ | refine Wp.ret ?_ | refine Wp.skip ?_ | refine Wp.exit ?_ | refine Go.mk ?_ | apply Eff1.of); conv => whnf)
    | with_reducible exact rfl
    | ((with_reducible refine Ov.ok zO ?_); conv => whnf)
    | (with_reducible refine Ov.sh1 (by with_unfolding_all exact rfl) ?_)
    | ((with_reducible refine Ov.quo (by omega) (by omega) (by omega) (fun _ _ => ?_)); conv => whnf)
    | ((with_reducible refine And.intro (show drawOK _ _ _ _ = true by kernel_rfl) ?_); conv => whnf)
    | ((with_reducible refine And.intro zC ?_); conv => whnf)
    | ((with_reducible refine And.intro ?hb ?_); (case hb => exact bytes_bd (Nat.le_of_ble_eq_true rfl) (by omega)); (conv => whnf))
    | ((refine DApp.a rfl rfl rfl rfl rfl rfl ?hb ?_); (case hb => exact zB); (conv => whnf))
    | ((refine DApp.b rfl rfl rfl rfl rfl rfl rfl rfl ?hb ?ho ?_); (case hb => exact zB); (case ho => omega); (conv => whnf))
    | ((refine DApp.c rfl rfl rfl rfl rfl ?hb ?_); (case hb => exact zB); (conv => whnf))
    | ((refine DApp.d rfl rfl rfl rfl rfl rfl ?hb ?ho ?_); (case hb => exact zB); (case ho => omega); (conv => whnf))
    | (with_reducible refine Or.inl ?_)
    | ((with_reducible refine IxA.ptr ?_); conv => whnf)
    | ((with_reducible refine nil_no (by omega) ?_); (conv => whnf))
    | ((with_reducible refine nil_any ?_ (fun hn0 => ?_)) <;> (conv => whnf))
    
    | ((refine ways (fun hc => ?_) (fun hc => ?_)) <;> (try simp only [decide_eq_true_eq, decide_eq_false_iff_not, Bool.and_eq_true, Bool.or_eq_true, Bool.and_eq_false_iff, Bool.or_eq_false_iff, Bool.not_eq_true', Bool.not_eq_false', beq_iff_eq, bne_iff_ne, ne_eq, beq_eq_false_iff_ne, bne_eq_false_iff_eq, Bool.not_eq_true, Bool.not_eq_false] at hc) <;> (try (exfalso; omega)) <;> (conv => whnf))))
      exact .rfl _
end Go.Proofs.YtfjiegpnkmomoaaDoor

namespace Go.Proofs.YtfjiegpnkmomoaaDoor
open Go.RowKit
def callsG (g : Nat → Nat × Nat) : Nat → Nat → Nat → Nat × Nat
  | 0, f, m => (f, m)
  | _ + 1, 0, m => (0, m)
  | k + 1, f + 1, m => callsG g k (g f).1 (m + (g f).2)
def runG (w : Nat) : Nat → Nat → Nat × Nat
  | _, 0 => (0, 0)
  | 0, f + 1 => (f, 1)
  | d + 1, f + 1 => callsG (runG w d) w f 1
structure GOk (d f : Nat) (r : Nat × Nat) : Prop where
  le : r.1 ≤ f
  nt : r.2 ≤ f - r.1
  hf : f - r.1 ≤ 2 * r.2
  hp : 0 < r.1 → f - r.1 + 1 ≤ 2 * r.2
  pw : 0 < r.1 → 2 ^ (d + 1) ≤ f - r.1 + 1
theorem callsG_ok {d : Nat} {g : Nat → Nat × Nat} (hg : ∀ f, 0 < f → GOk d f (g f)) (h0 : g 0 = (0, 0)) (F : Nat) : ∀ (k f m : Nat), f ≤ F → m ≤ F - f → F - f ≤ 2 * m → (0 < f → F - f + 1 ≤ 2 * m) →
    (callsG g k f m).1 ≤ f ∧ (callsG g k f m).2 ≤ F - (callsG g k f m).1 ∧ F - (callsG g k f m).1 ≤ 2 * (callsG g k f m).2 ∧ (0 < (callsG g k f m).1 → F - (callsG g k f m).1 + 1 ≤ 2 * (callsG g k f m).2) ∧ (0 < (callsG g k f m).1 → (callsG g k f m).1 + k * 2 ^ (d + 1) ≤ f)
  | 0, f, m, h1, h2, h3, h4 => by
    show f ≤ f ∧ m ≤ F - f ∧ F - f ≤ 2 * m ∧ (0 < f → F - f + 1 ≤ 2 * m) ∧ (0 < f → f + 0 * 2 ^ (d + 1) ≤ f)
    refine ⟨Nat.le_refl _, h2, h3, h4, fun _ => ?_⟩
    rw [Nat.zero_mul]; exact Nat.le_refl _
  | k + 1, 0, m, h1, h2, h3, h4 => by
    show 0 ≤ 0 ∧ m ≤ F - 0 ∧ F - 0 ≤ 2 * m ∧ (0 < 0 → _) ∧ (0 < 0 → _)
    exact ⟨Nat.le_refl _, h2, h3, fun h => absurd h (Nat.lt_irrefl 0), fun h => absurd h (Nat.lt_irrefl 0)⟩
  | k + 1, f + 1, m, h1, h2, h3, h4 => by
    have h4 := h4 (Nat.succ_pos f)
    by_cases hf : f = 0
    · subst hf
      have := callsG_ok hg h0 F k 0 m (by omega) (by omega) (by omega) (fun h => absurd h (Nat.lt_irrefl 0))
      show (callsG g k (g 0).1 (m + (g 0).2)).1 ≤ _ ∧ _
      have e : callsG g (k + 1) (0 + 1) m = callsG g k (g 0).1 (m + (g 0).2) := rfl
      rw [e, h0, show callsG g k ((0, 0) : Nat × Nat).1 (m + ((0, 0) : Nat × Nat).2) = callsG g k 0 m from rfl]
      obtain ⟨p1, p2, p3, p4, p5⟩ := this
      exact ⟨by omega, p2, p3, p4, fun h => by omega⟩
    · have hG := hg f (by omega)
      obtain ⟨g1, g2, g3, g4, g5⟩ := hG
      have e : callsG g (k + 1) (f + 1) m = callsG g k (g f).1 (m + (g f).2) := rfl
      rw [e]
      have := callsG_ok hg h0 F k (g f).1 (m + (g f).2) (by omega) (by omega) (by omega) (fun h => by have := g4 h; omega)
      obtain ⟨p1, p2, p3, p4, p5⟩ := this
      refine ⟨by omega, p2, p3, p4, fun h => ?_⟩
      have q := p5 h
      have q1 : 0 < (g f).1 := by omega
      have q2 := g5 q1
      rw [Nat.succ_mul]
      omega
theorem runG_zero (w d : Nat) : runG w d 0 = (0, 0) := by cases d <;> rfl
theorem runG_ok {w : Nat} (hw : 2 ≤ w) : ∀ d f, 0 < f → GOk d f (runG w d f)
  | _, 0, h => absurd h (Nat.lt_irrefl 0)
  | 0, f + 1, _ => by
    show GOk 0 (f + 1) (f, 1)
    exact ⟨by show f ≤ f + 1; omega, by show 1 ≤ f + 1 - f; omega, by show f + 1 - f ≤ 2 * 1; omega, fun _ => by show f + 1 - f + 1 ≤ 2 * 1; omega, fun _ => by show 2 ^ (0 + 1) ≤ f + 1 - f + 1; omega⟩
  | d + 1, f + 1, _ => by
    show GOk (d + 1) (f + 1) (callsG (runG w d) w f 1)
    obtain ⟨p1, p2, p3, p4, p5⟩ := callsG_ok (runG_ok hw d) (runG_zero w d) (f + 1) w f 1 (by omega) (by omega) (by omega) (fun _ => by omega)
    refine ⟨by omega, p2, p3, p4, fun h => ?_⟩
    have q := p5 h
    have q2 : 2 * 2 ^ (d + 1) ≤ w * 2 ^ (d + 1) := Nat.mul_le_mul_right _ hw
    have q3 : 2 ^ (d + 1 + 1) = 2 * 2 ^ (d + 1) := by rw [Nat.pow_succ, Nat.mul_comm]
    omega
theorem runG_all {w : Nat} (hw : 2 ≤ w) : 2048 ≤ (runG w 31 4096).2 ∧ (runG w 31 4096).2 ≤ 4096 := by
  obtain ⟨h1, h2, h3, h4, h5⟩ := runG_ok hw 31 4096 (by omega)
  have : ¬ 0 < (runG w 31 4096).1 := fun h => by
    have := h5 h
    have e : (2 : Nat) ^ (31 + 1) = 4294967296 := by decide
    omega
  omega
def fuF (n : Int) (i j : Nat) : Int × Int := match j with | 0 => (1, n) | _ + 1 => (2, (i : Int) + 1)
def fuN (w i : Nat) : Nat := if i = 31 then 1 else w + 1
theorem fu_ok {w : Nat} (hw : w ≤ 9) (n : Int) : PrOk 32 (fuN w) (fuF n) := by
  refine ⟨by omega, fun i hi => by unfold fuN; split <;> omega, fun i j hi hj => ?_, fun i j hi hj hk => ?_⟩
  · cases j with
    | zero => left; show (1 : Int) ≤ 1 ∧ (1 : Int) ≤ 5; omega
    | succ j => left; show (1 : Int) ≤ 2 ∧ (2 : Int) ≤ 5; omega
  · cases j with
    | zero => exfalso; have hk : (1 : Int) = 2 ∨ (1 : Int) = 3 := hk; omega
    | succ j =>
      have hi3 : i ≠ 31 := fun e => by unfold fuN at hj; rw [if_pos e] at hj; omega
      show (i : Int) < (i : Int) + 1 ∧ (i : Int) + 1 < ((32 : Nat) : Int)
      omega
end Go.Proofs.YtfjiegpnkmomoaaDoor

namespace Go.Proofs.YtfjiegpnkmomoaaDoor
open Go.RowKit
set_option maxRecDepth 100000
set_option maxHeartbeats 4000000
theorem run1 (P : D) (f : Int) (n : Nat) (g : Nat → List D) : FunD TC 8 5 [.ptr 0 0, .ptr 1 0, .ptr 2 0] [(0, some (.cells [.i .u8 0, .i .i64 0])), (1, some (.cells [.ptr 3 0])), (2, some (.cells [.d (.val (.slice none 0 0))])), (3, some (.cells [.d P, .i .i64 f, .sl 4 3 0 n])), (4, some (.row 34 3 n g))] .returning
    5 (.ret (.tup [])) .returning [(0, some (.cells [.i .u8 0, .i .i64 0])), (1, some (.cells [.ptr 3 0])), (2, some (.cells [.sl 4 3 0 n])), (3, some (.cells [.d P, .i .i64 f, .sl 4 3 0 n])), (4, some (.row 34 3 n g))] := by
  refine FunD.mkR Tryd.func8 rfl rfl (Nat.le_of_ble_eq_true rfl) (by decide) ?_
  have u20 := Tryd.underlying20
  (repeat' (first
    | ((with_reducible refine And.intro (show Oper.guard _ = none from rfl) ?_); conv => whnf)
    | ((with_reducible refine And.intro (show Value.oneCell' _ = true from rfl) ?_); conv => whnf)
    | ((with_reducible refine And.intro (show _ ≤ _ ∧ _ < _ by decide) ?_); conv => whnf)
    | with_reducible refine WpR.seq ?_
    | with_reducible refine WpR.block ?_
    | ((with_reducible refine WpR.region ?_); conv => whnf)
    | ((with_reducible refine WpR.cond ?_); conv => whnf)
    | ((with_reducible refine WpR.loopN 3 ?_); conv => whnf)
    | ((with_reducible refine WpR.of (Wp.drawL TC_mixed ?_)); conv => whnf)
    | ((with_reducible refine WpR.of (Wp.exit ?_)); conv => whnf)
    | ((with_reducible refine WpR.of (Wp.ret ?_)); conv => whnf)
    | ((with_reducible refine WpR.of (Wp.skip ?_)); conv => whnf)
    | with_reducible refine Wp.seq ?_
    | with_reducible refine Wp.block ?_
    | ((with_reducible first | refine Wp.region ?_ | refine Wp.drawL TC_mixed ?_ | refine Wp.cond ?_ | refine Wp.ret ?_ | refine Wp.skip ?_ | refine Wp.exit ?_ | refine Go.mk ?_ | apply Eff1.of); conv => whnf)
    | with_reducible exact rfl
    | ((with_reducible refine Ov.ok zO ?_); conv => whnf)
    | (with_reducible refine Ov.sh1 (by with_unfolding_all exact rfl) ?_)
    | ((with_reducible refine Ov.quo (by omega) (by omega) (by omega) (fun _ _ => ?_)); conv => whnf)
    | ((with_reducible refine And.intro (show drawOK _ _ _ _ = true by kernel_rfl) ?_); conv => whnf)
    | ((with_reducible refine And.intro zC ?_); conv => whnf)
    | ((with_reducible refine And.intro ?hb ?_); (case hb => exact bytes_bd (Nat.le_of_ble_eq_true rfl) (by omega)); (conv => whnf))
    | ((refine DApp.a rfl rfl rfl rfl rfl rfl ?hb ?_); (case hb => exact zB); (conv => whnf))
    | ((refine DApp.b rfl rfl rfl rfl rfl rfl rfl rfl ?hb ?ho ?_); (case hb => exact zB); (case ho => omega); (conv => whnf))
    | ((refine DApp.c rfl rfl rfl rfl rfl ?hb ?_); (case hb => exact zB); (conv => whnf))
    | ((refine DApp.d rfl rfl rfl rfl rfl rfl ?hb ?ho ?_); (case hb => exact zB); (case ho => omega); (conv => whnf))
    | (with_reducible refine Or.inl ?_)
    | ((with_reducible refine IxA.ptr ?_); conv => whnf)
    | ((with_reducible refine nil_no (by omega) ?_); (conv => whnf))
    | ((with_reducible refine nil_any ?_ (fun hn0 => ?_)) <;> (conv => whnf))
    | ((refine BinStop.ifNil u20 ?_); conv => whnf)
    | ((refine BinStop.nilNil u20 ?_); conv => whnf)
    | ((refine ways (fun hc => ?_) (fun hc => ?_)) <;> (try simp only [decide_eq_true_eq, decide_eq_false_iff_not, Bool.and_eq_true, Bool.or_eq_true, Bool.and_eq_false_iff, Bool.or_eq_false_iff, Bool.not_eq_true', Bool.not_eq_false', beq_iff_eq, bne_iff_ne, ne_eq, beq_eq_false_iff_ne, bne_eq_false_iff_eq, Bool.not_eq_true, Bool.not_eq_false] at hc) <;> (try (exfalso; omega)) <;> (conv => whnf))))
  refine ⟨rfl, ?_⟩
  conv => whnf
  refine FinLe.of [0, 1, 2, 3, 4] rfl (fun i hi => by have : i = 0 ∨ i = 1 ∨ i = 2 ∨ i = 3 ∨ i = 4 := (by omega); rcases this with h | h | h | h | h <;> subst h <;> rfl) rfl (.rfl _) ?_
  conv => whnf
  refine ⟨?_, ?_, ?_, ?_, ?_, trivial⟩ <;> (conv => whnf)
  all_goals repeat' (first | exact trivial | exact SV.Le.rfl _ | exact ⟨⟨rfl, rfl, rfl⟩, fun i hi => rfl⟩ | refine And.intro ?_ ?_)
theorem aw_frame0 : FunO TC 10 1 [.ptr 0 0, .i .i64 0] [(0, some (.cells [.d awP, .i .i64 4096, .d (.val (.slice none 0 0))]))]
    2 (.ret (.tup [])) [(0, some (.cells [.d awP, .i .i64 4091, .sl 1 3 0 3])), (1, some (.row 34 3 3 fun i => markD (match i with | 0 => (1, 0, 1) | 1 => (5, 11, 7) | _ => (1, 0, 3))))] := by
  refine FunO.mkX Tryd.func10 rfl rfl (Nat.le_of_ble_eq_true rfl) (by decide) ?_
  (repeat' (first
    | ((with_reducible refine And.intro (show Oper.guard _ = none from rfl) ?_); conv => whnf)
    | ((with_reducible refine And.intro (show Oper.guard _ = none ∧ Oper.dst _ = none from ⟨rfl, rfl⟩) ?_); conv => whnf)
    | ((with_reducible refine And.intro (show List.all _ _ = true from rfl) ?_); conv => whnf)
    | ((with_reducible refine And.intro (show List.all _ _ = true ∧ List.all _ _ = true from ⟨rfl, rfl⟩) ?_); conv => whnf)
    | ((with_reducible refine And.intro (show _ ≤ _ ∧ _ < _ by decide) ?_); conv => whnf)
    | with_reducible refine WpX.seq ?_
    | with_reducible refine WpX.block ?_
    | ((with_reducible refine WpX.of (Wp.regionP 6 ?_)); conv => whnf)
    | ((with_reducible refine WpX.region ?_); conv => whnf)
    | ((with_reducible refine WpX.cond ?_); conv => whnf)
    | ((with_reducible refine WpX.loopN 5 ?_); conv => whnf)
    | ((with_reducible refine WpX.of (Wp.drawL TC_mixed ?_)); conv => whnf)
    | ((with_reducible refine WpX.of (Wp.exit ?_)); conv => whnf)
    | ((with_reducible refine WpX.of (Wp.ret ?_)); conv => whnf)
    | ((with_reducible refine WpX.of (Wp.skip ?_)); conv => whnf)
    | with_reducible refine Wp.seq ?_
    | with_reducible refine Wp.block ?_
    | ((with_reducible first | refine Wp.region ?_ | refine Wp.drawL TC_mixed ?_ | refine Wp.cond ?_ | refine Wp.ret ?_ | refine Wp.skip ?_ | refine Wp.exit ?_ | refine Go.mk ?_ | apply Eff1.of); conv => whnf)
    | with_reducible exact rfl
    | ((with_reducible refine Ov.ok zO ?_); conv => whnf)
    | (with_reducible refine Ov.sh1 (by with_unfolding_all exact rfl) ?_)
    | ((with_reducible refine Ov.quo (by omega) (by omega) (by omega) (fun _ _ => ?_)); conv => whnf)
    | ((with_reducible refine And.intro (show drawOK _ _ _ _ = true by kernel_rfl) ?_); conv => whnf)
    | ((with_reducible refine And.intro zC ?_); conv => whnf)
    | ((with_reducible refine And.intro ?hb ?_); (case hb => exact bytes_bd (Nat.le_of_ble_eq_true rfl) (by omega)); (conv => whnf))
    | ((refine DApp.a rfl rfl rfl rfl rfl rfl ?hb ?_); (case hb => exact zB); (conv => whnf))
    | ((refine DApp.b rfl rfl rfl rfl rfl rfl rfl rfl ?hb ?ho ?_); (case hb => exact zB); (case ho => omega); (conv => whnf))
    | ((refine DApp.c rfl rfl rfl rfl rfl ?hb ?_); (case hb => exact zB); (conv => whnf))
    | ((refine DApp.d rfl rfl rfl rfl rfl rfl ?hb ?ho ?_); (case hb => exact zB); (case ho => omega); (conv => whnf))
    | (with_reducible refine Or.inl ?_)
    | ((with_reducible refine IxA.ptr ?_); conv => whnf)
    | ((with_reducible refine nil_no (by omega) ?_); (conv => whnf))
    | ((with_reducible refine nil_any ?_ (fun hn0 => ?_)) <;> (conv => whnf))
    | ((refine PanStop.fn (raise_int 7) [] rfl rfl rfl rfl rfl ?ha ?hh ?_); (case ha => exact zA); (case hh => exact zH); (conv => whnf))
    | ((refine ways (fun hc => ?_) (fun hc => ?_)) <;> (try simp only [decide_eq_true_eq, decide_eq_false_iff_not, Bool.and_eq_true, Bool.or_eq_true, Bool.and_eq_false_iff, Bool.or_eq_false_iff, Bool.not_eq_true', Bool.not_eq_false', beq_iff_eq, bne_iff_ne, ne_eq, beq_eq_false_iff_ne, bne_eq_false_iff_eq, Bool.not_eq_true, Bool.not_eq_false] at hc) <;> (try (exfalso; omega)) <;> (conv => whnf))))
  refine ⟨nofun, LeaveStop.fn aw_frame1 [0, 11] rfl rfl rfl rfl rfl ?_ ?_ ?_⟩
  · exact zA
  · (conv => whnf)
    refine ⟨?_, ?_, trivial⟩
    · exact zA
    · exact ⟨⟨rfl, rfl, rfl⟩, fun i hi => by obtain rfl : i = 0 := (by omega); rfl⟩
  · (conv => whnf)
    refine FinLe.of [0, 17] rfl (fun i hi => by have : i = 0 := (by omega); subst this; rfl) rfl (.rfl _) ?_
    (conv => whnf)
    refine ⟨?_, ?_, trivial⟩ <;> (conv => whnf)
    · repeat' (first | exact trivial | exact SV.Le.rfl _ | refine And.intro ?_ ?_)
    · exact ⟨⟨rfl, rfl, rfl⟩, fun i hi => by rcases i with _ | _ | _ | i <;> first | rfl | (exfalso; omega)⟩
end Go.Proofs.YtfjiegpnkmomoaaDoor

namespace Go.Proofs.YtfjiegpnkmomoaaDoor
open Go.RowKit
theorem Fun.toPure {C : Cx} {g m' : Nat} {args : List SV} {r0 r : SV} {H' : List (Nat × Option Blk)} (h : Fun C g 0 args [] m' r0 H') (hr : seal3 ⟨⟨0, 0⟩, m', [], H'⟩ r0 fun y => SV.Le y r) : Pure C g args r := by
  refine ⟨h.ent, fun E w vs hIm hsz hargs => ?_⟩
  have e0 : HB E [] = fun _ => False := by funext b; simp [HB, lkh]
  refine (h.out E w vs ⟨fun l b hb => by simp [lkh] at hb, fun l b hb => by simp [lkh] at hb, fun l l' b b' hb => by simp [lkh] at hb, fun b hb => ⟨hIm b hb, fun l x hl => by simp [lkh] at hl⟩⟩ hsz hargs).mono ?_
  rintro e w' ⟨v, E', rfl, h1, h2, h3, h4, h5, h6, h7⟩
  rw [e0] at h1 h4 h5
  have hs' : Sat ⟨w, fun _ => False, E.Im, 0, E.ρ, E.κ, []⟩ E' ⟨⟨0, 0⟩, m', [], H'⟩ { tmps := #[], defers := [] } w' :=
    ⟨fun n => .any _, ⟨rfl, rfl⟩, rfl, h3.hp, h3.nx, h3.inj, fun b hb => ⟨(h3.im b hb).1, by
      rcases h5 b hb with q | q | q
      · exact Or.inr (Or.inl q)
      · exact q.elim
      · exact Or.inl q, (h3.im b hb).2⟩, fun l b hb hr => by
      rcases h4 _ ⟨l, b, hb, hr, rfl⟩ with q | q
      · exact q.elim
      · exact Or.inr q, h1, fun l hl => absurd hl (Nat.not_lt_zero _), Nat.zero_le _, fun b hb => h6 b hb⟩
  obtain ⟨y, k1, k2⟩ := seal3_ok hs' h7 hr
  refine ⟨v, rfl, hs'.kq.kp (fun i hi => hi.elim), ?_⟩
  have hI : ∀ b, E'.all ⟨⟨0, 0⟩, m', [], H'⟩ b → E.Im b ∨ (w.heap.size ≤ b ∧ b < w'.heap.size) := by
    rintro b (hb | ⟨l, x, hl, hr, rfl⟩)
    · obtain ⟨q1, q2, -⟩ := hs'.im b hb
      rcases q2 with q2 | q2 | q2
      · exact Or.inr ⟨q2, q1⟩
      · exact Or.inl q2
      · exact q2.elim
    · rcases hs'.own l x hl hr with q | q
      · exact q.elim
      · exact Or.inr ⟨q, (hs'.hp l x hl).lt hr⟩
  have k3 := k1.out _ _ _ _ k2
  exact RS.mono (E := ⟨E'.ρ, E'.κ, E'.all ⟨⟨0, 0⟩, m', [], H'⟩⟩) (fun l hl => by omega) (Nat.le_refl _) hI (fun _ _ => rfl) k3
end Go.Proofs.YtfjiegpnkmomoaaDoor

namespace Go.Proofs.YtfjiegpnkmomoaaDoor
open Go.RowKit
set_option maxRecDepth 100000
set_option maxHeartbeats 4000000
theorem run_of {N : Nat} {q : Nat → List D} {f : Int} {n : Nat} {g : Nat → List D} (hC : Pure TC 7 [.d (.sl 1 N q)] (.i .i64 0))
    (hF : Fun TC 10 1 [.ptr 0 0, .i .i64 0] [(0, some (.cells [.d (.sl 1 N q), .i .i64 4096, .d (.val (.slice none 0 0))]))] 2 (.tup []) [(0, some (.cells [.d (.sl 1 N q), .i .i64 f, .sl 1 3 0 n])), (1, some (.row 34 3 n g))]) :
    Fun TC 5 0 [.d (.sl 1 N q)] [] 1 (.tup [.sl 0 3 0 n, .agg [.i .u8 0, .i .i64 0], .i .i64 0]) [(0, some (.row 34 3 n g))] := by
  refine FunO.fun (FunO.mkX Tryd.func5 rfl rfl (Nat.le_of_ble_eq_true rfl) (by decide) ?_)
  (repeat' (first
    | ((with_reducible refine And.intro (show Oper.guard _ = none from rfl) ?_); conv => whnf)
    | ((with_reducible refine And.intro (show Oper.guard _ = none ∧ Oper.dst _ = none from ⟨rfl, rfl⟩) ?_); conv => whnf)
    | ((with_reducible refine And.intro (show List.all _ _ = true from rfl) ?_); conv => whnf)
    | ((with_reducible refine And.intro (show List.all _ _ = true ∧ List.all _ _ = true from ⟨rfl, rfl⟩) ?_); conv => whnf)
    | ((with_reducible refine And.intro (show _ ≤ _ ∧ _ < _ by decide) ?_); conv => whnf)
    | with_reducible refine WpX.seq ?_
    | with_reducible refine WpX.block ?_
    | ((with_reducible refine WpX.region ?_); conv => whnf)
    | ((with_reducible refine WpX.cond ?_); conv => whnf)
    | ((with_reducible refine WpX.of (Wp.drawL TC_mixed ?_)); conv => whnf)
    | ((with_reducible refine WpX.of (Wp.exit ?_)); conv => whnf)
    | ((with_reducible refine WpX.of (Wp.ret ?_)); conv => whnf)
    | ((with_reducible refine WpX.of (Wp.skip ?_)); conv => whnf)
    | with_reducible refine Wp.seq ?_
    | with_reducible refine Wp.block ?_
    | ((with_reducible first | refine Wp.region ?_ | refine Wp.drawL TC_mixed ?_ | refine Wp.cond ?_ | refine Wp.ret ?_ | refine Wp.skip ?_ | refine Wp.exit ?_ | refine Go.mk ?_ | apply Eff1.of); conv => whnf)
    | with_reducible exact rfl
    | ((with_reducible refine Ov.ok zO ?_); conv => whnf)
    | (with_reducible refine Ov.sh1 (by with_unfolding_all exact rfl) ?_)
    | ((with_reducible refine Ov.quo (by omega) (by omega) (by omega) (fun _ _ => ?_)); conv => whnf)
    | ((with_reducible refine And.intro (show drawOK _ _ _ _ = true by kernel_rfl) ?_); conv => whnf)
    | ((with_reducible refine And.intro zC ?_); conv => whnf)
    | ((with_reducible refine And.intro ?hb ?_); (case hb => exact bytes_bd (Nat.le_of_ble_eq_true rfl) (by omega)); (conv => whnf))
    | ((refine DApp.a rfl rfl rfl rfl rfl rfl ?hb ?_); (case hb => exact zB); (conv => whnf))
    | ((refine DApp.b rfl rfl rfl rfl rfl rfl rfl rfl ?hb ?ho ?_); (case hb => exact zB); (case ho => omega); (conv => whnf))
    | ((refine DApp.c rfl rfl rfl rfl rfl ?hb ?_); (case hb => exact zB); (conv => whnf))
    | ((refine DApp.d rfl rfl rfl rfl rfl rfl ?hb ?ho ?_); (case hb => exact zB); (case ho => omega); (conv => whnf))
    | (with_reducible refine Or.inl ?_)
    | ((with_reducible refine IxA.ptr ?_); conv => whnf)
    | ((with_reducible refine nil_no (by omega) ?_); (conv => whnf))
    | ((with_reducible refine nil_any ?_ (fun hn0 => ?_)) <;> (conv => whnf))
    | ((with_reducible refine CallStop.pure (hC) rfl rfl ?_); conv => whnf) | ((with_reducible refine DCall.pure (hC) rfl rfl ?_); conv => whnf)
    | ((refine CallStop.fn (hF) [2] rfl rfl rfl rfl rfl ?ha ?hh ?_); (case ha => exact zA); (case hh => exact zH); (conv => whnf))
    | ((refine DCall.fn (hF) [2] [2] rfl rfl rfl rfl rfl ?ha ?hh ?hs ?_); (case ha => exact zA); (case hh => exact zH); (case hs => exact zK); (conv => whnf)) | ((refine DCall.new (hF) [2] [2] rfl rfl rfl rfl rfl rfl ?ha ?hh ?hs ?_); (case ha => exact zA); (case hh => exact zH); (case hs => exact zK); (conv => whnf))
    | ((refine DCall.fn (hF) [2] [] rfl rfl rfl rfl rfl ?ha ?hh ?hs ?_); (case ha => exact zA); (case hh => exact zH); (case hs => exact zK); (conv => whnf)) | ((refine DCall.new (hF) [2] [] rfl rfl rfl rfl rfl rfl ?ha ?hh ?hs ?_); (case ha => exact zA); (case hh => exact zH); (case hs => exact zK); (conv => whnf))
    | ((refine ways (fun hc => ?_) (fun hc => ?_)) <;> (try simp only [decide_eq_true_eq, decide_eq_false_iff_not, Bool.and_eq_true, Bool.or_eq_true, Bool.and_eq_false_iff, Bool.or_eq_false_iff, Bool.not_eq_true', Bool.not_eq_false', beq_iff_eq, bne_iff_ne, ne_eq, beq_eq_false_iff_ne, bne_eq_false_iff_eq, Bool.not_eq_true, Bool.not_eq_false] at hc) <;> (try (exfalso; omega)) <;> (conv => whnf))))
  refine ⟨nofun, LeaveStop.fn (run1 (.sl 1 N q) f n g) [1, 3, 0, 2, 4] rfl rfl rfl rfl rfl ?_ ?_ ?_⟩
  · exact zA
  · (conv => whnf)
    refine ⟨?_, ?_, ?_, ?_, ?_, trivial⟩
    all_goals first | exact ⟨⟨rfl, rfl, rfl⟩, fun i hi => rfl⟩ | (exact zA)
  · (conv => whnf)
    refine FinLe.of [4] rfl (fun i hi => absurd hi (Nat.not_lt_zero _)) rfl ?_ ?_
    · (conv => whnf)
      exact .rfl _
    · (conv => whnf)
      exact ⟨⟨⟨rfl, rfl, rfl⟩, fun i hi => rfl⟩, trivial⟩
theorem run_pure {N : Nat} {q : Nat → List D} {f : Int} {n : Nat} {g : Nat → List D} (hC : Pure TC 7 [.d (.sl 1 N q)] (.i .i64 0))
    (hF : Fun TC 10 1 [.ptr 0 0, .i .i64 0] [(0, some (.cells [.d (.sl 1 N q), .i .i64 4096, .d (.val (.slice none 0 0))]))] 2 (.tup []) [(0, some (.cells [.d (.sl 1 N q), .i .i64 f, .sl 1 3 0 n])), (1, some (.row 34 3 n g))]) :
    Pure TC 5 [.d (.sl 1 N q)] (.tup [.d (.sl 3 n g), .agg [.i .u8 0, .i .i64 0], .i .i64 0]) := by
  refine (run_of hC hF).toPure ?_
  conv => whnf
  refine ⟨by omega, ?_⟩
  conv => whnf
  exact .tup (.cons (SV.Le.sl fun i _ => by rw [Nat.zero_add]) (.cons (.rfl _) (.cons (.rfl _) .nil)))
theorem law09_same (n : Nat) (m : Nat → Int × Int × Int) (hn : n ≤ 10000) : Pure TC 6 [.d (.sl 3 n fun i => markD (m i)), .d (.sl 3 n fun i => markD (m i))] (.b true) := by
  refine Pure.mk' Tryd.func6 rfl rfl (Nat.le_of_ble_eq_true rfl) ?_
  (repeat' (first
    | with_reducible refine Wp.seq ?_
    | with_reducible refine Wp.block ?_
    | ((with_reducible first | refine Wp.region ?_ | refine Wp.drawL TC_mixed ?_ | refine Wp.cond ?_ | refine Wp.ret ?_ | refine Wp.skip ?_ | refine Wp.exit ?_ | refine Go.mk ?_ | apply Eff1.of); conv => whnf)
    | with_reducible exact rfl
    | ((with_reducible refine Ov.ok zO ?_); conv => whnf)
    | (with_reducible refine Ov.sh1 (by with_unfolding_all exact rfl) ?_)
    | ((with_reducible refine Ov.quo (by omega) (by omega) (by omega) (fun _ _ => ?_)); conv => whnf)
    | ((with_reducible refine And.intro (show drawOK _ _ _ _ = true by kernel_rfl) ?_); conv => whnf)
    | ((with_reducible refine And.intro zC ?_); conv => whnf)
    | ((with_reducible refine And.intro ?hb ?_); (case hb => exact bytes_bd (Nat.le_of_ble_eq_true rfl) (by omega)); (conv => whnf))
    | ((refine DApp.a rfl rfl rfl rfl rfl rfl ?hb ?_); (case hb => exact zB); (conv => whnf))
    | ((refine DApp.b rfl rfl rfl rfl rfl rfl rfl rfl ?hb ?ho ?_); (case hb => exact zB); (case ho => omega); (conv => whnf))
    | ((refine DApp.c rfl rfl rfl rfl rfl ?hb ?_); (case hb => exact zB); (conv => whnf))
    | ((refine DApp.d rfl rfl rfl rfl rfl rfl ?hb ?ho ?_); (case hb => exact zB); (case ho => omega); (conv => whnf))
    | (with_reducible refine Or.inl ?_)
    | ((with_reducible refine IxA.ptr ?_); conv => whnf)
    | ((with_reducible refine nil_no (by omega) ?_); (conv => whnf))
    | ((with_reducible refine nil_any ?_ (fun hn0 => ?_)) <;> (conv => whnf))
    
    | ((refine ways (fun hc => ?_) (fun hc => ?_)) <;> (try simp only [decide_eq_true_eq, decide_eq_false_iff_not, Bool.and_eq_true, Bool.or_eq_true, Bool.and_eq_false_iff, Bool.or_eq_false_iff, Bool.not_eq_true', Bool.not_eq_false', beq_iff_eq, bne_iff_ne, ne_eq, beq_eq_false_iff_ne, bne_eq_false_iff_eq, Bool.not_eq_true, Bool.not_eq_false] at hc) <;> (try (exfalso; omega)) <;> (conv => whnf))))
  · exact absurd trivial hc
  refine Wp.loopP (ι := Nat) (fun i => i ≤ n) (fun i => ⟨⟨Tryd.f6.ntmps, 0⟩, 0, [(0, .d (.sl 3 n fun i => markD (m i))), (1, .d (.sl 3 n fun i => markD (m i))), (12, .i .i64 n), (13, .i .i64 i)], []⟩) (fun i => n - i) 0 (Nat.zero_le _) ?_ ?_
  · (refine Le.by [] rfl rfl rfl rfl ?_ ?_ <;> ((conv => whnf); repeat' (first | exact trivial | exact law_argR (by decide) (fun l hl => by rcases l with _ | _ | _ | _ | l <;> first | exact ⟨Nat.le_of_ble_eq_true rfl, rfl⟩ | exact ⟨Nat.le_of_ble_eq_true rfl, rfl, rfl⟩ | omega) (fun q hq => by rcases q with _ | _ | _ | _ | _ | _ | _ | _ | _ | q <;> first | exact ⟨Nat.le_of_ble_eq_true rfl, rfl⟩ | omega) | exact law_argI (by decide) (by decide) (fun l hl => by rcases l with _ | _ | _ | _ | l <;> first | exact ⟨Nat.le_of_ble_eq_true rfl, rfl⟩ | exact ⟨Nat.le_of_ble_eq_true rfl, rfl, rfl⟩ | omega) (fun q hq => by rcases q with _ | _ | _ | _ | _ | _ | _ | _ | _ | q <;> first | exact ⟨Nat.le_of_ble_eq_true rfl, rfl⟩ | omega) | exact ArgLe.rfl rfl | exact ArgLe.ptr rfl | exact ArgLe.sl rfl | exact ArgLe.free SV.Le.any rfl | exact ⟨rfl, rfl, rfl⟩ | exact ⟨rfl, Nat.le_of_ble_eq_true rfl⟩ | exact x_argRA (by assumption) rfl | exact x_argA (by assumption) | exact fun i hi => rfl | exact app_rowI _ _ | ((with_reducible refine And.intro ?_ ?_) <;> (conv => whnf)))))
  · rintro i hi0
    by_cases hi : i < n
    · (repeat' (first
    | with_reducible refine Wp.seq ?_
    | with_reducible refine Wp.block ?_
    | ((with_reducible first | refine Wp.region ?_ | refine Wp.drawL TC_mixed ?_ | refine Wp.cond ?_ | refine Wp.ret ?_ | refine Wp.skip ?_ | refine Wp.exit ?_ | refine Go.mk ?_ | apply Eff1.of); conv => whnf)
    | with_reducible exact rfl
    | ((with_reducible refine Ov.ok zO ?_); conv => whnf)
    | (with_reducible refine Ov.sh1 (by with_unfolding_all exact rfl) ?_)
    | ((with_reducible refine Ov.quo (by omega) (by omega) (by omega) (fun _ _ => ?_)); conv => whnf)
    | ((with_reducible refine And.intro (show drawOK _ _ _ _ = true by kernel_rfl) ?_); conv => whnf)
    | ((with_reducible refine And.intro zC ?_); conv => whnf)
    | ((with_reducible refine And.intro ?hb ?_); (case hb => exact bytes_bd (Nat.le_of_ble_eq_true rfl) (by omega)); (conv => whnf))
    | ((refine DApp.a rfl rfl rfl rfl rfl rfl ?hb ?_); (case hb => exact zB); (conv => whnf))
    | ((refine DApp.b rfl rfl rfl rfl rfl rfl rfl rfl ?hb ?ho ?_); (case hb => exact zB); (case ho => omega); (conv => whnf))
    | ((refine DApp.c rfl rfl rfl rfl rfl ?hb ?_); (case hb => exact zB); (conv => whnf))
    | ((refine DApp.d rfl rfl rfl rfl rfl rfl ?hb ?ho ?_); (case hb => exact zB); (case ho => omega); (conv => whnf))
    | (with_reducible refine Or.inl ?_)
    | ((with_reducible refine IxA.ptr ?_); conv => whnf)
    | ((with_reducible refine nil_no (by omega) ?_); (conv => whnf))
    | ((with_reducible refine nil_any ?_ (fun hn0 => ?_)) <;> (conv => whnf))
    
    | ((refine ways (fun hc => ?_) (fun hc => ?_)) <;> (try simp only [decide_eq_true_eq, decide_eq_false_iff_not, Bool.and_eq_true, Bool.or_eq_true, Bool.and_eq_false_iff, Bool.or_eq_false_iff, Bool.not_eq_true', Bool.not_eq_false', beq_iff_eq, bne_iff_ne, ne_eq, beq_eq_false_iff_ne, bne_eq_false_iff_eq, Bool.not_eq_true, Bool.not_eq_false] at hc) <;> (try (exfalso; omega)) <;> (conv => whnf))))
      all_goals first
        | exact absurd trivial hc
        | (refine ⟨i + 1, by dsimp only; omega, by dsimp only; omega, ?_⟩
           (refine Le.by [] rfl rfl rfl rfl ?_ ?_ <;> ((conv => whnf); repeat' (first | exact trivial | exact law_argR (by decide) (fun l hl => by rcases l with _ | _ | _ | _ | l <;> first | exact ⟨Nat.le_of_ble_eq_true rfl, rfl⟩ | exact ⟨Nat.le_of_ble_eq_true rfl, rfl, rfl⟩ | omega) (fun q hq => by rcases q with _ | _ | _ | _ | _ | _ | _ | _ | _ | q <;> first | exact ⟨Nat.le_of_ble_eq_true rfl, rfl⟩ | omega) | exact law_argI (by decide) (by decide) (fun l hl => by rcases l with _ | _ | _ | _ | l <;> first | exact ⟨Nat.le_of_ble_eq_true rfl, rfl⟩ | exact ⟨Nat.le_of_ble_eq_true rfl, rfl, rfl⟩ | omega) (fun q hq => by rcases q with _ | _ | _ | _ | _ | _ | _ | _ | _ | q <;> first | exact ⟨Nat.le_of_ble_eq_true rfl, rfl⟩ | omega) | exact ArgLe.rfl rfl | exact ArgLe.ptr rfl | exact ArgLe.sl rfl | exact ArgLe.free SV.Le.any rfl | exact ⟨rfl, rfl, rfl⟩ | exact ⟨rfl, Nat.le_of_ble_eq_true rfl⟩ | exact x_argRA (by assumption) rfl | exact x_argA (by assumption) | exact fun i hi => rfl | exact app_rowI _ _ | ((with_reducible refine And.intro ?_ ?_) <;> (conv => whnf))))))
    · (repeat' (first
    | with_reducible refine Wp.seq ?_
    | with_reducible refine Wp.block ?_
    | ((with_reducible first | refine Wp.region ?_ | refine Wp.drawL TC_mixed ?_ | refine Wp.cond ?_ | refine Wp.ret ?_ | refine Wp.skip ?_ | refine Wp.exit ?_ | refine Go.mk ?_ | apply Eff1.of); conv => whnf)
    | with_reducible exact rfl
    | ((with_reducible refine Ov.ok zO ?_); conv => whnf)
    | (with_reducible refine Ov.sh1 (by with_unfolding_all exact rfl) ?_)
    | ((with_reducible refine Ov.quo (by omega) (by omega) (by omega) (fun _ _ => ?_)); conv => whnf)
    | ((with_reducible refine And.intro (show drawOK _ _ _ _ = true by kernel_rfl) ?_); conv => whnf)
    | ((with_reducible refine And.intro zC ?_); conv => whnf)
    | ((with_reducible refine And.intro ?hb ?_); (case hb => exact bytes_bd (Nat.le_of_ble_eq_true rfl) (by omega)); (conv => whnf))
    | ((refine DApp.a rfl rfl rfl rfl rfl rfl ?hb ?_); (case hb => exact zB); (conv => whnf))
    | ((refine DApp.b rfl rfl rfl rfl rfl rfl rfl rfl ?hb ?ho ?_); (case hb => exact zB); (case ho => omega); (conv => whnf))
    | ((refine DApp.c rfl rfl rfl rfl rfl ?hb ?_); (case hb => exact zB); (conv => whnf))
    | ((refine DApp.d rfl rfl rfl rfl rfl rfl ?hb ?ho ?_); (case hb => exact zB); (case ho => omega); (conv => whnf))
    | (with_reducible refine Or.inl ?_)
    | ((with_reducible refine IxA.ptr ?_); conv => whnf)
    | ((with_reducible refine nil_no (by omega) ?_); (conv => whnf))
    | ((with_reducible refine nil_any ?_ (fun hn0 => ?_)) <;> (conv => whnf))
    
    | ((refine ways (fun hc => ?_) (fun hc => ?_)) <;> (try simp only [decide_eq_true_eq, decide_eq_false_iff_not, Bool.and_eq_true, Bool.or_eq_true, Bool.and_eq_false_iff, Bool.or_eq_false_iff, Bool.not_eq_true', Bool.not_eq_false', beq_iff_eq, bne_iff_ne, ne_eq, beq_eq_false_iff_ne, bne_eq_false_iff_eq, Bool.not_eq_true, Bool.not_eq_false] at hc) <;> (try (exfalso; omega)) <;> (conv => whnf))))
      exact .rfl _
end Go.Proofs.YtfjiegpnkmomoaaDoor

namespace Go.Proofs.YtfjiegpnkmomoaaDoor
open Go.RowKit
set_option maxRecDepth 100000
set_option maxHeartbeats 4000000
def contG (w : Nat) : Nat → Nat → Nat → Nat → Nat × Nat
  | d, 0, f, _ => runG w d f
  | 0, _ + 1, f, m => (f, m)
  | d + 1, j + 1, f, m => callsG (runG w d) (w - j) f m
theorem runG_sum {w : Nat} (hw : 2 ≤ w) (d f : Nat) : (runG w d f).1 + (runG w d f).2 ≤ f := by
  by_cases h : f = 0
  · subst h; rw [runG_zero]; exact Nat.le_refl 0
  · have := runG_ok hw d f (by omega)
    have h1 := this.le; have h2 := this.nt; omega
theorem contG_start (w d f m : Nat) : contG w d 0 f m = runG w d f := by cases d <;> rfl
theorem contG_note (w d f : Nat) : contG w d 1 f 1 = runG w d (f + 1) := by cases d <;> rfl
theorem contG_call {w d j : Nat} (hj : j < w) (f m : Nat) : contG w (d + 1) (j + 2) (runG w d f).1 (m + (runG w d f).2) = contG w (d + 1) (j + 1) (f + 1) m := by
  show callsG (runG w d) (w - (j + 1)) _ _ = callsG (runG w d) (w - j) (f + 1) m
  obtain ⟨k, hk⟩ : ∃ k, w - j = k + 1 := ⟨w - j - 1, by omega⟩
  rw [hk, show w - (j + 1) = k by omega]; rfl
theorem contG_out {w d j m : Nat} (hj : j < if d = 0 then 1 else w + 1) (hm : j = 0 → m = 0) : contG w d j 0 m = (0, m) := by
  cases j with
  | zero => rw [hm rfl, contG_start, runG_zero]
  | succ j =>
    cases d with
    | zero => rw [if_pos rfl] at hj; omega
    | succ d =>
      rw [if_neg (Nat.succ_ne_zero d)] at hj
      show callsG (runG w d) (w - j) 0 m = (0, m)
      obtain ⟨k, hk⟩ : ∃ k, w - j = k + 1 := ⟨w - j - 1, by omega⟩
      rw [hk]; rfl
theorem contG_end (w d f m : Nat) : contG w d (if d = 0 then 1 else w + 1) f m = (f, m) := by
  cases d with
  | zero => rfl
  | succ d =>
    rw [if_neg (Nat.succ_ne_zero d)]
    show callsG (runG w d) (w - w) f m = (f, m)
    rw [Nat.sub_self]; rfl
theorem fuN_at {w d i : Nat} (h : i + d = 31) : fuN w i = if d = 0 then 1 else w + 1 := by
  unfold fuN
  by_cases e : d = 0
  · rw [if_pos e, if_pos (by omega)]
  · rw [if_neg e, if_neg (by omega)]
@[reducible] def fuP (w : Nat) (n : Int) : D := prD 32 (fuN w) (fuF n)
@[reducible] def fuH (w : Nat) (n f : Int) (l k : Nat) : Blk := .cells [.d (fuP w n), .i .i64 f, .sl l 3 0 k]
@[reducible] def fuR (n : Int) (k : Nat) : Blk := .row 34 3 k fun _ => markD (1, 0, n)
theorem frame_step {w : Nat} (hw2 : 2 ≤ w) (hw : w ≤ 9) (n : Int) {d i : Nat} (hid : i + d = 31)
    (hIH : ∀ d', d = d' + 1 → ∀ f k : Nat, k + f ≤ 4096 → Fun TC 10 2 [.ptr 0 0, .i .i64 ((i : Int) + 1)] [(0, some (fuH w n (f : Nat) 1 k)), (1, some (fuR n k))] 3 (.tup []) [(0, some (fuH w n ((runG w d' f).1 : Nat) 2 (k + (runG w d' f).2))), (1, none), (2, some (fuR n (k + (runG w d' f).2)))])
    (f k : Nat) (hfk : k + f ≤ 4096) : Fun TC 10 2 [.ptr 0 0, .i .i64 (i : Nat)] [(0, some (fuH w n (f : Nat) 1 k)), (1, some (fuR n k))] 3 (.tup []) [(0, some (fuH w n ((runG w d f).1 : Nat) 2 (k + (runG w d f).2))), (1, none), (2, some (fuR n (k + (runG w d f).2)))] := by
  have hlen := fuN_at (w := w) hid
  have hl10 : fuN w i ≤ 10 := by rw [hlen]; split <;> omega
  refine Fun.mk' Tryd.func10 rfl rfl (Nat.le_of_ble_eq_true rfl) (by decide) ?_
  (repeat' (first
    | with_reducible refine Wp.seq ?_
    | with_reducible refine Wp.block ?_
    | ((with_reducible first | refine Wp.region ?_ | refine Wp.drawL TC_mixed ?_ | refine Wp.cond ?_ | refine Wp.ret ?_ | refine Wp.skip ?_ | refine Wp.exit ?_ | refine Go.mk ?_ | apply Eff1.of); conv => whnf)
    | with_reducible exact rfl
    | ((with_reducible refine Ov.ok zO ?_); conv => whnf)
    | (with_reducible refine Ov.sh1 (by with_unfolding_all exact rfl) ?_)
    | ((with_reducible refine Ov.quo (by omega) (by omega) (by omega) (fun _ _ => ?_)); conv => whnf)
    | ((with_reducible refine And.intro (show drawOK _ _ _ _ = true by kernel_rfl) ?_); conv => whnf)
    | ((with_reducible refine And.intro zC ?_); conv => whnf)
    | ((with_reducible refine And.intro ?hb ?_); (case hb => exact bytes_bd (Nat.le_of_ble_eq_true rfl) (by omega)); (conv => whnf))
    | ((refine DApp.a rfl rfl rfl rfl rfl rfl ?hb ?_); (case hb => exact zB); (conv => whnf))
    | ((refine DApp.b rfl rfl rfl rfl rfl rfl rfl rfl ?hb ?ho ?_); (case hb => exact zB); (case ho => omega); (conv => whnf))
    | ((refine DApp.c rfl rfl rfl rfl rfl ?hb ?_); (case hb => exact zB); (conv => whnf))
    | ((refine DApp.d rfl rfl rfl rfl rfl rfl ?hb ?ho ?_); (case hb => exact zB); (case ho => omega); (conv => whnf))
    | (with_reducible refine Or.inl ?_)
    | ((with_reducible refine IxA.ptr ?_); conv => whnf)
    | ((with_reducible refine nil_no (by omega) ?_); (conv => whnf))
    | ((with_reducible refine nil_any ?_ (fun hn0 => ?_)) <;> (conv => whnf))
    
    | ((refine ways (fun hc => ?_) (fun hc => ?_)) <;> (try simp only [decide_eq_true_eq, decide_eq_false_iff_not, Bool.and_eq_true, Bool.or_eq_true, Bool.and_eq_false_iff, Bool.or_eq_false_iff, Bool.not_eq_true', Bool.not_eq_false', beq_iff_eq, bne_iff_ne, ne_eq, beq_eq_false_iff_ne, bne_eq_false_iff_eq, Bool.not_eq_true, Bool.not_eq_false] at hc) <;> (try (exfalso; omega)) <;> (conv => whnf))))
  refine Wp.le (Le.mv 1 rfl) ?_
  refine Wp.loopP (ι := Nat × Nat × Nat) (fun q => q.1 ≤ fuN w i ∧ contG w d q.1 q.2.1 q.2.2 = runG w d f ∧ (q.1 = 0 → q.2.2 = 0) ∧ k + q.2.2 + q.2.1 ≤ 4096) (fun q => ⟨⟨Tryd.f10.ntmps, 2⟩, 3, [(0, .ptr 0 0), (1, .i .i64 i), (15, .d (.sl 2 (fuN w i) fun j => actD (fuF n i j))), (16, .i .i64 (fuN w i)), (17, .i .i64 (q.1 : Nat))],
    [(0, some (fuH w n (q.2.1 : Nat) 2 (k + q.2.2))), (2, some (fuR n (k + q.2.2)))]⟩) (fun q => fuN w i - q.1) (0, f, 0) ⟨Nat.zero_le _, contG_start _ _ _ _, fun _ => rfl, by dsimp only; omega⟩ ?_ ?_
  · (refine Le.by [0,1,2] rfl rfl rfl rfl ?_ ?_ <;> ((conv => whnf); repeat' (first | exact trivial | exact law_argR (by decide) (fun l hl => by rcases l with _ | _ | _ | _ | l <;> first | exact ⟨Nat.le_of_ble_eq_true rfl, rfl⟩ | exact ⟨Nat.le_of_ble_eq_true rfl, rfl, rfl⟩ | omega) (fun q hq => by rcases q with _ | _ | _ | _ | _ | _ | _ | _ | _ | q <;> first | exact ⟨Nat.le_of_ble_eq_true rfl, rfl⟩ | omega) | exact law_argI (by decide) (by decide) (fun l hl => by rcases l with _ | _ | _ | _ | l <;> first | exact ⟨Nat.le_of_ble_eq_true rfl, rfl⟩ | exact ⟨Nat.le_of_ble_eq_true rfl, rfl, rfl⟩ | omega) (fun q hq => by rcases q with _ | _ | _ | _ | _ | _ | _ | _ | _ | q <;> first | exact ⟨Nat.le_of_ble_eq_true rfl, rfl⟩ | omega) | exact ArgLe.rfl rfl | exact ArgLe.ptr rfl | exact ArgLe.sl rfl | exact ArgLe.free SV.Le.any rfl | exact ⟨rfl, rfl, rfl⟩ | exact ⟨rfl, Nat.le_of_ble_eq_true rfl⟩ | exact x_argRA (by assumption) rfl | exact x_argA (by assumption) | exact fun i hi => rfl | exact app_rowI _ _ | ((with_reducible refine And.intro ?_ ?_) <;> (conv => whnf)))))
  · rintro ⟨j, fj, mj⟩ ⟨h1, h2, h3, h4⟩
    dsimp only at h1 h2 h3 h4 ⊢
    by_cases hj : j < fuN w i
    · by_cases hf : fj = 0
      · subst hf
        have e := contG_out (w := w) (d := d) (j := j) (m := mj) (by rw [← hlen]; exact hj) h3
        rw [h2] at e
        (repeat' (first
    | with_reducible refine Wp.seq ?_
    | with_reducible refine Wp.block ?_
    | ((with_reducible first | refine Wp.region ?_ | refine Wp.drawL TC_mixed ?_ | refine Wp.cond ?_ | refine Wp.ret ?_ | refine Wp.skip ?_ | refine Wp.exit ?_ | refine Go.mk ?_ | apply Eff1.of); conv => whnf)
    | with_reducible exact rfl
    | ((with_reducible refine Ov.ok zO ?_); conv => whnf)
    | (with_reducible refine Ov.sh1 (by with_unfolding_all exact rfl) ?_)
    | ((with_reducible refine Ov.quo (by omega) (by omega) (by omega) (fun _ _ => ?_)); conv => whnf)
    | ((with_reducible refine And.intro (show drawOK _ _ _ _ = true by kernel_rfl) ?_); conv => whnf)
    | ((with_reducible refine And.intro zC ?_); conv => whnf)
    | ((with_reducible refine And.intro ?hb ?_); (case hb => exact bytes_bd (Nat.le_of_ble_eq_true rfl) (by omega)); (conv => whnf))
    | ((refine DApp.a rfl rfl rfl rfl rfl rfl ?hb ?_); (case hb => exact zB); (conv => whnf))
    | ((refine DApp.b rfl rfl rfl rfl rfl rfl rfl rfl ?hb ?ho ?_); (case hb => exact zB); (case ho => omega); (conv => whnf))
    | ((refine DApp.c rfl rfl rfl rfl rfl ?hb ?_); (case hb => exact zB); (conv => whnf))
    | ((refine DApp.d rfl rfl rfl rfl rfl rfl ?hb ?ho ?_); (case hb => exact zB); (case ho => omega); (conv => whnf))
    | (with_reducible refine Or.inl ?_)
    | ((with_reducible refine IxA.ptr ?_); conv => whnf)
    | ((with_reducible refine nil_no (by omega) ?_); (conv => whnf))
    | ((with_reducible refine nil_any ?_ (fun hn0 => ?_)) <;> (conv => whnf))
    
    | ((refine ways (fun hc => ?_) (fun hc => ?_)) <;> (try simp only [decide_eq_true_eq, decide_eq_false_iff_not, Bool.and_eq_true, Bool.or_eq_true, Bool.and_eq_false_iff, Bool.or_eq_false_iff, Bool.not_eq_true', Bool.not_eq_false', beq_iff_eq, bne_iff_ne, ne_eq, beq_eq_false_iff_ne, bne_eq_false_iff_eq, Bool.not_eq_true, Bool.not_eq_false] at hc) <;> (try (exfalso; omega)) <;> (conv => whnf))))
        rw [e]
        refine FinLe.of [0, 1, 2] rfl (fun i hi => by have : i = 0 ∨ i = 1 := (by omega); rcases this with h | h <;> subst h <;> rfl) rfl (.rfl _) ?_
        conv => whnf
        refine ⟨?_, ?_, trivial⟩ <;> (conv => whnf)
        · repeat' (first | exact trivial | exact SV.Le.rfl _ | refine And.intro ?_ ?_)
        · exact ⟨⟨rfl, rfl, rfl⟩, fun i hi => rfl⟩
      · obtain ⟨f', rfl⟩ : ∃ f', fj = f' + 1 := ⟨fj - 1, by omega⟩
        have hf1 : ((f' + 1 : Nat) : Int) - 1 = f' := by omega
        cases j with
        | zero =>
          obtain rfl := h3 rfl
          (repeat' (first
    | with_reducible refine Wp.seq ?_
    | with_reducible refine Wp.block ?_
    | ((with_reducible first | refine Wp.region ?_ | refine Wp.drawL TC_mixed ?_ | refine Wp.cond ?_ | refine Wp.ret ?_ | refine Wp.skip ?_ | refine Wp.exit ?_ | refine Go.mk ?_ | apply Eff1.of); conv => whnf)
    | with_reducible exact rfl
    | ((with_reducible refine Ov.ok zO ?_); conv => whnf)
    | (with_reducible refine Ov.sh1 (by with_unfolding_all exact rfl) ?_)
    | ((with_reducible refine Ov.quo (by omega) (by omega) (by omega) (fun _ _ => ?_)); conv => whnf)
    | ((with_reducible refine And.intro (show drawOK _ _ _ _ = true by kernel_rfl) ?_); conv => whnf)
    | ((with_reducible refine And.intro zC ?_); conv => whnf)
    | ((with_reducible refine And.intro ?hb ?_); (case hb => exact bytes_bd (Nat.le_of_ble_eq_true rfl) (by omega)); (conv => whnf))
    | ((refine DApp.a rfl rfl rfl rfl rfl rfl ?hb ?_); (case hb => exact zB); (conv => whnf))
    | ((refine DApp.b rfl rfl rfl rfl rfl rfl rfl rfl ?hb ?ho ?_); (case hb => exact zB); (case ho => omega); (conv => whnf))
    | ((refine DApp.c rfl rfl rfl rfl rfl ?hb ?_); (case hb => exact zB); (conv => whnf))
    | ((refine DApp.d rfl rfl rfl rfl rfl rfl ?hb ?ho ?_); (case hb => exact zB); (case ho => omega); (conv => whnf))
    | (with_reducible refine Or.inl ?_)
    | ((with_reducible refine IxA.ptr ?_); conv => whnf)
    | ((with_reducible refine nil_no (by omega) ?_); (conv => whnf))
    | ((with_reducible refine nil_any ?_ (fun hn0 => ?_)) <;> (conv => whnf))
    
    | ((refine ways (fun hc => ?_) (fun hc => ?_)) <;> (try simp only [decide_eq_true_eq, decide_eq_false_iff_not, Bool.and_eq_true, Bool.or_eq_true, Bool.and_eq_false_iff, Bool.or_eq_false_iff, Bool.not_eq_true', Bool.not_eq_false', beq_iff_eq, bne_iff_ne, ne_eq, beq_eq_false_iff_ne, bne_eq_false_iff_eq, Bool.not_eq_true, Bool.not_eq_false] at hc) <;> (try (exfalso; omega)) <;> (conv => whnf))))
          refine ⟨(1, f', 1), ⟨by dsimp only; omega, by dsimp only; rw [contG_note, ← h2, contG_start], fun h => absurd h (Nat.succ_ne_zero 0), by dsimp only; omega⟩, by dsimp only; omega, ?_⟩
          dsimp only
          (refine Le.by [0,1,13] rfl rfl rfl rfl ?_ ?_ <;> ((conv => whnf); repeat' (first | exact trivial | exact law_argR (by decide) (fun l hl => by rcases l with _ | _ | _ | _ | l <;> first | exact ⟨Nat.le_of_ble_eq_true rfl, rfl⟩ | exact ⟨Nat.le_of_ble_eq_true rfl, rfl, rfl⟩ | omega) (fun q hq => by rcases q with _ | _ | _ | _ | _ | _ | _ | _ | _ | q <;> first | exact ⟨Nat.le_of_ble_eq_true rfl, rfl⟩ | omega) | exact law_argI (by decide) (by decide) (fun l hl => by rcases l with _ | _ | _ | _ | l <;> first | exact ⟨Nat.le_of_ble_eq_true rfl, rfl⟩ | exact ⟨Nat.le_of_ble_eq_true rfl, rfl, rfl⟩ | omega) (fun q hq => by rcases q with _ | _ | _ | _ | _ | _ | _ | _ | _ | q <;> first | exact ⟨Nat.le_of_ble_eq_true rfl, rfl⟩ | omega) | exact ArgLe.rfl rfl | exact ArgLe.ptr rfl | exact ArgLe.sl rfl | exact ArgLe.free SV.Le.any rfl | exact ⟨rfl, rfl, rfl⟩ | exact ⟨rfl, Nat.le_of_ble_eq_true rfl⟩ | exact x_argRA (by assumption) rfl | exact x_argA (by assumption) | exact fun i hi => rfl | exact app_rowI _ _ | ((with_reducible refine And.intro ?_ ?_) <;> (conv => whnf)))))
          all_goals first
            | (rw [hf1]; exact ArgLe.rfl rfl)
            | exact ArgLe.sl rfl
            | (intro j hj; dsimp only; unfold catF; split <;> first | rfl | (rw [Nat.sub_eq_zero_of_le (by omega)]; rfl))
        | succ j' =>
          obtain ⟨d', rfl⟩ : ∃ d', d = d' + 1 := ⟨d - 1, by rw [hlen] at hj; split at hj <;> omega⟩
          have hjw : j' < w := by rw [hlen, if_neg (Nat.succ_ne_zero d')] at hj; omega
          have hC := hIH d' rfl f' (k + mj) (by omega)
          rw [← hf1] at hC
          have hsum := runG_sum hw2 d' f'
          (repeat' (first
    | with_reducible refine Wp.seq ?_
    | with_reducible refine Wp.block ?_
    | ((with_reducible first | refine Wp.region ?_ | refine Wp.drawL TC_mixed ?_ | refine Wp.cond ?_ | refine Wp.ret ?_ | refine Wp.skip ?_ | refine Wp.exit ?_ | refine Go.mk ?_ | apply Eff1.of); conv => whnf)
    | with_reducible exact rfl
    | ((with_reducible refine Ov.ok zO ?_); conv => whnf)
    | (with_reducible refine Ov.sh1 (by with_unfolding_all exact rfl) ?_)
    | ((with_reducible refine Ov.quo (by omega) (by omega) (by omega) (fun _ _ => ?_)); conv => whnf)
    | ((with_reducible refine And.intro (show drawOK _ _ _ _ = true by kernel_rfl) ?_); conv => whnf)
    | ((with_reducible refine And.intro zC ?_); conv => whnf)
    | ((with_reducible refine And.intro ?hb ?_); (case hb => exact bytes_bd (Nat.le_of_ble_eq_true rfl) (by omega)); (conv => whnf))
    | ((refine DApp.a rfl rfl rfl rfl rfl rfl ?hb ?_); (case hb => exact zB); (conv => whnf))
    | ((refine DApp.b rfl rfl rfl rfl rfl rfl rfl rfl ?hb ?ho ?_); (case hb => exact zB); (case ho => omega); (conv => whnf))
    | ((refine DApp.c rfl rfl rfl rfl rfl ?hb ?_); (case hb => exact zB); (conv => whnf))
    | ((refine DApp.d rfl rfl rfl rfl rfl rfl ?hb ?ho ?_); (case hb => exact zB); (case ho => omega); (conv => whnf))
    | (with_reducible refine Or.inl ?_)
    | ((with_reducible refine IxA.ptr ?_); conv => whnf)
    | ((with_reducible refine nil_no (by omega) ?_); (conv => whnf))
    | ((with_reducible refine nil_any ?_ (fun hn0 => ?_)) <;> (conv => whnf))
    | ((refine CallStop.fn (hC) [0,2] rfl rfl rfl rfl rfl ?ha ?hh ?_); (case ha => exact zA); (case hh => exact zH); (conv => whnf))
    | ((refine DCall.fn (hC) [0,2] [0,2] rfl rfl rfl rfl rfl ?ha ?hh ?hs ?_); (case ha => exact zA); (case hh => exact zH); (case hs => exact zK); (conv => whnf)) | ((refine DCall.new (hC) [0,2] [0,2] rfl rfl rfl rfl rfl rfl ?ha ?hh ?hs ?_); (case ha => exact zA); (case hh => exact zH); (case hs => exact zK); (conv => whnf))
    | ((refine DCall.fn (hC) [0,2] [] rfl rfl rfl rfl rfl ?ha ?hh ?hs ?_); (case ha => exact zA); (case hh => exact zH); (case hs => exact zK); (conv => whnf)) | ((refine DCall.new (hC) [0,2] [] rfl rfl rfl rfl rfl rfl ?ha ?hh ?hs ?_); (case ha => exact zA); (case hh => exact zH); (case hs => exact zK); (conv => whnf))
    | ((refine ways (fun hc => ?_) (fun hc => ?_)) <;> (try simp only [decide_eq_true_eq, decide_eq_false_iff_not, Bool.and_eq_true, Bool.or_eq_true, Bool.and_eq_false_iff, Bool.or_eq_false_iff, Bool.not_eq_true', Bool.not_eq_false', beq_iff_eq, bne_iff_ne, ne_eq, beq_eq_false_iff_ne, bne_eq_false_iff_eq, Bool.not_eq_true, Bool.not_eq_false] at hc) <;> (try (exfalso; omega)) <;> (conv => whnf))))
          refine ⟨(j' + 2, (runG w d' f').1, mj + (runG w d' f').2), ⟨by dsimp only; omega, by dsimp only; rw [contG_call hjw]; exact h2, fun h => absurd h (Nat.succ_ne_zero _), by dsimp only; omega⟩, by dsimp only; omega, ?_⟩
          dsimp only
          (refine Le.by [0,1,4] rfl rfl rfl rfl ?_ ?_ <;> ((conv => whnf); repeat' (first | exact trivial | exact law_argR (by decide) (fun l hl => by rcases l with _ | _ | _ | _ | l <;> first | exact ⟨Nat.le_of_ble_eq_true rfl, rfl⟩ | exact ⟨Nat.le_of_ble_eq_true rfl, rfl, rfl⟩ | omega) (fun q hq => by rcases q with _ | _ | _ | _ | _ | _ | _ | _ | _ | q <;> first | exact ⟨Nat.le_of_ble_eq_true rfl, rfl⟩ | omega) | exact law_argI (by decide) (by decide) (fun l hl => by rcases l with _ | _ | _ | _ | l <;> first | exact ⟨Nat.le_of_ble_eq_true rfl, rfl⟩ | exact ⟨Nat.le_of_ble_eq_true rfl, rfl, rfl⟩ | omega) (fun q hq => by rcases q with _ | _ | _ | _ | _ | _ | _ | _ | _ | q <;> first | exact ⟨Nat.le_of_ble_eq_true rfl, rfl⟩ | omega) | exact ArgLe.rfl rfl | exact ArgLe.ptr rfl | exact ArgLe.sl rfl | exact ArgLe.free SV.Le.any rfl | exact ⟨rfl, rfl, rfl⟩ | exact ⟨rfl, Nat.le_of_ble_eq_true rfl⟩ | exact x_argRA (by assumption) rfl | exact x_argA (by assumption) | exact fun i hi => rfl | exact app_rowI _ _ | ((with_reducible refine And.intro ?_ ?_) <;> (conv => whnf)))))
          all_goals first
            | (rw [Nat.add_assoc]; exact ArgLe.sl rfl)
            | (rw [Nat.add_assoc]; done)
    · obtain rfl : j = fuN w i := by omega
      rw [hlen, contG_end] at h2
      rw [← h2]
      (repeat' (first
    | with_reducible refine Wp.seq ?_
    | with_reducible refine Wp.block ?_
    | ((with_reducible first | refine Wp.region ?_ | refine Wp.drawL TC_mixed ?_ | refine Wp.cond ?_ | refine Wp.ret ?_ | refine Wp.skip ?_ | refine Wp.exit ?_ | refine Go.mk ?_ | apply Eff1.of); conv => whnf)
    | with_reducible exact rfl
    | ((with_reducible refine Ov.ok zO ?_); conv => whnf)
    | (with_reducible refine Ov.sh1 (by with_unfolding_all exact rfl) ?_)
    | ((with_reducible refine Ov.quo (by omega) (by omega) (by omega) (fun _ _ => ?_)); conv => whnf)
    | ((with_reducible refine And.intro (show drawOK _ _ _ _ = true by kernel_rfl) ?_); conv => whnf)
    | ((with_reducible refine And.intro zC ?_); conv => whnf)
    | ((with_reducible refine And.intro ?hb ?_); (case hb => exact bytes_bd (Nat.le_of_ble_eq_true rfl) (by omega)); (conv => whnf))
    | ((refine DApp.a rfl rfl rfl rfl rfl rfl ?hb ?_); (case hb => exact zB); (conv => whnf))
    | ((refine DApp.b rfl rfl rfl rfl rfl rfl rfl rfl ?hb ?ho ?_); (case hb => exact zB); (case ho => omega); (conv => whnf))
    | ((refine DApp.c rfl rfl rfl rfl rfl ?hb ?_); (case hb => exact zB); (conv => whnf))
    | ((refine DApp.d rfl rfl rfl rfl rfl rfl ?hb ?ho ?_); (case hb => exact zB); (case ho => omega); (conv => whnf))
    | (with_reducible refine Or.inl ?_)
    | ((with_reducible refine IxA.ptr ?_); conv => whnf)
    | ((with_reducible refine nil_no (by omega) ?_); (conv => whnf))
    | ((with_reducible refine nil_any ?_ (fun hn0 => ?_)) <;> (conv => whnf))
    
    | ((refine ways (fun hc => ?_) (fun hc => ?_)) <;> (try simp only [decide_eq_true_eq, decide_eq_false_iff_not, Bool.and_eq_true, Bool.or_eq_true, Bool.and_eq_false_iff, Bool.or_eq_false_iff, Bool.not_eq_true', Bool.not_eq_false', beq_iff_eq, bne_iff_ne, ne_eq, beq_eq_false_iff_ne, bne_eq_false_iff_eq, Bool.not_eq_true, Bool.not_eq_false] at hc) <;> (try (exfalso; omega)) <;> (conv => whnf))))
      refine FinLe.of [0, 1, 2] rfl (fun i hi => by have : i = 0 ∨ i = 1 := (by omega); rcases this with h | h <;> subst h <;> rfl) rfl (.rfl _) ?_
      conv => whnf
      refine ⟨?_, ?_, trivial⟩ <;> (conv => whnf)
      · repeat' (first | exact trivial | exact SV.Le.rfl _ | refine And.intro ?_ ?_)
      · exact ⟨⟨rfl, rfl, rfl⟩, fun i hi => rfl⟩
theorem frame_run {w : Nat} (hw2 : 2 ≤ w) (hw : w ≤ 9) (n : Int) : ∀ (d i : Nat), i + d = 31 → ∀ f k : Nat, k + f ≤ 4096 → Fun TC 10 2 [.ptr 0 0, .i .i64 (i : Nat)] [(0, some (fuH w n (f : Nat) 1 k)), (1, some (fuR n k))] 3 (.tup []) [(0, some (fuH w n ((runG w d f).1 : Nat) 2 (k + (runG w d f).2))), (1, none), (2, some (fuR n (k + (runG w d f).2)))]
  | 0, i, h => frame_step hw2 hw n h fun d' e => absurd e.symm (Nat.succ_ne_zero d')
  | d + 1, i, h => frame_step hw2 hw n h fun d' e f k hfk => by
    obtain rfl := Nat.succ.inj e
    have := frame_run hw2 hw n d (i + 1) (by omega) f k hfk
    rw [Int.natCast_add] at this
    exact this
end Go.Proofs.YtfjiegpnkmomoaaDoor

namespace Go.Proofs.YtfjiegpnkmomoaaDoor
open Go.RowKit
def frzK (S : St) (t : Nat) (k : St → Prop) : Prop :=
  match S with
  | ⟨nt, nx, fr, hp⟩ => t < nt.n ∧ imK ⟨nt, nx, fr, hp⟩ [lk fr t] fun S' ys => S'.nt = nt ∧ S'.nx = nx ∧ k ⟨nt, nx, (t, ys.headD .any) :: S'.fr, S'.hp⟩
theorem frzK_ok {O : Org} {E : Env} {S : St} {a : Act} {w : World} (hs : Sat O E S a w) {t : Nat} {k : St → Prop} (h : frzK S t k) : ∃ E' S', k S' ∧ Sat O E' S' a w := by
  obtain ⟨nt, nx, fr, hp⟩ := S
  obtain ⟨ht, h⟩ := h
  obtain ⟨E', S', ys, ⟨e1, e2, g1⟩, g2, g3, g4, g5⟩ := imK_ok [lk fr t] (us := [a.tmps.getD t undef]) hs rfl (fun j x v hx hv => by
    cases j with
    | zero =>
      obtain rfl : lk fr t = x := Option.some.inj hx
      obtain rfl : a.tmps.getD t undef = v := Option.some.inj hv
      exact hs.fr t
    | succ j => simp at hx) h
  obtain ⟨nt', nx', fr', hp'⟩ := S'
  dsimp only at e1 e2 g1
  subst e1 e2
  have hy : ys.length = 1 := g3
  match ys, hy with
  | [y], _ =>
    have hv : RS E' 0 w y (a.tmps.getD t undef) := g5 0 y _ rfl rfl
    refine ⟨E', _, g1, ⟨fun m => ?_, g2.nt, g2.df, g2.hp, g2.nx, g2.inj, g2.im, g2.own, g2.kq, g2.lab, g2.nl, g2.imo⟩⟩
    rw [show (([y] : List SV).headD .any) = y from rfl, lk_cons]
    by_cases e : t = m
    · subst e; rw [if_pos rfl]
      exact RS.mono (E := E') (fun _ _ => ⟨rfl, rfl⟩) (Nat.zero_le _) (fun _ h => h) (fun _ _ => rfl) hv
    · rw [if_neg e]; exact g2.fr m
def execF (C : Cx) (ops : List Oper) (fz : List Nat) : List Oper → St → (St → Prop) → Prop
  | [], S, k => k S
  | o :: r, S, k => execG C ops S o fun S' => match o.dst with
    | some t => bif fz.any (Nat.beq t) then frzK S' t fun S'' => execF C ops fz r S'' k else execF C ops fz r S' k
    | none => execF C ops fz r S' k
theorem execF_ok {C : Cx} {O : Org} {ops : List Oper} {fz : List Nat} {Q : Exit → Act → World → Prop} : ∀ (l : List Oper) {E : Env} {S : St} {a : Act} {w : World} {k : St → Prop}, execF C ops fz l S k → Sat O E S a w →
    (∀ S' E' a' w', k S' → Sat O E' S' a' w' → Q .normal a' w') → wpList C.P ops.toArray Q l a w
  | [], E, S, a, w, k, h, hs, hk => hk S E a w h hs
  | o :: r, E, S, a, w, k, h, hs, hk => by
    have h : execG C ops S o fun S' => match o.dst with
      | some t => bif fz.any (Nat.beq t) then frzK S' t fun S'' => execF C ops fz r S'' k else execF C ops fz r S' k
      | none => execF C ops fz r S' k := h
    refine execG_ok h hs fun S' E' a' w' h1 h2 => ?_
    split at h1
    · rename_i t ht
      cases hz : fz.any (Nat.beq t) with
      | false => rw [hz] at h1; exact execF_ok r h1 h2 hk
      | true =>
        rw [hz, cond_true] at h1
        obtain ⟨E2, S2, g1, g2⟩ := frzK_ok h2 h1
        exact execF_ok r g1 g2 hk
    · exact execF_ok r h1 h2 hk
theorem Wp.regionF (id : Nat) (fz : List Nat) {C : Cx} {l : List Oper} {S : St} {Q : Exit → St → Prop} (h : execF C l fz l S (Q .normal)) : Wp C (.region id l.toArray false) S Q :=
  ⟨fun _ _ _ _ hs => wp_region_lit (execF_ok l h hs fun S' E' a' w' h1 h2 => ⟨S', E', h1, h2⟩)⟩
end Go.Proofs.YtfjiegpnkmomoaaDoor

namespace Go.Proofs.YtfjiegpnkmomoaaDoor
open Go.RowKit
set_option maxRecDepth 100000
set_option maxHeartbeats 4000000
theorem Pure.leX {C : Cx} {g : Nat} {args args' : List SV} {r : SV} (h : Pure C g args' r) (ha : Les args args') : Pure C g args r :=
  ⟨h.ent, fun E w vs hIm hsz hargs => h.out E w vs hIm (hsz.trans ha.len) fun j hj => (ha.out j (by rw [ha.len]; exact hj) hj).out _ _ _ _ (hargs j (by rw [ha.len]; exact hj))⟩
theorem Pure.leRX {C : Cx} {g : Nat} {args : List SV} {r r' : SV} (h : Pure C g args r) (hr : SV.Le r r') : Pure C g args r' :=
  ⟨h.ent, fun E w vs hI hsz hargs => (h.out E w vs hI hsz hargs).mono (by rintro e w' ⟨v, h1, h2, h3⟩; exact ⟨v, h1, h2, hr.out _ _ _ _ h3⟩)⟩
theorem aw_ok09 : PrOk 2 awN awF := ⟨by decide, fun i hi => by have : i = 0 ∨ i = 1 := (by omega); rcases this with rfl | rfl <;> decide,
  fun i j hi hj => by
    have : i = 0 ∨ i = 1 := (by omega)
    rcases this with rfl | rfl
    · have : j = 0 ∨ j = 1 ∨ j = 2 ∨ j = 3 := (by have : j < 4 := hj; omega)
      rcases this with rfl | rfl | rfl | rfl <;> decide
    · have : j = 0 ∨ j = 1 := (by have : j < 2 := hj; omega)
      rcases this with rfl | rfl <;> decide,
  fun i j hi hj => by
    have : i = 0 ∨ i = 1 := (by omega)
    rcases this with rfl | rfl
    · have : j = 0 ∨ j = 1 ∨ j = 2 ∨ j = 3 := (by have : j < 4 := hj; omega)
      rcases this with rfl | rfl | rfl | rfl <;> decide
    · have : j = 0 ∨ j = 1 := (by have : j < 2 := hj; omega)
      rcases this with rfl | rfl <;> decide⟩
def awM (i : Nat) : Int × Int × Int := match i with | 0 => (1, 0, 1) | 1 => (5, 11, 7) | _ => (1, 0, 3)
@[reducible] def aD (k n : Int) : List D := [.val (.int .u8 k), .val (.int .i64 n)]
theorem aw_tle09 : TLe (.sl 1 2 fun i => chunkD [.sl 2 4 fun i => chunkD (aD 1 1 ++ aD 3 1 ++ aD 11 7 ++ aD 1 2) 2 (0 + i), .sl 2 2 fun i => chunkD (aD 5 0 ++ aD 1 3) 2 (0 + i)] 1 (0 + i)) (prD 2 awN awF) := by
  refine TLe.sl fun i hi => ?_
  have : i = 0 ∨ i = 1 := by omega
  rcases this with rfl | rfl
  · refine .cons (TLe.sl fun i hi => ?_) .nil
    rcases i with _ | _ | _ | _ | i <;> first | exact .cons (.rfl _) (.cons (.rfl _) .nil) | (exfalso; omega)
  · refine .cons (TLe.sl fun i hi => ?_) .nil
    rcases i with _ | _ | i <;> first | exact .cons (.rfl _) (.cons (.rfl _) .nil) | (exfalso; omega)
theorem aw_runs09 : Pure TC 5 [.d (.sl 1 2 fun i => chunkD [.sl 2 4 fun i => chunkD (aD 1 1 ++ aD 3 1 ++ aD 11 7 ++ aD 1 2) 2 (0 + i), .sl 2 2 fun i => chunkD (aD 5 0 ++ aD 1 3) 2 (0 + i)] 1 (0 + i))] (.tup [.d (.sl 3 3 fun i => markD (awM i)), .agg [.i .u8 0, .i .i64 0], .i .i64 0]) :=
  ((run_pure (cause_Check aw_ok09) aw_frame0.fun).leX (.cons aw_tle09.sv .nil)).leRX (.tup (.cons (SV.Le.sl fun i hi => by rcases i with _ | _ | _ | i <;> first | rfl | (exfalso; omega)) (.cons (.rfl _) (.cons (.rfl _) .nil))))
theorem awake09 : Pure TC 4 [] (.b true) := by
  have hR := aw_runs09
  have hS := law09_same 3 awM (by decide)
  refine Pure.mk' Tryd.func4 rfl rfl (Nat.le_of_ble_eq_true rfl) ?_
  (repeat' (first
    | ((refine And.intro (show _ < NT.n _ from Nat.le_of_ble_eq_true rfl) ?_); conv => whnf)
    | ((refine And.intro (show St.nt _ = _ from rfl) ?_); conv => whnf)
    | ((refine And.intro (show St.nx _ = _ from rfl) ?_); conv => whnf)
    | ((refine Wp.regionF 1 [9, 12] ?_); conv => whnf)
    | ((with_reducible refine Or.inr (And.intro rfl ?_)); conv => whnf)
    | ((refine DCall.pure hR rfl rfl ?_); conv => whnf)
    | with_reducible refine Wp.seq ?_
    | with_reducible refine Wp.block ?_
    | ((with_reducible first | refine Wp.region ?_ | refine Wp.drawL TC_mixed ?_ | refine Wp.cond ?_ | refine Wp.ret ?_ | refine Wp.skip ?_ | refine Wp.exit ?_ | refine Go.mk ?_ | apply Eff1.of); conv => whnf)
    | with_reducible exact rfl
    | ((with_reducible refine Ov.ok zO ?_); conv => whnf)
    | (with_reducible refine Ov.sh1 (by with_unfolding_all exact rfl) ?_)
    | ((with_reducible refine Ov.quo (by omega) (by omega) (by omega) (fun _ _ => ?_)); conv => whnf)
    | ((with_reducible refine And.intro (show drawOK _ _ _ _ = true by kernel_rfl) ?_); conv => whnf)
    | ((with_reducible refine And.intro zC ?_); conv => whnf)
    | ((with_reducible refine And.intro ?hb ?_); (case hb => exact bytes_bd (Nat.le_of_ble_eq_true rfl) (by omega)); (conv => whnf))
    | ((refine DApp.a rfl rfl rfl rfl rfl rfl ?hb ?_); (case hb => exact zB); (conv => whnf))
    | ((refine DApp.b rfl rfl rfl rfl rfl rfl rfl rfl ?hb ?ho ?_); (case hb => exact zB); (case ho => omega); (conv => whnf))
    | ((refine DApp.c rfl rfl rfl rfl rfl ?hb ?_); (case hb => exact zB); (conv => whnf))
    | ((refine DApp.d rfl rfl rfl rfl rfl rfl ?hb ?ho ?_); (case hb => exact zB); (case ho => omega); (conv => whnf))
    | (with_reducible refine Or.inl ?_)
    | ((with_reducible refine IxA.ptr ?_); conv => whnf)
    | ((with_reducible refine nil_no (by omega) ?_); (conv => whnf))
    | ((with_reducible refine nil_any ?_ (fun hn0 => ?_)) <;> (conv => whnf))
    | ((with_reducible refine CallStop.pureI (hR) rfl ?_); (conv => whnf); (repeat' ((with_reducible refine And.intro (by omega) ?_); (conv => whnf))); (refine And.intro (by (repeat' (first | exact Les.nil | with_reducible refine Les.cons ?_ ?_ | exact SV.Le.rfl _ | exact SV.Le.nil | exact SV.Le.sl (fun i hi => by (rcases i with _ | _ | _ | _ | i) <;> first | rfl | (exfalso; omega)) | exact SV.Le.sl (fun i hi => by simp [chunkD, slOf, *])))) ?_); (conv => whnf))
    | ((with_reducible refine CallStop.pureI (hS) rfl ?_); (conv => whnf); (repeat' ((with_reducible refine And.intro (by omega) ?_); (conv => whnf))); (refine And.intro (by (repeat' (first | exact Les.nil | with_reducible refine Les.cons ?_ ?_ | exact SV.Le.rfl _ | exact SV.Le.nil | exact SV.Le.sl (fun i hi => by (rcases i with _ | _ | _ | _ | i) <;> first | rfl | (exfalso; omega)) | exact SV.Le.sl (fun i hi => by simp [chunkD, slOf, *])))) ?_); (conv => whnf))
    | ((refine ways (fun hc => ?_) (fun hc => ?_)) <;> (try simp only [decide_eq_true_eq, decide_eq_false_iff_not, Bool.and_eq_true, Bool.or_eq_true, Bool.and_eq_false_iff, Bool.or_eq_false_iff, Bool.not_eq_true', Bool.not_eq_false', beq_iff_eq, bne_iff_ne, ne_eq, beq_eq_false_iff_ne, bne_eq_false_iff_eq, Bool.not_eq_true, Bool.not_eq_false] at hc) <;> (try (exfalso; omega)) <;> (conv => whnf))))
  exact .rfl _
end Go.Proofs.YtfjiegpnkmomoaaDoor
