/- Parts of the proof, one behind the other: Rd2, Dq6, Dr20, Dr26, Dr27, Dr28, Sx27. Lemmas and contracts of functions; no condition of its own. -/
import Derived.Test.YtbdclkjelhlfbaaGreatM12
set_option linter.unusedVariables false
set_option linter.unusedSimpArgs false
set_option maxHeartbeats 1000000
namespace Go.Proofs.YtbdclkjelhlfbaaGreat
open Go.RowKit
set_option maxRecDepth 100000
theorem getN {α : Type} [Inhabited α] {xs : List α} {k : Nat} : xs.getD (k : Int).toNat default = xs.getD k default := by rw [Int.toNat_natCast]
theorem r1_SameBytes (a b : List Int) : Pure TC 13 [.d (slOf 1 (encI .u8) a), .d (slOf 1 (encI .u8) b)] (.b (decide (a = b))) := by
  refine Pure.lens (.mk Tryz.func13 rfl rfl) fun hlen => ?_
  have ha := hlen a.length (by simp [lensOf, slOf])
  have hb := hlen b.length (by simp [lensOf, slOf])
  clear hlen
  refine Pure.mk' Tryz.func13 rfl rfl (Nat.le_of_ble_eq_true rfl) ?_
  (repeat' (first
    | with_reducible refine Wp.seq ?_
    | with_reducible refine Wp.block ?_
    | ((with_reducible first | refine Wp.region ?_ | refine Wp.drawL TC_mixed ?_ | refine Wp.cond ?_ | refine Wp.ret ?_ | refine Wp.skip ?_ | refine Wp.exit ?_ | refine Go.mk ?_ | apply Eff1.of); conv => whnf)
    | with_reducible exact rfl
    | ((with_reducible refine Ov.ok zO ?_); conv => whnf)
    | (with_reducible refine Ov.sh1 (by with_unfolding_all exact rfl) ?_)
    | ((with_reducible refine Ov.quo (by omega) (by omega) (by omega) (fun _ _ => ?_)); conv => whnf)
    | ((with_reducible refine And.intro (show drawOK _ _ _ _ = true by kernel_rfl) ?_); conv => whnf)
    | ((with_reducible refine And.intro zC ?_); conv => whnf)
    | ((with_reducible refine And.intro ?hb ?_); (case hb => exact bytes_bd (Nat.le_of_ble_eq_true rfl) (by omega)); (conv => whnf))
    | ((refine DApp.a rfl rfl rfl rfl rfl rfl ?hb ?_); (case hb => exact zB); (conv => whnf))
    | ((refine DApp.b rfl rfl rfl rfl rfl rfl rfl rfl ?hb ?ho ?_); (case hb => exact zB); (case ho => omega); (conv => whnf))
    | ((refine DApp.c rfl rfl rfl rfl rfl ?hb ?_); (case hb => exact zB); (conv => whnf))
    | ((refine DApp.d rfl rfl rfl rfl rfl rfl ?hb ?ho ?_); (case hb => exact zB); (case ho => omega); (conv => whnf))
    | ((with_reducible refine nil_no (by omega) ?_); (conv => whnf))
    | ((with_reducible refine nil_any ?_ (fun hn0 => ?_)) <;> (conv => whnf))
    
    | ((refine ways (fun hc => ?_) (fun hc => ?_)) <;> (try simp only [decide_eq_true_eq, decide_eq_false_iff_not, Bool.and_eq_true, Bool.or_eq_true, Bool.and_eq_false_iff, Bool.or_eq_false_iff, Bool.not_eq_true', Bool.not_eq_false', beq_iff_eq, bne_iff_ne, ne_eq, beq_eq_false_iff_ne, bne_eq_false_iff_eq, Bool.not_eq_true, Bool.not_eq_false] at hc) <;> (try (exfalso; omega)) <;> (conv => whnf))))
  · exact .b (by rw [eq_comm, decide_eq_false_iff_not]; intro h; subst h; omega)
  · refine Wp.loopP (ι := Nat) (fun i => i ≤ a.length ∧ (a = b ↔ a.drop i = b.drop i)) (fun i => ⟨⟨Tryz.f13.ntmps, 0⟩, 0, [(0, .d (slOf 1 (encI .u8) a)), (1, .d (slOf 1 (encI .u8) b)), (12, .i .i64 a.length), (13, .i .i64 i)], []⟩) (fun i => a.length - i) 0 ⟨Nat.zero_le _, Iff.rfl⟩ ?_ ?_
    · (refine Le.by [] rfl rfl rfl rfl ?_ ?_ <;> (conv => whnf) <;> (repeat' (first | exact trivial | exact ArgLe.rfl rfl | exact ArgLe.ptr rfl | exact ArgLe.sl rfl | ((with_reducible refine ArgLe.fn ?_); (conv => whnf)) | ((refine ArgLe.iref ?_); (conv => whnf)) | exact ⟨rfl, rfl, rfl⟩ | exact fun i hi => rfl | ((with_reducible refine And.intro ?_ ?_) <;> (conv => whnf)))))
    · rintro i ⟨h1, h2⟩
      have hs : i < a.length → (a = b ↔ a.getD (i : Int).toNat default = b.getD (i : Int).toNat default ∧ a.drop (i + 1) = b.drop (i + 1)) := fun g1 => by
        rw [h2, dropE g1, dropE (by omega : i < b.length), List.cons.injEq, getN, getN]
      (repeat' (first
    | with_reducible refine Wp.seq ?_
    | with_reducible refine Wp.block ?_
    | ((with_reducible first | refine Wp.region ?_ | refine Wp.drawL TC_mixed ?_ | refine Wp.cond ?_ | refine Wp.ret ?_ | refine Wp.skip ?_ | refine Wp.exit ?_ | refine Go.mk ?_ | apply Eff1.of); conv => whnf)
    | with_reducible exact rfl
    | ((with_reducible refine Ov.ok zO ?_); conv => whnf)
    | (with_reducible refine Ov.sh1 (by with_unfolding_all exact rfl) ?_)
    | ((with_reducible refine Ov.quo (by omega) (by omega) (by omega) (fun _ _ => ?_)); conv => whnf)
    | ((with_reducible refine And.intro (show drawOK _ _ _ _ = true by kernel_rfl) ?_); conv => whnf)
    | ((with_reducible refine And.intro zC ?_); conv => whnf)
    | ((with_reducible refine And.intro ?hb ?_); (case hb => exact bytes_bd (Nat.le_of_ble_eq_true rfl) (by omega)); (conv => whnf))
    | ((refine DApp.a rfl rfl rfl rfl rfl rfl ?hb ?_); (case hb => exact zB); (conv => whnf))
    | ((refine DApp.b rfl rfl rfl rfl rfl rfl rfl rfl ?hb ?ho ?_); (case hb => exact zB); (case ho => omega); (conv => whnf))
    | ((refine DApp.c rfl rfl rfl rfl rfl ?hb ?_); (case hb => exact zB); (conv => whnf))
    | ((refine DApp.d rfl rfl rfl rfl rfl rfl ?hb ?ho ?_); (case hb => exact zB); (case ho => omega); (conv => whnf))
    | ((with_reducible refine nil_no (by omega) ?_); (conv => whnf))
    | ((with_reducible refine nil_any ?_ (fun hn0 => ?_)) <;> (conv => whnf))
    
    | ((refine ways (fun hc => ?_) (fun hc => ?_)) <;> (try simp only [decide_eq_true_eq, decide_eq_false_iff_not, Bool.and_eq_true, Bool.or_eq_true, Bool.and_eq_false_iff, Bool.or_eq_false_iff, Bool.not_eq_true', Bool.not_eq_false', beq_iff_eq, bne_iff_ne, ne_eq, beq_eq_false_iff_ne, bne_eq_false_iff_eq, Bool.not_eq_true, Bool.not_eq_false] at hc) <;> (try (exfalso; omega)) <;> (conv => whnf))))
      all_goals first
        | exact .b (by rw [eq_comm, decide_eq_false_iff_not, hs (by omega)]; intro h; exact absurd h.1 (by assumption))
        | (refine ⟨i + 1, ⟨by omega, by rw [hs (by omega)]; exact and_iff_right (by omega)⟩, by dsimp only; omega, ?_⟩; (refine Le.by [] rfl rfl rfl rfl ?_ ?_ <;> (conv => whnf) <;> (repeat' (first | exact trivial | exact ArgLe.rfl rfl | exact ArgLe.ptr rfl | exact ArgLe.sl rfl | ((with_reducible refine ArgLe.fn ?_); (conv => whnf)) | ((refine ArgLe.iref ?_); (conv => whnf)) | exact ⟨rfl, rfl, rfl⟩ | exact fun i hi => rfl | ((with_reducible refine And.intro ?_ ?_) <;> (conv => whnf))))))
        | exact .b (by
            have e : i = a.length := by omega
            subst e
            rw [eq_comm, decide_eq_true_eq, h2, List.drop_length, List.drop_eq_nil_of_le (by omega)])
theorem r14_Same (xs ys : List Dir.Ent) : Pure TC 30 [.d (slOf 2 entD xs), .d (slOf 2 entD ys)] (.b (decide (xs = ys))) := by
  refine Pure.lens (.mk Tryz.func30 rfl rfl) fun hlen => ?_
  have ha := hlen xs.length (by simp [lensOf, slOf])
  have hb := hlen ys.length (by simp [lensOf, slOf])
  clear hlen
  refine Pure.mk' Tryz.func30 rfl rfl (Nat.le_of_ble_eq_true rfl) ?_
  (repeat' (first
    | with_reducible refine Wp.seq ?_
    | with_reducible refine Wp.block ?_
    | ((with_reducible first | refine Wp.region ?_ | refine Wp.drawL TC_mixed ?_ | refine Wp.cond ?_ | refine Wp.ret ?_ | refine Wp.skip ?_ | refine Wp.exit ?_ | refine Go.mk ?_ | apply Eff1.of); conv => whnf)
    | with_reducible exact rfl
    | ((with_reducible refine Ov.ok zO ?_); conv => whnf)
    | (with_reducible refine Ov.sh1 (by with_unfolding_all exact rfl) ?_)
    | ((with_reducible refine Ov.quo (by omega) (by omega) (by omega) (fun _ _ => ?_)); conv => whnf)
    | ((with_reducible refine And.intro (show drawOK _ _ _ _ = true by kernel_rfl) ?_); conv => whnf)
    | ((with_reducible refine And.intro zC ?_); conv => whnf)
    | ((with_reducible refine And.intro ?hb ?_); (case hb => exact bytes_bd (Nat.le_of_ble_eq_true rfl) (by omega)); (conv => whnf))
    | ((refine DApp.a rfl rfl rfl rfl rfl rfl ?hb ?_); (case hb => exact zB); (conv => whnf))
    | ((refine DApp.b rfl rfl rfl rfl rfl rfl rfl rfl ?hb ?ho ?_); (case hb => exact zB); (case ho => omega); (conv => whnf))
    | ((refine DApp.c rfl rfl rfl rfl rfl ?hb ?_); (case hb => exact zB); (conv => whnf))
    | ((refine DApp.d rfl rfl rfl rfl rfl rfl ?hb ?ho ?_); (case hb => exact zB); (case ho => omega); (conv => whnf))
    | ((with_reducible refine nil_no (by omega) ?_); (conv => whnf))
    | ((with_reducible refine nil_any ?_ (fun hn0 => ?_)) <;> (conv => whnf))
    
    | ((refine ways (fun hc => ?_) (fun hc => ?_)) <;> (try simp only [decide_eq_true_eq, decide_eq_false_iff_not, Bool.and_eq_true, Bool.or_eq_true, Bool.and_eq_false_iff, Bool.or_eq_false_iff, Bool.not_eq_true', Bool.not_eq_false', beq_iff_eq, bne_iff_ne, ne_eq, beq_eq_false_iff_ne, bne_eq_false_iff_eq, Bool.not_eq_true, Bool.not_eq_false] at hc) <;> (try (exfalso; omega)) <;> (conv => whnf))))
  · exact .b (by rw [eq_comm, decide_eq_false_iff_not]; intro h; subst h; omega)
  · refine Wp.loopP (ι := Nat) (fun i => i ≤ xs.length ∧ (xs = ys ↔ xs.drop i = ys.drop i)) (fun i => ⟨⟨Tryz.f30.ntmps, 0⟩, 0, [(0, .d (slOf 2 entD xs)), (1, .d (slOf 2 entD ys)), (12, .i .i64 xs.length), (13, .i .i64 i)], []⟩) (fun i => xs.length - i) 0 ⟨Nat.zero_le _, Iff.rfl⟩ ?_ ?_
    · (refine Le.by [] rfl rfl rfl rfl ?_ ?_ <;> (conv => whnf) <;> (repeat' (first | exact trivial | exact ArgLe.rfl rfl | exact ArgLe.ptr rfl | exact ArgLe.sl rfl | ((with_reducible refine ArgLe.fn ?_); (conv => whnf)) | ((refine ArgLe.iref ?_); (conv => whnf)) | exact ⟨rfl, rfl, rfl⟩ | exact fun i hi => rfl | ((with_reducible refine And.intro ?_ ?_) <;> (conv => whnf)))))
    · rintro i ⟨h1, h2⟩
      have hs : i < xs.length → (xs = ys ↔ ((xs.getD (i : Int).toNat default).key = (ys.getD (i : Int).toNat default).key ∧ (xs.getD (i : Int).toNat default).val = (ys.getD (i : Int).toNat default).val) ∧ xs.drop (i + 1) = ys.drop (i + 1)) := fun g1 => by
        rw [h2, dropE g1, dropE (by omega : i < ys.length), List.cons.injEq, getN, getN]
        have : ∀ x y : Dir.Ent, x = y ↔ x.key = y.key ∧ x.val = y.val := fun x y => by cases x; cases y; simp
        rw [this]
      (repeat' (first
    | with_reducible refine Wp.seq ?_
    | with_reducible refine Wp.block ?_
    | ((with_reducible first | refine Wp.region ?_ | refine Wp.drawL TC_mixed ?_ | refine Wp.cond ?_ | refine Wp.ret ?_ | refine Wp.skip ?_ | refine Wp.exit ?_ | refine Go.mk ?_ | apply Eff1.of); conv => whnf)
    | with_reducible exact rfl
    | ((with_reducible refine Ov.ok zO ?_); conv => whnf)
    | (with_reducible refine Ov.sh1 (by with_unfolding_all exact rfl) ?_)
    | ((with_reducible refine Ov.quo (by omega) (by omega) (by omega) (fun _ _ => ?_)); conv => whnf)
    | ((with_reducible refine And.intro (show drawOK _ _ _ _ = true by kernel_rfl) ?_); conv => whnf)
    | ((with_reducible refine And.intro zC ?_); conv => whnf)
    | ((with_reducible refine And.intro ?hb ?_); (case hb => exact bytes_bd (Nat.le_of_ble_eq_true rfl) (by omega)); (conv => whnf))
    | ((refine DApp.a rfl rfl rfl rfl rfl rfl ?hb ?_); (case hb => exact zB); (conv => whnf))
    | ((refine DApp.b rfl rfl rfl rfl rfl rfl rfl rfl ?hb ?ho ?_); (case hb => exact zB); (case ho => omega); (conv => whnf))
    | ((refine DApp.c rfl rfl rfl rfl rfl ?hb ?_); (case hb => exact zB); (conv => whnf))
    | ((refine DApp.d rfl rfl rfl rfl rfl rfl ?hb ?ho ?_); (case hb => exact zB); (case ho => omega); (conv => whnf))
    | ((with_reducible refine nil_no (by omega) ?_); (conv => whnf))
    | ((with_reducible refine nil_any ?_ (fun hn0 => ?_)) <;> (conv => whnf))
    | ((with_reducible refine CallStop.pure (r1_SameBytes _ _) rfl rfl ?_); conv => whnf) | ((with_reducible refine DCall.pure (r1_SameBytes _ _) rfl rfl ?_); conv => whnf)
    | ((refine ways (fun hc => ?_) (fun hc => ?_)) <;> (try simp only [decide_eq_true_eq, decide_eq_false_iff_not, Bool.and_eq_true, Bool.or_eq_true, Bool.and_eq_false_iff, Bool.or_eq_false_iff, Bool.not_eq_true', Bool.not_eq_false', beq_iff_eq, bne_iff_ne, ne_eq, beq_eq_false_iff_ne, bne_eq_false_iff_eq, Bool.not_eq_true, Bool.not_eq_false] at hc) <;> (try (exfalso; omega)) <;> (conv => whnf))))
      all_goals first
        | exact .b (by rw [eq_comm, decide_eq_false_iff_not, hs (by omega)]; intro h; exact absurd h.1.1 (by assumption))
        | exact .b (by rw [eq_comm, decide_eq_false_iff_not, hs (by omega)]; intro h; exact absurd h.1.2 (by assumption))
        | (refine ⟨i + 1, ⟨by omega, by rw [hs (by omega)]; exact and_iff_right ⟨by assumption, by assumption⟩⟩, by dsimp only; omega, ?_⟩; (refine Le.by [] rfl rfl rfl rfl ?_ ?_ <;> (conv => whnf) <;> (repeat' (first | exact trivial | exact ArgLe.rfl rfl | exact ArgLe.ptr rfl | exact ArgLe.sl rfl | ((with_reducible refine ArgLe.fn ?_); (conv => whnf)) | ((refine ArgLe.iref ?_); (conv => whnf)) | exact ⟨rfl, rfl, rfl⟩ | exact fun i hi => rfl | ((with_reducible refine And.intro ?_ ?_) <;> (conv => whnf))))))
        | exact .b (by
            have e : i = xs.length := by omega
            subst e
            rw [eq_comm, decide_eq_true_eq, h2, List.drop_length, List.drop_eq_nil_of_le (by omega)])
def findI (xs : List Dir.Ent) (k : List Int) : Int := match xs.findIdx? (fun e => decide (e.key = k)) with | some i => i | none => -1
theorem r14_Find (xs : List Dir.Ent) (k : List Int) : Pure TC 60 [.d (slOf 2 entD xs), .d (slOf 1 (encI .u8) k)] (.i .i64 (findI xs k)) := by
  refine Pure.lens (.mk Tryz.func60 rfl rfl) fun hlen => ?_
  have ha := hlen xs.length (by simp [lensOf, slOf])
  clear hlen
  refine Pure.mk' Tryz.func60 rfl rfl (Nat.le_of_ble_eq_true rfl) ?_
  (repeat' (first
    | with_reducible refine Wp.seq ?_
    | with_reducible refine Wp.block ?_
    | ((with_reducible first | refine Wp.region ?_ | refine Wp.drawL TC_mixed ?_ | refine Wp.cond ?_ | refine Wp.ret ?_ | refine Wp.skip ?_ | refine Wp.exit ?_ | refine Go.mk ?_ | apply Eff1.of); conv => whnf)
    | with_reducible exact rfl
    | ((with_reducible refine Ov.ok zO ?_); conv => whnf)
    | (with_reducible refine Ov.sh1 (by with_unfolding_all exact rfl) ?_)
    | ((with_reducible refine Ov.quo (by omega) (by omega) (by omega) (fun _ _ => ?_)); conv => whnf)
    | ((with_reducible refine And.intro (show drawOK _ _ _ _ = true by kernel_rfl) ?_); conv => whnf)
    | ((with_reducible refine And.intro zC ?_); conv => whnf)
    | ((with_reducible refine And.intro ?hb ?_); (case hb => exact bytes_bd (Nat.le_of_ble_eq_true rfl) (by omega)); (conv => whnf))
    | ((refine DApp.a rfl rfl rfl rfl rfl rfl ?hb ?_); (case hb => exact zB); (conv => whnf))
    | ((refine DApp.b rfl rfl rfl rfl rfl rfl rfl rfl ?hb ?ho ?_); (case hb => exact zB); (case ho => omega); (conv => whnf))
    | ((refine DApp.c rfl rfl rfl rfl rfl ?hb ?_); (case hb => exact zB); (conv => whnf))
    | ((refine DApp.d rfl rfl rfl rfl rfl rfl ?hb ?ho ?_); (case hb => exact zB); (case ho => omega); (conv => whnf))
    | ((with_reducible refine nil_no (by omega) ?_); (conv => whnf))
    | ((with_reducible refine nil_any ?_ (fun hn0 => ?_)) <;> (conv => whnf))
    
    | ((refine ways (fun hc => ?_) (fun hc => ?_)) <;> (try simp only [decide_eq_true_eq, decide_eq_false_iff_not, Bool.and_eq_true, Bool.or_eq_true, Bool.and_eq_false_iff, Bool.or_eq_false_iff, Bool.not_eq_true', Bool.not_eq_false', beq_iff_eq, bne_iff_ne, ne_eq, beq_eq_false_iff_ne, bne_eq_false_iff_eq, Bool.not_eq_true, Bool.not_eq_false] at hc) <;> (try (exfalso; omega)) <;> (conv => whnf))))
  refine Wp.loopP (ι := Nat) (fun i => i ≤ xs.length ∧ ∀ j, j < i → (xs.getD j default).key ≠ k) (fun i => ⟨⟨Tryz.f60.ntmps, 0⟩, 0, [(1, .d (slOf 1 (encI .u8) k)), (7, .d (slOf 2 entD xs)), (8, .i .i64 xs.length), (9, .i .i64 i)], []⟩) (fun i => xs.length - i) 0 ⟨Nat.zero_le _, fun j hj => absurd hj (Nat.not_lt_zero _)⟩ ?_ ?_
  · (refine Le.by [] rfl rfl rfl rfl ?_ ?_ <;> (conv => whnf) <;> (repeat' (first | exact trivial | exact ArgLe.rfl rfl | exact ArgLe.ptr rfl | exact ArgLe.sl rfl | ((with_reducible refine ArgLe.fn ?_); (conv => whnf)) | ((refine ArgLe.iref ?_); (conv => whnf)) | exact ⟨rfl, rfl, rfl⟩ | exact fun i hi => rfl | ((with_reducible refine And.intro ?_ ?_) <;> (conv => whnf)))))
  · rintro i ⟨h1, h2⟩
    (repeat' (first
    | with_reducible refine Wp.seq ?_
    | with_reducible refine Wp.block ?_
    | ((with_reducible first | refine Wp.region ?_ | refine Wp.drawL TC_mixed ?_ | refine Wp.cond ?_ | refine Wp.ret ?_ | refine Wp.skip ?_ | refine Wp.exit ?_ | refine Go.mk ?_ | apply Eff1.of); conv => whnf)
    | with_reducible exact rfl
    | ((with_reducible refine Ov.ok zO ?_); conv => whnf)
    | (with_reducible refine Ov.sh1 (by with_unfolding_all exact rfl) ?_)
    | ((with_reducible refine Ov.quo (by omega) (by omega) (by omega) (fun _ _ => ?_)); conv => whnf)
    | ((with_reducible refine And.intro (show drawOK _ _ _ _ = true by kernel_rfl) ?_); conv => whnf)
    | ((with_reducible refine And.intro zC ?_); conv => whnf)
    | ((with_reducible refine And.intro ?hb ?_); (case hb => exact bytes_bd (Nat.le_of_ble_eq_true rfl) (by omega)); (conv => whnf))
    | ((refine DApp.a rfl rfl rfl rfl rfl rfl ?hb ?_); (case hb => exact zB); (conv => whnf))
    | ((refine DApp.b rfl rfl rfl rfl rfl rfl rfl rfl ?hb ?ho ?_); (case hb => exact zB); (case ho => omega); (conv => whnf))
    | ((refine DApp.c rfl rfl rfl rfl rfl ?hb ?_); (case hb => exact zB); (conv => whnf))
    | ((refine DApp.d rfl rfl rfl rfl rfl rfl ?hb ?ho ?_); (case hb => exact zB); (case ho => omega); (conv => whnf))
    | ((with_reducible refine nil_no (by omega) ?_); (conv => whnf))
    | ((with_reducible refine nil_any ?_ (fun hn0 => ?_)) <;> (conv => whnf))
    | ((with_reducible refine CallStop.pure (r2_Order _ _) rfl rfl ?_); conv => whnf) | ((with_reducible refine DCall.pure (r2_Order _ _) rfl rfl ?_); conv => whnf)
    | ((refine ways (fun hc => ?_) (fun hc => ?_)) <;> (try simp only [decide_eq_true_eq, decide_eq_false_iff_not, Bool.and_eq_true, Bool.or_eq_true, Bool.and_eq_false_iff, Bool.or_eq_false_iff, Bool.not_eq_true', Bool.not_eq_false', beq_iff_eq, bne_iff_ne, ne_eq, beq_eq_false_iff_ne, bne_eq_false_iff_eq, Bool.not_eq_true, Bool.not_eq_false] at hc) <;> (try (exfalso; omega)) <;> (conv => whnf))))
    · have hk : (xs.getD (i : Int).toNat default).key = k := Dir.cmpEq (by omega)
      refine .i ?_
      have hi : i < xs.length := by omega
      have : xs.findIdx? (fun e => decide (e.key = k)) = some i := by
        rw [List.findIdx?_eq_some_iff_getElem]
        refine ⟨hi, ?_, fun j hj => ?_⟩
        · rw [getN, List.getD_eq_getElem?_getD, List.getElem?_eq_getElem hi] at hk
          simpa using hk
        · have := h2 j hj
          rw [List.getD_eq_getElem?_getD, List.getElem?_eq_getElem (by omega : j < xs.length)] at this
          simpa using this
      unfold findI; rw [this]
    · refine ⟨i + 1, ⟨by omega, fun j hj => ?_⟩, by dsimp only; omega, ?_⟩
      · by_cases e : j = i
        · subst e; intro hk
          rw [getN, hk, Dir.cmpS] at hc; exact hc rfl
        · exact h2 j (by omega)
      · (refine Le.by [] rfl rfl rfl rfl ?_ ?_ <;> (conv => whnf) <;> (repeat' (first | exact trivial | exact ArgLe.rfl rfl | exact ArgLe.ptr rfl | exact ArgLe.sl rfl | ((with_reducible refine ArgLe.fn ?_); (conv => whnf)) | ((refine ArgLe.iref ?_); (conv => whnf)) | exact ⟨rfl, rfl, rfl⟩ | exact fun i hi => rfl | ((with_reducible refine And.intro ?_ ?_) <;> (conv => whnf)))))
    · refine .i ?_
      have : xs.findIdx? (fun e => decide (e.key = k)) = none := by
        rw [List.findIdx?_eq_none_iff]
        intro e he
        obtain ⟨j, hj, rfl⟩ := Dir.at_mem he
        simpa using h2 j (by omega)
      unfold findI; rw [this]
def putL (key : List Int) (v : Int) : Bool → List Dir.Ent → List Dir.Ent
  | d, [] => if d then [] else [⟨key, v⟩]
  | d, x :: r => (if cmpI key x.key ≤ 0 ∧ d = false then [⟨key, v⟩] else []) ++ (if cmpI key x.key ≠ 0 then [x] else []) ++ putL key v (d || decide (cmpI key x.key ≤ 0)) r
theorem app_rowE2 (l : List Dir.Ent) (n x : Dir.Ent) : ∀ k, k < l.length + 1 + 1 → catF (l.length + 1) (catF l.length (fun i => entD (l.getD i default)) (fun i => chunkD (entD n) 2 (0 + i))) (fun i => chunkD (entD x) 2 (0 + i)) k = entD ((l ++ [n] ++ [x]).getD k default) := fun k hk => by
  have e : (l ++ [n]).length = l.length + 1 := by simp
  have q := app_rowE (l ++ [n]) x k (by omega)
  rw [e] at q
  rw [← q]
  by_cases h : k < l.length + 1
  · have h2 := app_rowE l n k h
    unfold catF at h2 ⊢
    rw [if_pos h, if_pos h]; exact h2
  · unfold catF
    rw [if_neg h, if_neg h]
theorem r14_Put (xs : List Dir.Ent) (key : List Int) (v : Int) (hl : xs.length ≤ 1000000) : Pure TC 68 [.d (slOf 2 entD xs), .d (slOf 1 (encI .u8) key), .i .i64 v] (.d (slOf 2 entD (putL key v false xs))) := by
  refine Pure.mk' Tryz.func68 rfl rfl (Nat.le_of_ble_eq_true rfl) ?_
  (repeat' (first
    | with_reducible refine Wp.seq ?_
    | with_reducible refine Wp.block ?_
    | ((with_reducible first | refine Wp.region ?_ | refine Wp.drawL TC_mixed ?_ | refine Wp.cond ?_ | refine Wp.ret ?_ | refine Wp.skip ?_ | refine Wp.exit ?_ | refine Go.mk ?_ | apply Eff1.of); conv => whnf)
    | with_reducible exact rfl
    | ((with_reducible refine Ov.ok zO ?_); conv => whnf)
    | (with_reducible refine Ov.sh1 (by with_unfolding_all exact rfl) ?_)
    | ((with_reducible refine Ov.quo (by omega) (by omega) (by omega) (fun _ _ => ?_)); conv => whnf)
    | ((with_reducible refine And.intro (show drawOK _ _ _ _ = true by kernel_rfl) ?_); conv => whnf)
    | ((with_reducible refine And.intro zC ?_); conv => whnf)
    | ((with_reducible refine And.intro ?hb ?_); (case hb => exact bytes_bd (Nat.le_of_ble_eq_true rfl) (by omega)); (conv => whnf))
    | ((refine DApp.a rfl rfl rfl rfl rfl rfl ?hb ?_); (case hb => exact zB); (conv => whnf))
    | ((refine DApp.b rfl rfl rfl rfl rfl rfl rfl rfl ?hb ?ho ?_); (case hb => exact zB); (case ho => omega); (conv => whnf))
    | ((refine DApp.c rfl rfl rfl rfl rfl ?hb ?_); (case hb => exact zB); (conv => whnf))
    | ((refine DApp.d rfl rfl rfl rfl rfl rfl ?hb ?ho ?_); (case hb => exact zB); (case ho => omega); (conv => whnf))
    | ((with_reducible refine nil_no (by omega) ?_); (conv => whnf))
    | ((with_reducible refine nil_any ?_ (fun hn0 => ?_)) <;> (conv => whnf))
    
    | ((refine ways (fun hc => ?_) (fun hc => ?_)) <;> (try simp only [decide_eq_true_eq, decide_eq_false_iff_not, Bool.and_eq_true, Bool.or_eq_true, Bool.and_eq_false_iff, Bool.or_eq_false_iff, Bool.not_eq_true', Bool.not_eq_false', beq_iff_eq, bne_iff_ne, ne_eq, beq_eq_false_iff_ne, bne_eq_false_iff_eq, Bool.not_eq_true, Bool.not_eq_false] at hc) <;> (try (exfalso; omega)) <;> (conv => whnf))))
  refine Wp.le (Le.virt 7 148 2 (fun i => entD (([] : List Dir.Ent).getD i default)) (by decide) rfl) ?_
  refine Wp.loopP (ι := Nat × Bool × List Dir.Ent) (fun k => k.1 ≤ xs.length ∧ k.2.2.length ≤ 2 * k.1 ∧ k.2.2 ++ putL key v k.2.1 (xs.drop k.1) = putL key v false xs) (fun k => ⟨⟨Tryz.f68.ntmps, 0⟩, 1, [(1, .d (slOf 1 (encI .u8) key)), (2, .i .i64 v), (7, .sl 0 2 0 k.2.2.length), (8, .b k.2.1), (12, .d (slOf 2 entD xs)), (13, .i .i64 xs.length), (14, .i .i64 k.1)], [(0, some (rowOf 148 2 entD k.2.2))]⟩) (fun k => xs.length - k.1) (0, false, []) ⟨Nat.zero_le _, by simp, rfl⟩ ?_ ?_
  · (refine Le.by [0] rfl rfl rfl rfl ?_ ?_ <;> (conv => whnf) <;> (repeat' (first | exact trivial | exact ArgLe.rfl rfl | exact ArgLe.ptr rfl | exact ArgLe.sl rfl | ((with_reducible refine ArgLe.fn ?_); (conv => whnf)) | ((refine ArgLe.iref ?_); (conv => whnf)) | exact ⟨rfl, rfl, rfl⟩ | exact fun i hi => rfl | ((with_reducible refine And.intro ?_ ?_) <;> (conv => whnf)))))
  · rintro ⟨j, d, l⟩ ⟨h1, h2, h3⟩
    dsimp only at h1 h2 h3 ⊢
    have hd : ∀ (hj : j < xs.length), xs.drop j = xs.getD (j : Int).toNat default :: xs.drop (j + 1) := fun hj => by rw [Int.toNat_natCast]; exact dropE hj
    have hst : j < xs.length → putL key v d (xs.drop j) = (if cmpI key (xs.getD (j : Int).toNat default).key ≤ 0 ∧ d = false then [⟨key, v⟩] else []) ++ (if cmpI key (xs.getD (j : Int).toNat default).key ≠ 0 then [xs.getD (j : Int).toNat default] else []) ++ putL key v (d || decide (cmpI key (xs.getD (j : Int).toNat default).key ≤ 0)) (xs.drop (j + 1)) := fun hj => by rw [hd hj]; rfl
    cases d with
    | true =>
      (repeat' (first
    | with_reducible refine Wp.seq ?_
    | with_reducible refine Wp.block ?_
    | ((with_reducible first | refine Wp.region ?_ | refine Wp.drawL TC_mixed ?_ | refine Wp.cond ?_ | refine Wp.ret ?_ | refine Wp.skip ?_ | refine Wp.exit ?_ | refine Go.mk ?_ | apply Eff1.of); conv => whnf)
    | with_reducible exact rfl
    | ((with_reducible refine Ov.ok zO ?_); conv => whnf)
    | (with_reducible refine Ov.sh1 (by with_unfolding_all exact rfl) ?_)
    | ((with_reducible refine Ov.quo (by omega) (by omega) (by omega) (fun _ _ => ?_)); conv => whnf)
    | ((with_reducible refine And.intro (show drawOK _ _ _ _ = true by kernel_rfl) ?_); conv => whnf)
    | ((with_reducible refine And.intro zC ?_); conv => whnf)
    | ((with_reducible refine And.intro ?hb ?_); (case hb => exact bytes_bd (Nat.le_of_ble_eq_true rfl) (by omega)); (conv => whnf))
    | ((refine DApp.a rfl rfl rfl rfl rfl rfl ?hb ?_); (case hb => exact zB); (conv => whnf))
    | ((refine DApp.b rfl rfl rfl rfl rfl rfl rfl rfl ?hb ?ho ?_); (case hb => exact zB); (case ho => omega); (conv => whnf))
    | ((refine DApp.c rfl rfl rfl rfl rfl ?hb ?_); (case hb => exact zB); (conv => whnf))
    | ((refine DApp.d rfl rfl rfl rfl rfl rfl ?hb ?ho ?_); (case hb => exact zB); (case ho => omega); (conv => whnf))
    | ((with_reducible refine nil_no (by omega) ?_); (conv => whnf))
    | ((with_reducible refine nil_any ?_ (fun hn0 => ?_)) <;> (conv => whnf))
    | ((with_reducible refine CallStop.pure (r2_Order _ _) rfl rfl ?_); conv => whnf) | ((with_reducible refine DCall.pure (r2_Order _ _) rfl rfl ?_); conv => whnf)
    | ((refine ways (fun hc => ?_) (fun hc => ?_)) <;> (try simp only [decide_eq_true_eq, decide_eq_false_iff_not, Bool.and_eq_true, Bool.or_eq_true, Bool.and_eq_false_iff, Bool.or_eq_false_iff, Bool.not_eq_true', Bool.not_eq_false', beq_iff_eq, bne_iff_ne, ne_eq, beq_eq_false_iff_ne, bne_eq_false_iff_eq, Bool.not_eq_true, Bool.not_eq_false] at hc) <;> (try (exfalso; omega)) <;> (conv => whnf))))
      all_goals first
        | (refine ⟨(j + 1, true, l ++ [xs.getD (j : Int).toNat default]), ⟨by dsimp only; omega, by simp; omega, (by rw [← h3, hst (by omega), if_neg (by simp), if_pos (by omega)]; simp)⟩, by dsimp only; omega, ?_⟩
           (refine Le.by [3] rfl rfl rfl rfl ?_ ?_ <;> (conv => whnf) <;> (repeat' (first | exact trivial | exact ArgLe.rfl rfl | exact ArgLe.ptr rfl | exact ArgLe.sl rfl | ((with_reducible refine ArgLe.fn ?_); (conv => whnf)) | ((refine ArgLe.iref ?_); (conv => whnf)) | exact ⟨rfl, rfl, rfl⟩ | exact fun i hi => rfl | ((with_reducible refine And.intro ?_ ?_) <;> (conv => whnf))))); (focus (dsimp only; rw [List.length_append]; exact ArgLe.sl rfl)); (focus rfl); (focus simp); exact app_rowE _ _)
        | (refine ⟨(j + 1, true, l), ⟨by dsimp only; omega, by dsimp only; omega, (by rw [← h3, hst (by omega), if_neg (by simp), if_neg (by omega)]; simp)⟩, by dsimp only; omega, ?_⟩
           (refine Le.by [0] rfl rfl rfl rfl ?_ ?_ <;> (conv => whnf) <;> (repeat' (first | exact trivial | exact ArgLe.rfl rfl | exact ArgLe.ptr rfl | exact ArgLe.sl rfl | ((with_reducible refine ArgLe.fn ?_); (conv => whnf)) | ((refine ArgLe.iref ?_); (conv => whnf)) | exact ⟨rfl, rfl, rfl⟩ | exact fun i hi => rfl | ((with_reducible refine And.intro ?_ ?_) <;> (conv => whnf))))))
        | (obtain rfl : j = xs.length := by omega
           rw [List.drop_length] at h3
           rw [← h3]
           exact sl_eq (by simp [putL]) fun i hi => by simp [putL])
    | false =>
      (repeat' (first
    | with_reducible refine Wp.seq ?_
    | with_reducible refine Wp.block ?_
    | ((with_reducible first | refine Wp.region ?_ | refine Wp.drawL TC_mixed ?_ | refine Wp.cond ?_ | refine Wp.ret ?_ | refine Wp.skip ?_ | refine Wp.exit ?_ | refine Go.mk ?_ | apply Eff1.of); conv => whnf)
    | with_reducible exact rfl
    | ((with_reducible refine Ov.ok zO ?_); conv => whnf)
    | (with_reducible refine Ov.sh1 (by with_unfolding_all exact rfl) ?_)
    | ((with_reducible refine Ov.quo (by omega) (by omega) (by omega) (fun _ _ => ?_)); conv => whnf)
    | ((with_reducible refine And.intro (show drawOK _ _ _ _ = true by kernel_rfl) ?_); conv => whnf)
    | ((with_reducible refine And.intro zC ?_); conv => whnf)
    | ((with_reducible refine And.intro ?hb ?_); (case hb => exact bytes_bd (Nat.le_of_ble_eq_true rfl) (by omega)); (conv => whnf))
    | ((refine DApp.a rfl rfl rfl rfl rfl rfl ?hb ?_); (case hb => exact zB); (conv => whnf))
    | ((refine DApp.b rfl rfl rfl rfl rfl rfl rfl rfl ?hb ?ho ?_); (case hb => exact zB); (case ho => omega); (conv => whnf))
    | ((refine DApp.c rfl rfl rfl rfl rfl ?hb ?_); (case hb => exact zB); (conv => whnf))
    | ((refine DApp.d rfl rfl rfl rfl rfl rfl ?hb ?ho ?_); (case hb => exact zB); (case ho => omega); (conv => whnf))
    | ((with_reducible refine nil_no (by omega) ?_); (conv => whnf))
    | ((with_reducible refine nil_any ?_ (fun hn0 => ?_)) <;> (conv => whnf))
    | ((with_reducible refine CallStop.pure (r2_Order _ _) rfl rfl ?_); conv => whnf) | ((with_reducible refine DCall.pure (r2_Order _ _) rfl rfl ?_); conv => whnf)
    | ((refine ways (fun hc => ?_) (fun hc => ?_)) <;> (try simp only [decide_eq_true_eq, decide_eq_false_iff_not, Bool.and_eq_true, Bool.or_eq_true, Bool.and_eq_false_iff, Bool.or_eq_false_iff, Bool.not_eq_true', Bool.not_eq_false', beq_iff_eq, bne_iff_ne, ne_eq, beq_eq_false_iff_ne, bne_eq_false_iff_eq, Bool.not_eq_true, Bool.not_eq_false] at hc) <;> (try (exfalso; omega)) <;> (conv => whnf))))
      · refine ⟨(j + 1, true, (l ++ [⟨key, v⟩]) ++ [xs.getD (j : Int).toNat default]), ⟨by dsimp only; omega, by simp; omega, (by rw [← h3, hst (by omega), if_pos ⟨by omega, rfl⟩, if_pos (by omega), decide_eq_true (by omega)]; simp)⟩, by dsimp only; omega, ?_⟩
        (refine Le.by [5] rfl rfl rfl rfl ?_ ?_ <;> (conv => whnf) <;> (repeat' (first | exact trivial | exact ArgLe.rfl rfl | exact ArgLe.ptr rfl | exact ArgLe.sl rfl | ((with_reducible refine ArgLe.fn ?_); (conv => whnf)) | ((refine ArgLe.iref ?_); (conv => whnf)) | exact ⟨rfl, rfl, rfl⟩ | exact fun i hi => rfl | ((with_reducible refine And.intro ?_ ?_) <;> (conv => whnf)))))
        · dsimp only; rw [List.length_append, List.length_append]; exact ArgLe.sl rfl
        · rfl
        · simp
        · exact app_rowE2 l ⟨key, v⟩ _
      · refine ⟨(j + 1, true, l ++ [⟨key, v⟩]), ⟨by dsimp only; omega, by simp; omega, (by rw [← h3, hst (by omega), if_pos ⟨by omega, rfl⟩, if_neg (by omega), decide_eq_true (by omega)]; simp)⟩, by dsimp only; omega, ?_⟩
        (refine Le.by [3] rfl rfl rfl rfl ?_ ?_ <;> (conv => whnf) <;> (repeat' (first | exact trivial | exact ArgLe.rfl rfl | exact ArgLe.ptr rfl | exact ArgLe.sl rfl | ((with_reducible refine ArgLe.fn ?_); (conv => whnf)) | ((refine ArgLe.iref ?_); (conv => whnf)) | exact ⟨rfl, rfl, rfl⟩ | exact fun i hi => rfl | ((with_reducible refine And.intro ?_ ?_) <;> (conv => whnf))))); (focus (dsimp only; rw [List.length_append]; exact ArgLe.sl rfl)); (focus rfl); (focus simp); exact app_rowE l ⟨key, v⟩
      · refine ⟨(j + 1, false, l ++ [xs.getD (j : Int).toNat default]), ⟨by dsimp only; omega, by simp; omega, (by rw [← h3, hst (by omega), if_neg (fun h => by omega), if_pos (by omega), decide_eq_false (by omega)]; simp)⟩, by dsimp only; omega, ?_⟩
        (refine Le.by [3] rfl rfl rfl rfl ?_ ?_ <;> (conv => whnf) <;> (repeat' (first | exact trivial | exact ArgLe.rfl rfl | exact ArgLe.ptr rfl | exact ArgLe.sl rfl | ((with_reducible refine ArgLe.fn ?_); (conv => whnf)) | ((refine ArgLe.iref ?_); (conv => whnf)) | exact ⟨rfl, rfl, rfl⟩ | exact fun i hi => rfl | ((with_reducible refine And.intro ?_ ?_) <;> (conv => whnf))))); (focus (dsimp only; rw [List.length_append]; exact ArgLe.sl rfl)); (focus rfl); (focus simp); exact app_rowE _ _
      · obtain rfl : j = xs.length := by omega
        rw [List.drop_length] at h3
        rw [← h3]
        refine sl_eq (by simp [putL]) fun i hi => ?_
        rw [Nat.zero_add]
        exact app_rowE l ⟨key, v⟩ i (by simpa [putL] using hi)
theorem drop_row {zs : List Dir.Ent} {key : List Int} {k : Nat} (h : k < zs.length) : (zs.take (k + 1)).filter (fun e => decide (cmpI key e.key ≠ 0)) = if cmpI key (zs.getD (k : Int).toNat default).key ≠ 0 then (zs.take k).filter (fun e => decide (cmpI key e.key ≠ 0)) ++ [zs.getD (k : Int).toNat default] else (zs.take k).filter (fun e => decide (cmpI key e.key ≠ 0)) := by
  rw [getE h, List.take_succ_eq_append_getElem h, List.filter_append]
  split
  · rename_i e; rw [List.filter_cons_of_pos (by simpa using e)]; simp
  · rename_i e; rw [List.filter_cons_of_neg (by simpa using e)]; simp
theorem r14_Drop (xs : List Dir.Ent) (key : List Int) (hl : xs.length ≤ 1000000) : Pure TC 70 [.d (slOf 2 entD xs), .d (slOf 1 (encI .u8) key)] (.d (slOf 2 entD (xs.filter fun e => decide (cmpI key e.key ≠ 0)))) := by
  refine Pure.mk' Tryz.func70 rfl rfl (Nat.le_of_ble_eq_true rfl) ?_
  (repeat' (first
    | with_reducible refine Wp.seq ?_
    | with_reducible refine Wp.block ?_
    | ((with_reducible first | refine Wp.region ?_ | refine Wp.drawL TC_mixed ?_ | refine Wp.cond ?_ | refine Wp.ret ?_ | refine Wp.skip ?_ | refine Wp.exit ?_ | refine Go.mk ?_ | apply Eff1.of); conv => whnf)
    | with_reducible exact rfl
    | ((with_reducible refine Ov.ok zO ?_); conv => whnf)
    | (with_reducible refine Ov.sh1 (by with_unfolding_all exact rfl) ?_)
    | ((with_reducible refine Ov.quo (by omega) (by omega) (by omega) (fun _ _ => ?_)); conv => whnf)
    | ((with_reducible refine And.intro (show drawOK _ _ _ _ = true by kernel_rfl) ?_); conv => whnf)
    | ((with_reducible refine And.intro zC ?_); conv => whnf)
    | ((with_reducible refine And.intro ?hb ?_); (case hb => exact bytes_bd (Nat.le_of_ble_eq_true rfl) (by omega)); (conv => whnf))
    | ((refine DApp.a rfl rfl rfl rfl rfl rfl ?hb ?_); (case hb => exact zB); (conv => whnf))
    | ((refine DApp.b rfl rfl rfl rfl rfl rfl rfl rfl ?hb ?ho ?_); (case hb => exact zB); (case ho => omega); (conv => whnf))
    | ((refine DApp.c rfl rfl rfl rfl rfl ?hb ?_); (case hb => exact zB); (conv => whnf))
    | ((refine DApp.d rfl rfl rfl rfl rfl rfl ?hb ?ho ?_); (case hb => exact zB); (case ho => omega); (conv => whnf))
    | ((with_reducible refine nil_no (by omega) ?_); (conv => whnf))
    | ((with_reducible refine nil_any ?_ (fun hn0 => ?_)) <;> (conv => whnf))
    
    | ((refine ways (fun hc => ?_) (fun hc => ?_)) <;> (try simp only [decide_eq_true_eq, decide_eq_false_iff_not, Bool.and_eq_true, Bool.or_eq_true, Bool.and_eq_false_iff, Bool.or_eq_false_iff, Bool.not_eq_true', Bool.not_eq_false', beq_iff_eq, bne_iff_ne, ne_eq, beq_eq_false_iff_ne, bne_eq_false_iff_eq, Bool.not_eq_true, Bool.not_eq_false] at hc) <;> (try (exfalso; omega)) <;> (conv => whnf))))
  refine Wp.le (Le.virt 5 148 2 (fun i => entD (([] : List Dir.Ent).getD i default)) (by decide) rfl) ?_
  refine Wp.loopP (ι := Nat) (fun j => j ≤ xs.length) (fun j => ⟨⟨Tryz.f70.ntmps, 0⟩, 1, [(1, .d (slOf 1 (encI .u8) key)), (5, .sl 0 2 0 ((xs.take j).filter fun e => decide (cmpI key e.key ≠ 0)).length), (8, .d (slOf 2 entD xs)), (9, .i .i64 xs.length), (10, .i .i64 j)], [(0, some (rowOf 148 2 entD ((xs.take j).filter fun e => decide (cmpI key e.key ≠ 0))))]⟩) (fun j => xs.length - j) 0 (Nat.zero_le _) ?_ ?_
  · (refine Le.by [0] rfl rfl rfl rfl ?_ ?_ <;> (conv => whnf) <;> (repeat' (first | exact trivial | exact ArgLe.rfl rfl | exact ArgLe.ptr rfl | exact ArgLe.sl rfl | ((with_reducible refine ArgLe.fn ?_); (conv => whnf)) | ((refine ArgLe.iref ?_); (conv => whnf)) | exact ⟨rfl, rfl, rfl⟩ | exact fun i hi => rfl | ((with_reducible refine And.intro ?_ ?_) <;> (conv => whnf)))))
  · rintro j h1
    have hfl : ((xs.take j).filter fun e => decide (cmpI key e.key ≠ 0)).length ≤ 1000000 := by
      have q1 := List.length_filter_le (fun e : Dir.Ent => decide (cmpI key e.key ≠ 0)) (xs.take j)
      rw [List.length_take] at q1
      omega
    (repeat' (first
    | with_reducible refine Wp.seq ?_
    | with_reducible refine Wp.block ?_
    | ((with_reducible first | refine Wp.region ?_ | refine Wp.drawL TC_mixed ?_ | refine Wp.cond ?_ | refine Wp.ret ?_ | refine Wp.skip ?_ | refine Wp.exit ?_ | refine Go.mk ?_ | apply Eff1.of); conv => whnf)
    | with_reducible exact rfl
    | ((with_reducible refine Ov.ok zO ?_); conv => whnf)
    | (with_reducible refine Ov.sh1 (by with_unfolding_all exact rfl) ?_)
    | ((with_reducible refine Ov.quo (by omega) (by omega) (by omega) (fun _ _ => ?_)); conv => whnf)
    | ((with_reducible refine And.intro (show drawOK _ _ _ _ = true by kernel_rfl) ?_); conv => whnf)
    | ((with_reducible refine And.intro zC ?_); conv => whnf)
    | ((with_reducible refine And.intro ?hb ?_); (case hb => exact bytes_bd (Nat.le_of_ble_eq_true rfl) (by omega)); (conv => whnf))
    | ((refine DApp.a rfl rfl rfl rfl rfl rfl ?hb ?_); (case hb => exact zB); (conv => whnf))
    | ((refine DApp.b rfl rfl rfl rfl rfl rfl rfl rfl ?hb ?ho ?_); (case hb => exact zB); (case ho => omega); (conv => whnf))
    | ((refine DApp.c rfl rfl rfl rfl rfl ?hb ?_); (case hb => exact zB); (conv => whnf))
    | ((refine DApp.d rfl rfl rfl rfl rfl rfl ?hb ?ho ?_); (case hb => exact zB); (case ho => omega); (conv => whnf))
    | ((with_reducible refine nil_no (by omega) ?_); (conv => whnf))
    | ((with_reducible refine nil_any ?_ (fun hn0 => ?_)) <;> (conv => whnf))
    | ((with_reducible refine CallStop.pure (r2_Order _ _) rfl rfl ?_); conv => whnf) | ((with_reducible refine DCall.pure (r2_Order _ _) rfl rfl ?_); conv => whnf)
    | ((refine ways (fun hc => ?_) (fun hc => ?_)) <;> (try simp only [decide_eq_true_eq, decide_eq_false_iff_not, Bool.and_eq_true, Bool.or_eq_true, Bool.and_eq_false_iff, Bool.or_eq_false_iff, Bool.not_eq_true', Bool.not_eq_false', beq_iff_eq, bne_iff_ne, ne_eq, beq_eq_false_iff_ne, bne_eq_false_iff_eq, Bool.not_eq_true, Bool.not_eq_false] at hc) <;> (try (exfalso; omega)) <;> (conv => whnf))))
    · refine ⟨j + 1, by dsimp only; omega, by dsimp only; omega, ?_⟩
      dsimp only
      rw [drop_row (by omega), if_pos hc]
      (refine Le.by [3] rfl rfl rfl rfl ?_ ?_ <;> (conv => whnf) <;> (repeat' (first | exact trivial | exact ArgLe.rfl rfl | exact ArgLe.ptr rfl | exact ArgLe.sl rfl | ((with_reducible refine ArgLe.fn ?_); (conv => whnf)) | ((refine ArgLe.iref ?_); (conv => whnf)) | exact ⟨rfl, rfl, rfl⟩ | exact fun i hi => rfl | ((with_reducible refine And.intro ?_ ?_) <;> (conv => whnf)))))
      · rw [List.length_append]; exact ArgLe.sl rfl
      · rfl
      · simp
      · exact app_rowE _ _
    · refine ⟨j + 1, by dsimp only; omega, by dsimp only; omega, ?_⟩
      dsimp only
      rw [drop_row (by omega), if_neg (by omega)]
      (refine Le.by [0] rfl rfl rfl rfl ?_ ?_ <;> (conv => whnf) <;> (repeat' (first | exact trivial | exact ArgLe.rfl rfl | exact ArgLe.ptr rfl | exact ArgLe.sl rfl | ((with_reducible refine ArgLe.fn ?_); (conv => whnf)) | ((refine ArgLe.iref ?_); (conv => whnf)) | exact ⟨rfl, rfl, rfl⟩ | exact fun i hi => rfl | ((with_reducible refine And.intro ?_ ?_) <;> (conv => whnf)))))
    · obtain rfl : j = xs.length := by omega
      rw [List.take_length]
      exact SV.Le.sl fun j hj => by simp only [Nat.zero_add]
def doneE (l : List Dir.Ent) (p : Pk) : List Dir.Ent × Dir.Res :=
  if p.op = 4 then (l, ⟨true, 0, 0⟩)
  else if p.op = 2 then (putL p.key p.val false l, ⟨true, 0, p.val⟩)
  else if findI l p.key < 0 then (l, ⟨true, 7, 0⟩)
  else (if p.op = 3 then l.filter (fun e => decide (cmpI p.key e.key ≠ 0)) else l, ⟨true, 0, (l.getD (findI l p.key).toNat default).val⟩)
theorem find_bd (l : List Dir.Ent) (k : List Int) : -1 ≤ findI l k ∧ findI l k < l.length := by
  unfold findI
  split
  · rename_i i h
    have := (List.findIdx?_eq_some_iff_getElem.1 h).1
    omega
  · omega
theorem law_done (l : List Dir.Ent) (p : Pk) (hl : l.length ≤ 1000000) : Pure TC 35 [.d (slOf 2 entD l), p.S] (.tup [.d (slOf 2 entD (doneE l p).1), rslS (doneE l p).2]) := by
  have hfd := find_bd l p.key
  refine Pure.lens (.mk Tryz.func35 rfl rfl) fun hlen => ?_
  have ha := hlen l.length (by simp [lensOf, slOf])
  clear hlen
  refine Pure.mk' Tryz.func35 rfl rfl (Nat.le_of_ble_eq_true rfl) ?_
  (repeat' (first
    | with_reducible refine Wp.seq ?_
    | with_reducible refine Wp.block ?_
    | ((with_reducible first | refine Wp.region ?_ | refine Wp.drawL TC_mixed ?_ | refine Wp.cond ?_ | refine Wp.ret ?_ | refine Wp.skip ?_ | refine Wp.exit ?_ | refine Go.mk ?_ | apply Eff1.of); conv => whnf)
    | with_reducible exact rfl
    | ((with_reducible refine Ov.ok zO ?_); conv => whnf)
    | (with_reducible refine Ov.sh1 (by with_unfolding_all exact rfl) ?_)
    | ((with_reducible refine Ov.quo (by omega) (by omega) (by omega) (fun _ _ => ?_)); conv => whnf)
    | ((with_reducible refine And.intro (show drawOK _ _ _ _ = true by kernel_rfl) ?_); conv => whnf)
    | ((with_reducible refine And.intro zC ?_); conv => whnf)
    | ((with_reducible refine And.intro ?hb ?_); (case hb => exact bytes_bd (Nat.le_of_ble_eq_true rfl) (by omega)); (conv => whnf))
    | ((refine DApp.a rfl rfl rfl rfl rfl rfl ?hb ?_); (case hb => exact zB); (conv => whnf))
    | ((refine DApp.b rfl rfl rfl rfl rfl rfl rfl rfl ?hb ?ho ?_); (case hb => exact zB); (case ho => omega); (conv => whnf))
    | ((refine DApp.c rfl rfl rfl rfl rfl ?hb ?_); (case hb => exact zB); (conv => whnf))
    | ((refine DApp.d rfl rfl rfl rfl rfl rfl ?hb ?ho ?_); (case hb => exact zB); (case ho => omega); (conv => whnf))
    | ((with_reducible refine nil_no (by omega) ?_); (conv => whnf))
    | ((with_reducible refine nil_any ?_ (fun hn0 => ?_)) <;> (conv => whnf))
    | ((with_reducible refine CallStop.pure (r14_Find _ _) rfl rfl ?_); conv => whnf) | ((with_reducible refine DCall.pure (r14_Find _ _) rfl rfl ?_); conv => whnf)
    | ((with_reducible refine CallStop.pure (r14_Put _ _ _ hl) rfl rfl ?_); conv => whnf) | ((with_reducible refine DCall.pure (r14_Put _ _ _ hl) rfl rfl ?_); conv => whnf)
    | ((with_reducible refine CallStop.pure (r14_Drop _ _ hl) rfl rfl ?_); conv => whnf) | ((with_reducible refine DCall.pure (r14_Drop _ _ hl) rfl rfl ?_); conv => whnf)
    | ((refine ways (fun hc => ?_) (fun hc => ?_)) <;> (try simp only [decide_eq_true_eq, decide_eq_false_iff_not, Bool.and_eq_true, Bool.or_eq_true, Bool.and_eq_false_iff, Bool.or_eq_false_iff, Bool.not_eq_true', Bool.not_eq_false', beq_iff_eq, bne_iff_ne, ne_eq, beq_eq_false_iff_ne, bne_eq_false_iff_eq, Bool.not_eq_true, Bool.not_eq_false] at hc) <;> (try (exfalso; omega)) <;> (conv => whnf))))
  all_goals (rw [doneE]; first
    | rw [if_pos (by assumption)]
    | rw [if_neg (by assumption), if_pos (by assumption)]
    | rw [if_neg (by assumption), if_neg (by assumption), if_pos (by assumption)]
    | rw [if_neg (by assumption), if_neg (by assumption), if_neg (by assumption), if_pos (by assumption)]
    | rw [if_neg (by assumption), if_neg (by assumption), if_neg (by assumption), if_neg (by assumption)])
  all_goals exact SV.Le.rfl _
end Go.Proofs.YtbdclkjelhlfbaaGreat

namespace Go.Proofs.YtbdclkjelhlfbaaGreat
open Go.RowKit
namespace Dir
theorem putL_true {k : List Int} {v : Int} : ∀ {l : List Ent}, (∀ e ∈ l, cmpI k e.key < 0) → putL k v true l = l
  | [], _ => rfl
  | x :: r, h => by
    have h1 := h x (by simp)
    rw [putL, if_neg (by simp), if_pos (by omega), Bool.true_or, putL_true fun e he => h e (by simp [he])]; rfl
theorem putL_ok {k : List Int} {v : Int} : ∀ {l : List Ent}, srt l → srt (putL k v false l) ∧ ∀ e : Ent, e ∈ putL k v false l ↔ e = ⟨k, v⟩ ∨ (e ∈ l ∧ e.key ≠ k)
  | [], _ => ⟨List.pairwise_singleton _ _, fun e => by simp [putL]⟩
  | x :: r, h => by
    obtain ⟨h1, h2⟩ := List.pairwise_cons.1 h
    by_cases o1 : cmpI k x.key < 0
    · have e1 : putL k v false (x :: r) = ⟨k, v⟩ :: x :: r := by
        rw [putL, if_pos ⟨by omega, rfl⟩, if_pos (by omega), decide_eq_true (by omega), Bool.or_true, putL_true fun e he => cmpTr o1 (h1 e he)]; rfl
      rw [e1]
      have hk : ∀ e ∈ x :: r, cmpI k e.key < 0 := fun e he => by
        rcases List.mem_cons.1 he with rfl | he
        · exact o1
        · exact cmpTr o1 (h1 e he)
      refine ⟨List.pairwise_cons.2 ⟨hk, h⟩, fun e => ?_⟩
      rw [List.mem_cons]
      refine or_congr_right ⟨fun he => ⟨he, fun e2 => ?_⟩, fun he => he.1⟩
      have := hk e he
      rw [e2, cmpS] at this; omega
    · by_cases o2 : cmpI k x.key = 0
      · have hx : x.key = k := (cmpEq o2).symm
        have e1 : putL k v false (x :: r) = ⟨k, v⟩ :: r := by
          rw [putL, if_pos ⟨by omega, rfl⟩, if_neg (by omega), decide_eq_true (by omega), Bool.or_true, putL_true fun e he => by have := h1 e he; rwa [hx] at this]; rfl
        rw [e1]
        refine ⟨List.pairwise_cons.2 ⟨fun e he => by have := h1 e he; rwa [hx] at this, h2⟩, fun e => ?_⟩
        rw [List.mem_cons]
        refine or_congr_right ⟨fun he => ⟨by simp [he], fun e2 => ?_⟩, fun he => ?_⟩
        · have := h1 e he; rw [hx, e2, cmpS] at this; omega
        · rcases List.mem_cons.1 he.1 with rfl | h3
          · exact absurd hx he.2
          · exact h3
      · have e1 : putL k v false (x :: r) = x :: putL k v false r := by
          rw [putL, if_neg (fun h => by omega), if_pos o2, decide_eq_false (by omega)]; rfl
        rw [e1]
        obtain ⟨i1, i2⟩ := putL_ok (k := k) (v := v) h2
        have hxk : cmpI x.key k < 0 := by rw [cmpSw]; omega
        refine ⟨List.pairwise_cons.2 ⟨fun e he => ?_, i1⟩, fun e => ?_⟩
        · rcases (i2 e).1 he with rfl | he
          · exact hxk
          · exact h1 e he.1
        · rw [List.mem_cons, i2]
          constructor
          · rintro (rfl | rfl | he)
            · exact .inr ⟨by simp, fun e2 => by rw [e2, cmpS] at hxk; omega⟩
            · exact .inl rfl
            · exact .inr ⟨by simp [he.1], he.2⟩
          · rintro (rfl | ⟨he, h3⟩)
            · exact .inr (.inl rfl)
            · rcases List.mem_cons.1 he with rfl | he
              · exact .inl rfl
              · exact .inr (.inr ⟨he, h3⟩)
theorem putL_lk {k : List Int} {v : Int} {l : List Ent} (h : srt l) (q : List Int) : lk (putL k v false l) q = if q = k then some v else lk l q := by
  obtain ⟨i1, i2⟩ := putL_ok (k := k) (v := v) h
  refine opt_ext fun x => ?_
  rw [lk_iff i1, i2]
  by_cases hq : q = k
  · subst hq
    rw [if_pos rfl]
    constructor
    · rintro (h1 | ⟨_, h1⟩)
      · simp only [Ent.mk.injEq] at h1; rw [h1.2]
      · exact absurd rfl h1
    · rintro h1; cases h1; exact .inl rfl
  · rw [if_neg hq, lk_iff h]
    constructor
    · rintro (h1 | ⟨h1, _⟩)
      · simp only [Ent.mk.injEq] at h1; exact absurd h1.1 hq
      · exact h1
    · exact fun h1 => .inr ⟨h1, hq⟩
theorem putL_len (k : List Int) (v : Int) : ∀ (d : Bool) (l : List Ent), (putL k v d l).length ≤ l.length + if d then 0 else 1
  | d, [] => by cases d <;> simp [putL]
  | d, x :: r => by
    have := putL_len k v (d || decide (cmpI k x.key ≤ 0)) r
    rw [putL, List.length_append, List.length_append, List.length_cons]
    cases d
    · by_cases h : cmpI k x.key ≤ 0
      · rw [decide_eq_true h] at this ⊢
        rw [if_pos ⟨h, rfl⟩]
        simp only [Bool.or_true, if_true] at this ⊢
        split <;> simp <;> omega
      · rw [decide_eq_false h] at this ⊢
        rw [if_neg (fun e => h e.1)]
        simp only [Bool.or_false, Bool.false_eq_true, if_false] at this ⊢
        split <;> simp <;> omega
    · rw [if_neg (by simp)]
      simp only [Bool.true_or, if_true] at this ⊢
      split <;> simp <;> omega
theorem find_lk {l : List Ent} (h : srt l) (k : List Int) : (findI l k < 0 → lk l k = none) ∧ (¬ findI l k < 0 → lk l k = some (l.getD (findI l k).toNat default).val) := by
  unfold findI
  cases e : l.findIdx? (fun e => decide (e.key = k)) with
  | none =>
    rw [List.findIdx?_eq_none_iff] at e
    exact ⟨fun _ => lk_none.2 fun x hx => by simpa using e x hx, fun hh => absurd (by decide) hh⟩
  | some i =>
    obtain ⟨h1, h2, _⟩ := List.findIdx?_eq_some_iff_getElem.1 e
    refine ⟨fun hh => by dsimp only at hh; omega, fun _ => ?_⟩
    have h3 : (l[i]).key = k := by simpa using h2
    rw [Int.toNat_natCast, getD_some h1, ← h3]
    exact lk_of h (List.getElem_mem h1)
theorem drop_lk {k : List Int} {l : List Ent} (h : srt l) : srt (l.filter fun e => decide (cmpI k e.key ≠ 0)) ∧ ∀ q, lk (l.filter fun e => decide (cmpI k e.key ≠ 0)) q = if q = k then none else lk l q := by
  have s : srt (l.filter fun e => decide (cmpI k e.key ≠ 0)) := List.Pairwise.filter _ h
  refine ⟨s, fun q => opt_ext fun x => ?_⟩
  rw [lk_iff s, List.mem_filter]
  by_cases hq : q = k
  · subst hq
    rw [if_pos rfl]
    constructor
    · rintro ⟨_, h1⟩; simp [cmpS] at h1
    · intro h1; cases h1
  · rw [if_neg hq, lk_iff h]
    refine ⟨fun h1 => h1.1, fun h1 => ⟨h1, ?_⟩⟩
    simp only [ne_eq, decide_not, Bool.not_eq_true', decide_eq_false_iff_not]
    exact fun e => hq (cmpEq e).symm
def pkc (p : Pk) : Kc := ⟨p.op, p.key, p.val⟩
structure Done (l : List Ent) (p : Pk) : Prop where
  s : srt (doneE l p).1
  len : (doneE l p).1.length ≤ l.length + 1
  four : p.op = 4 → doneE l p = (l, ⟨true, 0, 0⟩)
  ans : p.op ≠ 4 → (doneE l p).2 = ansE (pkc p) (lk l p.key)
  lk : p.op ≠ 4 → ∀ q, lk (doneE l p).1 q = if q = p.key then newE (pkc p) (lk l p.key) else lk l q
theorem done_ok {l : List Ent} (h : srt l) (p : Pk) : Done l p := by
  obtain ⟨f1, f2⟩ := find_lk h p.key
  by_cases h4 : p.op = 4
  · have e : doneE l p = (l, ⟨true, 0, 0⟩) := by rw [doneE, if_pos h4]
    exact ⟨by rw [e]; exact h, by rw [e]; simp, fun _ => e, fun hn => absurd h4 hn, fun hn => absurd h4 hn⟩
  · by_cases h2 : p.op = 2
    · have e : doneE l p = (putL p.key p.val false l, ⟨true, 0, p.val⟩) := by rw [doneE, if_neg h4, if_pos h2]
      refine ⟨by rw [e]; exact (putL_ok h).1, by rw [e]; have := putL_len p.key p.val false l; simpa using this, fun hn => absurd hn h4, fun _ => ?_, fun _ q => ?_⟩
      · rw [e]; unfold ansE; rw [if_pos (show (pkc p).op = 2 from h2)]; rfl
      · rw [e]; unfold newE; rw [if_pos (show (pkc p).op = 2 from h2)]; exact putL_lk h q
    · by_cases hf : findI l p.key < 0
      · have e : doneE l p = (l, ⟨true, 7, 0⟩) := by rw [doneE, if_neg h4, if_neg h2, if_pos hf]
        refine ⟨by rw [e]; exact h, by rw [e]; simp, fun hn => absurd hn h4, fun _ => ?_, fun _ q => ?_⟩
        · rw [e]; unfold ansE; rw [if_neg (show ¬ (pkc p).op = 2 from h2), f1 hf]
        · rw [e]; unfold newE; rw [if_neg (show ¬ (pkc p).op = 2 from h2), f1 hf]
          by_cases hq : q = p.key
          · rw [if_pos hq, hq, f1 hf]; split <;> rfl
          · rw [if_neg hq]
      · have e : doneE l p = (if p.op = 3 then l.filter (fun e => decide (cmpI p.key e.key ≠ 0)) else l, ⟨true, 0, (l.getD (findI l p.key).toNat default).val⟩) := by rw [doneE, if_neg h4, if_neg h2, if_neg hf]
        by_cases h3 : p.op = 3
        · rw [if_pos h3] at e
          refine ⟨by rw [e]; exact (drop_lk h).1, by rw [e]; have := List.length_filter_le (fun e : Ent => decide (cmpI p.key e.key ≠ 0)) l; simp only; omega, fun hn => absurd hn h4, fun _ => ?_, fun _ q => ?_⟩
          · rw [e]; unfold ansE; rw [if_neg (show ¬ (pkc p).op = 2 from h2), f2 hf]
          · rw [e]; unfold newE; rw [if_neg (show ¬ (pkc p).op = 2 from h2), if_pos (show (pkc p).op = 3 from h3)]; exact (drop_lk h).2 q
        · rw [if_neg h3] at e
          refine ⟨by rw [e]; exact h, by rw [e]; simp, fun hn => absurd hn h4, fun _ => ?_, fun _ q => ?_⟩
          · rw [e]; unfold ansE; rw [if_neg (show ¬ (pkc p).op = 2 from h2), f2 hf]
          · rw [e]; unfold newE; rw [if_neg (show ¬ (pkc p).op = 2 from h2), if_neg (show ¬ (pkc p).op = 3 from h3)]
            split
            · rename_i hq; rw [hq]
            · rfl
def Al (D : Int) (M : Mc) : CS → Prop
  | .s0 => M.W 0 = D
  | .sM lv => M.W 0 = 2 * lv
  | _ => True
theorem on_al {D : Int} {M : Mc} {lv i : Nat} {up : Bool} {h : List Ent} : Al D M (on lv i up h) := by unfold on move; split <;> (try split) <;> trivial
theorem entered_al {D : Int} {M M' : Mc} {c : Kc} {w : Nat} {v : Int} {h : List Ent} : Al D M' (entered dirOps c w v h).1 := by
  unfold entered; split
  · trivial
  · unfold found; split <;> trivial
theorem al_step {D : Int} {M : Mc} {s : CS} (h0 : 0 ≤ M.W 0) (h : Al D M s) : Al D (step dirOps M s).1 (step dirOps M s).2.1 ∧ ((step dirOps M s).2.2 = ⟨true, 5, 0⟩ → callOf s = none → 8 ≤ M.W 0 → 8 ≤ D) := by
  cases s with
  | none => exact ⟨trivial, fun e => by simp [step, r0] at e⟩
  | k0 c => exact ⟨by simp only [step]; split <;> trivial, fun _ e => by cases e⟩
  | kE c w => exact ⟨entered_al (M := M), fun _ e => by cases e⟩
  | kF c lv w => exact ⟨by simp only [step]; split <;> trivial, fun _ e => by cases e⟩
  | kG c lv w v m => exact ⟨by simp only [step]; split <;> trivial, fun _ e => by cases e⟩
  | kH c lv w m => exact ⟨by simp only [step]; split; trivial; exact entered_al (M := M), fun _ e => by cases e⟩
  | kL c lv w m => exact ⟨trivial, fun _ e => by cases e⟩
  | kS c w v m n => exact ⟨by simp only [step]; split <;> trivial, fun _ e => by cases e⟩
  | s0 =>
    have h : M.W 0 = D := h
    refine ⟨?_, fun _ _ h8 => by omega⟩
    simp only [step]; split
    · trivial
    · split
      · trivial
      · show M.W 0 = 2 * ((M.W 0 / 2).toNat : Int)
        omega
  | sM lv =>
    have h : M.W 0 = 2 * lv := h
    refine ⟨?_, fun e => ?_⟩
    · simp only [step, if_pos h]; trivial
    · simp [step, if_pos h, r0] at e
  | sF lv i => exact ⟨by simp only [step]; split <;> trivial, fun e => by simp [step, r0] at e⟩
  | sG lv i v m =>
    refine ⟨by simp only [step]; split <;> trivial, fun e => ?_⟩
    simp only [step] at e; split at e <;> simp [r0] at e
  | sH lv i up m => exact ⟨by simp only [step]; split; trivial; exact on_al, fun e => by simp [step, r0] at e⟩
  | sL lv i up m => exact ⟨on_al, fun e => by simp [step, r0] at e⟩
  | sV lv => exact ⟨trivial, fun e => by simp [step] at e⟩
end Dir
end Go.Proofs.YtbdclkjelhlfbaaGreat

namespace Go.Proofs.YtbdclkjelhlfbaaGreat
open Go.RowKit
set_option maxRecDepth 100000
theorem startS_is (op : Int) (key : List Int) (v : Int) : isC (startS op key v) = true := by unfold startS; split <;> rfl
theorem upd_same {α : Type} (f : Nat → α) (i : Nat) (x : α) : Dir.upd f i x i = x := if_pos rfl
end Go.Proofs.YtbdclkjelhlfbaaGreat

namespace Go.Proofs.YtbdclkjelhlfbaaGreat
open Go.RowKit
set_option maxRecDepth 100000
theorem law_entries {g : Nat → SV} (q5 : ∀ j, SV.Lt 5 (g j)) (M : Dir.Mc) (nl : Nat) (f : Nat → List D) (clk cnt : Int) (h0 : 0 ≤ M.W 0) (h8 : M.W 0 ≤ 8) (hH : ∀ w, Dir.Hn 100000 (M.Hd w)) {B : Int} (hI : Dir.Iw M.W B) (hIh : Dir.Ih M) (hK : Dir.Kh M) :
    Fun TC 31 5 [.ptr 0 0] (dirH g M nl f clk cnt) 5 (.d (slOf 2 entD (Dir.ents M))) (dirH g M nl f clk cnt) := by
  have hE := dir_Entries q5 M nl f clk cnt h0 h8 hH hI hIh hK
  have hlen : (Dir.ents M).length ≤ 3200000 := by
    have h1 := (Dir.sortE_perm (Dir.allE M)).length_eq
    rw [← Dir.allE_eq] at h1
    have h2 : (Dir.allL M).flatten.length ≤ (Dir.allL M).length * 100000 := flat_len fun l hl => by
      obtain ⟨i, _, hi⟩ := List.mem_flatMap.1 hl
      exact part_short (fun w => (hH w).1) hi
    have h3 := parts_len M (2 ^ Dir.lvl M)
    have h4 : 2 ^ Dir.lvl M ≤ 2 ^ 4 := Nat.pow_le_pow_right (by omega) (by unfold Dir.lvl; omega)
    have h5 : (Dir.allL M).length ≤ 32 := by
      show ((List.range (2 ^ Dir.lvl M)).flatMap (Dir.partL M)).length ≤ 32
      omega
    show (Dir.sortE (Dir.allE M)).length ≤ _
    rw [← Dir.allE_eq]
    have h6 : (Dir.allL M).length * 100000 ≤ 32 * 100000 := Nat.mul_le_mul_right _ h5
    omega
  generalize Dir.ents M = es at hE hlen ⊢
  refine Fun.mk' Tryz.func31 rfl rfl (Nat.le_of_ble_eq_true rfl) (by decide) ?_
  (repeat' (first
    | with_reducible refine Wp.seq ?_
    | with_reducible refine Wp.block ?_
    | ((with_reducible first | refine Wp.region ?_ | refine Wp.drawL TC_mixed ?_ | refine Wp.cond ?_ | refine Wp.ret ?_ | refine Wp.skip ?_ | refine Wp.exit ?_ | refine Go.mk ?_ | apply Eff1.of); conv => whnf)
    | with_reducible exact rfl
    | ((with_reducible refine Ov.ok zO ?_); conv => whnf)
    | (with_reducible refine Ov.sh1 (by with_unfolding_all exact rfl) ?_)
    | ((with_reducible refine Ov.quo (by omega) (by omega) (by omega) (fun _ _ => ?_)); conv => whnf)
    | ((with_reducible refine And.intro (show drawOK _ _ _ _ = true by kernel_rfl) ?_); conv => whnf)
    | ((with_reducible refine And.intro zC ?_); conv => whnf)
    | ((with_reducible refine And.intro ?hb ?_); (case hb => exact bytes_bd (Nat.le_of_ble_eq_true rfl) (by omega)); (conv => whnf))
    | ((refine DApp.a rfl rfl rfl rfl rfl rfl ?hb ?_); (case hb => exact zB); (conv => whnf))
    | ((refine DApp.b rfl rfl rfl rfl rfl rfl rfl rfl ?hb ?ho ?_); (case hb => exact zB); (case ho => omega); (conv => whnf))
    | ((refine DApp.c rfl rfl rfl rfl rfl ?hb ?_); (case hb => exact zB); (conv => whnf))
    | ((refine DApp.d rfl rfl rfl rfl rfl rfl ?hb ?ho ?_); (case hb => exact zB); (case ho => omega); (conv => whnf))
    | ((with_reducible refine nil_no (by omega) ?_); (conv => whnf))
    | ((with_reducible refine nil_any ?_ (fun hn0 => ?_)) <;> (conv => whnf))
    | ((refine CallStop.fn (hE) [0,1,2,3,4] rfl rfl rfl rfl rfl ?ha ?hh ?_); (case ha => exact zA); (case hh => exact zD); (conv => whnf))
    | ((refine DCall.fn (hE) [0,1,2,3,4] [0,1,2,3,4] rfl rfl rfl rfl rfl ?ha ?hh ?hs ?_); (case ha => exact zA); (case hh => exact zD); (case hs => exact zK); (conv => whnf)) | ((refine DCall.new (hE) [0,1,2,3,4] [0,1,2,3,4] rfl rfl rfl rfl rfl rfl ?ha ?hh ?hs ?_); (case ha => exact zA); (case hh => exact zD); (case hs => exact zK); (conv => whnf))
    | ((refine DCall.fn (hE) [0,1,2,3,4] [] rfl rfl rfl rfl rfl ?ha ?hh ?hs ?_); (case ha => exact zA); (case hh => exact zD); (case hs => exact zK); (conv => whnf)) | ((refine DCall.new (hE) [0,1,2,3,4] [] rfl rfl rfl rfl rfl rfl ?ha ?hh ?hs ?_); (case ha => exact zA); (case hh => exact zD); (case hs => exact zK); (conv => whnf))
    | ((refine ways (fun hc => ?_) (fun hc => ?_)) <;> (try simp only [decide_eq_true_eq, decide_eq_false_iff_not, Bool.and_eq_true, Bool.or_eq_true, Bool.and_eq_false_iff, Bool.or_eq_false_iff, Bool.not_eq_true', Bool.not_eq_false', beq_iff_eq, bne_iff_ne, ne_eq, beq_eq_false_iff_ne, bne_eq_false_iff_eq, Bool.not_eq_true, Bool.not_eq_false] at hc) <;> (try (exfalso; omega)) <;> (conv => whnf))))
  refine Wp.le (Le.virt 3 148 2 (fun i => entD (([] : List Dir.Ent).getD i default)) (by decide) rfl) ?_
  refine Wp.loopP (ι := Nat) (fun j => j ≤ es.length) (fun j => ⟨⟨Tryz.f31.ntmps, 5⟩, 6, [(3, .sl 5 2 0 (es.take j).length), (7, .d (slOf 2 entD es)), (8, .i .i64 es.length), (9, .i .i64 j)],
    dirH g M nl f clk cnt ++ [(5, some (rowOf 148 2 entD (es.take j)))]⟩) (fun j => es.length - j) 0 (Nat.zero_le _) ?_ ?_
  · (refine Le.by [0,1,2,3,4,5] rfl rfl rfl rfl ?_ ?_ <;> (conv => whnf) <;> (repeat' (first | exact trivial | exact ArgLe.rfl rfl | exact ArgLe.ptr rfl | exact lanes_arg | exact ArgLe.sl rfl | exact dir_arg (by assumption) | exact dir_argR (by assumption) (fun l hl => by rcases l with _ | _ | _ | _ | _ | l <;> first | rfl | omega) | exact ⟨rfl, rfl, rfl⟩ | exact ⟨rfl, Nat.le_of_ble_eq_true rfl⟩ | exact fun i hi => rfl | ((with_reducible refine And.intro ?_ ?_) <;> (conv => whnf)))))
  · rintro j h1
    have hl2 : (es.take j).length ≤ 3200000 := by rw [List.length_take]; omega
    (repeat' (first
    | with_reducible refine Wp.seq ?_
    | with_reducible refine Wp.block ?_
    | ((with_reducible first | refine Wp.region ?_ | refine Wp.drawL TC_mixed ?_ | refine Wp.cond ?_ | refine Wp.ret ?_ | refine Wp.skip ?_ | refine Wp.exit ?_ | refine Go.mk ?_ | apply Eff1.of); conv => whnf)
    | with_reducible exact rfl
    | ((with_reducible refine Ov.ok zO ?_); conv => whnf)
    | (with_reducible refine Ov.sh1 (by with_unfolding_all exact rfl) ?_)
    | ((with_reducible refine Ov.quo (by omega) (by omega) (by omega) (fun _ _ => ?_)); conv => whnf)
    | ((with_reducible refine And.intro (show drawOK _ _ _ _ = true by kernel_rfl) ?_); conv => whnf)
    | ((with_reducible refine And.intro zC ?_); conv => whnf)
    | ((with_reducible refine And.intro ?hb ?_); (case hb => exact bytes_bd (Nat.le_of_ble_eq_true rfl) (by omega)); (conv => whnf))
    | ((refine DApp.a rfl rfl rfl rfl rfl rfl ?hb ?_); (case hb => exact zB); (conv => whnf))
    | ((refine DApp.b rfl rfl rfl rfl rfl rfl rfl rfl ?hb ?ho ?_); (case hb => exact zB); (case ho => omega); (conv => whnf))
    | ((refine DApp.c rfl rfl rfl rfl rfl ?hb ?_); (case hb => exact zB); (conv => whnf))
    | ((refine DApp.d rfl rfl rfl rfl rfl rfl ?hb ?ho ?_); (case hb => exact zB); (case ho => omega); (conv => whnf))
    | ((with_reducible refine nil_no (by omega) ?_); (conv => whnf))
    | ((with_reducible refine nil_any ?_ (fun hn0 => ?_)) <;> (conv => whnf))
    
    | ((refine ways (fun hc => ?_) (fun hc => ?_)) <;> (try simp only [decide_eq_true_eq, decide_eq_false_iff_not, Bool.and_eq_true, Bool.or_eq_true, Bool.and_eq_false_iff, Bool.or_eq_false_iff, Bool.not_eq_true', Bool.not_eq_false', beq_iff_eq, bne_iff_ne, ne_eq, beq_eq_false_iff_ne, bne_eq_false_iff_eq, Bool.not_eq_true, Bool.not_eq_false] at hc) <;> (try (exfalso; omega)) <;> (conv => whnf))))
    · refine ⟨j + 1, by dsimp only; omega, by dsimp only; omega, ?_⟩
      dsimp only
      rw [take_at (by omega : j < es.length)]
      generalize es.take j = Z at hl2 ⊢
      (refine Le.by [0,1,2,3,4,8] rfl rfl rfl rfl ?_ ?_ <;> (conv => whnf) <;> (repeat' (first | exact trivial | exact ArgLe.rfl rfl | exact ArgLe.ptr rfl | exact lanes_arg | exact ArgLe.sl rfl | exact dir_arg (by assumption) | exact dir_argR (by assumption) (fun l hl => by rcases l with _ | _ | _ | _ | _ | l <;> first | rfl | omega) | exact ⟨rfl, rfl, rfl⟩ | exact ⟨rfl, Nat.le_of_ble_eq_true rfl⟩ | exact fun i hi => rfl | ((with_reducible refine And.intro ?_ ?_) <;> (conv => whnf)))))
      · rw [List.length_append]; exact ArgLe.sl rfl
      · rfl
      · simp
      · exact app_rowE _ _
    · obtain rfl : j = es.length := by omega
      rw [List.take_length]
      (refine FinLe.sealB [0,1,2,3,4] rfl rfl rfl ?_ ?_); (focus ((conv => whnf); (repeat' (first | exact zE | ((refine Seal.ptr rfl rfl ?_); (conv => whnf)) | ((refine Seal.fn ?_); (conv => whnf)) | ((refine Seal.agg ?_); (conv => whnf)) | ((refine Seal.tup ?_); (conv => whnf)) | ((refine Seal.iref ?_); (conv => whnf)) | ((refine And.intro ?_ ?_) <;> (conv => whnf)))))); (focus ((conv => whnf); (repeat' (first | exact zE | ((refine Seal.ptr rfl rfl ?_); (conv => whnf)) | ((refine Seal.fn ?_); (conv => whnf)) | ((refine Seal.agg ?_); (conv => whnf)) | ((refine Seal.tup ?_); (conv => whnf)) | ((refine Seal.iref ?_); (conv => whnf)) | ((refine And.intro ?_ ?_) <;> (conv => whnf))))))
structure Stp (w : Nat) (M : Dir.Mc) (cs : Nat → Dir.CS) (nl : Nat) (f : Nat → List D) (clk cnt : Int) (M' : Dir.Mc) (cs' : Nat → Dir.CS) (nl' : Nat) (f' : Nat → List D) (r : Dir.Res) : Prop where
  out : Fun TC 21 5 [.ptr 0 0, .i .i64 w] (dirH (gOf cs) M nl f clk cnt) 6 (.tup [rslS r, .i .i64 0])
      [(0, some (dirB (gOf cs'))), (1, some (machB 2 5 32 nl' clk (cnt + 1))), (2, some (wordB 32 M'.W)), (3, some (holdB M'.Hd)), (4, none), (5, some (lastB nl' f'))]
structure Dst where
  M : Dir.Mc
  cs : Nat → Dir.CS
  nl : Nat
  f : Nat → List D
structure Alone (w k : Nat) (s : Dst) (n : Nat) (clk : Int) (tr : Nat → Dst) (rs : Nat → Dir.Res) : Prop where
  z : tr 0 = s
  pos : 0 < n
  law : ∀ i, i ≤ n → LawE (k + i) (tr i).M (tr i).cs (tr i).nl ((k : Int) + i + 1)
  stp : ∀ i, i < n → Stp w (tr i).M (tr i).cs (tr i).nl (tr i).f clk ((k : Int) + i + 1) (tr (i + 1)).M (tr (i + 1)).cs (tr (i + 1)).nl (tr (i + 1)).f (rs i)
  no : ∀ i, i + 1 < n → (rs i).done = false
  yes : (rs (n - 1)).done = true
  oth : ∀ j, j ≠ w → (tr n).cs j = s.cs j
  me : (tr n).cs w = .none
  eff : match Dir.callOf (s.cs w) with
    | some c => rs (n - 1) = Dir.ansE c (Dir.own s.M c.key) ∧ ∀ q, Dir.own (tr n).M q = if q = c.key then Dir.newE c (Dir.own s.M c.key) else Dir.own s.M q
    | none => (rs (n - 1) = ⟨true, 0, 0⟩ ∨ (rs (n - 1) = ⟨true, 5, 0⟩ ∧ ∀ D, Dir.Al D s.M (s.cs w) → 8 ≤ D)) ∧ ∀ q, Dir.own (tr n).M q = Dir.own s.M q
theorem T_pos {P : Dir.Ops} {W : Nat → Int} {s : Dir.CS} (hs : Dir.Cw P W s) (hn : s ≠ .none) : 0 < Dir.T P W s := by
  have hTH : ∀ x, 0 < Dir.TH x := fun x => by unfold Dir.TH; split <;> (try split) <;> omega
  have hTE : ∀ x, 0 < Dir.TE x := fun x => by unfold Dir.TE; split <;> omega
  cases s with
  | none => exact absurd rfl hn
  | k0 c => simp only [Dir.T]; split <;> omega
  | kE c w => exact hTE _
  | kF c lv w => simp only [Dir.T, Dir.TF]; split <;> omega
  | kG c lv w v m => simp only [Dir.T]; split <;> omega
  | kH c lv w m => exact hTH _
  | kL c lv w m => simp only [Dir.T]; omega
  | kS c w v m n => simp only [Dir.T]; split <;> omega
  | s0 => simp [Dir.T]
  | sM lv => simp only [Dir.T]; split <;> omega
  | sF lv i => have := Dir.U_succ hs.2.1; simp only [Dir.T]; omega
  | sG lv i v m => have := Dir.U_succ hs.2.1; simp only [Dir.T]; split <;> omega
  | sH lv i up m => have := Dir.U_succ hs.2.1; simp only [Dir.T]; split <;> omega
  | sL lv i up m => have := Dir.U_succ hs.2.1; simp only [Dir.T]; split <;> omega
  | sV lv => simp [Dir.T]
theorem alone (w : Nat) (hw : w < 64) (clk : Int) : ∀ (t k : Nat) (s : Dst), Dir.T dirOps s.M.W (s.cs w) ≤ t → s.cs w ≠ .none → k + t ≤ 1000000 → LawE k s.M s.cs s.nl ((k : Int) + 1) → ∃ n, n ≤ t ∧ ∃ tr rs, Alone w k s n clk tr rs
  | 0, k, s, hT, hn, hk, h => by
    exfalso
    have := T_pos (h.s.inv.cw w) hn
    omega
  | t + 1, k, s, hT, hn, hk, h => by
    have hc : isC (s.cs w) = true := by cases e : isC (s.cs w) with
      | true => rfl
      | false => exact absurd (isC_no e) hn
    obtain ⟨a, hS⟩ := law_Step (f := s.f) (clk := clk) h.s (by omega) w hw hc
    have hN := h.step (by omega) hn
    have hE := h.eff (by omega) hn
    have hcnt : ((k + 1 : Nat) : Int) + 1 = (k : Int) + 1 + 1 := by omega
    have hcw := h.s.inv.cw w
    have hTs := Dir.step_T fnd_done h.s.inv.iw hn hcw
    have hal := fun D (h9 : Dir.Al D s.M (s.cs w)) => Dir.al_step h.s.inv.iw.d.1 h9
    unfold dirN at hS
    generalize hQ : Dir.step dirOps s.M (s.cs w) = Q at hS hN hE hTs hal
    obtain ⟨M', s', r⟩ := Q
    dsimp only at hS hN hE hTs hal
    have hme : Dir.upd s.cs w s' w = s' := Dir.upd_same _ _ _
    cases e : r.done with
    | true =>
      obtain ⟨e1, e2⟩ := hE.yes e
      refine ⟨1, by omega, fun i => if i = 0 then s else ⟨M', Dir.upd s.cs w s', noteN s.nl, noteF s.nl s.f a⟩, fun _ => r, rfl, Nat.one_pos, fun i hi => ?_, fun i hi => ?_, fun i hi => by omega, e, fun j hj => Dir.upd_ne _ _ hj, hme.trans e1, ?_⟩
      · rcases (by omega : i = 0 ∨ i = 1) with rfl | rfl
        · simpa using h
        · rw [← hcnt] at hN; simpa using hN
      · obtain rfl : i = 0 := by omega
        exact ⟨by simpa using hS⟩
      · cases ec : Dir.callOf (s.cs w) with
        | some c => rw [ec] at e2; exact e2
        | none =>
          rw [ec] at e2
          refine ⟨e2.1.imp id fun h9 => ⟨h9.1, fun D h8 => (hal D h8).2 h9.1 ec h9.2⟩, e2.2⟩
    | false =>
      obtain ⟨e1, e2, e3, e4⟩ := hE.no e
      obtain ⟨n, h1, tr, rs, A⟩ := alone w hw clk t (k + 1) ⟨M', Dir.upd s.cs w s', noteN s.nl, noteF s.nl s.f a⟩ (by show Dir.T dirOps M'.W (Dir.upd s.cs w s' w) ≤ t; rw [hme]; have := hTs e; omega) (by show Dir.upd s.cs w s' w ≠ _; rw [hme]; exact e2) (by omega) (by rw [hcnt]; exact hN)
      have hz := A.z
      refine ⟨n + 1, by omega, fun i => if i = 0 then s else tr (i - 1), fun i => if i = 0 then r else rs (i - 1), rfl, by omega, fun i hi => ?_, fun i hi => ?_, fun i hi => ?_, ?_, fun j hj => ?_, ?_, ?_⟩
      · rcases Nat.eq_zero_or_pos i with rfl | hp
        · simpa using h
        · have := A.law (i - 1) (by omega)
          rw [show k + 1 + (i - 1) = k + i by omega, show ((k + 1 : Nat) : Int) + ((i - 1 : Nat) : Int) + 1 = (k : Int) + i + 1 by omega] at this
          simpa [show i ≠ 0 by omega] using this
      · rcases Nat.eq_zero_or_pos i with rfl | hp
        · refine ⟨?_⟩
          simp only [if_true, Nat.zero_add, Nat.one_ne_zero, if_false, Nat.sub_self, hz]
          simpa using hS
        · have := A.stp (i - 1) (by omega)
          rw [show i - 1 + 1 = i by omega, show ((k + 1 : Nat) : Int) + ((i - 1 : Nat) : Int) + 1 = (k : Int) + i + 1 by omega] at this
          simpa [show i ≠ 0 by omega] using this
      · rcases Nat.eq_zero_or_pos i with rfl | hp
        · simpa using e
        · simpa [show i ≠ 0 by omega] using A.no (i - 1) (by omega)
      · have := A.yes
        have hp := A.pos
        simpa [show n ≠ 0 by omega] using this
      · have := A.oth j hj
        simp only [Nat.add_sub_cancel, show n + 1 ≠ 0 by omega, if_false]
        rw [this]; exact Dir.upd_ne _ _ hj
      · simpa using A.me
      · have := A.eff
        have hp := A.pos
        simp only [Nat.add_sub_cancel, show n + 1 ≠ 0 by omega, show n ≠ 0 by omega, if_false]
        dsimp only at this
        rw [hme, e3] at this
        cases ec : Dir.callOf (s.cs w) with
        | some c =>
          rw [ec] at this
          refine ⟨by rw [← e4]; exact this.1, fun q => by rw [this.2 q, e4, e4]⟩
        | none =>
          rw [ec] at this
          refine ⟨this.1.imp id fun h9 => ⟨h9.1, fun D h8 => h9.2 D (hal D h8).1⟩, fun q => by rw [this.2 q, e4]⟩
end Go.Proofs.YtbdclkjelhlfbaaGreat

namespace Go.Proofs.YtbdclkjelhlfbaaGreat
open Go.RowKit
set_option maxRecDepth 100000
def bsK (key : List Int) : ByteArray := ⟨(key.map fun x => UInt8.ofNat x.toNat).toArray⟩
theorem bsK_size (key : List Int) : (bsK key).size = key.length := by simp [bsK, ByteArray.size]
theorem bsK_L {key : List Int} (h : IsB key) : strL (bsK key) = key := by
  unfold strL bsK
  simp only [List.toList_toArray, List.map_map]
  conv => rhs; rw [← List.map_id key]
  refine List.map_congr_left fun x hx => ?_
  have := h x hx
  simp
  omega
theorem law_StartB {M : Dir.Mc} {cs : Nat → Dir.CS} {nl : Nat} {f : Nat → List D} {clk cnt : Int} (w : Nat) (hw : w < 64) (op : Int) (key : List Int) (v : Int) (ho : 1 ≤ op) (ho4 : op ≤ 4) (hk : key.length ≤ 256) (hB : IsB key) (hv : tickB v = true) (hc : cs w = .none) :
    Fun TC 18 5 [.ptr 0 0, .i .i64 w, .i .u8 op, .d (.sl 1 (bsK key).size fun i => [.val (.int .u8 ((strL (bsK key)).getD i default))]), .i .i64 v] (dirH (gOf cs) M nl f clk cnt) 5 (.i .i64 0) (dirH (gOf (Dir.upd cs w (startS op key v))) M nl f clk cnt) := by
  rw [bsK_L hB, bsK_size]
  exact law_Start w hw op key v ho ho4 hk hv hc
theorem dir_sealR4 {S : St} {cs : Nat → Dir.CS} {L : List Nat} {π : Nat → Nat} (hπ : ∀ l, l < 4 → π l = l) : ∀ j, j < 65 → Seal S (0 :: 1 :: 2 :: 3 :: 4 :: L) (SV.ren π (dirF (gOf cs) j)) (dirF (gOf cs) j) ∧ SV.Lt 5 (dirF (gOf cs) j) :=
  fun j hj => ⟨by rw [ren_id hπ (gOf_lt4 cs j)]; exact (dir_seal (gOf_lt cs) j hj).1, dirF_lt (gOf_lt cs) j⟩
theorem law_run {w k : Nat} (hw : w < 64) {s : Dst} (hc : s.cs w = .none) (op : Int) (key : List Int) (v : Int) (ho : 1 ≤ op) (ho4 : op ≤ 4) (hk : key.length ≤ 256) (hB : IsB key) (hv : tickB v = true) (most : Int) (hm : 53 ≤ most) (hm2 : most ≤ 1000) (hk2 : k ≤ 900000)
    {n : Nat} {clk : Int} {tr : Nat → Dst} {rs : Nat → Dir.Res} (A : Alone w k ⟨s.M, Dir.upd s.cs w (startS op key v), s.nl, s.f⟩ n clk tr rs) (hn : n ≤ 53) :
    Fun TC 36 5 [.ptr 0 0, .i .i64 w, .i .u8 op, .d (.val (.string (bsK key))), .i .i64 v, .i .i64 most] (dirH (gOf s.cs) s.M s.nl s.f clk ((k : Int) + 1)) 6 (.tup [rslS (rs (n - 1)), .b true])
      [(0, some (dirB (gOf (tr n).cs))), (1, some (machB 2 5 32 (tr n).nl clk ((k : Int) + n + 1))), (2, some (wordB 32 (tr n).M.W)), (3, some (holdB (tr n).M.Hd)), (4, none), (5, some (lastB (tr n).nl (tr n).f))] := by
  have hS := law_StartB (M := s.M) (nl := s.nl) (f := s.f) (clk := clk) (cnt := (k : Int) + 1) w hw op key v ho ho4 hk hB hv hc
  have hsz := bsK_size key
  have hz := A.z
  refine Fun.mk' Tryz.func36 rfl rfl (Nat.le_of_ble_eq_true rfl) (by decide) ?_
  (repeat' (first
    | with_reducible refine Wp.seq ?_
    | with_reducible refine Wp.block ?_
    | ((with_reducible first | refine Wp.region ?_ | refine Wp.drawL TC_mixed ?_ | refine Wp.cond ?_ | refine Wp.ret ?_ | refine Wp.skip ?_ | refine Wp.exit ?_ | refine Go.mk ?_ | apply Eff1.of); conv => whnf)
    | with_reducible exact rfl
    | ((with_reducible refine Ov.ok zO ?_); conv => whnf)
    | (with_reducible refine Ov.sh1 (by with_unfolding_all exact rfl) ?_)
    | ((with_reducible refine Ov.quo (by omega) (by omega) (by omega) (fun _ _ => ?_)); conv => whnf)
    | ((with_reducible refine And.intro (show drawOK _ _ _ _ = true by kernel_rfl) ?_); conv => whnf)
    | ((with_reducible refine And.intro zC ?_); conv => whnf)
    | ((with_reducible refine And.intro ?hb ?_); (case hb => exact bytes_bd (Nat.le_of_ble_eq_true rfl) (by omega)); (conv => whnf))
    | ((refine DApp.a rfl rfl rfl rfl rfl rfl ?hb ?_); (case hb => exact zB); (conv => whnf))
    | ((refine DApp.b rfl rfl rfl rfl rfl rfl rfl rfl ?hb ?ho ?_); (case hb => exact zB); (case ho => omega); (conv => whnf))
    | ((refine DApp.c rfl rfl rfl rfl rfl ?hb ?_); (case hb => exact zB); (conv => whnf))
    | ((refine DApp.d rfl rfl rfl rfl rfl rfl ?hb ?ho ?_); (case hb => exact zB); (case ho => omega); (conv => whnf))
    | ((with_reducible refine nil_no (by omega) ?_); (conv => whnf))
    | ((with_reducible refine nil_any ?_ (fun hn0 => ?_)) <;> (conv => whnf))
    | ((apply CallStop.fn5 (h := hS)); (case hh => exact zG); (case ha => exact zA); (case hd => exact rfl); (case hlive => exact rfl); (case hkeys => exact rfl); (case hlt => exact rfl); (conv => whnf))
    | ((refine ways (fun hc => ?_) (fun hc => ?_)) <;> (try simp only [decide_eq_true_eq, decide_eq_false_iff_not, Bool.and_eq_true, Bool.or_eq_true, Bool.and_eq_false_iff, Bool.or_eq_false_iff, Bool.not_eq_true', Bool.not_eq_false', beq_iff_eq, bne_iff_ne, ne_eq, beq_eq_false_iff_ne, bne_eq_false_iff_eq, Bool.not_eq_true, Bool.not_eq_false] at hc) <;> (try (exfalso; omega)) <;> (conv => whnf))))
  refine Wp.loopP (ι := Bool × Nat) (fun i => i.2 < n ∧ (i.1 = true → i.2 = 0)) (fun i => match i.1 with
    | true => ⟨⟨Tryz.f36.ntmps, 5⟩, 6, [(0, .ptr 0 0), (1, .i .i64 w), (12, .ptr 5 0), (25, .i .i64 most), (26, .i .i64 0)],
        dirH (gOf (tr 0).cs) (tr 0).M (tr 0).nl (tr 0).f clk ((k : Int) + ((0 : Nat) : Int) + 1) ++ [(5, some (.cells [.b false, .i .i64 0, .i .i64 0]))]⟩
    | false => ⟨⟨Tryz.f36.ntmps, 5⟩, 7, [(0, .ptr 0 0), (1, .i .i64 w), (12, .ptr 5 0), (25, .i .i64 most), (26, .i .i64 i.2)],
        [(0, some (dirB (gOf (tr i.2).cs))), (1, some (machB 2 6 32 (tr i.2).nl clk ((k : Int) + i.2 + 1))), (2, some (wordB 32 (tr i.2).M.W)), (3, some (holdB (tr i.2).M.Hd)), (5, some (.cells [.b false, .i .i64 0, .i .i64 0])), (6, some (lastB (tr i.2).nl (tr i.2).f))]⟩)
    (fun i => n - i.2) (true, 0) ⟨A.pos, fun _ => rfl⟩ ?_ ?_
  · dsimp only
    rw [hz, show ((k : Int) + ((0 : Nat) : Int) + 1) = (k : Int) + 1 by omega]
    dsimp only
    (refine Le.by [0,1,2,3,4,5] rfl rfl rfl rfl ?_ ?_ <;> (conv => whnf) <;> (repeat' (first | exact trivial | exact ArgLe.rfl rfl | exact ArgLe.ptr rfl | exact ArgLe.sl rfl | exact dir_arg4 | exact dir_argR4 (fun l hl => by rcases l with _ | _ | _ | _ | l <;> first | rfl | omega) | exact ⟨rfl, rfl, rfl⟩ | exact ⟨rfl, Nat.le_of_ble_eq_true rfl⟩ | exact fun i hi => rfl | ((with_reducible refine And.intro ?_ ?_) <;> (conv => whnf)))))
  · rintro ⟨b, i⟩ ⟨h1, h2⟩
    dsimp only at h1 h2 ⊢
    have hT := (A.stp i h1).out
    have hNo := A.no i
    have hL : (rs i).done = true → i = n - 1 := fun e => by
      by_cases h9 : i + 1 < n
      · rw [hNo h9] at e; cases e
      · omega
    have hY : (rs i).done = false → i + 1 < n := fun e => by
      by_cases h9 : i + 1 < n
      · exact h9
      · have : i = n - 1 := by omega
        subst this; rw [A.yes] at e; cases e
    have hcast : (k : Int) + ((i + 1 : Nat) : Int) + 1 = (k : Int) + i + 1 + 1 := by omega
    generalize hr : rs i = r at hT hL hY
    obtain ⟨dn, re, rn⟩ := r
    cases b with
    | true =>
      have hi0 := h2 rfl
      subst hi0
      cases dn with
      | true =>
        have hi := hL rfl
        have hi1 : 0 + 1 = n := by have := A.pos; omega
        rw [hi1] at hT
        rw [← hi, hr]
        have hcn : (k : Int) + n + 1 = (k : Int) + ((0 : Nat) : Int) + 1 + 1 := by omega
        rw [hcn]
        clear A hNo hL hY
        generalize tr n = Sn at hT ⊢
        generalize tr 0 = Si at hT ⊢
        (repeat' (first
    | with_reducible refine Wp.seq ?_
    | with_reducible refine Wp.block ?_
    | ((with_reducible first | refine Wp.region ?_ | refine Wp.drawL TC_mixed ?_ | refine Wp.cond ?_ | refine Wp.ret ?_ | refine Wp.skip ?_ | refine Wp.exit ?_ | refine Go.mk ?_ | apply Eff1.of); conv => whnf)
    | with_reducible exact rfl
    | ((with_reducible refine Ov.ok zO ?_); conv => whnf)
    | (with_reducible refine Ov.sh1 (by with_unfolding_all exact rfl) ?_)
    | ((with_reducible refine Ov.quo (by omega) (by omega) (by omega) (fun _ _ => ?_)); conv => whnf)
    | ((with_reducible refine And.intro (show drawOK _ _ _ _ = true by kernel_rfl) ?_); conv => whnf)
    | ((with_reducible refine And.intro zC ?_); conv => whnf)
    | ((with_reducible refine And.intro ?hb ?_); (case hb => exact bytes_bd (Nat.le_of_ble_eq_true rfl) (by omega)); (conv => whnf))
    | ((refine DApp.a rfl rfl rfl rfl rfl rfl ?hb ?_); (case hb => exact zB); (conv => whnf))
    | ((refine DApp.b rfl rfl rfl rfl rfl rfl rfl rfl ?hb ?ho ?_); (case hb => exact zB); (case ho => omega); (conv => whnf))
    | ((refine DApp.c rfl rfl rfl rfl rfl ?hb ?_); (case hb => exact zB); (conv => whnf))
    | ((refine DApp.d rfl rfl rfl rfl rfl rfl ?hb ?ho ?_); (case hb => exact zB); (case ho => omega); (conv => whnf))
    | ((with_reducible refine nil_no (by omega) ?_); (conv => whnf))
    | ((with_reducible refine nil_any ?_ (fun hn0 => ?_)) <;> (conv => whnf))
    | ((apply CallStop.fn5 (h := hT)); (case hh => exact zG); (case ha => exact zA); (case hd => exact rfl); (case hlive => exact rfl); (case hkeys => exact rfl); (case hlt => exact rfl); (conv => whnf))
    | ((refine ways (fun hc => ?_) (fun hc => ?_)) <;> (try simp only [decide_eq_true_eq, decide_eq_false_iff_not, Bool.and_eq_true, Bool.or_eq_true, Bool.and_eq_false_iff, Bool.or_eq_false_iff, Bool.not_eq_true', Bool.not_eq_false', beq_iff_eq, bne_iff_ne, ne_eq, beq_eq_false_iff_ne, bne_eq_false_iff_eq, Bool.not_eq_true, Bool.not_eq_false] at hc) <;> (try (exfalso; omega)) <;> (conv => whnf))))
        have q5 := gOf_lt Sn.cs
        (refine FinLe.sealB [0,1,2,3,4,6] rfl rfl rfl ?_ ?_); (focus ((conv => whnf); (repeat' (first | exact zE | ((refine Seal.ptr rfl rfl ?_); (conv => whnf)) | ((refine Seal.fn ?_); (conv => whnf)) | ((refine Seal.agg ?_); (conv => whnf)) | ((refine Seal.tup ?_); (conv => whnf)) | ((refine Seal.iref ?_); (conv => whnf)) | ((refine And.intro ?_ ?_) <;> (conv => whnf)))))); (focus ((conv => whnf); (repeat' (first | exact zE | ((refine Seal.ptr rfl rfl ?_); (conv => whnf)) | ((refine Seal.fn ?_); (conv => whnf)) | ((refine Seal.agg ?_); (conv => whnf)) | ((refine Seal.tup ?_); (conv => whnf)) | ((refine Seal.iref ?_); (conv => whnf)) | ((refine And.intro ?_ ?_) <;> (conv => whnf))))))
      | false =>
        have hi := hY rfl
        clear hNo hL hY
        generalize hSi : tr 0 = Si at hT ⊢
        (repeat' (first
    | with_reducible refine Wp.seq ?_
    | with_reducible refine Wp.block ?_
    | ((with_reducible first | refine Wp.region ?_ | refine Wp.drawL TC_mixed ?_ | refine Wp.cond ?_ | refine Wp.ret ?_ | refine Wp.skip ?_ | refine Wp.exit ?_ | refine Go.mk ?_ | apply Eff1.of); conv => whnf)
    | with_reducible exact rfl
    | ((with_reducible refine Ov.ok zO ?_); conv => whnf)
    | (with_reducible refine Ov.sh1 (by with_unfolding_all exact rfl) ?_)
    | ((with_reducible refine Ov.quo (by omega) (by omega) (by omega) (fun _ _ => ?_)); conv => whnf)
    | ((with_reducible refine And.intro (show drawOK _ _ _ _ = true by kernel_rfl) ?_); conv => whnf)
    | ((with_reducible refine And.intro zC ?_); conv => whnf)
    | ((with_reducible refine And.intro ?hb ?_); (case hb => exact bytes_bd (Nat.le_of_ble_eq_true rfl) (by omega)); (conv => whnf))
    | ((refine DApp.a rfl rfl rfl rfl rfl rfl ?hb ?_); (case hb => exact zB); (conv => whnf))
    | ((refine DApp.b rfl rfl rfl rfl rfl rfl rfl rfl ?hb ?ho ?_); (case hb => exact zB); (case ho => omega); (conv => whnf))
    | ((refine DApp.c rfl rfl rfl rfl rfl ?hb ?_); (case hb => exact zB); (conv => whnf))
    | ((refine DApp.d rfl rfl rfl rfl rfl rfl ?hb ?ho ?_); (case hb => exact zB); (case ho => omega); (conv => whnf))
    | ((with_reducible refine nil_no (by omega) ?_); (conv => whnf))
    | ((with_reducible refine nil_any ?_ (fun hn0 => ?_)) <;> (conv => whnf))
    | ((apply CallStop.fn5 (h := hT)); (case hh => exact zG); (case ha => exact zA); (case hd => exact rfl); (case hlive => exact rfl); (case hkeys => exact rfl); (case hlt => exact rfl); (conv => whnf))
    | ((refine ways (fun hc => ?_) (fun hc => ?_)) <;> (try simp only [decide_eq_true_eq, decide_eq_false_iff_not, Bool.and_eq_true, Bool.or_eq_true, Bool.and_eq_false_iff, Bool.or_eq_false_iff, Bool.not_eq_true', Bool.not_eq_false', beq_iff_eq, bne_iff_ne, ne_eq, beq_eq_false_iff_ne, bne_eq_false_iff_eq, Bool.not_eq_true, Bool.not_eq_false] at hc) <;> (try (exfalso; omega)) <;> (conv => whnf))))
        refine ⟨(false, 0 + 1), ⟨hi, fun e => by cases e⟩, by dsimp only; omega, ?_⟩
        dsimp only
        rw [hcast]
        (refine Le.by [0,1,2,3,4,5,6] rfl rfl rfl rfl ?_ ?_ <;> (conv => whnf) <;> (repeat' (first | exact trivial | exact ArgLe.rfl rfl | exact ArgLe.ptr rfl | exact ArgLe.sl rfl | exact dir_arg4 | exact dir_argR4 (fun l hl => by rcases l with _ | _ | _ | _ | l <;> first | rfl | omega) | exact ⟨rfl, rfl, rfl⟩ | exact ⟨rfl, Nat.le_of_ble_eq_true rfl⟩ | exact fun i hi => rfl | ((with_reducible refine And.intro ?_ ?_) <;> (conv => whnf)))))
    | false =>
      cases dn with
      | true =>
        have hi := hL rfl
        have hi1 : i + 1 = n := by have := A.pos; omega
        rw [hi1] at hT
        rw [← hi, hr]
        have hcn : (k : Int) + n + 1 = (k : Int) + i + 1 + 1 := by omega
        rw [hcn]
        clear A hNo hL hY
        generalize tr n = Sn at hT ⊢
        generalize tr i = Si at hT ⊢
        (repeat' (first
    | with_reducible refine Wp.seq ?_
    | with_reducible refine Wp.block ?_
    | ((with_reducible first | refine Wp.region ?_ | refine Wp.drawL TC_mixed ?_ | refine Wp.cond ?_ | refine Wp.ret ?_ | refine Wp.skip ?_ | refine Wp.exit ?_ | refine Go.mk ?_ | apply Eff1.of); conv => whnf)
    | with_reducible exact rfl
    | ((with_reducible refine Ov.ok zO ?_); conv => whnf)
    | (with_reducible refine Ov.sh1 (by with_unfolding_all exact rfl) ?_)
    | ((with_reducible refine Ov.quo (by omega) (by omega) (by omega) (fun _ _ => ?_)); conv => whnf)
    | ((with_reducible refine And.intro (show drawOK _ _ _ _ = true by kernel_rfl) ?_); conv => whnf)
    | ((with_reducible refine And.intro zC ?_); conv => whnf)
    | ((with_reducible refine And.intro ?hb ?_); (case hb => exact bytes_bd (Nat.le_of_ble_eq_true rfl) (by omega)); (conv => whnf))
    | ((refine DApp.a rfl rfl rfl rfl rfl rfl ?hb ?_); (case hb => exact zB); (conv => whnf))
    | ((refine DApp.b rfl rfl rfl rfl rfl rfl rfl rfl ?hb ?ho ?_); (case hb => exact zB); (case ho => omega); (conv => whnf))
    | ((refine DApp.c rfl rfl rfl rfl rfl ?hb ?_); (case hb => exact zB); (conv => whnf))
    | ((refine DApp.d rfl rfl rfl rfl rfl rfl ?hb ?ho ?_); (case hb => exact zB); (case ho => omega); (conv => whnf))
    | ((with_reducible refine nil_no (by omega) ?_); (conv => whnf))
    | ((with_reducible refine nil_any ?_ (fun hn0 => ?_)) <;> (conv => whnf))
    | ((apply CallStop.fn5 (h := hT)); (case hh => exact zG); (case ha => exact zA); (case hd => exact rfl); (case hlive => exact rfl); (case hkeys => exact rfl); (case hlt => exact rfl); (conv => whnf))
    | ((refine ways (fun hc => ?_) (fun hc => ?_)) <;> (try simp only [decide_eq_true_eq, decide_eq_false_iff_not, Bool.and_eq_true, Bool.or_eq_true, Bool.and_eq_false_iff, Bool.or_eq_false_iff, Bool.not_eq_true', Bool.not_eq_false', beq_iff_eq, bne_iff_ne, ne_eq, beq_eq_false_iff_ne, bne_eq_false_iff_eq, Bool.not_eq_true, Bool.not_eq_false] at hc) <;> (try (exfalso; omega)) <;> (conv => whnf))))
        have q5 := gOf_lt Sn.cs
        (refine FinLe.sealB [0,1,2,3,4,7] rfl rfl rfl ?_ ?_); (focus ((conv => whnf); (repeat' (first | exact zF | ((refine Seal.ptr rfl rfl ?_); (conv => whnf)) | ((refine Seal.fn ?_); (conv => whnf)) | ((refine Seal.agg ?_); (conv => whnf)) | ((refine Seal.tup ?_); (conv => whnf)) | ((refine Seal.iref ?_); (conv => whnf)) | ((refine And.intro ?_ ?_) <;> (conv => whnf)))))); (focus ((conv => whnf); (repeat' (first | exact zF | ((refine Seal.ptr rfl rfl ?_); (conv => whnf)) | ((refine Seal.fn ?_); (conv => whnf)) | ((refine Seal.agg ?_); (conv => whnf)) | ((refine Seal.tup ?_); (conv => whnf)) | ((refine Seal.iref ?_); (conv => whnf)) | ((refine And.intro ?_ ?_) <;> (conv => whnf))))))
      | false =>
        have hi := hY rfl
        clear hNo hL hY
        generalize hSi : tr i = Si at hT ⊢
        (repeat' (first
    | with_reducible refine Wp.seq ?_
    | with_reducible refine Wp.block ?_
    | ((with_reducible first | refine Wp.region ?_ | refine Wp.drawL TC_mixed ?_ | refine Wp.cond ?_ | refine Wp.ret ?_ | refine Wp.skip ?_ | refine Wp.exit ?_ | refine Go.mk ?_ | apply Eff1.of); conv => whnf)
    | with_reducible exact rfl
    | ((with_reducible refine Ov.ok zO ?_); conv => whnf)
    | (with_reducible refine Ov.sh1 (by with_unfolding_all exact rfl) ?_)
    | ((with_reducible refine Ov.quo (by omega) (by omega) (by omega) (fun _ _ => ?_)); conv => whnf)
    | ((with_reducible refine And.intro (show drawOK _ _ _ _ = true by kernel_rfl) ?_); conv => whnf)
    | ((with_reducible refine And.intro zC ?_); conv => whnf)
    | ((with_reducible refine And.intro ?hb ?_); (case hb => exact bytes_bd (Nat.le_of_ble_eq_true rfl) (by omega)); (conv => whnf))
    | ((refine DApp.a rfl rfl rfl rfl rfl rfl ?hb ?_); (case hb => exact zB); (conv => whnf))
    | ((refine DApp.b rfl rfl rfl rfl rfl rfl rfl rfl ?hb ?ho ?_); (case hb => exact zB); (case ho => omega); (conv => whnf))
    | ((refine DApp.c rfl rfl rfl rfl rfl ?hb ?_); (case hb => exact zB); (conv => whnf))
    | ((refine DApp.d rfl rfl rfl rfl rfl rfl ?hb ?ho ?_); (case hb => exact zB); (case ho => omega); (conv => whnf))
    | ((with_reducible refine nil_no (by omega) ?_); (conv => whnf))
    | ((with_reducible refine nil_any ?_ (fun hn0 => ?_)) <;> (conv => whnf))
    | ((apply CallStop.fn5 (h := hT)); (case hh => exact zG); (case ha => exact zA); (case hd => exact rfl); (case hlive => exact rfl); (case hkeys => exact rfl); (case hlt => exact rfl); (conv => whnf))
    | ((refine ways (fun hc => ?_) (fun hc => ?_)) <;> (try simp only [decide_eq_true_eq, decide_eq_false_iff_not, Bool.and_eq_true, Bool.or_eq_true, Bool.and_eq_false_iff, Bool.or_eq_false_iff, Bool.not_eq_true', Bool.not_eq_false', beq_iff_eq, bne_iff_ne, ne_eq, beq_eq_false_iff_ne, bne_eq_false_iff_eq, Bool.not_eq_true, Bool.not_eq_false] at hc) <;> (try (exfalso; omega)) <;> (conv => whnf))))
        refine ⟨(false, i + 1), ⟨hi, fun e => by cases e⟩, by dsimp only; omega, ?_⟩
        dsimp only
        rw [hcast]
        (refine Le.by [0,1,2,3,4,5,7] rfl rfl rfl rfl ?_ ?_ <;> (conv => whnf) <;> (repeat' (first | exact trivial | exact ArgLe.rfl rfl | exact ArgLe.ptr rfl | exact ArgLe.sl rfl | exact dir_arg4 | exact dir_argR4 (fun l hl => by rcases l with _ | _ | _ | _ | l <;> first | rfl | omega) | exact ⟨rfl, rfl, rfl⟩ | exact ⟨rfl, Nat.le_of_ble_eq_true rfl⟩ | exact fun i hi => rfl | ((with_reducible refine And.intro ?_ ?_) <;> (conv => whnf)))))
end Go.Proofs.YtbdclkjelhlfbaaGreat

namespace Go.Proofs.YtbdclkjelhlfbaaGreat
open Go.RowKit
set_option maxRecDepth 100000
theorem law_StartBusy {M : Dir.Mc} {cs : Nat → Dir.CS} {nl : Nat} {f : Nat → List D} {clk cnt : Int} (w : Nat) (hw : w < 64) (op : Int) (key : List Int) (v : Int) (ho : 1 ≤ op) (ho4 : op ≤ 4) (hk : key.length ≤ 256) (hv : tickB v = true) (hc : isC (cs w) = true) :
    Fun TC 18 5 [.ptr 0 0, .i .i64 w, .i .u8 op, .d (slOf 1 (encI .u8) key), .i .i64 v] (dirH (gOf cs) M nl f clk cnt) 5 (.i .i64 9) (dirH (gOf cs) M nl f clk cnt) := by
  have hT := tick_Form v
  rw [hv] at hT
  have q5 := gOf_lt cs
  have hg : dirF (gOf cs) (w + 1) = cl w (cs w) := rfl
  rcases cl_pend w (cs w) with ⟨_, e2⟩ | ⟨n, caps, e, _⟩
  · rw [hc] at e2; cases e2
  · rw [e] at hg
    refine Fun.mk' Tryz.func18 rfl rfl (Nat.le_of_ble_eq_true rfl) (by decide) ?_
    (repeat' (first
    | with_reducible refine Wp.seq ?_
    | with_reducible refine Wp.block ?_
    | ((with_reducible first | refine Wp.region ?_ | refine Wp.drawL TC_mixed ?_ | refine Wp.cond ?_ | refine Wp.ret ?_ | refine Wp.skip ?_ | refine Wp.exit ?_ | refine Go.mk ?_ | apply Eff1.of); conv => whnf)
    | with_reducible exact rfl
    | ((with_reducible refine Ov.ok zO ?_); conv => whnf)
    | (with_reducible refine Ov.sh1 (by with_unfolding_all exact rfl) ?_)
    | ((with_reducible refine Ov.quo (by omega) (by omega) (by omega) (fun _ _ => ?_)); conv => whnf)
    | ((with_reducible refine And.intro (show drawOK _ _ _ _ = true by kernel_rfl) ?_); conv => whnf)
    | ((with_reducible refine And.intro zC ?_); conv => whnf)
    | ((with_reducible refine And.intro ?hb ?_); (case hb => exact bytes_bd (Nat.le_of_ble_eq_true rfl) (by omega)); (conv => whnf))
    | ((refine DApp.a rfl rfl rfl rfl rfl rfl ?hb ?_); (case hb => exact zB); (conv => whnf))
    | ((refine DApp.b rfl rfl rfl rfl rfl rfl rfl rfl ?hb ?ho ?_); (case hb => exact zB); (case ho => omega); (conv => whnf))
    | ((refine DApp.c rfl rfl rfl rfl rfl ?hb ?_); (case hb => exact zB); (conv => whnf))
    | ((refine DApp.d rfl rfl rfl rfl rfl rfl ?hb ?ho ?_); (case hb => exact zB); (case ho => omega); (conv => whnf))
    | ((with_reducible refine nil_no (by omega) ?_); (conv => whnf))
    | ((with_reducible refine nil_any ?_ (fun hn0 => ?_)) <;> (conv => whnf))
    | ((with_reducible refine CallStop.pure (board_Is _) rfl rfl ?_); conv => whnf) | ((with_reducible refine DCall.pure (board_Is _) rfl rfl ?_); conv => whnf)
    | ((with_reducible refine CallStop.pure (hT) rfl rfl ?_); conv => whnf) | ((with_reducible refine DCall.pure (hT) rfl rfl ?_); conv => whnf)
    | ((refine At.mk' (w + 1) (by show 1 + ((w : Nat) : Int).toNat * 1 = w + 1; omega) ?_); (refine And.intro (by omega) ?_); (rw [hg]); (conv => whnf))
    | ((with_reducible refine At.mk' 0 rfl ?_); conv => whnf)
    | ((refine ways (fun hc => ?_) (fun hc => ?_)) <;> (try simp only [decide_eq_true_eq, decide_eq_false_iff_not, Bool.and_eq_true, Bool.or_eq_true, Bool.and_eq_false_iff, Bool.or_eq_false_iff, Bool.not_eq_true', Bool.not_eq_false', beq_iff_eq, bne_iff_ne, ne_eq, beq_eq_false_iff_ne, bne_eq_false_iff_eq, Bool.not_eq_true, Bool.not_eq_false] at hc) <;> (try (exfalso; omega)) <;> (conv => whnf))))
    all_goals ((refine FinLe.sealB [0,1,2,3,4] rfl rfl rfl ?_ ?_); (focus ((conv => whnf); (repeat' (first | exact zE | ((refine Seal.ptr rfl rfl ?_); (conv => whnf)) | ((refine Seal.fn ?_); (conv => whnf)) | ((refine Seal.agg ?_); (conv => whnf)) | ((refine Seal.tup ?_); (conv => whnf)) | ((refine Seal.iref ?_); (conv => whnf)) | ((refine And.intro ?_ ?_) <;> (conv => whnf)))))); (focus ((conv => whnf); (repeat' (first | exact zE | ((refine Seal.ptr rfl rfl ?_); (conv => whnf)) | ((refine Seal.fn ?_); (conv => whnf)) | ((refine Seal.agg ?_); (conv => whnf)) | ((refine Seal.tup ?_); (conv => whnf)) | ((refine Seal.iref ?_); (conv => whnf)) | ((refine And.intro ?_ ?_) <;> (conv => whnf)))))))
theorem law_StepNone {M : Dir.Mc} {cs : Nat → Dir.CS} {nl : Nat} {f : Nat → List D} {clk cnt : Int} (w : Nat) (hw : w < 64) (hc : isC (cs w) = false) :
    Fun TC 21 5 [.ptr 0 0, .i .i64 w] (dirH (gOf cs) M nl f clk cnt) 5 (.tup [.agg [.b false, .i .i64 0, .i .i64 0], .i .i64 7]) (dirH (gOf cs) M nl f clk cnt) := by
  have hP := law_Pending (M := M) (cs := cs) (nl := nl) (f := f) (clk := clk) (cnt := cnt) w hw
  rw [hc] at hP
  have q5 := gOf_lt cs
  refine Fun.mk' Tryz.func21 rfl rfl (Nat.le_of_ble_eq_true rfl) (by decide) ?_
  (repeat' (first
    | with_reducible refine Wp.seq ?_
    | with_reducible refine Wp.block ?_
    | ((with_reducible first | refine Wp.region ?_ | refine Wp.drawL TC_mixed ?_ | refine Wp.cond ?_ | refine Wp.ret ?_ | refine Wp.skip ?_ | refine Wp.exit ?_ | refine Go.mk ?_ | apply Eff1.of); conv => whnf)
    | with_reducible exact rfl
    | ((with_reducible refine Ov.ok zO ?_); conv => whnf)
    | (with_reducible refine Ov.sh1 (by with_unfolding_all exact rfl) ?_)
    | ((with_reducible refine Ov.quo (by omega) (by omega) (by omega) (fun _ _ => ?_)); conv => whnf)
    | ((with_reducible refine And.intro (show drawOK _ _ _ _ = true by kernel_rfl) ?_); conv => whnf)
    | ((with_reducible refine And.intro zC ?_); conv => whnf)
    | ((with_reducible refine And.intro ?hb ?_); (case hb => exact bytes_bd (Nat.le_of_ble_eq_true rfl) (by omega)); (conv => whnf))
    | ((refine DApp.a rfl rfl rfl rfl rfl rfl ?hb ?_); (case hb => exact zB); (conv => whnf))
    | ((refine DApp.b rfl rfl rfl rfl rfl rfl rfl rfl ?hb ?ho ?_); (case hb => exact zB); (case ho => omega); (conv => whnf))
    | ((refine DApp.c rfl rfl rfl rfl rfl ?hb ?_); (case hb => exact zB); (conv => whnf))
    | ((refine DApp.d rfl rfl rfl rfl rfl rfl ?hb ?ho ?_); (case hb => exact zB); (case ho => omega); (conv => whnf))
    | ((with_reducible refine nil_no (by omega) ?_); (conv => whnf))
    | ((with_reducible refine nil_any ?_ (fun hn0 => ?_)) <;> (conv => whnf))
    | ((with_reducible refine CallStop.pure (board_Is _) rfl rfl ?_); conv => whnf) | ((with_reducible refine DCall.pure (board_Is _) rfl rfl ?_); conv => whnf)
    | ((refine CallStop.fn (hP) [0,1,2,3,4] rfl rfl rfl rfl rfl ?ha ?hh ?_); (case ha => exact zA); (case hh => exact zD); (conv => whnf))
    | ((refine DCall.fn (hP) [0,1,2,3,4] [0,1,2,3,4] rfl rfl rfl rfl rfl ?ha ?hh ?hs ?_); (case ha => exact zA); (case hh => exact zD); (case hs => exact zK); (conv => whnf)) | ((refine DCall.new (hP) [0,1,2,3,4] [0,1,2,3,4] rfl rfl rfl rfl rfl rfl ?ha ?hh ?hs ?_); (case ha => exact zA); (case hh => exact zD); (case hs => exact zK); (conv => whnf))
    | ((refine DCall.fn (hP) [0,1,2,3,4] [] rfl rfl rfl rfl rfl ?ha ?hh ?hs ?_); (case ha => exact zA); (case hh => exact zD); (case hs => exact zK); (conv => whnf)) | ((refine DCall.new (hP) [0,1,2,3,4] [] rfl rfl rfl rfl rfl rfl ?ha ?hh ?hs ?_); (case ha => exact zA); (case hh => exact zD); (case hs => exact zK); (conv => whnf))
    | ((refine ways (fun hc => ?_) (fun hc => ?_)) <;> (try simp only [decide_eq_true_eq, decide_eq_false_iff_not, Bool.and_eq_true, Bool.or_eq_true, Bool.and_eq_false_iff, Bool.or_eq_false_iff, Bool.not_eq_true', Bool.not_eq_false', beq_iff_eq, bne_iff_ne, ne_eq, beq_eq_false_iff_ne, bne_eq_false_iff_eq, Bool.not_eq_true, Bool.not_eq_false] at hc) <;> (try (exfalso; omega)) <;> (conv => whnf))))
  (refine FinLe.sealB [0,1,2,3,4] rfl rfl rfl ?_ ?_); (focus ((conv => whnf); (repeat' (first | exact zE | ((refine Seal.ptr rfl rfl ?_); (conv => whnf)) | ((refine Seal.fn ?_); (conv => whnf)) | ((refine Seal.agg ?_); (conv => whnf)) | ((refine Seal.tup ?_); (conv => whnf)) | ((refine Seal.iref ?_); (conv => whnf)) | ((refine And.intro ?_ ?_) <;> (conv => whnf)))))); (focus ((conv => whnf); (repeat' (first | exact zE | ((refine Seal.ptr rfl rfl ?_); (conv => whnf)) | ((refine Seal.fn ?_); (conv => whnf)) | ((refine Seal.agg ?_); (conv => whnf)) | ((refine Seal.tup ?_); (conv => whnf)) | ((refine Seal.iref ?_); (conv => whnf)) | ((refine And.intro ?_ ?_) <;> (conv => whnf))))))
end Go.Proofs.YtbdclkjelhlfbaaGreat

namespace Go.Proofs.YtbdclkjelhlfbaaGreat
open Go.RowKit
theorem RS.unren {E : Env} {nx : Nat} {w : World} {π1 π2 : Nat → Nat} {L : List Nat} {m : Nat} (H : ∀ l, l < m → π2 l < L.length ∧ L.getD (π2 l) 0 = π1 l) :
    ∀ {x : SV}, SV.Lt m x → ∀ {v : Value}, RS E nx w (SV.ren π1 x) v → RS ⟨fun i => E.ρ (L.getD i 0), fun i => E.κ (L.getD i 0), E.Im⟩ L.length w (SV.ren π2 x) v := by
  intro x hx
  induction hx with
  | any => intro v _; exact .any v
  | d x => intro v h; cases h with | d _ _ h => exact .d _ _ h
  | ptr l off hl =>
    intro v h
    cases h with
    | ptr _ _ h =>
      obtain ⟨h1, h2⟩ := H l hl
      have := RS.ptr (E := ⟨fun i => E.ρ (L.getD i 0), fun i => E.κ (L.getD i 0), E.Im⟩) (w := w) (π2 l) off h1
      simp only [h2] at this; exact this
  | rp l esz i off hl =>
    intro v h
    cases h with
    | rp _ _ _ _ h =>
      obtain ⟨h1, h2⟩ := H l hl
      have := RS.rp (E := ⟨fun i => E.ρ (L.getD i 0), fun i => E.κ (L.getD i 0), E.Im⟩) (w := w) (π2 l) esz i off h1
      simp only [h2] at this; exact this
  | sl l esz off len hl =>
    intro v h
    cases h with
    | sl _ _ _ _ a cap h hc hm ha h0 =>
      obtain ⟨h1, h2⟩ := H l hl
      exact .sl _ _ _ _ a cap h1 hc hm (by simp only [h2]; exact ha) (by simp only [h2]; exact h0)
  | agg vs hv ih =>
    intro v h
    simp only [SV.ren, SV.renL_map] at h ⊢
    cases h with
    | agg _ us hs h1 hh =>
      refine .agg _ _ (by simpa using hs) h1 fun j hj => ?_
      have hj' : j < vs.length := by simpa using hj
      rw [List.getElem_map]
      refine ih _ (List.getElem_mem hj') ?_
      have := hh j (by simpa using hj')
      rwa [List.getElem_map] at this
  | tup vs hv ih =>
    intro v h
    simp only [SV.ren, SV.renL_map] at h ⊢
    cases h with
    | tup _ us hs hh =>
      refine .tup _ _ (by simpa using hs) fun j hj => ?_
      have hj' : j < vs.length := by simpa using hj
      rw [List.getElem_map]
      refine ih _ (List.getElem_mem hj') ?_
      have := hh j (by simpa using hj')
      rwa [List.getElem_map] at this
  | fn f vs hv ih =>
    intro v h
    simp only [SV.ren, SV.renL_map] at h ⊢
    cases h with
    | fn _ _ us hs hh =>
      refine .fn _ _ _ (by simpa using hs) fun j hj => ?_
      have hj' : j < vs.length := by simpa using hj
      rw [List.getElem_map]
      refine ih _ (List.getElem_mem hj') ?_
      have := hh j (by simpa using hj')
      rwa [List.getElem_map] at this
  | iref vs off hv ih =>
    intro v h
    simp only [SV.ren, SV.renL_map] at h ⊢
    cases h with
    | iref _ _ b o g hb hcell h1 hh =>
      refine .iref _ _ b o g hb (by simpa using hcell) (by simpa using h1) fun j hj => ?_
      have hj' : j < vs.length := by simpa using hj
      rw [List.getElem_map]
      refine ih _ (List.getElem_mem hj') ?_
      have := hh j (by simpa using hj')
      rwa [List.getElem_map] at this
theorem ArgLe.ren2 {π1 π2 : Nat → Nat} {L : List Nat} {m : Nat} {x : SV} (hx : SV.Lt m x) (H : ∀ l, l < m → π2 l < L.length ∧ L.getD (π2 l) 0 = π1 l) : ArgLe L (SV.ren π1 x) (SV.ren π2 x) := ⟨fun _ _ _ _ h => h.unren H hx⟩
theorem ArgLe.ren1 {π1 : Nat → Nat} {L : List Nat} {m : Nat} {x : SV} (hx : SV.Lt m x) (H : ∀ l, l < m → l < L.length ∧ L.getD l 0 = π1 l) : ArgLe L (SV.ren π1 x) x := by
  have := ArgLe.ren2 (π2 := id) hx H
  rwa [ren_id (m := m) (π := id) (fun _ _ => _root_.rfl) hx] at this
theorem dir_argP {cs : Nat → Dir.CS} {a b c d : Nat} {L : List Nat} {π : Nat → Nat} (h0 : π 0 = a) (h1 : π 1 = b) (h2 : π 2 = c) (h3 : π 3 = d) : ∀ j, j < 65 → ArgLe (a :: b :: c :: d :: L) (SV.ren π (dirF (gOf cs) j)) (dirF (gOf cs) j) ∧ SV.Lt 5 (dirF (gOf cs) j) :=
  fun j _ => ⟨.ren1 (gOf_lt4 cs j) fun l hl => by
    rcases l with _ | _ | _ | _ | l
    · exact ⟨by simp, h0.symm⟩
    · exact ⟨by simp, h1.symm⟩
    · exact ⟨by simp, h2.symm⟩
    · exact ⟨by simp, h3.symm⟩
    · omega, (gOf_lt4 cs j).mono (by decide)⟩
end Go.Proofs.YtbdclkjelhlfbaaGreat
