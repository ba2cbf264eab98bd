/- Parts of the proof, one behind the other: Dr9, Dr10, Dr11, Sx25, Dr12, Dr13. Lemmas and contracts of functions; no condition of its own. -/
import Derived.Test.YtbdclkjelhlfbaaGreatM9
set_option linter.unusedVariables false
set_option linter.unusedSimpArgs false
set_option maxHeartbeats 1000000
namespace Go.Proofs.YtbdclkjelhlfbaaGreat
open Go.RowKit
set_option maxRecDepth 100000
variable {who : Int} {g : Nat → SV} {M : Dir.Mc} {nl : Nat} {f : Nat → List D} {clk cnt : Int}
theorem upW_32 {lv i : Nat} {up : Bool} (hl : lv ≤ 3) (hi : i < 2 ^ lv) : 2 ^ (lv + 1) ≤ Dir.upW lv i up ∧ Dir.upW lv i up < 32 := by
  obtain ⟨j, h1, h2, _⟩ := Dir.upW_sh (up := up) hi
  have := Dir.sh_32 (by omega : lv + 1 ≤ 4) h1
  omega
theorem move_n (who : Int) (lv i : Nat) (hl : lv ≤ 3) (hi : i < 2 ^ lv) : Fun TC 87 60 [lanesS, .i .i64 who, .i .i64 lv, .i .i64 ((i : Int) + 1), endS] [] 60 (cl who (Dir.move lv (i + 1))) [] := move_c who lv (i + 1) hl (by omega)
theorem move_two (lv i : Nat) : Dir.move lv i = .sV lv ∨ Dir.move lv i = .sF lv i := by unfold Dir.move; split <;> simp
theorem step_sH (hM : DOK who g M nl cnt) (lv i : Nat) (up : Bool) (h : List Dir.Ent) (hl : lv ≤ 3) (hi : i < 2 ^ lv) : Fun TC 180 5 [bx lanesS, bx (.i .i64 who), bx (.i .i64 (Dir.upW lv i up)), bx (thS who lv i up h), bx (.d (slOf 2 entD h)), bx (.i .i64 ((lv + 1 : Nat) : Int))] (dirH g M nl f clk cnt)
    6 (.tup [cl who (Dir.step dirOps M (.sH lv i up h)).2.1, rslS (Dir.step dirOps M (.sH lv i up h)).2.2]) (dirN g (Dir.step dirOps M (.sH lv i up h)).1 nl f clk cnt (accD who 1 (Dir.upW lv i up) (M.W (Dir.upW lv i up)) 0 true)) := by
  have q0 := hM.w0; have q1 := hM.w1; have q2 := hM.nl; have q3 := hM.c0; have q4 := hM.c1; have q5 := hM.g; have q6 := hM.d0; have q7 := hM.d1; have q8 := hM.hd
  have qr : (M.W 0).tmod 2 = M.W 0 % 2 := Int.tmod_eq_emod_of_nonneg q6
  have hw := (upW_32 (up := up) hl hi).2
  have hb : (2 : Nat) ^ lv ≤ 2 ^ 3 := Nat.pow_le_pow_right (by omega) hl
  have e1 := shl_lv (show lv ≤ 4 by omega)
  have e2 : ((2 ^ lv : Nat) : Int) = 2 ^ lv := by simp
  cases up with
  | false =>
    have e3 : Dir.plc (lv + 1) ((i : Int) + 2 ^ lv) = Dir.upW lv i true := by rw [← upW_plc hi]; rfl
    refine Fun.mk' Tryz.func180 rfl rfl (Nat.le_of_ble_eq_true rfl) (by decide) ?_
    (repeat' (first
    | with_reducible refine Wp.seq ?_
    | with_reducible refine Wp.block ?_
    | ((with_reducible first | refine Wp.region ?_ | refine Wp.drawL TC_mixed ?_ | refine Wp.cond ?_ | refine Wp.ret ?_ | refine Wp.skip ?_ | refine Wp.exit ?_ | refine Go.mk ?_ | apply Eff1.of); conv => whnf)
    | with_reducible exact rfl
    | ((with_reducible refine Ov.ok zO ?_); conv => whnf)
    | (with_reducible refine Ov.sh1 (by with_unfolding_all exact rfl) ?_)
    | ((with_reducible refine Ov.quo (by omega) (by omega) (by omega) (fun _ _ => ?_)); conv => whnf)
    | ((with_reducible refine And.intro (show drawOK _ _ _ _ = true by kernel_rfl) ?_); conv => whnf)
    | ((with_reducible refine And.intro zC ?_); conv => whnf)
    | ((with_reducible refine And.intro ?hb ?_); (case hb => exact bytes_bd (Nat.le_of_ble_eq_true rfl) (by omega)); (conv => whnf))
    | ((refine DApp.a rfl rfl rfl rfl rfl rfl ?hb ?_); (case hb => exact zB); (conv => whnf))
    | ((refine DApp.b rfl rfl rfl rfl rfl rfl rfl rfl ?hb ?ho ?_); (case hb => exact zB); (case ho => omega); (conv => whnf))
    | ((refine DApp.c rfl rfl rfl rfl rfl ?hb ?_); (case hb => exact zB); (conv => whnf))
    | ((refine DApp.d rfl rfl rfl rfl rfl rfl ?hb ?ho ?_); (case hb => exact zB); (case ho => omega); (conv => whnf))
    | ((with_reducible refine nil_no (by omega) ?_); (conv => whnf))
    | ((with_reducible refine nil_any ?_ (fun hn0 => ?_)) <;> (conv => whnf))
    | ((refine CallStop.fn (board_Load nl M.W M.Hd f clk cnt who (Dir.upW lv i false) q2 q3 q4 q0 q1 hw) [1,2,3,4] rfl rfl rfl rfl rfl ?ha ?hh ?_); (case ha => exact zA); (case hh => exact zH); (conv => whnf))
    | ((refine DCall.fn (board_Load nl M.W M.Hd f clk cnt who (Dir.upW lv i false) q2 q3 q4 q0 q1 hw) [1,2,3,4] [1,2,3,4] rfl rfl rfl rfl rfl ?ha ?hh ?hs ?_); (case ha => exact zA); (case hh => exact zH); (case hs => exact zK); (conv => whnf)) | ((refine DCall.new (board_Load nl M.W M.Hd f clk cnt who (Dir.upW lv i false) q2 q3 q4 q0 q1 hw) [1,2,3,4] [1,2,3,4] rfl rfl rfl rfl rfl rfl ?ha ?hh ?hs ?_); (case ha => exact zA); (case hh => exact zH); (case hs => exact zK); (conv => whnf))
    | ((refine DCall.fn (board_Load nl M.W M.Hd f clk cnt who (Dir.upW lv i false) q2 q3 q4 q0 q1 hw) [1,2,3,4] [] rfl rfl rfl rfl rfl ?ha ?hh ?hs ?_); (case ha => exact zA); (case hh => exact zH); (case hs => exact zK); (conv => whnf)) | ((refine DCall.new (board_Load nl M.W M.Hd f clk cnt who (Dir.upW lv i false) q2 q3 q4 q0 q1 hw) [1,2,3,4] [] rfl rfl rfl rfl rfl rfl ?ha ?hh ?hs ?_); (case ha => exact zA); (case hh => exact zH); (case hs => exact zK); (conv => whnf))
    | (with_reducible refine CallStop.inline Tryz.func128 rfl rfl rfl (Nat.le_of_ble_eq_true rfl) ?_)
    | ((with_reducible refine DCall.funM (find_any _ _ _ _ (by exact SV.Lt.of rfl)) rfl rfl ?_); conv => whnf) | ((with_reducible refine DCall.funM (enter_any _ _ _ _ _ (by exact SV.Lt.of rfl)) rfl rfl ?_); conv => whnf) | ((with_reducible refine DCall.funM (freeze_any _ _ _ _ (by exact SV.Lt.of rfl)) rfl rfl ?_); conv => whnf) | ((with_reducible refine DCall.funM (half_any _ _ (by omega) _ _ _ _ (by exact SV.Lt.of rfl)) rfl rfl ?_); conv => whnf) | ((with_reducible refine DCall.funM (split_c _) rfl rfl ?_); conv => whnf) | ((with_reducible refine CallStop.funM (find_any _ _ _ _ (by exact SV.Lt.of rfl)) rfl rfl ?_); conv => whnf) | ((with_reducible refine CallStop.funM (enter_any _ _ _ _ _ (by exact SV.Lt.of rfl)) rfl rfl ?_); conv => whnf) | ((with_reducible refine CallStop.funM (freeze_any _ _ _ _ (by exact SV.Lt.of rfl)) rfl rfl ?_); conv => whnf) | ((with_reducible refine CallStop.funM (half_any _ _ (by omega) _ _ _ _ (by exact SV.Lt.of rfl)) rfl rfl ?_); conv => whnf) | ((with_reducible refine CallStop.funM (split_c _) rfl rfl ?_); conv => whnf)
    | ((refine ways (fun hc => ?_) (fun hc => ?_)) <;> (try simp only [decide_eq_true_eq, decide_eq_false_iff_not, Bool.and_eq_true, Bool.or_eq_true, Bool.and_eq_false_iff, Bool.or_eq_false_iff, Bool.not_eq_true', Bool.not_eq_false', beq_iff_eq, bne_iff_ne, ne_eq, beq_eq_false_iff_ne, bne_eq_false_iff_eq, Bool.not_eq_true, Bool.not_eq_false] at hc) <;> (try (exfalso; omega)) <;> (conv => whnf))))
    · rw [e1, e3]
      (rw [show Dir.step dirOps M (.sH lv i false h) = (M, .sH lv i true h, Dir.r0) from (by simp only [Dir.step, Dir.on]; rw [if_neg (by assumption), if_neg (by decide)])]; (refine FinLe.sealB [0,1,2,3,4,12] rfl rfl rfl ?_ ?_); (focus ((conv => whnf); (repeat' (first | exact zE | ((refine Seal.ptr rfl rfl ?_); (conv => whnf)) | ((refine Seal.fn ?_); (conv => whnf)) | ((refine Seal.agg ?_); (conv => whnf)) | ((refine Seal.tup ?_); (conv => whnf)) | ((refine Seal.iref ?_); (conv => whnf)) | ((refine And.intro ?_ ?_) <;> (conv => whnf)))))); (focus ((conv => whnf); (repeat' (first | exact zE | ((refine Seal.ptr rfl rfl ?_); (conv => whnf)) | ((refine Seal.fn ?_); (conv => whnf)) | ((refine Seal.agg ?_); (conv => whnf)) | ((refine Seal.tup ?_); (conv => whnf)) | ((refine Seal.iref ?_); (conv => whnf)) | ((refine And.intro ?_ ?_) <;> (conv => whnf)))); all_goals (intro i hi; refine DLes.of ?_; dsimp only; first | (rw [if_neg (by assumption)]; done) | (rw [if_pos (by assumption)]; rfl)))))
    · (rw [show Dir.step dirOps M (.sH lv i false h) = (M, .sL lv i false h, Dir.r0) from (by simp only [Dir.step]; rw [if_pos (by assumption)])]; (refine FinLe.sealB [0,1,2,3,4,12] rfl rfl rfl ?_ ?_); (focus ((conv => whnf); (repeat' (first | exact zE | ((refine Seal.ptr rfl rfl ?_); (conv => whnf)) | ((refine Seal.fn ?_); (conv => whnf)) | ((refine Seal.agg ?_); (conv => whnf)) | ((refine Seal.tup ?_); (conv => whnf)) | ((refine Seal.iref ?_); (conv => whnf)) | ((refine And.intro ?_ ?_) <;> (conv => whnf)))))); (focus ((conv => whnf); (repeat' (first | exact zE | ((refine Seal.ptr rfl rfl ?_); (conv => whnf)) | ((refine Seal.fn ?_); (conv => whnf)) | ((refine Seal.agg ?_); (conv => whnf)) | ((refine Seal.tup ?_); (conv => whnf)) | ((refine Seal.iref ?_); (conv => whnf)) | ((refine And.intro ?_ ?_) <;> (conv => whnf)))); all_goals (intro i hi; refine DLes.of ?_; dsimp only; first | (rw [if_neg (by assumption)]; done) | (rw [if_pos (by assumption)]; rfl)))))
  | true =>
    have hM2 := move_n who lv i hl hi
    rcases move_two lv (i + 1) with hmv | hmv
    all_goals rw [hmv] at hM2
    all_goals refine Fun.mk' Tryz.func180 rfl rfl (Nat.le_of_ble_eq_true rfl) (by decide) ?_
    all_goals (repeat' (first
    | with_reducible refine Wp.seq ?_
    | with_reducible refine Wp.block ?_
    | ((with_reducible first | refine Wp.region ?_ | refine Wp.drawL TC_mixed ?_ | refine Wp.cond ?_ | refine Wp.ret ?_ | refine Wp.skip ?_ | refine Wp.exit ?_ | refine Go.mk ?_ | apply Eff1.of); conv => whnf)
    | with_reducible exact rfl
    | ((with_reducible refine Ov.ok zO ?_); conv => whnf)
    | (with_reducible refine Ov.sh1 (by with_unfolding_all exact rfl) ?_)
    | ((with_reducible refine Ov.quo (by omega) (by omega) (by omega) (fun _ _ => ?_)); conv => whnf)
    | ((with_reducible refine And.intro (show drawOK _ _ _ _ = true by kernel_rfl) ?_); conv => whnf)
    | ((with_reducible refine And.intro zC ?_); conv => whnf)
    | ((with_reducible refine And.intro ?hb ?_); (case hb => exact bytes_bd (Nat.le_of_ble_eq_true rfl) (by omega)); (conv => whnf))
    | ((refine DApp.a rfl rfl rfl rfl rfl rfl ?hb ?_); (case hb => exact zB); (conv => whnf))
    | ((refine DApp.b rfl rfl rfl rfl rfl rfl rfl rfl ?hb ?ho ?_); (case hb => exact zB); (case ho => omega); (conv => whnf))
    | ((refine DApp.c rfl rfl rfl rfl rfl ?hb ?_); (case hb => exact zB); (conv => whnf))
    | ((refine DApp.d rfl rfl rfl rfl rfl rfl ?hb ?ho ?_); (case hb => exact zB); (case ho => omega); (conv => whnf))
    | ((with_reducible refine nil_no (by omega) ?_); (conv => whnf))
    | ((with_reducible refine nil_any ?_ (fun hn0 => ?_)) <;> (conv => whnf))
    | ((refine CallStop.fn (board_Load nl M.W M.Hd f clk cnt who (Dir.upW lv i true) q2 q3 q4 q0 q1 hw) [1,2,3,4] rfl rfl rfl rfl rfl ?ha ?hh ?_); (case ha => exact zA); (case hh => exact zH); (conv => whnf))
    | ((refine DCall.fn (board_Load nl M.W M.Hd f clk cnt who (Dir.upW lv i true) q2 q3 q4 q0 q1 hw) [1,2,3,4] [1,2,3,4] rfl rfl rfl rfl rfl ?ha ?hh ?hs ?_); (case ha => exact zA); (case hh => exact zH); (case hs => exact zK); (conv => whnf)) | ((refine DCall.new (board_Load nl M.W M.Hd f clk cnt who (Dir.upW lv i true) q2 q3 q4 q0 q1 hw) [1,2,3,4] [1,2,3,4] rfl rfl rfl rfl rfl rfl ?ha ?hh ?hs ?_); (case ha => exact zA); (case hh => exact zH); (case hs => exact zK); (conv => whnf))
    | ((refine DCall.fn (board_Load nl M.W M.Hd f clk cnt who (Dir.upW lv i true) q2 q3 q4 q0 q1 hw) [1,2,3,4] [] rfl rfl rfl rfl rfl ?ha ?hh ?hs ?_); (case ha => exact zA); (case hh => exact zH); (case hs => exact zK); (conv => whnf)) | ((refine DCall.new (board_Load nl M.W M.Hd f clk cnt who (Dir.upW lv i true) q2 q3 q4 q0 q1 hw) [1,2,3,4] [] rfl rfl rfl rfl rfl rfl ?ha ?hh ?hs ?_); (case ha => exact zA); (case hh => exact zH); (case hs => exact zK); (conv => whnf))
    | (with_reducible refine CallStop.inline Tryz.func129 rfl rfl rfl (Nat.le_of_ble_eq_true rfl) ?_)
    | ((with_reducible refine DCall.funM (find_any _ _ _ _ (by exact SV.Lt.of rfl)) rfl rfl ?_); conv => whnf) | ((with_reducible refine DCall.funM (enter_any _ _ _ _ _ (by exact SV.Lt.of rfl)) rfl rfl ?_); conv => whnf) | ((with_reducible refine DCall.funM (freeze_any _ _ _ _ (by exact SV.Lt.of rfl)) rfl rfl ?_); conv => whnf) | ((with_reducible refine DCall.funM (half_any _ _ (by omega) _ _ _ _ (by exact SV.Lt.of rfl)) rfl rfl ?_); conv => whnf) | ((with_reducible refine DCall.funM (split_c _) rfl rfl ?_); conv => whnf) | ((with_reducible refine CallStop.funM (find_any _ _ _ _ (by exact SV.Lt.of rfl)) rfl rfl ?_); conv => whnf) | ((with_reducible refine CallStop.funM (enter_any _ _ _ _ _ (by exact SV.Lt.of rfl)) rfl rfl ?_); conv => whnf) | ((with_reducible refine CallStop.funM (freeze_any _ _ _ _ (by exact SV.Lt.of rfl)) rfl rfl ?_); conv => whnf) | ((with_reducible refine CallStop.funM (half_any _ _ (by omega) _ _ _ _ (by exact SV.Lt.of rfl)) rfl rfl ?_); conv => whnf) | ((with_reducible refine CallStop.funM (split_c _) rfl rfl ?_); conv => whnf)
    | ((with_reducible refine DCall.funM hM2 rfl rfl ?_); conv => whnf)
    | ((refine ways (fun hc => ?_) (fun hc => ?_)) <;> (try simp only [decide_eq_true_eq, decide_eq_false_iff_not, Bool.and_eq_true, Bool.or_eq_true, Bool.and_eq_false_iff, Bool.or_eq_false_iff, Bool.not_eq_true', Bool.not_eq_false', beq_iff_eq, bne_iff_ne, ne_eq, beq_eq_false_iff_ne, bne_eq_false_iff_eq, Bool.not_eq_true, Bool.not_eq_false] at hc) <;> (try (exfalso; omega)) <;> (conv => whnf))))
    all_goals first
      | (rw [show Dir.step dirOps M (.sH lv i true h) = (M, .sL lv i true h, Dir.r0) from (by simp only [Dir.step]; rw [if_pos (by assumption)])]; (refine FinLe.sealB [0,1,2,3,4,12] rfl rfl rfl ?_ ?_); (focus ((conv => whnf); (repeat' (first | exact zE | ((refine Seal.ptr rfl rfl ?_); (conv => whnf)) | ((refine Seal.fn ?_); (conv => whnf)) | ((refine Seal.agg ?_); (conv => whnf)) | ((refine Seal.tup ?_); (conv => whnf)) | ((refine Seal.iref ?_); (conv => whnf)) | ((refine And.intro ?_ ?_) <;> (conv => whnf)))))); (focus ((conv => whnf); (repeat' (first | exact zE | ((refine Seal.ptr rfl rfl ?_); (conv => whnf)) | ((refine Seal.fn ?_); (conv => whnf)) | ((refine Seal.agg ?_); (conv => whnf)) | ((refine Seal.tup ?_); (conv => whnf)) | ((refine Seal.iref ?_); (conv => whnf)) | ((refine And.intro ?_ ?_) <;> (conv => whnf)))); all_goals (intro i hi; refine DLes.of ?_; dsimp only; first | (rw [if_neg (by assumption)]; done) | (rw [if_pos (by assumption)]; rfl)))))
      | (rw [show Dir.step dirOps M (.sH lv i true h) = (M, .sV lv, Dir.r0) from (by simp only [Dir.step, Dir.on]; rw [if_neg (by assumption), if_pos trivial, hmv])]; (refine FinLe.sealB [0,1,2,3,4,12] rfl rfl rfl ?_ ?_); (focus ((conv => whnf); (repeat' (first | exact zE | ((refine Seal.ptr rfl rfl ?_); (conv => whnf)) | ((refine Seal.fn ?_); (conv => whnf)) | ((refine Seal.agg ?_); (conv => whnf)) | ((refine Seal.tup ?_); (conv => whnf)) | ((refine Seal.iref ?_); (conv => whnf)) | ((refine And.intro ?_ ?_) <;> (conv => whnf)))))); (focus ((conv => whnf); (repeat' (first | exact zE | ((refine Seal.ptr rfl rfl ?_); (conv => whnf)) | ((refine Seal.fn ?_); (conv => whnf)) | ((refine Seal.agg ?_); (conv => whnf)) | ((refine Seal.tup ?_); (conv => whnf)) | ((refine Seal.iref ?_); (conv => whnf)) | ((refine And.intro ?_ ?_) <;> (conv => whnf)))); all_goals (intro i hi; refine DLes.of ?_; dsimp only; first | (rw [if_neg (by assumption)]; done) | (rw [if_pos (by assumption)]; rfl)))))
      | (rw [show Dir.step dirOps M (.sH lv i true h) = (M, .sF lv (i + 1), Dir.r0) from (by simp only [Dir.step, Dir.on]; rw [if_neg (by assumption), if_pos trivial, hmv])]; (refine FinLe.sealB [0,1,2,3,4,12] rfl rfl rfl ?_ ?_); (focus ((conv => whnf); (repeat' (first | exact zE | ((refine Seal.ptr rfl rfl ?_); (conv => whnf)) | ((refine Seal.fn ?_); (conv => whnf)) | ((refine Seal.agg ?_); (conv => whnf)) | ((refine Seal.tup ?_); (conv => whnf)) | ((refine Seal.iref ?_); (conv => whnf)) | ((refine And.intro ?_ ?_) <;> (conv => whnf)))))); (focus ((conv => whnf); (repeat' (first | exact zE | ((refine Seal.ptr rfl rfl ?_); (conv => whnf)) | ((refine Seal.fn ?_); (conv => whnf)) | ((refine Seal.agg ?_); (conv => whnf)) | ((refine Seal.tup ?_); (conv => whnf)) | ((refine Seal.iref ?_); (conv => whnf)) | ((refine And.intro ?_ ?_) <;> (conv => whnf)))); all_goals (intro i hi; refine DLes.of ?_; dsimp only; first | (rw [if_neg (by assumption)]; done) | (rw [if_pos (by assumption)]; rfl)))))
end Go.Proofs.YtbdclkjelhlfbaaGreat

namespace Go.Proofs.YtbdclkjelhlfbaaGreat
open Go.RowKit
set_option maxRecDepth 100000
variable {who : Int} {g : Nat → SV} {M : Dir.Mc} {nl : Nat} {f : Nat → List D} {clk cnt : Int}
theorem pow_16 {lv : Nat} (hl : lv ≤ 4) : (2 : Int) ^ lv ≤ 16 ∧ (0 : Int) < 2 ^ lv := by
  have hlv : lv = 0 ∨ lv = 1 ∨ lv = 2 ∨ lv = 3 ∨ lv = 4 := by omega
  rcases hlv with rfl | rfl | rfl | rfl | rfl <;> decide
theorem step_kL (hM : DOK who g M nl cnt) (c : Dir.Kc) (lv w : Nat) (h : List Dir.Ent) (hl : lv ≤ 4) (hw2 : 2 ^ lv ≤ w) (hw : w < 32) (hh : HOK h) : Fun TC 181 5 [bx lanesS, bx (.i .i64 who), bx (.i .i64 w), bx (.d (slOf 2 entD h)), bx (.i .i64 lv), bx (thK who c), bx .any] (dirH g M nl f clk cnt)
    6 (.tup [cl who (Dir.step dirOps M (.kL c lv w h)).2.1, rslS (Dir.step dirOps M (.kL c lv w h)).2.2]) (dirN g (Dir.step dirOps M (.kL c lv w h)).1 nl f clk cnt (accD who 2 w 0 1 (decide (M.W w = 0)))) := by
  have q0 := hM.w0; have q1 := hM.w1; have q2 := hM.nl; have q3 := hM.c0; have q4 := hM.c1; have q5 := hM.g; have q6 := hM.d0; have q7 := hM.d1; have q8 := hM.hd
  have qr : (M.W 0).tmod 2 = M.W 0 % 2 := Int.tmod_eq_emod_of_nonneg q6
  have e1 := shl_lv hl
  have e2 : ((2 ^ lv : Nat) : Int) = 2 ^ lv := by simp
  have hb : (2 : Nat) ^ lv ≤ 2 ^ 4 := Nat.pow_le_pow_right (by omega) hl
  have e3 : ((w : Int) - IntKind.i64.wrap (1 * 2 ^ min ((lv : Nat) : Int).toNat IntKind.i64.bits)).toNat = w - 2 ^ lv := by rw [e1]; omega
  have hC := dir_cutI h lv ((w : Int) - IntKind.i64.wrap (1 * 2 ^ min ((lv : Nat) : Int).toNat IntKind.i64.bits)) hl (by rw [e1]; omega) (by have := hh.1; omega)
  rw [e3] at hC
  have hov : IntKind.i64.wrap ((w : Int) - IntKind.i64.wrap (1 * 2 ^ min ((lv : Nat) : Int).toNat IntKind.i64.bits)) = (w : Int) - IntKind.i64.wrap (1 * 2 ^ min ((lv : Nat) : Int).toNat IntKind.i64.bits) := IntWalk.i64_in _ (by have e4 := pow_16 hl; rw [e1]; omega)
  refine Fun.mk' Tryz.func181 rfl rfl (Nat.le_of_ble_eq_true rfl) (by decide) ?_
  (repeat' (first
    | with_reducible refine Wp.seq ?_
    | with_reducible refine Wp.block ?_
    | ((with_reducible first | refine Wp.region ?_ | refine Wp.drawL TC_mixed ?_ | refine Wp.cond ?_ | refine Wp.ret ?_ | refine Wp.skip ?_ | refine Wp.exit ?_ | refine Go.mk ?_ | apply Eff1.of); conv => whnf)
    | with_reducible exact rfl
    | ((with_reducible refine Ov.ok zO ?_); conv => whnf)
    | (with_reducible refine Ov.sh1 (by with_unfolding_all exact rfl) ?_)
    | ((with_reducible refine Ov.quo (by omega) (by omega) (by omega) (fun _ _ => ?_)); conv => whnf)
    | ((with_reducible refine And.intro (show drawOK _ _ _ _ = true by kernel_rfl) ?_); conv => whnf)
    | ((with_reducible refine And.intro zC ?_); conv => whnf)
    | ((with_reducible refine And.intro ?hb ?_); (case hb => exact bytes_bd (Nat.le_of_ble_eq_true rfl) (by omega)); (conv => whnf))
    | ((refine DApp.a rfl rfl rfl rfl rfl rfl ?hb ?_); (case hb => exact zB); (conv => whnf))
    | ((refine DApp.b rfl rfl rfl rfl rfl rfl rfl rfl ?hb ?ho ?_); (case hb => exact zB); (case ho => omega); (conv => whnf))
    | ((refine DApp.c rfl rfl rfl rfl rfl ?hb ?_); (case hb => exact zB); (conv => whnf))
    | ((refine DApp.d rfl rfl rfl rfl rfl rfl ?hb ?ho ?_); (case hb => exact zB); (case ho => omega); (conv => whnf))
    | ((with_reducible refine nil_no (by omega) ?_); (conv => whnf))
    | ((with_reducible refine nil_any ?_ (fun hn0 => ?_)) <;> (conv => whnf))
    | ((with_reducible refine Ov.ok hov ?_); conv => whnf)
    | ((with_reducible refine CallStop.pure (hC) rfl rfl ?_); conv => whnf) | ((with_reducible refine DCall.pure (hC) rfl rfl ?_); conv => whnf)
    | ((refine CallStop.fn (board_Swap nl M.W M.Hd f clk cnt who 0 1 w (cutL h lv (w - 2 ^ lv)) q2 q3 q4 q0 q1 hw) [1,2,3,4] rfl rfl rfl rfl rfl ?ha ?hh ?_); (case ha => exact zA); (case hh => exact zH); (conv => whnf))
    | ((refine DCall.fn (board_Swap nl M.W M.Hd f clk cnt who 0 1 w (cutL h lv (w - 2 ^ lv)) q2 q3 q4 q0 q1 hw) [1,2,3,4] [1,2,3,4] rfl rfl rfl rfl rfl ?ha ?hh ?hs ?_); (case ha => exact zA); (case hh => exact zH); (case hs => exact zK); (conv => whnf)) | ((refine DCall.new (board_Swap nl M.W M.Hd f clk cnt who 0 1 w (cutL h lv (w - 2 ^ lv)) q2 q3 q4 q0 q1 hw) [1,2,3,4] [1,2,3,4] rfl rfl rfl rfl rfl rfl ?ha ?hh ?hs ?_); (case ha => exact zA); (case hh => exact zH); (case hs => exact zK); (conv => whnf))
    | ((refine DCall.fn (board_Swap nl M.W M.Hd f clk cnt who 0 1 w (cutL h lv (w - 2 ^ lv)) q2 q3 q4 q0 q1 hw) [1,2,3,4] [] rfl rfl rfl rfl rfl ?ha ?hh ?hs ?_); (case ha => exact zA); (case hh => exact zH); (case hs => exact zK); (conv => whnf)) | ((refine DCall.new (board_Swap nl M.W M.Hd f clk cnt who 0 1 w (cutL h lv (w - 2 ^ lv)) q2 q3 q4 q0 q1 hw) [1,2,3,4] [] rfl rfl rfl rfl rfl rfl ?ha ?hh ?hs ?_); (case ha => exact zA); (case hh => exact zH); (case hs => exact zK); (conv => whnf))
    | (with_reducible refine CallStop.inline Tryz.func133 rfl rfl rfl (Nat.le_of_ble_eq_true rfl) ?_)
    | ((with_reducible refine DCall.funM (find_any _ _ _ _ (by exact SV.Lt.of rfl)) rfl rfl ?_); conv => whnf) | ((with_reducible refine DCall.funM (enter_any _ _ _ _ _ (by exact SV.Lt.of rfl)) rfl rfl ?_); conv => whnf) | ((with_reducible refine DCall.funM (freeze_any _ _ _ _ (by exact SV.Lt.of rfl)) rfl rfl ?_); conv => whnf) | ((with_reducible refine DCall.funM (half_any _ _ (by omega) _ _ _ _ (by exact SV.Lt.of rfl)) rfl rfl ?_); conv => whnf) | ((with_reducible refine DCall.funM (split_c _) rfl rfl ?_); conv => whnf) | ((with_reducible refine CallStop.funM (find_any _ _ _ _ (by exact SV.Lt.of rfl)) rfl rfl ?_); conv => whnf) | ((with_reducible refine CallStop.funM (enter_any _ _ _ _ _ (by exact SV.Lt.of rfl)) rfl rfl ?_); conv => whnf) | ((with_reducible refine CallStop.funM (freeze_any _ _ _ _ (by exact SV.Lt.of rfl)) rfl rfl ?_); conv => whnf) | ((with_reducible refine CallStop.funM (half_any _ _ (by omega) _ _ _ _ (by exact SV.Lt.of rfl)) rfl rfl ?_); conv => whnf) | ((with_reducible refine CallStop.funM (split_c _) rfl rfl ?_); conv => whnf)
    | ((refine ways (fun hc => ?_) (fun hc => ?_)) <;> (try simp only [decide_eq_true_eq, decide_eq_false_iff_not, Bool.and_eq_true, Bool.or_eq_true, Bool.and_eq_false_iff, Bool.or_eq_false_iff, Bool.not_eq_true', Bool.not_eq_false', beq_iff_eq, bne_iff_ne, ne_eq, beq_eq_false_iff_ne, bne_eq_false_iff_eq, Bool.not_eq_true, Bool.not_eq_false] at hc) <;> (try (exfalso; omega)) <;> (conv => whnf))))
  by_cases hm : M.W w = 0
  · (rw [show Dir.step dirOps M (.kL c lv w h) = (M.set w 1 (cutL h lv (w - 2 ^ lv)), .kE c w, Dir.r0) from (by simp only [Dir.step]; rw [if_pos hm]; rfl)]; (refine FinLe.sealB [0,1,2,3,4,23] rfl rfl rfl ?_ ?_); (focus ((conv => whnf); (repeat' (first | exact zE | ((refine Seal.ptr rfl rfl ?_); (conv => whnf)) | ((refine Seal.fn ?_); (conv => whnf)) | ((refine Seal.agg ?_); (conv => whnf)) | ((refine Seal.tup ?_); (conv => whnf)) | ((refine Seal.iref ?_); (conv => whnf)) | ((refine And.intro ?_ ?_) <;> (conv => whnf)))))); (focus ((conv => whnf); (repeat' (first | exact zE | ((refine Seal.ptr rfl rfl ?_); (conv => whnf)) | ((refine Seal.fn ?_); (conv => whnf)) | ((refine Seal.agg ?_); (conv => whnf)) | ((refine Seal.tup ?_); (conv => whnf)) | ((refine Seal.iref ?_); (conv => whnf)) | ((refine And.intro ?_ ?_) <;> (conv => whnf)))); all_goals (intro i hi; refine DLes.of ?_; dsimp only; first | (rw [if_neg (by assumption)]; done) | (rw [if_pos (by assumption)]; rfl)))))
  · (rw [show Dir.step dirOps M (.kL c lv w h) = (M, .kE c w, Dir.r0) from (by simp only [Dir.step]; rw [if_neg hm])]; (refine FinLe.sealB [0,1,2,3,4,23] rfl rfl rfl ?_ ?_); (focus ((conv => whnf); (repeat' (first | exact zE | ((refine Seal.ptr rfl rfl ?_); (conv => whnf)) | ((refine Seal.fn ?_); (conv => whnf)) | ((refine Seal.agg ?_); (conv => whnf)) | ((refine Seal.tup ?_); (conv => whnf)) | ((refine Seal.iref ?_); (conv => whnf)) | ((refine And.intro ?_ ?_) <;> (conv => whnf)))))); (focus ((conv => whnf); (repeat' (first | exact zE | ((refine Seal.ptr rfl rfl ?_); (conv => whnf)) | ((refine Seal.fn ?_); (conv => whnf)) | ((refine Seal.agg ?_); (conv => whnf)) | ((refine Seal.tup ?_); (conv => whnf)) | ((refine Seal.iref ?_); (conv => whnf)) | ((refine And.intro ?_ ?_) <;> (conv => whnf)))); all_goals (intro i hi; refine DLes.of ?_; dsimp only; first | (rw [if_neg (by assumption)]; done) | (rw [if_pos (by assumption)]; rfl)))))
theorem step_sL (hM : DOK who g M nl cnt) (lv i : Nat) (up : Bool) (h : List Dir.Ent) (hl : lv ≤ 3) (hi : i < 2 ^ lv) (hh : HOK h) : Fun TC 181 5 [bx lanesS, bx (.i .i64 who), bx (.i .i64 (Dir.upW lv i up)), bx (.d (slOf 2 entD h)), bx (.i .i64 ((lv + 1 : Nat) : Int)), bx (thS who lv i up h), bx .any] (dirH g M nl f clk cnt)
    6 (.tup [cl who (Dir.step dirOps M (.sL lv i up h)).2.1, rslS (Dir.step dirOps M (.sL lv i up h)).2.2]) (dirN g (Dir.step dirOps M (.sL lv i up h)).1 nl f clk cnt (accD who 2 (Dir.upW lv i up) 0 1 (decide (M.W (Dir.upW lv i up) = 0)))) := by
  have q0 := hM.w0; have q1 := hM.w1; have q2 := hM.nl; have q3 := hM.c0; have q4 := hM.c1; have q5 := hM.g; have q6 := hM.d0; have q7 := hM.d1; have q8 := hM.hd
  have qr : (M.W 0).tmod 2 = M.W 0 % 2 := Int.tmod_eq_emod_of_nonneg q6
  obtain ⟨hw2, hw⟩ := upW_32 (up := up) hl hi
  have f1 := shl_lv (show lv + 1 ≤ 4 by omega)
  have f2 : ((2 ^ (lv + 1) : Nat) : Int) = 2 ^ (lv + 1) := by simp
  have f4 := pow_16 (show lv + 1 ≤ 4 by omega)
  have f3 : ((Dir.upW lv i up : Int) - IntKind.i64.wrap (1 * 2 ^ min ((lv + 1 : Nat) : Int).toNat IntKind.i64.bits)).toNat = Dir.upW lv i up - 2 ^ (lv + 1) := by rw [f1]; omega
  have hC := dir_cutI h (lv + 1) ((Dir.upW lv i up : Int) - IntKind.i64.wrap (1 * 2 ^ min ((lv + 1 : Nat) : Int).toNat IntKind.i64.bits)) (by omega) (by rw [f1]; omega) (by have := hh.1; omega)
  rw [f3] at hC
  have hov : IntKind.i64.wrap ((Dir.upW lv i up : Int) - IntKind.i64.wrap (1 * 2 ^ min ((lv + 1 : Nat) : Int).toNat IntKind.i64.bits)) = (Dir.upW lv i up : Int) - IntKind.i64.wrap (1 * 2 ^ min ((lv + 1 : Nat) : Int).toNat IntKind.i64.bits) := IntWalk.i64_in _ (by rw [f1]; omega)
  clear f1 f2 f3 f4
  have hb : (2 : Nat) ^ lv ≤ 2 ^ 3 := Nat.pow_le_pow_right (by omega) hl
  have e1 := shl_lv (show lv ≤ 4 by omega)
  have e2 : ((2 ^ lv : Nat) : Int) = 2 ^ lv := by simp
  cases up with
  | false =>
    have e3 : Dir.plc (lv + 1) ((i : Int) + 2 ^ lv) = Dir.upW lv i true := by rw [← upW_plc hi]; rfl
    refine Fun.mk' Tryz.func181 rfl rfl (Nat.le_of_ble_eq_true rfl) (by decide) ?_
    (repeat' (first
    | with_reducible refine Wp.seq ?_
    | with_reducible refine Wp.block ?_
    | ((with_reducible first | refine Wp.region ?_ | refine Wp.drawL TC_mixed ?_ | refine Wp.cond ?_ | refine Wp.ret ?_ | refine Wp.skip ?_ | refine Wp.exit ?_ | refine Go.mk ?_ | apply Eff1.of); conv => whnf)
    | with_reducible exact rfl
    | ((with_reducible refine Ov.ok zO ?_); conv => whnf)
    | (with_reducible refine Ov.sh1 (by with_unfolding_all exact rfl) ?_)
    | ((with_reducible refine Ov.quo (by omega) (by omega) (by omega) (fun _ _ => ?_)); conv => whnf)
    | ((with_reducible refine And.intro (show drawOK _ _ _ _ = true by kernel_rfl) ?_); conv => whnf)
    | ((with_reducible refine And.intro zC ?_); conv => whnf)
    | ((with_reducible refine And.intro ?hb ?_); (case hb => exact bytes_bd (Nat.le_of_ble_eq_true rfl) (by omega)); (conv => whnf))
    | ((refine DApp.a rfl rfl rfl rfl rfl rfl ?hb ?_); (case hb => exact zB); (conv => whnf))
    | ((refine DApp.b rfl rfl rfl rfl rfl rfl rfl rfl ?hb ?ho ?_); (case hb => exact zB); (case ho => omega); (conv => whnf))
    | ((refine DApp.c rfl rfl rfl rfl rfl ?hb ?_); (case hb => exact zB); (conv => whnf))
    | ((refine DApp.d rfl rfl rfl rfl rfl rfl ?hb ?ho ?_); (case hb => exact zB); (case ho => omega); (conv => whnf))
    | ((with_reducible refine nil_no (by omega) ?_); (conv => whnf))
    | ((with_reducible refine nil_any ?_ (fun hn0 => ?_)) <;> (conv => whnf))
    | ((with_reducible refine Ov.ok hov ?_); conv => whnf)
    | ((with_reducible refine CallStop.pure (hC) rfl rfl ?_); conv => whnf) | ((with_reducible refine DCall.pure (hC) rfl rfl ?_); conv => whnf)
    | ((refine CallStop.fn (board_Swap nl M.W M.Hd f clk cnt who 0 1 (Dir.upW lv i false) (cutL h (lv + 1) (Dir.upW lv i false - 2 ^ (lv + 1))) q2 q3 q4 q0 q1 hw) [1,2,3,4] rfl rfl rfl rfl rfl ?ha ?hh ?_); (case ha => exact zA); (case hh => exact zH); (conv => whnf))
    | ((refine DCall.fn (board_Swap nl M.W M.Hd f clk cnt who 0 1 (Dir.upW lv i false) (cutL h (lv + 1) (Dir.upW lv i false - 2 ^ (lv + 1))) q2 q3 q4 q0 q1 hw) [1,2,3,4] [1,2,3,4] rfl rfl rfl rfl rfl ?ha ?hh ?hs ?_); (case ha => exact zA); (case hh => exact zH); (case hs => exact zK); (conv => whnf)) | ((refine DCall.new (board_Swap nl M.W M.Hd f clk cnt who 0 1 (Dir.upW lv i false) (cutL h (lv + 1) (Dir.upW lv i false - 2 ^ (lv + 1))) q2 q3 q4 q0 q1 hw) [1,2,3,4] [1,2,3,4] rfl rfl rfl rfl rfl rfl ?ha ?hh ?hs ?_); (case ha => exact zA); (case hh => exact zH); (case hs => exact zK); (conv => whnf))
    | ((refine DCall.fn (board_Swap nl M.W M.Hd f clk cnt who 0 1 (Dir.upW lv i false) (cutL h (lv + 1) (Dir.upW lv i false - 2 ^ (lv + 1))) q2 q3 q4 q0 q1 hw) [1,2,3,4] [] rfl rfl rfl rfl rfl ?ha ?hh ?hs ?_); (case ha => exact zA); (case hh => exact zH); (case hs => exact zK); (conv => whnf)) | ((refine DCall.new (board_Swap nl M.W M.Hd f clk cnt who 0 1 (Dir.upW lv i false) (cutL h (lv + 1) (Dir.upW lv i false - 2 ^ (lv + 1))) q2 q3 q4 q0 q1 hw) [1,2,3,4] [] rfl rfl rfl rfl rfl rfl ?ha ?hh ?hs ?_); (case ha => exact zA); (case hh => exact zH); (case hs => exact zK); (conv => whnf))
    | (with_reducible refine CallStop.inline Tryz.func128 rfl rfl rfl (Nat.le_of_ble_eq_true rfl) ?_)
    | ((with_reducible refine DCall.funM (find_any _ _ _ _ (by exact SV.Lt.of rfl)) rfl rfl ?_); conv => whnf) | ((with_reducible refine DCall.funM (enter_any _ _ _ _ _ (by exact SV.Lt.of rfl)) rfl rfl ?_); conv => whnf) | ((with_reducible refine DCall.funM (freeze_any _ _ _ _ (by exact SV.Lt.of rfl)) rfl rfl ?_); conv => whnf) | ((with_reducible refine DCall.funM (half_any _ _ (by omega) _ _ _ _ (by exact SV.Lt.of rfl)) rfl rfl ?_); conv => whnf) | ((with_reducible refine DCall.funM (split_c _) rfl rfl ?_); conv => whnf) | ((with_reducible refine CallStop.funM (find_any _ _ _ _ (by exact SV.Lt.of rfl)) rfl rfl ?_); conv => whnf) | ((with_reducible refine CallStop.funM (enter_any _ _ _ _ _ (by exact SV.Lt.of rfl)) rfl rfl ?_); conv => whnf) | ((with_reducible refine CallStop.funM (freeze_any _ _ _ _ (by exact SV.Lt.of rfl)) rfl rfl ?_); conv => whnf) | ((with_reducible refine CallStop.funM (half_any _ _ (by omega) _ _ _ _ (by exact SV.Lt.of rfl)) rfl rfl ?_); conv => whnf) | ((with_reducible refine CallStop.funM (split_c _) rfl rfl ?_); conv => whnf)
    | ((refine ways (fun hc => ?_) (fun hc => ?_)) <;> (try simp only [decide_eq_true_eq, decide_eq_false_iff_not, Bool.and_eq_true, Bool.or_eq_true, Bool.and_eq_false_iff, Bool.or_eq_false_iff, Bool.not_eq_true', Bool.not_eq_false', beq_iff_eq, bne_iff_ne, ne_eq, beq_eq_false_iff_ne, bne_eq_false_iff_eq, Bool.not_eq_true, Bool.not_eq_false] at hc) <;> (try (exfalso; omega)) <;> (conv => whnf))))
    rw [e1, e3]
    by_cases hm : M.W (Dir.upW lv i false) = 0
    · (rw [show Dir.step dirOps M (.sL lv i false h) = (M.set (Dir.upW lv i false) 1 (cutL h (lv + 1) (Dir.upW lv i false - 2 ^ (lv + 1))), .sH lv i true h, Dir.r0) from (by simp only [Dir.step, Dir.on]; rw [if_pos hm, if_neg (by decide)]; rfl)]; (refine FinLe.sealB [0,1,2,3,4,23] rfl rfl rfl ?_ ?_); (focus ((conv => whnf); (repeat' (first | exact zE | ((refine Seal.ptr rfl rfl ?_); (conv => whnf)) | ((refine Seal.fn ?_); (conv => whnf)) | ((refine Seal.agg ?_); (conv => whnf)) | ((refine Seal.tup ?_); (conv => whnf)) | ((refine Seal.iref ?_); (conv => whnf)) | ((refine And.intro ?_ ?_) <;> (conv => whnf)))))); (focus ((conv => whnf); (repeat' (first | exact zE | ((refine Seal.ptr rfl rfl ?_); (conv => whnf)) | ((refine Seal.fn ?_); (conv => whnf)) | ((refine Seal.agg ?_); (conv => whnf)) | ((refine Seal.tup ?_); (conv => whnf)) | ((refine Seal.iref ?_); (conv => whnf)) | ((refine And.intro ?_ ?_) <;> (conv => whnf)))); all_goals (intro i hi; refine DLes.of ?_; dsimp only; first | (rw [if_neg (by assumption)]; done) | (rw [if_pos (by assumption)]; rfl)))))
    · (rw [show Dir.step dirOps M (.sL lv i false h) = (M, .sH lv i true h, Dir.r0) from (by simp only [Dir.step, Dir.on]; rw [if_neg hm, if_neg (by decide)])]; (refine FinLe.sealB [0,1,2,3,4,23] rfl rfl rfl ?_ ?_); (focus ((conv => whnf); (repeat' (first | exact zE | ((refine Seal.ptr rfl rfl ?_); (conv => whnf)) | ((refine Seal.fn ?_); (conv => whnf)) | ((refine Seal.agg ?_); (conv => whnf)) | ((refine Seal.tup ?_); (conv => whnf)) | ((refine Seal.iref ?_); (conv => whnf)) | ((refine And.intro ?_ ?_) <;> (conv => whnf)))))); (focus ((conv => whnf); (repeat' (first | exact zE | ((refine Seal.ptr rfl rfl ?_); (conv => whnf)) | ((refine Seal.fn ?_); (conv => whnf)) | ((refine Seal.agg ?_); (conv => whnf)) | ((refine Seal.tup ?_); (conv => whnf)) | ((refine Seal.iref ?_); (conv => whnf)) | ((refine And.intro ?_ ?_) <;> (conv => whnf)))); all_goals (intro i hi; refine DLes.of ?_; dsimp only; first | (rw [if_neg (by assumption)]; done) | (rw [if_pos (by assumption)]; rfl)))))
  | true =>
    have hM2 := move_n who lv i hl hi
    rcases move_two lv (i + 1) with hmv | hmv
    all_goals rw [hmv] at hM2
    all_goals refine Fun.mk' Tryz.func181 rfl rfl (Nat.le_of_ble_eq_true rfl) (by decide) ?_
    all_goals (repeat' (first
    | with_reducible refine Wp.seq ?_
    | with_reducible refine Wp.block ?_
    | ((with_reducible first | refine Wp.region ?_ | refine Wp.drawL TC_mixed ?_ | refine Wp.cond ?_ | refine Wp.ret ?_ | refine Wp.skip ?_ | refine Wp.exit ?_ | refine Go.mk ?_ | apply Eff1.of); conv => whnf)
    | with_reducible exact rfl
    | ((with_reducible refine Ov.ok zO ?_); conv => whnf)
    | (with_reducible refine Ov.sh1 (by with_unfolding_all exact rfl) ?_)
    | ((with_reducible refine Ov.quo (by omega) (by omega) (by omega) (fun _ _ => ?_)); conv => whnf)
    | ((with_reducible refine And.intro (show drawOK _ _ _ _ = true by kernel_rfl) ?_); conv => whnf)
    | ((with_reducible refine And.intro zC ?_); conv => whnf)
    | ((with_reducible refine And.intro ?hb ?_); (case hb => exact bytes_bd (Nat.le_of_ble_eq_true rfl) (by omega)); (conv => whnf))
    | ((refine DApp.a rfl rfl rfl rfl rfl rfl ?hb ?_); (case hb => exact zB); (conv => whnf))
    | ((refine DApp.b rfl rfl rfl rfl rfl rfl rfl rfl ?hb ?ho ?_); (case hb => exact zB); (case ho => omega); (conv => whnf))
    | ((refine DApp.c rfl rfl rfl rfl rfl ?hb ?_); (case hb => exact zB); (conv => whnf))
    | ((refine DApp.d rfl rfl rfl rfl rfl rfl ?hb ?ho ?_); (case hb => exact zB); (case ho => omega); (conv => whnf))
    | ((with_reducible refine nil_no (by omega) ?_); (conv => whnf))
    | ((with_reducible refine nil_any ?_ (fun hn0 => ?_)) <;> (conv => whnf))
    | ((with_reducible refine Ov.ok hov ?_); conv => whnf)
    | ((with_reducible refine CallStop.pure (hC) rfl rfl ?_); conv => whnf) | ((with_reducible refine DCall.pure (hC) rfl rfl ?_); conv => whnf)
    | ((refine CallStop.fn (board_Swap nl M.W M.Hd f clk cnt who 0 1 (Dir.upW lv i true) (cutL h (lv + 1) (Dir.upW lv i true - 2 ^ (lv + 1))) q2 q3 q4 q0 q1 hw) [1,2,3,4] rfl rfl rfl rfl rfl ?ha ?hh ?_); (case ha => exact zA); (case hh => exact zH); (conv => whnf))
    | ((refine DCall.fn (board_Swap nl M.W M.Hd f clk cnt who 0 1 (Dir.upW lv i true) (cutL h (lv + 1) (Dir.upW lv i true - 2 ^ (lv + 1))) q2 q3 q4 q0 q1 hw) [1,2,3,4] [1,2,3,4] rfl rfl rfl rfl rfl ?ha ?hh ?hs ?_); (case ha => exact zA); (case hh => exact zH); (case hs => exact zK); (conv => whnf)) | ((refine DCall.new (board_Swap nl M.W M.Hd f clk cnt who 0 1 (Dir.upW lv i true) (cutL h (lv + 1) (Dir.upW lv i true - 2 ^ (lv + 1))) q2 q3 q4 q0 q1 hw) [1,2,3,4] [1,2,3,4] rfl rfl rfl rfl rfl rfl ?ha ?hh ?hs ?_); (case ha => exact zA); (case hh => exact zH); (case hs => exact zK); (conv => whnf))
    | ((refine DCall.fn (board_Swap nl M.W M.Hd f clk cnt who 0 1 (Dir.upW lv i true) (cutL h (lv + 1) (Dir.upW lv i true - 2 ^ (lv + 1))) q2 q3 q4 q0 q1 hw) [1,2,3,4] [] rfl rfl rfl rfl rfl ?ha ?hh ?hs ?_); (case ha => exact zA); (case hh => exact zH); (case hs => exact zK); (conv => whnf)) | ((refine DCall.new (board_Swap nl M.W M.Hd f clk cnt who 0 1 (Dir.upW lv i true) (cutL h (lv + 1) (Dir.upW lv i true - 2 ^ (lv + 1))) q2 q3 q4 q0 q1 hw) [1,2,3,4] [] rfl rfl rfl rfl rfl rfl ?ha ?hh ?hs ?_); (case ha => exact zA); (case hh => exact zH); (case hs => exact zK); (conv => whnf))
    | (with_reducible refine CallStop.inline Tryz.func129 rfl rfl rfl (Nat.le_of_ble_eq_true rfl) ?_)
    | ((with_reducible refine DCall.funM (find_any _ _ _ _ (by exact SV.Lt.of rfl)) rfl rfl ?_); conv => whnf) | ((with_reducible refine DCall.funM (enter_any _ _ _ _ _ (by exact SV.Lt.of rfl)) rfl rfl ?_); conv => whnf) | ((with_reducible refine DCall.funM (freeze_any _ _ _ _ (by exact SV.Lt.of rfl)) rfl rfl ?_); conv => whnf) | ((with_reducible refine DCall.funM (half_any _ _ (by omega) _ _ _ _ (by exact SV.Lt.of rfl)) rfl rfl ?_); conv => whnf) | ((with_reducible refine DCall.funM (split_c _) rfl rfl ?_); conv => whnf) | ((with_reducible refine CallStop.funM (find_any _ _ _ _ (by exact SV.Lt.of rfl)) rfl rfl ?_); conv => whnf) | ((with_reducible refine CallStop.funM (enter_any _ _ _ _ _ (by exact SV.Lt.of rfl)) rfl rfl ?_); conv => whnf) | ((with_reducible refine CallStop.funM (freeze_any _ _ _ _ (by exact SV.Lt.of rfl)) rfl rfl ?_); conv => whnf) | ((with_reducible refine CallStop.funM (half_any _ _ (by omega) _ _ _ _ (by exact SV.Lt.of rfl)) rfl rfl ?_); conv => whnf) | ((with_reducible refine CallStop.funM (split_c _) rfl rfl ?_); conv => whnf)
    | ((with_reducible refine DCall.funM hM2 rfl rfl ?_); conv => whnf)
    | ((refine ways (fun hc => ?_) (fun hc => ?_)) <;> (try simp only [decide_eq_true_eq, decide_eq_false_iff_not, Bool.and_eq_true, Bool.or_eq_true, Bool.and_eq_false_iff, Bool.or_eq_false_iff, Bool.not_eq_true', Bool.not_eq_false', beq_iff_eq, bne_iff_ne, ne_eq, beq_eq_false_iff_ne, bne_eq_false_iff_eq, Bool.not_eq_true, Bool.not_eq_false] at hc) <;> (try (exfalso; omega)) <;> (conv => whnf))))
    all_goals by_cases hm : M.W (Dir.upW lv i true) = 0
    all_goals first
      | (rw [show Dir.step dirOps M (.sL lv i true h) = (M.set (Dir.upW lv i true) 1 (cutL h (lv + 1) (Dir.upW lv i true - 2 ^ (lv + 1))), .sV lv, Dir.r0) from (by simp only [Dir.step, Dir.on]; rw [if_pos hm, if_pos trivial, hmv]; rfl)]; (refine FinLe.sealB [0,1,2,3,4,23] rfl rfl rfl ?_ ?_); (focus ((conv => whnf); (repeat' (first | exact zE | ((refine Seal.ptr rfl rfl ?_); (conv => whnf)) | ((refine Seal.fn ?_); (conv => whnf)) | ((refine Seal.agg ?_); (conv => whnf)) | ((refine Seal.tup ?_); (conv => whnf)) | ((refine Seal.iref ?_); (conv => whnf)) | ((refine And.intro ?_ ?_) <;> (conv => whnf)))))); (focus ((conv => whnf); (repeat' (first | exact zE | ((refine Seal.ptr rfl rfl ?_); (conv => whnf)) | ((refine Seal.fn ?_); (conv => whnf)) | ((refine Seal.agg ?_); (conv => whnf)) | ((refine Seal.tup ?_); (conv => whnf)) | ((refine Seal.iref ?_); (conv => whnf)) | ((refine And.intro ?_ ?_) <;> (conv => whnf)))); all_goals (intro i hi; refine DLes.of ?_; dsimp only; first | (rw [if_neg (by assumption)]; done) | (rw [if_pos (by assumption)]; rfl)))))
      | (rw [show Dir.step dirOps M (.sL lv i true h) = (M.set (Dir.upW lv i true) 1 (cutL h (lv + 1) (Dir.upW lv i true - 2 ^ (lv + 1))), .sF lv (i + 1), Dir.r0) from (by simp only [Dir.step, Dir.on]; rw [if_pos hm, if_pos trivial, hmv]; rfl)]; (refine FinLe.sealB [0,1,2,3,4,23] rfl rfl rfl ?_ ?_); (focus ((conv => whnf); (repeat' (first | exact zE | ((refine Seal.ptr rfl rfl ?_); (conv => whnf)) | ((refine Seal.fn ?_); (conv => whnf)) | ((refine Seal.agg ?_); (conv => whnf)) | ((refine Seal.tup ?_); (conv => whnf)) | ((refine Seal.iref ?_); (conv => whnf)) | ((refine And.intro ?_ ?_) <;> (conv => whnf)))))); (focus ((conv => whnf); (repeat' (first | exact zE | ((refine Seal.ptr rfl rfl ?_); (conv => whnf)) | ((refine Seal.fn ?_); (conv => whnf)) | ((refine Seal.agg ?_); (conv => whnf)) | ((refine Seal.tup ?_); (conv => whnf)) | ((refine Seal.iref ?_); (conv => whnf)) | ((refine And.intro ?_ ?_) <;> (conv => whnf)))); all_goals (intro i hi; refine DLes.of ?_; dsimp only; first | (rw [if_neg (by assumption)]; done) | (rw [if_pos (by assumption)]; rfl)))))
      | (rw [show Dir.step dirOps M (.sL lv i true h) = (M, .sV lv, Dir.r0) from (by simp only [Dir.step, Dir.on]; rw [if_neg hm, if_pos trivial, hmv])]; (refine FinLe.sealB [0,1,2,3,4,23] rfl rfl rfl ?_ ?_); (focus ((conv => whnf); (repeat' (first | exact zE | ((refine Seal.ptr rfl rfl ?_); (conv => whnf)) | ((refine Seal.fn ?_); (conv => whnf)) | ((refine Seal.agg ?_); (conv => whnf)) | ((refine Seal.tup ?_); (conv => whnf)) | ((refine Seal.iref ?_); (conv => whnf)) | ((refine And.intro ?_ ?_) <;> (conv => whnf)))))); (focus ((conv => whnf); (repeat' (first | exact zE | ((refine Seal.ptr rfl rfl ?_); (conv => whnf)) | ((refine Seal.fn ?_); (conv => whnf)) | ((refine Seal.agg ?_); (conv => whnf)) | ((refine Seal.tup ?_); (conv => whnf)) | ((refine Seal.iref ?_); (conv => whnf)) | ((refine And.intro ?_ ?_) <;> (conv => whnf)))); all_goals (intro i hi; refine DLes.of ?_; dsimp only; first | (rw [if_neg (by assumption)]; done) | (rw [if_pos (by assumption)]; rfl)))))
      | (rw [show Dir.step dirOps M (.sL lv i true h) = (M, .sF lv (i + 1), Dir.r0) from (by simp only [Dir.step, Dir.on]; rw [if_neg hm, if_pos trivial, hmv])]; (refine FinLe.sealB [0,1,2,3,4,23] rfl rfl rfl ?_ ?_); (focus ((conv => whnf); (repeat' (first | exact zE | ((refine Seal.ptr rfl rfl ?_); (conv => whnf)) | ((refine Seal.fn ?_); (conv => whnf)) | ((refine Seal.agg ?_); (conv => whnf)) | ((refine Seal.tup ?_); (conv => whnf)) | ((refine Seal.iref ?_); (conv => whnf)) | ((refine And.intro ?_ ?_) <;> (conv => whnf)))))); (focus ((conv => whnf); (repeat' (first | exact zE | ((refine Seal.ptr rfl rfl ?_); (conv => whnf)) | ((refine Seal.fn ?_); (conv => whnf)) | ((refine Seal.agg ?_); (conv => whnf)) | ((refine Seal.tup ?_); (conv => whnf)) | ((refine Seal.iref ?_); (conv => whnf)) | ((refine And.intro ?_ ?_) <;> (conv => whnf)))); all_goals (intro i hi; refine DLes.of ?_; dsimp only; first | (rw [if_neg (by assumption)]; done) | (rw [if_pos (by assumption)]; rfl)))))
end Go.Proofs.YtbdclkjelhlfbaaGreat

namespace Go.Proofs.YtbdclkjelhlfbaaGreat
open Go.RowKit
set_option maxRecDepth 100000
variable {who : Int} {g : Nat → SV} {M : Dir.Mc} {nl : Nat} {f : Nat → List D} {clk cnt : Int}
theorem step_kS (hM : DOK who g M nl cnt) (c : Dir.Kc) (w : Nat) (v : Int) (m : List Dir.Ent) (n : Int) (hw : w < 32) (hv0 : 0 ≤ v) (hv : v < 4611686018427387904) : Fun TC 96 5 [bx (.ptr 0 0), bx (.i .i64 who), bx (.i .i64 w), bx (.i .u64 v), bx (.d (slOf 2 entD m)), bx (.i .u8 c.op), bx (.d (slOf 1 (encI .u8) c.key)), bx (.i .i64 c.val), bx (.i .i64 n)] (dirH g M nl f clk cnt)
    6 (.tup [cl who (Dir.step dirOps M (.kS c w v m n)).2.1, rslS (Dir.step dirOps M (.kS c w v m n)).2.2]) (dirN g (Dir.step dirOps M (.kS c w v m n)).1 nl f clk cnt (accD who 2 w v (v + 1) (decide (M.W w = v)))) := by
  have q0 := hM.w0; have q1 := hM.w1; have q2 := hM.nl; have q3 := hM.c0; have q4 := hM.c1; have q5 := hM.g; have q6 := hM.d0; have q7 := hM.d1; have q8 := hM.hd
  have qr : (M.W 0).tmod 2 = M.W 0 % 2 := Int.tmod_eq_emod_of_nonneg q6
  refine Fun.mk' Tryz.func96 rfl rfl (Nat.le_of_ble_eq_true rfl) (by decide) ?_
  (repeat' (first
    | with_reducible refine Wp.seq ?_
    | with_reducible refine Wp.block ?_
    | ((with_reducible first | refine Wp.region ?_ | refine Wp.drawL TC_mixed ?_ | refine Wp.cond ?_ | refine Wp.ret ?_ | refine Wp.skip ?_ | refine Wp.exit ?_ | refine Go.mk ?_ | apply Eff1.of); conv => whnf)
    | with_reducible exact rfl
    | ((with_reducible refine Ov.ok zO ?_); conv => whnf)
    | (with_reducible refine Ov.sh1 (by with_unfolding_all exact rfl) ?_)
    | ((with_reducible refine Ov.quo (by omega) (by omega) (by omega) (fun _ _ => ?_)); conv => whnf)
    | ((with_reducible refine And.intro (show drawOK _ _ _ _ = true by kernel_rfl) ?_); conv => whnf)
    | ((with_reducible refine And.intro zC ?_); conv => whnf)
    | ((with_reducible refine And.intro ?hb ?_); (case hb => exact bytes_bd (Nat.le_of_ble_eq_true rfl) (by omega)); (conv => whnf))
    | ((refine DApp.a rfl rfl rfl rfl rfl rfl ?hb ?_); (case hb => exact zB); (conv => whnf))
    | ((refine DApp.b rfl rfl rfl rfl rfl rfl rfl rfl ?hb ?ho ?_); (case hb => exact zB); (case ho => omega); (conv => whnf))
    | ((refine DApp.c rfl rfl rfl rfl rfl ?hb ?_); (case hb => exact zB); (conv => whnf))
    | ((refine DApp.d rfl rfl rfl rfl rfl rfl ?hb ?ho ?_); (case hb => exact zB); (case ho => omega); (conv => whnf))
    | ((with_reducible refine nil_no (by omega) ?_); (conv => whnf))
    | ((with_reducible refine nil_any ?_ (fun hn0 => ?_)) <;> (conv => whnf))
    | ((with_reducible refine At.mk' 0 rfl ?_); conv => whnf)
    | ((refine CallStop.fn (board_Swap nl M.W M.Hd f clk cnt who v (v + 1) w m q2 q3 q4 q0 q1 hw) [1,2,3,4] rfl rfl rfl rfl rfl ?ha ?hh ?_); (case ha => exact zA); (case hh => exact zH); (conv => whnf))
    | ((refine DCall.fn (board_Swap nl M.W M.Hd f clk cnt who v (v + 1) w m q2 q3 q4 q0 q1 hw) [1,2,3,4] [1,2,3,4] rfl rfl rfl rfl rfl ?ha ?hh ?hs ?_); (case ha => exact zA); (case hh => exact zH); (case hs => exact zK); (conv => whnf)) | ((refine DCall.new (board_Swap nl M.W M.Hd f clk cnt who v (v + 1) w m q2 q3 q4 q0 q1 hw) [1,2,3,4] [1,2,3,4] rfl rfl rfl rfl rfl rfl ?ha ?hh ?hs ?_); (case ha => exact zA); (case hh => exact zH); (case hs => exact zK); (conv => whnf))
    | ((refine DCall.fn (board_Swap nl M.W M.Hd f clk cnt who v (v + 1) w m q2 q3 q4 q0 q1 hw) [1,2,3,4] [] rfl rfl rfl rfl rfl ?ha ?hh ?hs ?_); (case ha => exact zA); (case hh => exact zH); (case hs => exact zK); (conv => whnf)) | ((refine DCall.new (board_Swap nl M.W M.Hd f clk cnt who v (v + 1) w m q2 q3 q4 q0 q1 hw) [1,2,3,4] [] rfl rfl rfl rfl rfl rfl ?ha ?hh ?hs ?_); (case ha => exact zA); (case hh => exact zH); (case hs => exact zK); (conv => whnf))
    | (with_reducible refine CallStop.inline Tryz.func51 rfl rfl rfl (Nat.le_of_ble_eq_true rfl) ?_)
    | ((with_reducible refine CallStop.pure (hash_Sum _) rfl rfl ?_); conv => whnf) | ((with_reducible refine DCall.pure (hash_Sum _) rfl rfl ?_); conv => whnf)
    | ((with_reducible refine DCall.funM (find_any _ _ _ _ (by exact SV.Lt.of rfl)) rfl rfl ?_); conv => whnf) | ((with_reducible refine DCall.funM (enter_any _ _ _ _ _ (by exact SV.Lt.of rfl)) rfl rfl ?_); conv => whnf) | ((with_reducible refine DCall.funM (freeze_any _ _ _ _ (by exact SV.Lt.of rfl)) rfl rfl ?_); conv => whnf) | ((with_reducible refine DCall.funM (half_any _ _ (by omega) _ _ _ _ (by exact SV.Lt.of rfl)) rfl rfl ?_); conv => whnf) | ((with_reducible refine DCall.funM (split_c _) rfl rfl ?_); conv => whnf) | ((with_reducible refine CallStop.funM (find_any _ _ _ _ (by exact SV.Lt.of rfl)) rfl rfl ?_); conv => whnf) | ((with_reducible refine CallStop.funM (enter_any _ _ _ _ _ (by exact SV.Lt.of rfl)) rfl rfl ?_); conv => whnf) | ((with_reducible refine CallStop.funM (freeze_any _ _ _ _ (by exact SV.Lt.of rfl)) rfl rfl ?_); conv => whnf) | ((with_reducible refine CallStop.funM (half_any _ _ (by omega) _ _ _ _ (by exact SV.Lt.of rfl)) rfl rfl ?_); conv => whnf) | ((with_reducible refine CallStop.funM (split_c _) rfl rfl ?_); conv => whnf)
    | ((refine ways (fun hc => ?_) (fun hc => ?_)) <;> (try simp only [decide_eq_true_eq, decide_eq_false_iff_not, Bool.and_eq_true, Bool.or_eq_true, Bool.and_eq_false_iff, Bool.or_eq_false_iff, Bool.not_eq_true', Bool.not_eq_false', beq_iff_eq, bne_iff_ne, ne_eq, beq_eq_false_iff_ne, bne_eq_false_iff_eq, Bool.not_eq_true, Bool.not_eq_false] at hc) <;> (try (exfalso; omega)) <;> (conv => whnf))))
  · (rw [show Dir.step dirOps M (.kS c w v m n) = (M, .k0 c, Dir.r0) from (by simp only [Dir.step]; rw [if_neg (by assumption)])]; (refine FinLe.sealB [0,1,2,3,4,19] rfl rfl rfl ?_ ?_); (focus ((conv => whnf); (repeat' (first | exact zE | ((refine Seal.ptr rfl rfl ?_); (conv => whnf)) | ((refine Seal.fn ?_); (conv => whnf)) | ((refine Seal.agg ?_); (conv => whnf)) | ((refine Seal.tup ?_); (conv => whnf)) | ((refine Seal.iref ?_); (conv => whnf)) | ((refine And.intro ?_ ?_) <;> (conv => whnf)))))); (focus ((conv => whnf); (repeat' (first | exact zE | ((refine Seal.ptr rfl rfl ?_); (conv => whnf)) | ((refine Seal.fn ?_); (conv => whnf)) | ((refine Seal.agg ?_); (conv => whnf)) | ((refine Seal.tup ?_); (conv => whnf)) | ((refine Seal.iref ?_); (conv => whnf)) | ((refine And.intro ?_ ?_) <;> (conv => whnf)))); all_goals (intro i hi; refine DLes.of ?_; dsimp only; first | (rw [if_neg (by assumption)]; done) | (rw [if_pos (by assumption)]; rfl)))))
  · (rw [show Dir.step dirOps M (.kS c w v m n) = (M.set w (v + 1) m, .none, ⟨true, 0, n⟩) from (by simp only [Dir.step]; rw [if_pos (by assumption)])]; (refine FinLe.sealB [0,1,2,3,4,19] rfl rfl rfl ?_ ?_); (focus ((conv => whnf); (repeat' (first | exact zE | ((refine Seal.ptr rfl rfl ?_); (conv => whnf)) | ((refine Seal.fn ?_); (conv => whnf)) | ((refine Seal.agg ?_); (conv => whnf)) | ((refine Seal.tup ?_); (conv => whnf)) | ((refine Seal.iref ?_); (conv => whnf)) | ((refine And.intro ?_ ?_) <;> (conv => whnf)))))); (focus ((conv => whnf); (repeat' (first | exact zE | ((refine Seal.ptr rfl rfl ?_); (conv => whnf)) | ((refine Seal.fn ?_); (conv => whnf)) | ((refine Seal.agg ?_); (conv => whnf)) | ((refine Seal.tup ?_); (conv => whnf)) | ((refine Seal.iref ?_); (conv => whnf)) | ((refine And.intro ?_ ?_) <;> (conv => whnf)))); all_goals (intro i hi; refine DLes.of ?_; dsimp only; first | (rw [if_neg (by assumption)]; done) | (rw [if_pos (by assumption)]; rfl)))))
theorem move_0 (who : Int) (x : Int) (h0 : 0 ≤ x) (h3 : x ≤ 3) : Fun TC 87 60 [lanesS, .i .i64 who, .i .i64 x, .i .i64 0, endS] [] 60 (cl who (.sF x.toNat 0)) [] := by
  have e : Dir.move x.toNat 0 = .sF x.toNat 0 := by unfold Dir.move; rw [if_neg (by have := Dir.pow_pos2 x.toNat; omega)]
  have := move_I who x 0 h0 h3 (by omega) (Int.le_of_lt (Int.pow_pos (by decide)))
  rwa [show (0 : Int).toNat = 0 from rfl, e] at this
theorem step_s0 (hM : DOK who g M nl cnt) (_ : True) : Fun TC 85 5 [bx lanesS, bx (.i .i64 who), bx endS] (dirH g M nl f clk cnt)
    6 (.tup [cl who (Dir.step dirOps M .s0).2.1, rslS (Dir.step dirOps M .s0).2.2]) (dirN g (Dir.step dirOps M .s0).1 nl f clk cnt (accD who 1 0 (M.W 0) 0 true)) := by
  have q0 := hM.w0; have q1 := hM.w1; have q2 := hM.nl; have q3 := hM.c0; have q4 := hM.c1; have q5 := hM.g; have q6 := hM.d0; have q7 := hM.d1; have q8 := hM.hd
  have qr : (M.W 0).tmod 2 = M.W 0 % 2 := Int.tmod_eq_emod_of_nonneg q6
  refine Fun.mk' Tryz.func85 rfl rfl (Nat.le_of_ble_eq_true rfl) (by decide) ?_
  (repeat' (first
    | with_reducible refine Wp.seq ?_
    | with_reducible refine Wp.block ?_
    | ((with_reducible first | refine Wp.region ?_ | refine Wp.drawL TC_mixed ?_ | refine Wp.cond ?_ | refine Wp.ret ?_ | refine Wp.skip ?_ | refine Wp.exit ?_ | refine Go.mk ?_ | apply Eff1.of); conv => whnf)
    | with_reducible exact rfl
    | ((with_reducible refine Ov.ok zO ?_); conv => whnf)
    | (with_reducible refine Ov.sh1 (by with_unfolding_all exact rfl) ?_)
    | ((with_reducible refine Ov.quo (by omega) (by omega) (by omega) (fun _ _ => ?_)); conv => whnf)
    | ((with_reducible refine And.intro (show drawOK _ _ _ _ = true by kernel_rfl) ?_); conv => whnf)
    | ((with_reducible refine And.intro zC ?_); conv => whnf)
    | ((with_reducible refine And.intro ?hb ?_); (case hb => exact bytes_bd (Nat.le_of_ble_eq_true rfl) (by omega)); (conv => whnf))
    | ((refine DApp.a rfl rfl rfl rfl rfl rfl ?hb ?_); (case hb => exact zB); (conv => whnf))
    | ((refine DApp.b rfl rfl rfl rfl rfl rfl rfl rfl ?hb ?ho ?_); (case hb => exact zB); (case ho => omega); (conv => whnf))
    | ((refine DApp.c rfl rfl rfl rfl rfl ?hb ?_); (case hb => exact zB); (conv => whnf))
    | ((refine DApp.d rfl rfl rfl rfl rfl rfl ?hb ?ho ?_); (case hb => exact zB); (case ho => omega); (conv => whnf))
    | ((with_reducible refine nil_no (by omega) ?_); (conv => whnf))
    | ((with_reducible refine nil_any ?_ (fun hn0 => ?_)) <;> (conv => whnf))
    | ((refine CallStop.fn (board_Load nl M.W M.Hd f clk cnt who 0 q2 q3 q4 q0 q1 (by omega)) [1,2,3,4] rfl rfl rfl rfl rfl ?ha ?hh ?_); (case ha => exact zA); (case hh => exact zH); (conv => whnf))
    | ((refine DCall.fn (board_Load nl M.W M.Hd f clk cnt who 0 q2 q3 q4 q0 q1 (by omega)) [1,2,3,4] [1,2,3,4] rfl rfl rfl rfl rfl ?ha ?hh ?hs ?_); (case ha => exact zA); (case hh => exact zH); (case hs => exact zK); (conv => whnf)) | ((refine DCall.new (board_Load nl M.W M.Hd f clk cnt who 0 q2 q3 q4 q0 q1 (by omega)) [1,2,3,4] [1,2,3,4] rfl rfl rfl rfl rfl rfl ?ha ?hh ?hs ?_); (case ha => exact zA); (case hh => exact zH); (case hs => exact zK); (conv => whnf))
    | ((refine DCall.fn (board_Load nl M.W M.Hd f clk cnt who 0 q2 q3 q4 q0 q1 (by omega)) [1,2,3,4] [] rfl rfl rfl rfl rfl ?ha ?hh ?hs ?_); (case ha => exact zA); (case hh => exact zH); (case hs => exact zK); (conv => whnf)) | ((refine DCall.new (board_Load nl M.W M.Hd f clk cnt who 0 q2 q3 q4 q0 q1 (by omega)) [1,2,3,4] [] rfl rfl rfl rfl rfl rfl ?ha ?hh ?hs ?_); (case ha => exact zA); (case hh => exact zH); (case hs => exact zK); (conv => whnf))
    | (with_reducible refine CallStop.inline Tryz.func50 rfl rfl rfl (Nat.le_of_ble_eq_true rfl) ?_)
    | ((with_reducible refine DCall.funM (find_any _ _ _ _ (by exact SV.Lt.of rfl)) rfl rfl ?_); conv => whnf) | ((with_reducible refine DCall.funM (enter_any _ _ _ _ _ (by exact SV.Lt.of rfl)) rfl rfl ?_); conv => whnf) | ((with_reducible refine DCall.funM (freeze_any _ _ _ _ (by exact SV.Lt.of rfl)) rfl rfl ?_); conv => whnf) | ((with_reducible refine DCall.funM (half_any _ _ (by omega) _ _ _ _ (by exact SV.Lt.of rfl)) rfl rfl ?_); conv => whnf) | ((with_reducible refine DCall.funM (split_c _) rfl rfl ?_); conv => whnf) | ((with_reducible refine CallStop.funM (find_any _ _ _ _ (by exact SV.Lt.of rfl)) rfl rfl ?_); conv => whnf) | ((with_reducible refine CallStop.funM (enter_any _ _ _ _ _ (by exact SV.Lt.of rfl)) rfl rfl ?_); conv => whnf) | ((with_reducible refine CallStop.funM (freeze_any _ _ _ _ (by exact SV.Lt.of rfl)) rfl rfl ?_); conv => whnf) | ((with_reducible refine CallStop.funM (half_any _ _ (by omega) _ _ _ _ (by exact SV.Lt.of rfl)) rfl rfl ?_); conv => whnf) | ((with_reducible refine CallStop.funM (split_c _) rfl rfl ?_); conv => whnf)
    | ((with_reducible refine DCall.funM (move_0 who _ (by omega) (by omega)) rfl rfl ?_); conv => whnf)
    | (with_reducible refine Ov.tdivN (by omega) ?_)
    | ((refine ways (fun hc => ?_) (fun hc => ?_)) <;> (try simp only [decide_eq_true_eq, decide_eq_false_iff_not, Bool.and_eq_true, Bool.or_eq_true, Bool.and_eq_false_iff, Bool.or_eq_false_iff, Bool.not_eq_true', Bool.not_eq_false', beq_iff_eq, bne_iff_ne, ne_eq, beq_eq_false_iff_ne, bne_eq_false_iff_eq, Bool.not_eq_true, Bool.not_eq_false, qr] at hc) <;> (try (exfalso; omega)) <;> (conv => whnf))))
  · (rw [show Dir.step dirOps M .s0 = (M, .sF (M.W 0 / 2).toNat 0, Dir.r0) from (by simp only [Dir.step]; rw [if_pos (by assumption)])]; (refine FinLe.sealB [0,1,2,3,4,12] rfl rfl rfl ?_ ?_); (focus ((conv => whnf); (repeat' (first | exact zE | ((refine Seal.ptr rfl rfl ?_); (conv => whnf)) | ((refine Seal.fn ?_); (conv => whnf)) | ((refine Seal.agg ?_); (conv => whnf)) | ((refine Seal.tup ?_); (conv => whnf)) | ((refine Seal.iref ?_); (conv => whnf)) | ((refine And.intro ?_ ?_) <;> (conv => whnf)))))); (focus ((conv => whnf); (repeat' (first | exact zE | ((refine Seal.ptr rfl rfl ?_); (conv => whnf)) | ((refine Seal.fn ?_); (conv => whnf)) | ((refine Seal.agg ?_); (conv => whnf)) | ((refine Seal.tup ?_); (conv => whnf)) | ((refine Seal.iref ?_); (conv => whnf)) | ((refine And.intro ?_ ?_) <;> (conv => whnf)))); all_goals (intro i hi; refine DLes.of ?_; dsimp only; first | (rw [if_neg (by assumption)]; done) | (rw [if_pos (by assumption)]; rfl)))))
  · (rw [show Dir.step dirOps M .s0 = (M, .none, ⟨true, 5, 0⟩) from (by simp only [Dir.step]; rw [if_neg (by assumption), if_pos (by assumption)])]; (refine FinLe.sealB [0,1,2,3,4,12] rfl rfl rfl ?_ ?_); (focus ((conv => whnf); (repeat' (first | exact zE | ((refine Seal.ptr rfl rfl ?_); (conv => whnf)) | ((refine Seal.fn ?_); (conv => whnf)) | ((refine Seal.agg ?_); (conv => whnf)) | ((refine Seal.tup ?_); (conv => whnf)) | ((refine Seal.iref ?_); (conv => whnf)) | ((refine And.intro ?_ ?_) <;> (conv => whnf)))))); (focus ((conv => whnf); (repeat' (first | exact zE | ((refine Seal.ptr rfl rfl ?_); (conv => whnf)) | ((refine Seal.fn ?_); (conv => whnf)) | ((refine Seal.agg ?_); (conv => whnf)) | ((refine Seal.tup ?_); (conv => whnf)) | ((refine Seal.iref ?_); (conv => whnf)) | ((refine And.intro ?_ ?_) <;> (conv => whnf)))); all_goals (intro i hi; refine DLes.of ?_; dsimp only; first | (rw [if_neg (by assumption)]; done) | (rw [if_pos (by assumption)]; rfl)))))
  · (rw [show Dir.step dirOps M .s0 = (M, .sM (M.W 0 / 2).toNat, Dir.r0) from (by simp only [Dir.step]; rw [if_neg (by assumption), if_neg (by assumption)])]; (refine FinLe.sealB [0,1,2,3,4,12] rfl rfl rfl ?_ ?_); (focus ((conv => whnf); (repeat' (first | exact zE | ((refine Seal.ptr rfl rfl ?_); (conv => whnf)) | ((refine Seal.fn ?_); (conv => whnf)) | ((refine Seal.agg ?_); (conv => whnf)) | ((refine Seal.tup ?_); (conv => whnf)) | ((refine Seal.iref ?_); (conv => whnf)) | ((refine And.intro ?_ ?_) <;> (conv => whnf)))))); (focus ((conv => whnf); (repeat' (first | exact zE | ((refine Seal.ptr rfl rfl ?_); (conv => whnf)) | ((refine Seal.fn ?_); (conv => whnf)) | ((refine Seal.agg ?_); (conv => whnf)) | ((refine Seal.tup ?_); (conv => whnf)) | ((refine Seal.iref ?_); (conv => whnf)) | ((refine And.intro ?_ ?_) <;> (conv => whnf)))); all_goals (intro i hi; refine DLes.of ?_; dsimp only; first | (rw [if_neg (by assumption)]; done) | (rw [if_pos (by assumption)]; rfl)))))
theorem step_sM (hM : DOK who g M nl cnt) (lv : Nat) (hl : lv ≤ 3) : Fun TC 88 5 [bx lanesS, bx (.i .i64 who), bx (.i .u64 (2 * lv)), bx endS, res0, bx (.i .i64 lv)] (dirH g M nl f clk cnt)
    6 (.tup [cl who (Dir.step dirOps M (.sM lv)).2.1, rslS (Dir.step dirOps M (.sM lv)).2.2]) (dirN g (Dir.step dirOps M (.sM lv)).1 nl f clk cnt (accD who 2 0 (2 * lv) (2 * lv + 1) (decide (M.W 0 = 2 * lv)))) := by
  have q0 := hM.w0; have q1 := hM.w1; have q2 := hM.nl; have q3 := hM.c0; have q4 := hM.c1; have q5 := hM.g; have q6 := hM.d0; have q7 := hM.d1; have q8 := hM.hd
  have qr : (M.W 0).tmod 2 = M.W 0 % 2 := Int.tmod_eq_emod_of_nonneg q6
  have hM0 := move_0 who lv (by omega) (by omega)
  rw [Int.toNat_natCast] at hM0
  refine Fun.mk' Tryz.func88 rfl rfl (Nat.le_of_ble_eq_true rfl) (by decide) ?_
  (repeat' (first
    | with_reducible refine Wp.seq ?_
    | with_reducible refine Wp.block ?_
    | ((with_reducible first | refine Wp.region ?_ | refine Wp.drawL TC_mixed ?_ | refine Wp.cond ?_ | refine Wp.ret ?_ | refine Wp.skip ?_ | refine Wp.exit ?_ | refine Go.mk ?_ | apply Eff1.of); conv => whnf)
    | with_reducible exact rfl
    | ((with_reducible refine Ov.ok zO ?_); conv => whnf)
    | (with_reducible refine Ov.sh1 (by with_unfolding_all exact rfl) ?_)
    | ((with_reducible refine Ov.quo (by omega) (by omega) (by omega) (fun _ _ => ?_)); conv => whnf)
    | ((with_reducible refine And.intro (show drawOK _ _ _ _ = true by kernel_rfl) ?_); conv => whnf)
    | ((with_reducible refine And.intro zC ?_); conv => whnf)
    | ((with_reducible refine And.intro ?hb ?_); (case hb => exact bytes_bd (Nat.le_of_ble_eq_true rfl) (by omega)); (conv => whnf))
    | ((refine DApp.a rfl rfl rfl rfl rfl rfl ?hb ?_); (case hb => exact zB); (conv => whnf))
    | ((refine DApp.b rfl rfl rfl rfl rfl rfl rfl rfl ?hb ?ho ?_); (case hb => exact zB); (case ho => omega); (conv => whnf))
    | ((refine DApp.c rfl rfl rfl rfl rfl ?hb ?_); (case hb => exact zB); (conv => whnf))
    | ((refine DApp.d rfl rfl rfl rfl rfl rfl ?hb ?ho ?_); (case hb => exact zB); (case ho => omega); (conv => whnf))
    | ((with_reducible refine nil_no (by omega) ?_); (conv => whnf))
    | ((with_reducible refine nil_any ?_ (fun hn0 => ?_)) <;> (conv => whnf))
    | ((refine CallStop.fn (board_Swap nl M.W M.Hd f clk cnt who (2 * lv) (2 * lv + 1) 0 [] q2 q3 q4 q0 q1 (by omega)) [1,2,3,4] rfl rfl rfl rfl rfl ?ha ?hh ?_); (case ha => exact zA); (case hh => exact zH); (conv => whnf))
    | ((refine DCall.fn (board_Swap nl M.W M.Hd f clk cnt who (2 * lv) (2 * lv + 1) 0 [] q2 q3 q4 q0 q1 (by omega)) [1,2,3,4] [1,2,3,4] rfl rfl rfl rfl rfl ?ha ?hh ?hs ?_); (case ha => exact zA); (case hh => exact zH); (case hs => exact zK); (conv => whnf)) | ((refine DCall.new (board_Swap nl M.W M.Hd f clk cnt who (2 * lv) (2 * lv + 1) 0 [] q2 q3 q4 q0 q1 (by omega)) [1,2,3,4] [1,2,3,4] rfl rfl rfl rfl rfl rfl ?ha ?hh ?hs ?_); (case ha => exact zA); (case hh => exact zH); (case hs => exact zK); (conv => whnf))
    | ((refine DCall.fn (board_Swap nl M.W M.Hd f clk cnt who (2 * lv) (2 * lv + 1) 0 [] q2 q3 q4 q0 q1 (by omega)) [1,2,3,4] [] rfl rfl rfl rfl rfl ?ha ?hh ?hs ?_); (case ha => exact zA); (case hh => exact zH); (case hs => exact zK); (conv => whnf)) | ((refine DCall.new (board_Swap nl M.W M.Hd f clk cnt who (2 * lv) (2 * lv + 1) 0 [] q2 q3 q4 q0 q1 (by omega)) [1,2,3,4] [] rfl rfl rfl rfl rfl rfl ?ha ?hh ?hs ?_); (case ha => exact zA); (case hh => exact zH); (case hs => exact zK); (conv => whnf))
    | ((with_reducible refine DCall.funM (find_any _ _ _ _ (by exact SV.Lt.of rfl)) rfl rfl ?_); conv => whnf) | ((with_reducible refine DCall.funM (enter_any _ _ _ _ _ (by exact SV.Lt.of rfl)) rfl rfl ?_); conv => whnf) | ((with_reducible refine DCall.funM (freeze_any _ _ _ _ (by exact SV.Lt.of rfl)) rfl rfl ?_); conv => whnf) | ((with_reducible refine DCall.funM (half_any _ _ (by omega) _ _ _ _ (by exact SV.Lt.of rfl)) rfl rfl ?_); conv => whnf) | ((with_reducible refine DCall.funM (split_c _) rfl rfl ?_); conv => whnf) | ((with_reducible refine CallStop.funM (find_any _ _ _ _ (by exact SV.Lt.of rfl)) rfl rfl ?_); conv => whnf) | ((with_reducible refine CallStop.funM (enter_any _ _ _ _ _ (by exact SV.Lt.of rfl)) rfl rfl ?_); conv => whnf) | ((with_reducible refine CallStop.funM (freeze_any _ _ _ _ (by exact SV.Lt.of rfl)) rfl rfl ?_); conv => whnf) | ((with_reducible refine CallStop.funM (half_any _ _ (by omega) _ _ _ _ (by exact SV.Lt.of rfl)) rfl rfl ?_); conv => whnf) | ((with_reducible refine CallStop.funM (split_c _) rfl rfl ?_); conv => whnf)
    | ((with_reducible refine DCall.funM hM0 rfl rfl ?_); conv => whnf)
    | ((refine ways (fun hc => ?_) (fun hc => ?_)) <;> (try simp only [decide_eq_true_eq, decide_eq_false_iff_not, Bool.and_eq_true, Bool.or_eq_true, Bool.and_eq_false_iff, Bool.or_eq_false_iff, Bool.not_eq_true', Bool.not_eq_false', beq_iff_eq, bne_iff_ne, ne_eq, beq_eq_false_iff_ne, bne_eq_false_iff_eq, Bool.not_eq_true, Bool.not_eq_false] at hc) <;> (try (exfalso; omega)) <;> (conv => whnf))))
  · (rw [show Dir.step dirOps M (.sM lv) = (M, .s0, Dir.r0) from (by simp only [Dir.step]; rw [if_neg (by assumption)])]; (refine FinLe.sealB [0,1,2,3,4,15] rfl rfl rfl ?_ ?_); (focus ((conv => whnf); (repeat' (first | exact zE | ((refine Seal.ptr rfl rfl ?_); (conv => whnf)) | ((refine Seal.fn ?_); (conv => whnf)) | ((refine Seal.agg ?_); (conv => whnf)) | ((refine Seal.tup ?_); (conv => whnf)) | ((refine Seal.iref ?_); (conv => whnf)) | ((refine And.intro ?_ ?_) <;> (conv => whnf)))))); (focus ((conv => whnf); (repeat' (first | exact zE | ((refine Seal.ptr rfl rfl ?_); (conv => whnf)) | ((refine Seal.fn ?_); (conv => whnf)) | ((refine Seal.agg ?_); (conv => whnf)) | ((refine Seal.tup ?_); (conv => whnf)) | ((refine Seal.iref ?_); (conv => whnf)) | ((refine And.intro ?_ ?_) <;> (conv => whnf)))); all_goals (intro i hi; refine DLes.of ?_; dsimp only; first | (rw [if_neg (by assumption)]; done) | (rw [if_pos (by assumption)]; rfl)))))
  · (rw [show Dir.step dirOps M (.sM lv) = (M.set 0 (2 * lv + 1) [], .sF lv 0, Dir.r0) from (by simp only [Dir.step]; rw [if_pos (by assumption)])]; (refine FinLe.sealB [0,1,2,3,4,15] rfl rfl rfl ?_ ?_); (focus ((conv => whnf); (repeat' (first | exact zE | ((refine Seal.ptr rfl rfl ?_); (conv => whnf)) | ((refine Seal.fn ?_); (conv => whnf)) | ((refine Seal.agg ?_); (conv => whnf)) | ((refine Seal.tup ?_); (conv => whnf)) | ((refine Seal.iref ?_); (conv => whnf)) | ((refine And.intro ?_ ?_) <;> (conv => whnf)))))); (focus ((conv => whnf); (repeat' (first | exact zE | ((refine Seal.ptr rfl rfl ?_); (conv => whnf)) | ((refine Seal.fn ?_); (conv => whnf)) | ((refine Seal.agg ?_); (conv => whnf)) | ((refine Seal.tup ?_); (conv => whnf)) | ((refine Seal.iref ?_); (conv => whnf)) | ((refine And.intro ?_ ?_) <;> (conv => whnf)))); all_goals (intro i hi; refine DLes.of ?_; dsimp only; first | (rw [if_neg (by assumption)]; done) | (rw [if_pos (by assumption)]; rfl)))))
theorem step_sV (hM : DOK who g M nl cnt) (lv : Nat) (hl : lv ≤ 3) : Fun TC 124 5 [bx lanesS, bx (.i .i64 who), bx (.i .i64 lv), bx endS] (dirH g M nl f clk cnt)
    6 (.tup [cl who (Dir.step dirOps M (.sV lv)).2.1, rslS (Dir.step dirOps M (.sV lv)).2.2]) (dirN g (Dir.step dirOps M (.sV lv)).1 nl f clk cnt (accD who 2 0 (2 * lv + 1) (2 * lv + 2) (decide (M.W 0 = 2 * lv + 1)))) := by
  have q0 := hM.w0; have q1 := hM.w1; have q2 := hM.nl; have q3 := hM.c0; have q4 := hM.c1; have q5 := hM.g; have q6 := hM.d0; have q7 := hM.d1; have q8 := hM.hd
  have qr : (M.W 0).tmod 2 = M.W 0 % 2 := Int.tmod_eq_emod_of_nonneg q6
  refine Fun.mk' Tryz.func124 rfl rfl (Nat.le_of_ble_eq_true rfl) (by decide) ?_
  (repeat' (first
    | with_reducible refine Wp.seq ?_
    | with_reducible refine Wp.block ?_
    | ((with_reducible first | refine Wp.region ?_ | refine Wp.drawL TC_mixed ?_ | refine Wp.cond ?_ | refine Wp.ret ?_ | refine Wp.skip ?_ | refine Wp.exit ?_ | refine Go.mk ?_ | apply Eff1.of); conv => whnf)
    | with_reducible exact rfl
    | ((with_reducible refine Ov.ok zO ?_); conv => whnf)
    | (with_reducible refine Ov.sh1 (by with_unfolding_all exact rfl) ?_)
    | ((with_reducible refine Ov.quo (by omega) (by omega) (by omega) (fun _ _ => ?_)); conv => whnf)
    | ((with_reducible refine And.intro (show drawOK _ _ _ _ = true by kernel_rfl) ?_); conv => whnf)
    | ((with_reducible refine And.intro zC ?_); conv => whnf)
    | ((with_reducible refine And.intro ?hb ?_); (case hb => exact bytes_bd (Nat.le_of_ble_eq_true rfl) (by omega)); (conv => whnf))
    | ((refine DApp.a rfl rfl rfl rfl rfl rfl ?hb ?_); (case hb => exact zB); (conv => whnf))
    | ((refine DApp.b rfl rfl rfl rfl rfl rfl rfl rfl ?hb ?ho ?_); (case hb => exact zB); (case ho => omega); (conv => whnf))
    | ((refine DApp.c rfl rfl rfl rfl rfl ?hb ?_); (case hb => exact zB); (conv => whnf))
    | ((refine DApp.d rfl rfl rfl rfl rfl rfl ?hb ?ho ?_); (case hb => exact zB); (case ho => omega); (conv => whnf))
    | ((with_reducible refine nil_no (by omega) ?_); (conv => whnf))
    | ((with_reducible refine nil_any ?_ (fun hn0 => ?_)) <;> (conv => whnf))
    | ((refine CallStop.fn (board_Swap nl M.W M.Hd f clk cnt who (2 * lv + 1) (2 * lv + 2) 0 [] q2 q3 q4 q0 q1 (by omega)) [1,2,3,4] rfl rfl rfl rfl rfl ?ha ?hh ?_); (case ha => exact zA); (case hh => exact zH); (conv => whnf))
    | ((refine DCall.fn (board_Swap nl M.W M.Hd f clk cnt who (2 * lv + 1) (2 * lv + 2) 0 [] q2 q3 q4 q0 q1 (by omega)) [1,2,3,4] [1,2,3,4] rfl rfl rfl rfl rfl ?ha ?hh ?hs ?_); (case ha => exact zA); (case hh => exact zH); (case hs => exact zK); (conv => whnf)) | ((refine DCall.new (board_Swap nl M.W M.Hd f clk cnt who (2 * lv + 1) (2 * lv + 2) 0 [] q2 q3 q4 q0 q1 (by omega)) [1,2,3,4] [1,2,3,4] rfl rfl rfl rfl rfl rfl ?ha ?hh ?hs ?_); (case ha => exact zA); (case hh => exact zH); (case hs => exact zK); (conv => whnf))
    | ((refine DCall.fn (board_Swap nl M.W M.Hd f clk cnt who (2 * lv + 1) (2 * lv + 2) 0 [] q2 q3 q4 q0 q1 (by omega)) [1,2,3,4] [] rfl rfl rfl rfl rfl ?ha ?hh ?hs ?_); (case ha => exact zA); (case hh => exact zH); (case hs => exact zK); (conv => whnf)) | ((refine DCall.new (board_Swap nl M.W M.Hd f clk cnt who (2 * lv + 1) (2 * lv + 2) 0 [] q2 q3 q4 q0 q1 (by omega)) [1,2,3,4] [] rfl rfl rfl rfl rfl rfl ?ha ?hh ?hs ?_); (case ha => exact zA); (case hh => exact zH); (case hs => exact zK); (conv => whnf))
    | (with_reducible refine CallStop.inline Tryz.func50 rfl rfl rfl (Nat.le_of_ble_eq_true rfl) ?_)
    | ((with_reducible refine DCall.funM (find_any _ _ _ _ (by exact SV.Lt.of rfl)) rfl rfl ?_); conv => whnf) | ((with_reducible refine DCall.funM (enter_any _ _ _ _ _ (by exact SV.Lt.of rfl)) rfl rfl ?_); conv => whnf) | ((with_reducible refine DCall.funM (freeze_any _ _ _ _ (by exact SV.Lt.of rfl)) rfl rfl ?_); conv => whnf) | ((with_reducible refine DCall.funM (half_any _ _ (by omega) _ _ _ _ (by exact SV.Lt.of rfl)) rfl rfl ?_); conv => whnf) | ((with_reducible refine DCall.funM (split_c _) rfl rfl ?_); conv => whnf) | ((with_reducible refine CallStop.funM (find_any _ _ _ _ (by exact SV.Lt.of rfl)) rfl rfl ?_); conv => whnf) | ((with_reducible refine CallStop.funM (enter_any _ _ _ _ _ (by exact SV.Lt.of rfl)) rfl rfl ?_); conv => whnf) | ((with_reducible refine CallStop.funM (freeze_any _ _ _ _ (by exact SV.Lt.of rfl)) rfl rfl ?_); conv => whnf) | ((with_reducible refine CallStop.funM (half_any _ _ (by omega) _ _ _ _ (by exact SV.Lt.of rfl)) rfl rfl ?_); conv => whnf) | ((with_reducible refine CallStop.funM (split_c _) rfl rfl ?_); conv => whnf)
    | ((refine ways (fun hc => ?_) (fun hc => ?_)) <;> (try simp only [decide_eq_true_eq, decide_eq_false_iff_not, Bool.and_eq_true, Bool.or_eq_true, Bool.and_eq_false_iff, Bool.or_eq_false_iff, Bool.not_eq_true', Bool.not_eq_false', beq_iff_eq, bne_iff_ne, ne_eq, beq_eq_false_iff_ne, bne_eq_false_iff_eq, Bool.not_eq_true, Bool.not_eq_false] at hc) <;> (try (exfalso; omega)) <;> (conv => whnf))))
  by_cases hm : M.W 0 = 2 * lv + 1
  · (rw [show Dir.step dirOps M (.sV lv) = (M.set 0 (2 * lv + 2) [], .none, ⟨true, 0, 0⟩) from (by simp only [Dir.step]; rw [if_pos hm])]; (refine FinLe.sealB [0,1,2,3,4,20] rfl rfl rfl ?_ ?_); (focus ((conv => whnf); (repeat' (first | exact zE | ((refine Seal.ptr rfl rfl ?_); (conv => whnf)) | ((refine Seal.fn ?_); (conv => whnf)) | ((refine Seal.agg ?_); (conv => whnf)) | ((refine Seal.tup ?_); (conv => whnf)) | ((refine Seal.iref ?_); (conv => whnf)) | ((refine And.intro ?_ ?_) <;> (conv => whnf)))))); (focus ((conv => whnf); (repeat' (first | exact zE | ((refine Seal.ptr rfl rfl ?_); (conv => whnf)) | ((refine Seal.fn ?_); (conv => whnf)) | ((refine Seal.agg ?_); (conv => whnf)) | ((refine Seal.tup ?_); (conv => whnf)) | ((refine Seal.iref ?_); (conv => whnf)) | ((refine And.intro ?_ ?_) <;> (conv => whnf)))); all_goals (intro i hi; refine DLes.of ?_; dsimp only; first | (rw [if_neg (by assumption)]; done) | (rw [if_pos (by assumption)]; rfl)))))
  · (rw [show Dir.step dirOps M (.sV lv) = (M, .none, ⟨true, 0, 0⟩) from (by simp only [Dir.step]; rw [if_neg hm])]; (refine FinLe.sealB [0,1,2,3,4,20] rfl rfl rfl ?_ ?_); (focus ((conv => whnf); (repeat' (first | exact zE | ((refine Seal.ptr rfl rfl ?_); (conv => whnf)) | ((refine Seal.fn ?_); (conv => whnf)) | ((refine Seal.agg ?_); (conv => whnf)) | ((refine Seal.tup ?_); (conv => whnf)) | ((refine Seal.iref ?_); (conv => whnf)) | ((refine And.intro ?_ ?_) <;> (conv => whnf)))))); (focus ((conv => whnf); (repeat' (first | exact zE | ((refine Seal.ptr rfl rfl ?_); (conv => whnf)) | ((refine Seal.fn ?_); (conv => whnf)) | ((refine Seal.agg ?_); (conv => whnf)) | ((refine Seal.tup ?_); (conv => whnf)) | ((refine Seal.iref ?_); (conv => whnf)) | ((refine And.intro ?_ ?_) <;> (conv => whnf)))); all_goals (intro i hi; refine DLes.of ?_; dsimp only; first | (rw [if_neg (by assumption)]; done) | (rw [if_pos (by assumption)]; rfl)))))
end Go.Proofs.YtbdclkjelhlfbaaGreat

namespace Go.Proofs.YtbdclkjelhlfbaaGreat
open Go.RowKit
theorem SV.Lt.mono {m n : Nat} (hmn : m ≤ n) {x : SV} (h : SV.Lt m x) : SV.Lt n x := by
  induction h with
  | any => exact .any
  | d x => exact .d x
  | ptr l o h => exact .ptr l o (by omega)
  | rp l e i o h => exact .rp l e i o (by omega)
  | sl l e i o h => exact .sl l e i o (by omega)
  | agg vs _ ih => exact .agg vs ih
  | tup vs _ ih => exact .tup vs ih
  | fn f vs _ ih => exact .fn f vs ih
  | iref vs o _ ih => exact .iref vs o ih
mutual
def memX (l : Nat) : SV → Bool
  | .ptr m _ => Nat.beq m l
  | .rp m _ _ _ => Nat.beq m l
  | .sl m _ _ _ => Nat.beq m l
  | .d _ => false
  | .any => false
  | .agg vs => memXL l vs
  | .tup vs => memXL l vs
  | .fn _ _ => false
  | .iref vs _ => memXL l vs
def memXL (l : Nat) : List SV → Bool
  | [] => false
  | x :: r => memX l x || memXL l r
end
mutual
def fnOK (n : Nat) : SV → Prop
  | .fn f vs => SV.Lt n (.fn f vs)
  | .agg vs => fnOKL n vs
  | .tup vs => fnOKL n vs
  | .iref vs _ => fnOKL n vs
  | _ => True
def fnOKL (n : Nat) : List SV → Prop
  | [] => True
  | x :: r => fnOK n x ∧ fnOKL n r
end
mutual
theorem memB_lt {n l : Nat} (hl : n ≤ l) : ∀ {x : SV}, SV.Lt n x → memB l x = false
  | .any, _ => by unfold memB; rfl
  | .d _, _ => by unfold memB; rfl
  | .ptr _ _, h => by cases h with | ptr _ _ h => unfold memB; cases e : Nat.beq _ l with | false => rfl | true => have := Nat.eq_of_beq_eq_true e; omega
  | .rp _ _ _ _, h => by cases h with | rp _ _ _ _ h => unfold memB; cases e : Nat.beq _ l with | false => rfl | true => have := Nat.eq_of_beq_eq_true e; omega
  | .sl _ _ _ _, h => by cases h with | sl _ _ _ _ h => unfold memB; cases e : Nat.beq _ l with | false => rfl | true => have := Nat.eq_of_beq_eq_true e; omega
  | .agg vs, h => by cases h with | agg _ h => unfold memB; exact memBL_lt hl h
  | .tup vs, h => by cases h with | tup _ h => unfold memB; exact memBL_lt hl h
  | .fn _ vs, h => by cases h with | fn _ _ h => unfold memB; exact memBL_lt hl h
  | .iref vs _, h => by cases h with | iref _ _ h => unfold memB; exact memBL_lt hl h
theorem memBL_lt {n l : Nat} (hl : n ≤ l) : ∀ {xs : List SV}, (∀ x ∈ xs, SV.Lt n x) → memBL l xs = false
  | [], _ => by unfold memBL; rfl
  | x :: r, h => by
    have h1 : memB l x = false := memB_lt hl (h x (by simp))
    have h2 : memBL l r = false := memBL_lt hl (fun y hy => h y (by simp [hy]))
    unfold memBL; rw [h1, h2]; rfl
end
mutual
theorem memX_ok {n l : Nat} (hl : n ≤ l) : ∀ {x : SV}, fnOK n x → memX l x = false → memB l x = false
  | .any, _, h => by unfold memB; rfl
  | .d _, _, h => by unfold memB; rfl
  | .ptr _ _, _, h => by unfold memX at h; unfold memB; exact h
  | .rp _ _ _ _, _, h => by unfold memX at h; unfold memB; exact h
  | .sl _ _ _ _, _, h => by unfold memX at h; unfold memB; exact h
  | .agg vs, hf, h => by unfold memX at h; unfold fnOK at hf; unfold memB; exact memXL_ok hl hf h
  | .tup vs, hf, h => by unfold memX at h; unfold fnOK at hf; unfold memB; exact memXL_ok hl hf h
  | .fn _ vs, hf, h => by unfold fnOK at hf; exact memB_lt hl hf
  | .iref vs _, hf, h => by unfold memX at h; unfold fnOK at hf; unfold memB; exact memXL_ok hl hf h
theorem memXL_ok {n l : Nat} (hl : n ≤ l) : ∀ {xs : List SV}, fnOKL n xs → memXL l xs = false → memBL l xs = false
  | [], _, _ => by unfold memBL; rfl
  | x :: r, hf, h => by
    unfold fnOKL at hf; unfold memXL at h
    rw [Bool.or_eq_false_iff] at h
    have h1 : memB l x = false := memX_ok hl hf.1 h.1
    have h2 : memBL l r = false := memXL_ok hl hf.2 h.2
    unfold memBL; rw [h1, h2]; rfl
end
def fnOKB (n : Nat) : Option Blk → Prop
  | some (.cells cs) => fnOKL n cs
  | _ => True
def memOX (l : Nat) : Option Blk → Bool
  | some (.cells cs) => memXL l cs
  | some (.cf m _ _) => Nat.blt l m
  | _ => false
theorem memBL_any (l : Nat) : ∀ (cs : List SV), cs.any (mem1 l) = memBL l cs
  | [] => by unfold memBL; rfl
  | x :: r => by unfold memBL; rw [List.any_cons, memBL_any l r]
theorem memOX_ok {n l : Nat} (hl : n ≤ l) {b : Option Blk} (hf : fnOKB n b) (h : memOX l b = false) : memO l b = false := by
  cases b with
  | none => rfl
  | some b =>
    cases b with
    | cells cs => show cs.any (mem1 l) = false; rw [memBL_any]; exact memXL_ok hl hf h
    | row _ _ _ _ => rfl
    | cf m _ _ => exact h
def chkPairN (pre : List Nat) (ops : List Oper) (n0 i j : Nat) (labs : List Nat) (p q : Pt) : Bool :=
  (match p.1.dst, q.1.dst with | some a, some b => !Nat.beq a b | _, _ => true) &&
  (p.2.ed.all (fun x => q.2.ed.all fun y => !Nat.beq x.1 y.1) || ordB pre i j) &&
  ((match q.1.dst with | some d => (looks ops p.1).all fun t => !Nat.beq d t | none => true) || ordB pre i j) &&
  ((labs.all (fun l => q.2.ed.all fun y => !Nat.beq y.1 l) && p.2.rd.all (fun l => q.2.ed.all fun y => !Nat.beq y.1 l)) || ordB pre i j) &&
  (!isAlloc p.1.op || (!memX (n0 + i) q.2.val && q.2.ed.all (fun y => !Nat.beq y.1 (n0 + i) && !memOX (n0 + i) y.2)) || (Nat.blt i j && ordB pre i j))
def chkRowN (pre : List Nat) (ops : List Oper) (n0 i : Nat) (labs : List Nat) (p : Pt) : List Pt → Nat → Bool
  | [], _ => true
  | q :: r, j => (Nat.beq i j || chkPairN pre ops n0 i j labs p q) && chkRowN pre ops n0 i labs p r (j + 1)
def chkAllN (pre : List Nat) (ops : List Oper) (n0 : Nat) (all : List Pt) (S0 : St) : List Pt → Nat → St → Bool
  | [], _, _ => true
  | p :: r, i, S => chkRowN pre ops n0 i (labsOf S p.1.op) p all 0 && (!isAlloc p.1.op || (S0.fr.all (fun x => !memX (n0 + i) x.2) && S0.hp.all (fun x => !Nat.beq x.1 (n0 + i) && !memOX (n0 + i) x.2))) &&
      (p.1.after.toList.all fun e => !Region.binds .any e || Nat.blt e.on i) && (match p.1.dst with | some n => Nat.blt n S0.nt.n | none => true) && chkAllN pre ops n0 all S0 r (i + 1) (S.step p.1.dst p.2)
def drawN (ops : List Oper) (efs : List Ef) (n0 : Nat) (S0 : St) : Bool := chkAllN (predsG ops []) ops n0 (ops.zip efs) S0 (ops.zip efs) 0 S0
def fnOKH (n : Nat) : List (Nat × Option Blk) → Prop
  | [] => True
  | x :: r => fnOKB n x.2 ∧ fnOKH n r
def fnOKF (n : Nat) : List (Nat × SV) → Prop
  | [] => True
  | x :: r => fnOK n x.2 ∧ fnOKF n r
def fnOKE (n : Nat) : List Ef → Prop
  | [] => True
  | x :: r => fnOK n x.val ∧ fnOKH n x.ed ∧ fnOKE n r
theorem fnOKH_at {n : Nat} : ∀ {l : List (Nat × Option Blk)}, fnOKH n l → ∀ x ∈ l, fnOKB n x.2
  | [], _, x, hx => by simp at hx
  | y :: r, h, x, hx => by
    unfold fnOKH at h
    rcases List.mem_cons.1 hx with rfl | hx
    · exact h.1
    · exact fnOKH_at h.2 x hx
theorem fnOKF_at {n : Nat} : ∀ {l : List (Nat × SV)}, fnOKF n l → ∀ x ∈ l, fnOK n x.2
  | [], _, x, hx => by simp at hx
  | y :: r, h, x, hx => by
    unfold fnOKF at h
    rcases List.mem_cons.1 hx with rfl | hx
    · exact h.1
    · exact fnOKF_at h.2 x hx
theorem fnOKE_at {n : Nat} : ∀ {l : List Ef}, fnOKE n l → ∀ x ∈ l, fnOK n x.val ∧ fnOKH n x.ed
  | [], _, x, hx => by simp at hx
  | y :: r, h, x, hx => by
    unfold fnOKE at h
    rcases List.mem_cons.1 hx with rfl | hx
    · exact ⟨h.1, h.2.1⟩
    · exact fnOKE_at h.2.2 x hx
theorem edN_ok {n l : Nat} (hl : n ≤ l) {ed : List (Nat × Option Blk)} (hf : fnOKH n ed) (h : ed.all (fun y => !Nat.beq y.1 l && !memOX l y.2) = true) : ed.all (fun y => !Nat.beq y.1 l && !memO l y.2) = true := by
  rw [List.all_eq_true] at h ⊢
  intro y hy
  have := h y hy
  rw [Bool.and_eq_true] at this ⊢
  refine ⟨this.1, ?_⟩
  have h2 := this.2
  rw [Bool.not_eq_true'] at h2 ⊢
  exact memOX_ok hl (fnOKH_at hf y hy) h2
theorem chkPairN_ok {pre : List Nat} {ops : List Oper} {n0 i j : Nat} {labs : List Nat} {p q : Pt} (hv : fnOK n0 q.2.val) (he : fnOKH n0 q.2.ed) (h : chkPairN pre ops n0 i j labs p q = true) : chkPair pre ops n0 i j labs p q = true := by
  unfold chkPairN at h; unfold chkPair
  rw [Bool.and_eq_true] at h ⊢
  refine ⟨h.1, ?_⟩
  have h := h.2
  rw [Bool.or_eq_true, Bool.or_eq_true, Bool.and_eq_true] at h ⊢
  rcases h with (h | h) | h
  · exact .inl (.inl h)
  · refine .inl (.inr ⟨?_, edN_ok (by omega) he h.2⟩)
    have h1 := h.1
    rw [Bool.not_eq_true'] at h1 ⊢
    exact memX_ok (by omega) hv h1
  · exact .inr h
theorem chkRowN_ok {pre : List Nat} {ops : List Oper} {n0 i : Nat} {labs : List Nat} {p : Pt} : ∀ (l : List Pt) (k : Nat), (∀ q ∈ l, fnOK n0 q.2.val ∧ fnOKH n0 q.2.ed) → chkRowN pre ops n0 i labs p l k = true → chkRow pre ops n0 i labs p l k = true
  | [], _, _, _ => by unfold chkRow; rfl
  | q :: r, k, hf, h => by
    unfold chkRowN at h; unfold chkRow
    rw [Bool.and_eq_true, Bool.or_eq_true] at h ⊢
    refine ⟨?_, chkRowN_ok r (k + 1) (fun q hq => hf q (List.mem_cons_of_mem _ hq)) h.2⟩
    rcases h.1 with h1 | h1
    · exact .inl h1
    · exact .inr (chkPairN_ok (hf q (List.mem_cons_self ..)).1 (hf q (List.mem_cons_self ..)).2 h1)
theorem chkAllN_ok {pre : List Nat} {ops : List Oper} {n0 : Nat} {all : List Pt} {S0 : St} (ha : ∀ q ∈ all, fnOK n0 q.2.val ∧ fnOKH n0 q.2.ed) (hF : fnOKF n0 S0.fr) (hH : fnOKH n0 S0.hp) :
    ∀ (l : List Pt) (i : Nat) (S : St), chkAllN pre ops n0 all S0 l i S = true → chkAll pre ops n0 all S0 l i S = true
  | [], _, _, _ => by unfold chkAll; rfl
  | p :: r, i, S, h => by
    unfold chkAllN at h; unfold chkAll
    rw [Bool.and_eq_true, Bool.and_eq_true, Bool.and_eq_true, Bool.and_eq_true] at h ⊢
    obtain ⟨⟨⟨⟨h1, h2⟩, h3⟩, h4⟩, h5⟩ := h
    refine ⟨⟨⟨⟨chkRowN_ok all 0 ha h1, ?_⟩, h3⟩, h4⟩, chkAllN_ok ha hF hH r (i + 1) _ h5⟩
    rw [Bool.or_eq_true, Bool.and_eq_true] at h2 ⊢
    rcases h2 with h2 | h2
    · exact .inl h2
    · refine .inr ⟨?_, edN_ok (by omega) hH h2.2⟩
      have h6 := h2.1
      rw [List.all_eq_true] at h6 ⊢
      intro x hx
      have h7 := h6 x hx
      rw [Bool.not_eq_true'] at h7 ⊢
      exact memX_ok (by omega) (fnOKF_at hF x hx) h7
theorem drawN_ok {ops : List Oper} {efs : List Ef} {n0 : Nat} {S0 : St} (h : drawN ops efs n0 S0 = true) (hE : fnOKE n0 efs) (hF : fnOKF n0 S0.fr) (hH : fnOKH n0 S0.hp) : drawOK ops efs n0 S0 = true := by
  refine chkAllN_ok (fun q hq => ?_) hF hH _ 0 S0 h
  exact fnOKE_at hE q.2 (List.of_mem_zip hq).2
end Go.Proofs.YtbdclkjelhlfbaaGreat

namespace Go.Proofs.YtbdclkjelhlfbaaGreat
open Go.RowKit
set_option maxRecDepth 100000
def okC : Dir.CS → Prop
  | .kE c w => w < 32 ∧ IsB c.key
  | .kF c lv w => lv ≤ 3 ∧ w < 32
  | .kG c lv w v h => (lv ≤ 3 ∧ w < 32) ∧ 0 ≤ v ∧ v < 4611686018427387904
  | .kH c lv w h => w < 32 ∧ IsB c.key
  | .kL c lv w h => (lv ≤ 4 ∧ 2 ^ lv ≤ w ∧ w < 32) ∧ HOK h
  | .kS c w v m n => w < 32 ∧ 0 ≤ v ∧ v < 4611686018427387904
  | .sM lv => lv ≤ 3
  | .sF lv i => lv ≤ 3 ∧ i < 2 ^ lv
  | .sG lv i v h => (lv ≤ 3 ∧ i < 2 ^ lv) ∧ 0 ≤ v ∧ v < 4611686018427387904
  | .sH lv i up h => lv ≤ 3 ∧ i < 2 ^ lv
  | .sL lv i up h => (lv ≤ 3 ∧ i < 2 ^ lv) ∧ HOK h
  | .sV lv => lv ≤ 3
  | _ => True
theorem step_all {who : Int} {g : Nat → SV} {M : Dir.Mc} {nl : Nat} {f : Nat → List D} {clk cnt : Int} (hM : DOK who g M nl cnt) {s : Dir.CS} (hn : s ≠ .none) (hs : okC s) :
    ∃ n caps a, cl who s = .fn (.func n) caps ∧ Fun TC n 5 caps (dirH g M nl f clk cnt) 6 (.tup [cl who (Dir.step dirOps M s).2.1, rslS (Dir.step dirOps M s).2.2]) (dirN g (Dir.step dirOps M s).1 nl f clk cnt a) := by
  cases s with
  | none => exact absurd rfl hn
  | k0 c => exact ⟨_, _, _, rfl, step_k0 hM c⟩
  | kE c w => exact ⟨_, _, _, rfl, step_kE hM c w hs.1 hs.2⟩
  | kF c lv w => exact ⟨_, _, _, rfl, step_kF hM c lv w hs.1 hs.2⟩
  | kG c lv w v h => exact ⟨_, _, _, rfl, step_kG hM c lv w v h hs.1.1 hs.1.2 hs.2.1 hs.2.2⟩
  | kH c lv w h => exact ⟨_, _, _, rfl, step_kH hM c lv w h hs.1 hs.2⟩
  | kL c lv w h => exact ⟨_, _, _, rfl, step_kL hM c lv w h hs.1.1 hs.1.2.1 hs.1.2.2 hs.2⟩
  | kS c w v m n => exact ⟨_, _, _, rfl, step_kS hM c w v m n hs.1 hs.2.1 hs.2.2⟩
  | s0 => exact ⟨_, _, _, rfl, step_s0 hM trivial⟩
  | sM lv => exact ⟨_, _, _, rfl, step_sM hM lv hs⟩
  | sF lv i => exact ⟨_, _, _, rfl, step_sF hM lv i hs.1 hs.2⟩
  | sG lv i v h => exact ⟨_, _, _, rfl, step_sG hM lv i v h hs.1.1 hs.1.2 hs.2.1 hs.2.2⟩
  | sH lv i up h => exact ⟨_, _, _, rfl, step_sH hM lv i up h hs.1 hs.2⟩
  | sL lv i up h => exact ⟨_, _, _, rfl, step_sL hM lv i up h hs.1.1 hs.1.2 hs.2⟩
  | sV lv => exact ⟨_, _, _, rfl, step_sV hM lv hs⟩
mutual
theorem ren_id {π : Nat → Nat} {m : Nat} (hπ : ∀ l, l < m → π l = l) : ∀ {x : SV}, SV.Lt m x → SV.ren π x = x
  | .any, _ => by unfold SV.ren; rfl
  | .d _, _ => by unfold SV.ren; rfl
  | .ptr _ _, h => by cases h with | ptr _ _ h => unfold SV.ren; rw [hπ _ h]
  | .rp _ _ _ _, h => by cases h with | rp _ _ _ _ h => unfold SV.ren; rw [hπ _ h]
  | .sl _ _ _ _, h => by cases h with | sl _ _ _ _ h => unfold SV.ren; rw [hπ _ h]
  | .agg vs, h => by cases h with | agg _ h => unfold SV.ren; rw [renL_id hπ h]
  | .tup vs, h => by cases h with | tup _ h => unfold SV.ren; rw [renL_id hπ h]
  | .fn _ vs, h => by cases h with | fn _ _ h => unfold SV.ren; rw [renL_id hπ h]
  | .iref vs _, h => by cases h with | iref _ _ h => unfold SV.ren; rw [renL_id hπ h]
theorem renL_id {π : Nat → Nat} {m : Nat} (hπ : ∀ l, l < m → π l = l) : ∀ {xs : List SV}, (∀ x ∈ xs, SV.Lt m x) → SV.renL π xs = xs
  | [], _ => rfl
  | x :: r, h => by
    have h1 : SV.ren π x = x := ren_id hπ (h x (by simp))
    have h2 : SV.renL π r = r := renL_id hπ (fun y hy => h y (by simp [hy]))
    unfold SV.renL; rw [h1, h2]
end
theorem dir_arg {g : Nat → SV} (hg : ∀ j, SV.Lt 5 (g j)) {L : List Nat} : ∀ j, j < 65 → ArgLe (0 :: 1 :: 2 :: 3 :: 4 :: L) (dirF g j) (dirF g j) ∧ SV.Lt 5 (dirF g j) :=
  fun j _ => ⟨.same (dirF_lt hg j) (by simp) fun i hi => id5 hi, dirF_lt hg j⟩
theorem args_same {F : Fn} {cs : List SV} {L : List Nat} (h : SV.Lt 5 (.fn F cs)) : ArgLes (0 :: 1 :: 2 :: 3 :: 4 :: L) cs cs := by
  cases h with
  | fn _ _ h =>
    induction cs with
    | nil => trivial
    | cons x r ih => exact ⟨.same (h x (by simp)) (by simp) fun i hi => id5 hi, ih fun y hy => h y (by simp [hy])⟩
theorem At.cf {G : Nat → SV} {n o : Nat} {k : SV → Prop} (p : Nat) (x : SV) (h : o = p) (hp : p < n) (hx : G p = x) (hk : k x) : At o fun o => o < n ∧ k (G o) := by
  subst h; exact ⟨hp, by rw [hx]; exact hk⟩
theorem cl_form (who : Int) (s : Dir.CS) : (cl who s = nilF) ∨ ∃ n caps, cl who s = .fn (.func n) caps := by
  cases s with
  | none => exact .inl rfl
  | _ => exact .inr ⟨_, _, rfl⟩
theorem lt_renL {π : Nat → Nat} {F : Fn} {cs : List SV} {b : Nat} (h : SV.Lt 5 (.fn F cs)) (hπ : ∀ l, l < 5 → π l = l) (hb : b = 5) : SV.Lt b (.fn F (SV.renL π cs)) := by
  subst hb
  have e := ren_id hπ h
  unfold SV.ren at e
  rw [e]; exact h
theorem renL_fn {π : Nat → Nat} {F : Fn} {cs : List SV} (h : SV.Lt 5 (.fn F cs)) (hπ : ∀ l, l < 5 → π l = l) : SV.fn F (SV.renL π cs) = .fn F cs := by
  have e := ren_id hπ h
  unfold SV.ren at e
  exact e
theorem dir_sealU {S : St} {g : Nat → SV} (hg : ∀ j, SV.Lt 5 (g j)) {L : List Nat} {w : Nat} {x x' : SV} (hx : SV.Lt 5 x) {π : Nat → Nat} (hπ : ∀ l, l < 5 → π l = l) (he : x' = x) :
    ∀ j, j < 65 → Seal S (0 :: 1 :: 2 :: 3 :: 4 :: L) (bif Nat.beq j (w + 1) then x' else SV.ren π (dirF g j)) (dirF (Dir.upd g w x) j) ∧ SV.Lt 5 (dirF (Dir.upd g w x) j) := by
  intro j hj
  have hlt : SV.Lt 5 (dirF (Dir.upd g w x) j) := by
    refine dirF_lt (fun i => ?_) j
    unfold Dir.upd
    split
    · exact hx
    · exact hg i
  refine ⟨?_, hlt⟩
  have hee : (bif Nat.beq j (w + 1) then x' else SV.ren π (dirF g j)) = dirF (Dir.upd g w x) j := by
    cases j with
    | zero =>
      have h0 : Nat.beq 0 (w + 1) = false := rfl
      rw [h0, cond_false, ren_id hπ (dirF_lt hg 0)]; rfl
    | succ i =>
      by_cases h : i = w
      · subst h
        have h0 : Nat.beq (i + 1) (i + 1) = true := Nat.beq_refl _
        rw [h0, cond_true, he]
        show x = Dir.upd g i x i
        unfold Dir.upd; rw [if_pos rfl]
      · have h0 : Nat.beq (i + 1) (w + 1) = false := by
          cases e : Nat.beq (i + 1) (w + 1) with
          | false => rfl
          | true => exact absurd (Nat.succ.inj (Nat.eq_of_beq_eq_true e)) h
        rw [h0, cond_false, ren_id hπ (dirF_lt hg _)]
        show g i = Dir.upd g w x i
        unfold Dir.upd; rw [if_neg h]
  rw [hee]
  exact .same hlt (by simp) fun i hi => id5 hi
theorem calls_Step {g : Nat → SV} {M : Dir.Mc} {nl : Nat} {f : Nat → List D} {clk cnt : Int} (w : Nat) (hw : w < 64) (hM : DOK w g M nl cnt) {s : Dir.CS} (hn : s ≠ .none) (hs : okC s) (hg : g w = cl w s) :
    ∃ a, Fun TC 55 5 [.ptr 0 1, .i .i64 w] (dirH g M nl f clk cnt) 6 (rslS (Dir.step dirOps M s).2.2) (dirN (Dir.upd g w (cl w (Dir.step dirOps M s).2.1)) (Dir.step dirOps M s).1 nl f clk cnt a) := by
  obtain ⟨n, caps, a, e, hF⟩ := step_all (f := f) (clk := clk) hM hn hs
  rw [e] at hg
  have q5 := hM.g
  have hlt := q5 w
  rw [hg] at hlt
  have hg2 : dirF g (w + 1) = .fn (.func n) caps := hg
  have lt2 := cl_lt w (Dir.step dirOps M s).2.1
  have ef := cl_form w (Dir.step dirOps M s).2.1
  refine ⟨a, ?_⟩
  generalize Dir.step dirOps M s = Q at hF lt2 ef ⊢
  obtain ⟨M', s', r⟩ := Q
  dsimp only at hF lt2 ef ⊢
  generalize hx : cl (w : Int) s' = x at hF lt2 ef ⊢
  refine Fun.mk' Tryz.func55 rfl rfl (Nat.le_of_ble_eq_true rfl) (by decide) ?_
  rcases ef with rfl | ⟨n2, caps2, rfl⟩
  all_goals
    (repeat' (first
    | ((with_reducible refine And.intro (drawN_ok (show drawN _ _ _ _ = true by kernel_rfl) ?hE ?hF ?hH) ?_); (case hE => ((conv => whnf); repeat' (first | exact trivial | exact SV.Lt.mono (Nat.le_of_ble_eq_true rfl) hlt | exact SV.Lt.of rfl | exact SV.Lt.mono (Nat.le_of_ble_eq_true rfl) (lt_renL lt2 (fun l hl => by rcases l with _ | _ | _ | _ | _ | l <;> first | rfl | omega) rfl) | ((with_reducible refine And.intro ?_ ?_) <;> (conv => whnf))))); (case hF => ((conv => whnf); repeat' (first | exact trivial | exact SV.Lt.mono (Nat.le_of_ble_eq_true rfl) hlt | exact SV.Lt.of rfl | exact SV.Lt.mono (Nat.le_of_ble_eq_true rfl) (lt_renL lt2 (fun l hl => by rcases l with _ | _ | _ | _ | _ | l <;> first | rfl | omega) rfl) | ((with_reducible refine And.intro ?_ ?_) <;> (conv => whnf))))); (case hH => ((conv => whnf); repeat' (first | exact trivial | exact SV.Lt.mono (Nat.le_of_ble_eq_true rfl) hlt | exact SV.Lt.of rfl | exact SV.Lt.mono (Nat.le_of_ble_eq_true rfl) (lt_renL lt2 (fun l hl => by rcases l with _ | _ | _ | _ | _ | l <;> first | rfl | omega) rfl) | ((with_reducible refine And.intro ?_ ?_) <;> (conv => whnf))))); (conv => whnf))
    | with_reducible refine Wp.seq ?_
    | with_reducible refine Wp.block ?_
    | ((with_reducible first | refine Wp.region ?_ | refine Wp.drawL TC_mixed ?_ | refine Wp.cond ?_ | refine Wp.ret ?_ | refine Wp.skip ?_ | refine Wp.exit ?_ | refine Go.mk ?_ | apply Eff1.of); conv => whnf)
    | with_reducible exact rfl
    | ((with_reducible refine Ov.ok zO ?_); conv => whnf)
    | (with_reducible refine Ov.sh1 (by with_unfolding_all exact rfl) ?_)
    | ((with_reducible refine Ov.quo (by omega) (by omega) (by omega) (fun _ _ => ?_)); conv => whnf)
    | ((with_reducible refine And.intro (show drawOK _ _ _ _ = true by kernel_rfl) ?_); conv => whnf)
    | ((with_reducible refine And.intro zC ?_); conv => whnf)
    | ((with_reducible refine And.intro ?hb ?_); (case hb => exact bytes_bd (Nat.le_of_ble_eq_true rfl) (by omega)); (conv => whnf))
    | ((refine DApp.a rfl rfl rfl rfl rfl rfl ?hb ?_); (case hb => exact zB); (conv => whnf))
    | ((refine DApp.b rfl rfl rfl rfl rfl rfl rfl rfl ?hb ?ho ?_); (case hb => exact zB); (case ho => omega); (conv => whnf))
    | ((refine DApp.c rfl rfl rfl rfl rfl ?hb ?_); (case hb => exact zB); (conv => whnf))
    | ((refine DApp.d rfl rfl rfl rfl rfl rfl ?hb ?ho ?_); (case hb => exact zB); (case ho => omega); (conv => whnf))
    | ((with_reducible refine nil_no (by omega) ?_); (conv => whnf))
    | ((with_reducible refine nil_any ?_ (fun hn0 => ?_)) <;> (conv => whnf))
    | ((refine At.mk' (w + 1) (by show 1 + ((w : Nat) : Int).toNat * 1 = w + 1; omega) ?_); (refine And.intro (by omega) ?_); (rw [hg2]); (conv => whnf))
    | ((refine CallStop.fn (hF) [0,1,2,3,4] rfl rfl rfl rfl rfl ?ha ?hh ?_); (case ha => (exact args_same hlt)); (case hh => exact zD); (conv => whnf))
    | ((refine DCall.fn (hF) [0,1,2,3,4] [0,1,2,3,4] rfl rfl rfl rfl rfl ?ha ?hh ?hs ?_); (case ha => (exact args_same hlt)); (case hh => exact zD); (case hs => exact zK); (conv => whnf)) | ((refine DCall.new (hF) [0,1,2,3,4] [0,1,2,3,4] rfl rfl rfl rfl rfl rfl ?ha ?hh ?hs ?_); (case ha => (exact args_same hlt)); (case hh => exact zD); (case hs => exact zK); (conv => whnf))
    | ((refine DCall.fn (hF) [0,1,2,3,4] [] rfl rfl rfl rfl rfl ?ha ?hh ?hs ?_); (case ha => (exact args_same hlt)); (case hh => exact zD); (case hs => exact zK); (conv => whnf)) | ((refine DCall.new (hF) [0,1,2,3,4] [] rfl rfl rfl rfl rfl rfl ?ha ?hh ?hs ?_); (case ha => (exact args_same hlt)); (case hh => exact zD); (case hs => exact zK); (conv => whnf))
    | ((refine And.intro (by first | exact .of rfl | exact lt_renL lt2 (fun l hl => by rcases l with _ | _ | _ | _ | _ | l <;> first | rfl | omega) rfl) ?_); conv => whnf)
    | ((refine At.mk' (w + 1) (by show 1 + ((w : Nat) : Int).toNat * 1 = w + 1; omega) ?_); (refine And.intro (by omega) ?_); conv => whnf)
    | ((refine ways (fun hc => ?_) (fun hc => ?_)) <;> (try simp only [decide_eq_true_eq, decide_eq_false_iff_not, Bool.and_eq_true, Bool.or_eq_true, Bool.and_eq_false_iff, Bool.or_eq_false_iff, Bool.not_eq_true', Bool.not_eq_false', beq_iff_eq, bne_iff_ne, ne_eq, beq_eq_false_iff_ne, bne_eq_false_iff_eq, Bool.not_eq_true, Bool.not_eq_false] at hc) <;> (try (exfalso; omega)) <;> (conv => whnf))))
  all_goals
    (refine FinLe.sealB [0, 1, 2, 3, 4, 14] rfl rfl rfl ?_ ?_); (focus ((conv => whnf); (repeat' (first | exact zE | ((refine Seal.ptr rfl rfl ?_); (conv => whnf)) | ((refine Seal.fn ?_); (conv => whnf)) | ((refine Seal.agg ?_); (conv => whnf)) | ((refine Seal.tup ?_); (conv => whnf)) | ((refine Seal.iref ?_); (conv => whnf)) | ((refine And.intro ?_ ?_) <;> (conv => whnf)))))); (focus ((conv => whnf); (repeat' (first | exact zE | ((refine Seal.ptr rfl rfl ?_); (conv => whnf)) | ((refine Seal.fn ?_); (conv => whnf)) | ((refine Seal.agg ?_); (conv => whnf)) | ((refine Seal.tup ?_); (conv => whnf)) | ((refine Seal.iref ?_); (conv => whnf)) | ((refine And.intro ?_ ?_) <;> (conv => whnf))))))
    all_goals first
      | exact dir_sealU q5 lt2 (fun l hl => by rcases l with _ | _ | _ | _ | _ | l <;> first | rfl | omega) rfl
      | exact dir_sealU q5 lt2 (fun l hl => by rcases l with _ | _ | _ | _ | _ | l <;> first | rfl | omega) (renL_fn lt2 (fun l hl => by rcases l with _ | _ | _ | _ | _ | l <;> first | rfl | omega))
theorem dir_argR {g : Nat → SV} (hg : ∀ j, SV.Lt 5 (g j)) {L : List Nat} {π : Nat → Nat} (hπ : ∀ l, l < 5 → π l = l) : ∀ j, j < 65 → ArgLe (0 :: 1 :: 2 :: 3 :: 4 :: L) (SV.ren π (dirF g j)) (dirF g j) ∧ SV.Lt 5 (dirF g j) :=
  fun j hj => ⟨by rw [ren_id hπ (dirF_lt hg j)]; exact (dir_arg hg j hj).1, dirF_lt hg j⟩
theorem dir_sealR {S : St} {g : Nat → SV} (hg : ∀ j, SV.Lt 5 (g j)) {L : List Nat} {π : Nat → Nat} (hπ : ∀ l, l < 5 → π l = l) : ∀ j, j < 65 → Seal S (0 :: 1 :: 2 :: 3 :: 4 :: L) (SV.ren π (dirF g j)) (dirF g j) ∧ SV.Lt 5 (dirF g j) :=
  fun j hj => ⟨by rw [ren_id hπ (dirF_lt hg j)]; exact (dir_seal hg j hj).1, dirF_lt hg j⟩
end Go.Proofs.YtbdclkjelhlfbaaGreat

namespace Go.Proofs.YtbdclkjelhlfbaaGreat
open Go.RowKit
set_option maxRecDepth 100000
def isC : Dir.CS → Bool
  | .none => false
  | _ => true
theorem cl_pend (who : Int) (s : Dir.CS) : (cl who s = nilF ∧ isC s = false) ∨ ∃ n caps, cl who s = .fn (.func n) caps ∧ isC s = true := by
  cases s with
  | none => exact .inl ⟨rfl, rfl⟩
  | _ => exact .inr ⟨_, _, rfl, rfl⟩
theorem isC_ne {s : Dir.CS} (h : isC s = true) : s ≠ .none := by rintro rfl; cases h
theorem isC_no {s : Dir.CS} (h : isC s = false) : s = .none := by cases s <;> first | rfl | cases h
theorem dir_Pending {g : Nat → SV} {M : Dir.Mc} {nl : Nat} {f : Nat → List D} {clk cnt : Int} (w : Nat) (hw : w < 64) (q5 : ∀ j, SV.Lt 5 (g j)) {s : Dir.CS} (hg : g w = cl w s) :
    Fun TC 26 5 [.ptr 0 0, .i .i64 w] (dirH g M nl f clk cnt) 5 (.b (isC s)) (dirH g M nl f clk cnt) := by
  refine Fun.mk' Tryz.func26 rfl rfl (Nat.le_of_ble_eq_true rfl) (by decide) ?_
  have hg2 : dirF g (w + 1) = cl w s := hg
  rcases cl_pend w s with ⟨e, e2⟩ | ⟨n, caps, e, e2⟩
  all_goals
    rw [e] at hg2
    rw [e2]
    (repeat' (first
    | with_reducible refine Wp.seq ?_
    | with_reducible refine Wp.block ?_
    | ((with_reducible first | refine Wp.region ?_ | refine Wp.drawL TC_mixed ?_ | refine Wp.cond ?_ | refine Wp.ret ?_ | refine Wp.skip ?_ | refine Wp.exit ?_ | refine Go.mk ?_ | apply Eff1.of); conv => whnf)
    | with_reducible exact rfl
    | ((with_reducible refine Ov.ok zO ?_); conv => whnf)
    | (with_reducible refine Ov.sh1 (by with_unfolding_all exact rfl) ?_)
    | ((with_reducible refine Ov.quo (by omega) (by omega) (by omega) (fun _ _ => ?_)); conv => whnf)
    | ((with_reducible refine And.intro (show drawOK _ _ _ _ = true by kernel_rfl) ?_); conv => whnf)
    | ((with_reducible refine And.intro zC ?_); conv => whnf)
    | ((with_reducible refine And.intro ?hb ?_); (case hb => exact bytes_bd (Nat.le_of_ble_eq_true rfl) (by omega)); (conv => whnf))
    | ((refine DApp.a rfl rfl rfl rfl rfl rfl ?hb ?_); (case hb => exact zB); (conv => whnf))
    | ((refine DApp.b rfl rfl rfl rfl rfl rfl rfl rfl ?hb ?ho ?_); (case hb => exact zB); (case ho => omega); (conv => whnf))
    | ((refine DApp.c rfl rfl rfl rfl rfl ?hb ?_); (case hb => exact zB); (conv => whnf))
    | ((refine DApp.d rfl rfl rfl rfl rfl rfl ?hb ?ho ?_); (case hb => exact zB); (case ho => omega); (conv => whnf))
    | ((with_reducible refine nil_no (by omega) ?_); (conv => whnf))
    | ((with_reducible refine nil_any ?_ (fun hn0 => ?_)) <;> (conv => whnf))
    | ((with_reducible refine CallStop.pure (board_Is _) rfl rfl ?_); conv => whnf) | ((with_reducible refine DCall.pure (board_Is _) rfl rfl ?_); conv => whnf)
    | ((refine At.mk' (w + 1) (by show 1 + ((w : Nat) : Int).toNat * 1 = w + 1; omega) ?_); (refine And.intro (by omega) ?_); (rw [hg2]); (conv => whnf))
    | ((refine ways (fun hc => ?_) (fun hc => ?_)) <;> (try simp only [decide_eq_true_eq, decide_eq_false_iff_not, Bool.and_eq_true, Bool.or_eq_true, Bool.and_eq_false_iff, Bool.or_eq_false_iff, Bool.not_eq_true', Bool.not_eq_false', beq_iff_eq, bne_iff_ne, ne_eq, beq_eq_false_iff_ne, bne_eq_false_iff_eq, Bool.not_eq_true, Bool.not_eq_false] at hc) <;> (try (exfalso; omega)) <;> (conv => whnf))))
  all_goals
    (refine FinLe.sealB [0,1,2,3,4] rfl rfl rfl ?_ ?_); (focus ((conv => whnf); (repeat' (first | exact zE | ((refine Seal.ptr rfl rfl ?_); (conv => whnf)) | ((refine Seal.fn ?_); (conv => whnf)) | ((refine Seal.agg ?_); (conv => whnf)) | ((refine Seal.tup ?_); (conv => whnf)) | ((refine Seal.iref ?_); (conv => whnf)) | ((refine And.intro ?_ ?_) <;> (conv => whnf)))))); (focus ((conv => whnf); (repeat' (first | exact zE | ((refine Seal.ptr rfl rfl ?_); (conv => whnf)) | ((refine Seal.fn ?_); (conv => whnf)) | ((refine Seal.agg ?_); (conv => whnf)) | ((refine Seal.tup ?_); (conv => whnf)) | ((refine Seal.iref ?_); (conv => whnf)) | ((refine And.intro ?_ ?_) <;> (conv => whnf))))))
theorem dir_Step {g : Nat → SV} {M : Dir.Mc} {nl : Nat} {f : Nat → List D} {clk cnt : Int} (w : Nat) (hw : w < 64) (hM : DOK w g M nl cnt) {s : Dir.CS} (hn : isC s = true) (hs : okC s) (hg : g w = cl w s) :
    ∃ a, Fun TC 21 5 [.ptr 0 0, .i .i64 w] (dirH g M nl f clk cnt) 6 (.tup [rslS (Dir.step dirOps M s).2.2, .i .i64 0]) (dirN (Dir.upd g w (cl w (Dir.step dirOps M s).2.1)) (Dir.step dirOps M s).1 nl f clk cnt a) := by
  obtain ⟨a, hS⟩ := calls_Step (f := f) (clk := clk) w hw hM (isC_ne hn) hs hg
  have q5 := hM.g
  have hP := dir_Pending (M := M) (nl := nl) (f := f) (clk := clk) (cnt := cnt) w hw q5 hg
  rw [hn] at hP
  have q6 : ∀ j, SV.Lt 5 (Dir.upd g w (cl w (Dir.step dirOps M s).2.1) j) := fun j => by
    unfold Dir.upd
    split
    · exact cl_lt _ _
    · exact q5 j
  refine ⟨a, ?_⟩
  generalize Dir.step dirOps M s = Q at hS q6 ⊢
  obtain ⟨M', s', r⟩ := Q
  dsimp only at hS q6 ⊢
  generalize Dir.upd g w (cl w s') = g' at hS q6 ⊢
  refine Fun.mk' Tryz.func21 rfl rfl (Nat.le_of_ble_eq_true rfl) (by decide) ?_
  (repeat' (first
    | with_reducible refine Wp.seq ?_
    | with_reducible refine Wp.block ?_
    | ((with_reducible first | refine Wp.region ?_ | refine Wp.drawL TC_mixed ?_ | refine Wp.cond ?_ | refine Wp.ret ?_ | refine Wp.skip ?_ | refine Wp.exit ?_ | refine Go.mk ?_ | apply Eff1.of); conv => whnf)
    | with_reducible exact rfl
    | ((with_reducible refine Ov.ok zO ?_); conv => whnf)
    | (with_reducible refine Ov.sh1 (by with_unfolding_all exact rfl) ?_)
    | ((with_reducible refine Ov.quo (by omega) (by omega) (by omega) (fun _ _ => ?_)); conv => whnf)
    | ((with_reducible refine And.intro (show drawOK _ _ _ _ = true by kernel_rfl) ?_); conv => whnf)
    | ((with_reducible refine And.intro zC ?_); conv => whnf)
    | ((with_reducible refine And.intro ?hb ?_); (case hb => exact bytes_bd (Nat.le_of_ble_eq_true rfl) (by omega)); (conv => whnf))
    | ((refine DApp.a rfl rfl rfl rfl rfl rfl ?hb ?_); (case hb => exact zB); (conv => whnf))
    | ((refine DApp.b rfl rfl rfl rfl rfl rfl rfl rfl ?hb ?ho ?_); (case hb => exact zB); (case ho => omega); (conv => whnf))
    | ((refine DApp.c rfl rfl rfl rfl rfl ?hb ?_); (case hb => exact zB); (conv => whnf))
    | ((refine DApp.d rfl rfl rfl rfl rfl rfl ?hb ?ho ?_); (case hb => exact zB); (case ho => omega); (conv => whnf))
    | ((with_reducible refine nil_no (by omega) ?_); (conv => whnf))
    | ((with_reducible refine nil_any ?_ (fun hn0 => ?_)) <;> (conv => whnf))
    | ((with_reducible refine CallStop.pure (board_Is _) rfl rfl ?_); conv => whnf) | ((with_reducible refine DCall.pure (board_Is _) rfl rfl ?_); conv => whnf)
    | ((refine CallStop.fn (hP) [0,1,2,3,4] rfl rfl rfl rfl rfl ?ha ?hh ?_); (case ha => exact zA); (case hh => exact zD); (conv => whnf))
    | ((refine DCall.fn (hP) [0,1,2,3,4] [0,1,2,3,4] rfl rfl rfl rfl rfl ?ha ?hh ?hs ?_); (case ha => exact zA); (case hh => exact zD); (case hs => exact zK); (conv => whnf)) | ((refine DCall.new (hP) [0,1,2,3,4] [0,1,2,3,4] rfl rfl rfl rfl rfl rfl ?ha ?hh ?hs ?_); (case ha => exact zA); (case hh => exact zD); (case hs => exact zK); (conv => whnf))
    | ((refine DCall.fn (hP) [0,1,2,3,4] [] rfl rfl rfl rfl rfl ?ha ?hh ?hs ?_); (case ha => exact zA); (case hh => exact zD); (case hs => exact zK); (conv => whnf)) | ((refine DCall.new (hP) [0,1,2,3,4] [] rfl rfl rfl rfl rfl rfl ?ha ?hh ?hs ?_); (case ha => exact zA); (case hh => exact zD); (case hs => exact zK); (conv => whnf))
    | ((refine CallStop.fn (hS) [0,1,2,3,4] rfl rfl rfl rfl rfl ?ha ?hh ?_); (case ha => exact zA); (case hh => exact zD); (conv => whnf))
    | ((refine DCall.fn (hS) [0,1,2,3,4] [0,1,2,3,4] rfl rfl rfl rfl rfl ?ha ?hh ?hs ?_); (case ha => exact zA); (case hh => exact zD); (case hs => exact zK); (conv => whnf)) | ((refine DCall.new (hS) [0,1,2,3,4] [0,1,2,3,4] rfl rfl rfl rfl rfl rfl ?ha ?hh ?hs ?_); (case ha => exact zA); (case hh => exact zD); (case hs => exact zK); (conv => whnf))
    | ((refine DCall.fn (hS) [0,1,2,3,4] [] rfl rfl rfl rfl rfl ?ha ?hh ?hs ?_); (case ha => exact zA); (case hh => exact zD); (case hs => exact zK); (conv => whnf)) | ((refine DCall.new (hS) [0,1,2,3,4] [] rfl rfl rfl rfl rfl rfl ?ha ?hh ?hs ?_); (case ha => exact zA); (case hh => exact zD); (case hs => exact zK); (conv => whnf))
    | ((refine ways (fun hc => ?_) (fun hc => ?_)) <;> (try simp only [decide_eq_true_eq, decide_eq_false_iff_not, Bool.and_eq_true, Bool.or_eq_true, Bool.and_eq_false_iff, Bool.or_eq_false_iff, Bool.not_eq_true', Bool.not_eq_false', beq_iff_eq, bne_iff_ne, ne_eq, beq_eq_false_iff_ne, bne_eq_false_iff_eq, Bool.not_eq_true, Bool.not_eq_false] at hc) <;> (try (exfalso; omega)) <;> (conv => whnf))))
  (refine FinLe.sealB [0,1,2,3,4,6] rfl rfl rfl ?_ ?_); (focus ((conv => whnf); (repeat' (first | exact zE | ((refine Seal.ptr rfl rfl ?_); (conv => whnf)) | ((refine Seal.fn ?_); (conv => whnf)) | ((refine Seal.agg ?_); (conv => whnf)) | ((refine Seal.tup ?_); (conv => whnf)) | ((refine Seal.iref ?_); (conv => whnf)) | ((refine And.intro ?_ ?_) <;> (conv => whnf)))))); (focus ((conv => whnf); (repeat' (first | exact zE | ((refine Seal.ptr rfl rfl ?_); (conv => whnf)) | ((refine Seal.fn ?_); (conv => whnf)) | ((refine Seal.agg ?_); (conv => whnf)) | ((refine Seal.tup ?_); (conv => whnf)) | ((refine Seal.iref ?_); (conv => whnf)) | ((refine And.intro ?_ ?_) <;> (conv => whnf))))))
end Go.Proofs.YtbdclkjelhlfbaaGreat
