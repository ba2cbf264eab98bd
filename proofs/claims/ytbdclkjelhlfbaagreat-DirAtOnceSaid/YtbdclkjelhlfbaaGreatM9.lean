/- Parts of the proof, one behind the other: Dr5, Dr6, Dr7, Dr8. Lemmas and contracts of functions; no condition of its own. -/
import Derived.Test.YtbdclkjelhlfbaaGreatM8
set_option linter.unusedVariables false
set_option linter.unusedSimpArgs false
set_option maxHeartbeats 1000000
namespace Go.Proofs.YtbdclkjelhlfbaaGreat
open Go.RowKit
set_option maxRecDepth 100000
abbrev bx (x : SV) : SV := .iref [x] 0
def lanesS : SV := .iref [boardS 1 3, .d (.fn (.func 46) [])] 0
def res0 : SV := .iref [.b false, .i .i64 0, .i .i64 0] 0
def endS : SV := .d (.fn (.func 50) [])
def thnK (who : Int) (c : Dir.Kc) : SV := .fn (.func 91) [bx (.d (slOf 1 (encI .u8) c.key)), bx (.i .i64 c.val), bx (.i .u8 c.op), bx (.ptr 0 0), bx (.i .i64 who)]
def tfK (who : Int) (c : Dir.Kc) (lv : Nat) : SV := .fn (.func 132) [bx lanesS, bx (.i .i64 who), bx (.i .i64 lv), bx (.i .u64 (sumK c.key)), bx (thnK who c), res0]
def thK (who : Int) (c : Dir.Kc) : SV := .fn (.func 133) [bx lanesS, bx (.i .i64 who), bx (.i .u64 (sumK c.key)), bx (thnK who c), res0]
def tfS (who : Int) (lv i : Nat) : SV := .fn (.func 126) [bx lanesS, bx (.i .i64 who), bx (.i .i64 lv), bx (.i .i64 i), bx endS, res0]
def thS (who : Int) (lv i : Nat) (up : Bool) (h : List Dir.Ent) : SV :=
  if up then .fn (.func 129) [bx lanesS, bx (.i .i64 who), bx (.i .i64 lv), bx (.i .i64 i), bx endS, res0]
  else .fn (.func 128) [bx lanesS, bx (.i .i64 who), bx (.i .i64 lv), bx (.i .i64 i), bx (.d (slOf 2 entD h)), bx endS, res0]
def freezeS (who : Int) (w : Nat) (t : SV) : SV := .fn (.func 178) [bx lanesS, bx (.i .i64 who), bx (.i .i64 w), bx t]
def frozenS (who : Int) (w : Nat) (v : Int) (h : List Dir.Ent) (t : SV) : SV := .fn (.func 179) [bx lanesS, bx (.i .i64 who), bx (.i .i64 w), bx (.i .u64 v), bx (.d (slOf 2 entD h)), bx t, res0]
def halfS (who : Int) (lv w : Nat) (h : List Dir.Ent) (t : SV) : SV := .fn (.func 180) [bx lanesS, bx (.i .i64 who), bx (.i .i64 w), bx t, bx (.d (slOf 2 entD h)), bx (.i .i64 lv)]
def layS (who : Int) (lv w : Nat) (h : List Dir.Ent) (t : SV) : SV := .fn (.func 181) [bx lanesS, bx (.i .i64 who), bx (.i .i64 w), bx (.d (slOf 2 entD h)), bx (.i .i64 lv), bx t, bx .any]
def nilF : SV := .d (.val .nilFunc)
def cl (who : Int) : Dir.CS → SV
  | .none => nilF
  | .k0 c => .fn (.func 130) [bx lanesS, bx (.i .i64 who), bx (.i .u64 (sumK c.key)), bx (thnK who c)]
  | .kE c w => .fn (.func 182) [bx lanesS, bx (.i .i64 who), bx (.i .i64 w), bx (.i .u64 (sumK c.key)), bx (thnK who c)]
  | .kF c lv w => freezeS who w (tfK who c lv)
  | .kG c lv w v h => frozenS who w v h (tfK who c lv)
  | .kH c lv w h => halfS who lv w h (thK who c)
  | .kL c lv w h => layS who lv w h (thK who c)
  | .kS c w v m n => .fn (.func 96) [bx (.ptr 0 0), bx (.i .i64 who), bx (.i .i64 w), bx (.i .u64 v), bx (.d (slOf 2 entD m)), bx (.i .u8 c.op), bx (.d (slOf 1 (encI .u8) c.key)), bx (.i .i64 c.val), bx (.i .i64 n)]
  | .s0 => .fn (.func 85) [bx lanesS, bx (.i .i64 who), bx endS]
  | .sM lv => .fn (.func 88) [bx lanesS, bx (.i .i64 who), bx (.i .u64 (2 * lv)), bx endS, res0, bx (.i .i64 lv)]
  | .sF lv i => freezeS who (2 ^ lv + i) (tfS who lv i)
  | .sG lv i v h => frozenS who (2 ^ lv + i) v h (tfS who lv i)
  | .sH lv i up h => halfS who (lv + 1) (Dir.upW lv i up) h (thS who lv i up h)
  | .sL lv i up h => layS who (lv + 1) (Dir.upW lv i up) h (thS who lv i up h)
  | .sV lv => .fn (.func 124) [bx lanesS, bx (.i .i64 who), bx (.i .i64 lv), bx endS]
theorem cl_lt (who : Int) (s : Dir.CS) : SV.Lt 5 (cl who s) := by
  cases s with
  | sH lv i up h => cases up <;> exact .of rfl
  | sL lv i up h => cases up <;> exact .of rfl
  | _ => exact .of rfl
def fndE (c : Dir.Kc) (h : List Dir.Ent) : Dir.Res ⊕ (List Dir.Ent × Int) :=
  if c.op ≠ 2 ∧ hasE h c.key = false then .inl ⟨true, 7, 0⟩
  else if c.op = 1 then .inl ⟨true, 0, (h.getD (posE h c.key) default).val⟩
  else if c.op = 3 then .inr (delAt h (posE h c.key), (h.getD (posE h c.key) default).val)
  else if hasE h c.key then .inr (h.set (posE h c.key) ⟨(h.getD (posE h c.key) default).key, if c.op = 2 then c.val else (h.getD (posE h c.key) default).val⟩, if c.op = 2 then c.val else (h.getD (posE h c.key) default).val)
  else .inr (insAt h (posE h c.key) ⟨c.key, c.val⟩, c.val)
def dirOps : Dir.Ops := ⟨sumK, cutL, fndE⟩
theorem lane_place1 (lv : Nat) (hl : lv ≤ 3) (s : Int) : Pure TC 83 [.i .i64 ((lv : Int) + 1), .i .u64 s] (.i .i64 (Dir.plc (lv + 1) s)) := lane_place (lv + 1) (by omega) s
theorem plc_small {lv : Nat} {s : Int} (h0 : 0 ≤ s) (h1 : s < 2 ^ lv) : Dir.plc lv s = 2 ^ lv + s.toNat := by unfold Dir.plc; rw [Int.emod_eq_of_lt h0 h1]
theorem upW_plc {lv i : Nat} (hi : i < 2 ^ lv) (up : Bool) : Dir.plc (lv + 1) (if up then (i : Int) + 2 ^ lv else i) = Dir.upW lv i up := by
  have e : ((2 ^ lv : Nat) : Int) = 2 ^ lv := by simp
  have e2 : (2 : Int) ^ (lv + 1) = 2 ^ lv * 2 := Int.pow_succ 2 lv
  have h : (i : Int) < 2 ^ lv := by omega
  unfold Dir.upW
  cases up
  · rw [if_neg (by decide), if_neg (by decide), plc_small (by omega) (by omega), Int.toNat_natCast]
  · rw [if_pos rfl, if_pos rfl, plc_small (by omega) (by omega)]
    congr 1
def findS (who s : Int) (t : SV) : SV := .fn (.func 130) [bx lanesS, bx (.i .i64 who), bx (.i .u64 s), bx t]
def enterS (who s : Int) (w : Nat) (t : SV) : SV := .fn (.func 182) [bx lanesS, bx (.i .i64 who), bx (.i .i64 w), bx (.i .u64 s), bx t]
theorem find_any (who s : Int) (F : Fn) (cs : List SV) (hF : SV.Lt 120 (.fn F cs)) : Fun TC 89 120 [lanesS, .i .i64 who, .i .u64 s, .fn F cs] [] 120 (findS who s (.fn F cs)) [] := by
  refine Fun.mk' Tryz.func89 rfl rfl (Nat.le_of_ble_eq_true rfl) (by decide) ?_
  (repeat' (first
    | with_reducible refine Wp.seq ?_
    | with_reducible refine Wp.block ?_
    | ((with_reducible first | refine Wp.region ?_ | refine Wp.drawL TC_mixed ?_ | refine Wp.cond ?_ | refine Wp.ret ?_ | refine Wp.skip ?_ | refine Wp.exit ?_ | refine Go.mk ?_ | apply Eff1.of); conv => whnf)
    | with_reducible exact rfl
    | ((with_reducible refine Ov.ok zO ?_); conv => whnf)
    | (with_reducible refine Ov.sh1 (by with_unfolding_all exact rfl) ?_)
    | ((with_reducible refine Ov.quo (by omega) (by omega) (by omega) (fun _ _ => ?_)); conv => whnf)
    | ((with_reducible refine And.intro (show drawOK _ _ _ _ = true by kernel_rfl) ?_); conv => whnf)
    | ((with_reducible refine And.intro zC ?_); conv => whnf)
    | ((with_reducible refine And.intro ?hb ?_); (case hb => exact bytes_bd (Nat.le_of_ble_eq_true rfl) (by omega)); (conv => whnf))
    | ((refine DApp.a rfl rfl rfl rfl rfl rfl ?hb ?_); (case hb => exact zB); (conv => whnf))
    | ((refine DApp.b rfl rfl rfl rfl rfl rfl rfl rfl ?hb ?ho ?_); (case hb => exact zB); (case ho => omega); (conv => whnf))
    | ((refine DApp.c rfl rfl rfl rfl rfl ?hb ?_); (case hb => exact zB); (conv => whnf))
    | ((refine DApp.d rfl rfl rfl rfl rfl rfl ?hb ?ho ?_); (case hb => exact zB); (case ho => omega); (conv => whnf))
    | ((with_reducible refine nil_no (by omega) ?_); (conv => whnf))
    | ((with_reducible refine nil_any ?_ (fun hn0 => ?_)) <;> (conv => whnf))
    
    | ((refine ways (fun hc => ?_) (fun hc => ?_)) <;> (try simp only [decide_eq_true_eq, decide_eq_false_iff_not, Bool.and_eq_true, Bool.or_eq_true, Bool.and_eq_false_iff, Bool.or_eq_false_iff, Bool.not_eq_true', Bool.not_eq_false', beq_iff_eq, bne_iff_ne, ne_eq, beq_eq_false_iff_ne, bne_eq_false_iff_eq, Bool.not_eq_true, Bool.not_eq_false] at hc) <;> (try (exfalso; omega)) <;> (conv => whnf))))
  (refine FinLe.sealM ?_); (conv => whnf); (repeat' (first | exact trivial | exact Seal.any | exact Seal.d | exact Seal.ptrM rfl | exact Seal.slM rfl | exact Seal.sameM (by assumption) | exact Seal.lt0 (SV.Lt.of rfl) | exact Seal.sameM (SV.Lt.of rfl) | ((refine Seal.ptrN rfl rfl ?_); (conv => whnf)) | (refine Seal.le (Seal.sl (idxK_range_ge (Nat.le_of_ble_eq_true rfl)) rfl (by first | omega | simp)) ?_) | ((refine Seal.fn ?_); (conv => whnf)) | ((refine Seal.agg ?_); (conv => whnf)) | ((refine Seal.tup ?_); (conv => whnf)) | ((refine Seal.iref ?_); (conv => whnf)) | ((refine And.intro ?_ ?_) <;> (conv => whnf)) | exact Seal.le Seal.d SV.Le.nil))
theorem enter_any (who s : Int) (w : Nat) (F : Fn) (cs : List SV) (hF : SV.Lt 120 (.fn F cs)) : Fun TC 131 120 [lanesS, .i .i64 who, .i .u64 s, .i .i64 w, .fn F cs] [] 120 (enterS who s w (.fn F cs)) [] := by
  refine Fun.mk' Tryz.func131 rfl rfl (Nat.le_of_ble_eq_true rfl) (by decide) ?_
  (repeat' (first
    | with_reducible refine Wp.seq ?_
    | with_reducible refine Wp.block ?_
    | ((with_reducible first | refine Wp.region ?_ | refine Wp.drawL TC_mixed ?_ | refine Wp.cond ?_ | refine Wp.ret ?_ | refine Wp.skip ?_ | refine Wp.exit ?_ | refine Go.mk ?_ | apply Eff1.of); conv => whnf)
    | with_reducible exact rfl
    | ((with_reducible refine Ov.ok zO ?_); conv => whnf)
    | (with_reducible refine Ov.sh1 (by with_unfolding_all exact rfl) ?_)
    | ((with_reducible refine Ov.quo (by omega) (by omega) (by omega) (fun _ _ => ?_)); conv => whnf)
    | ((with_reducible refine And.intro (show drawOK _ _ _ _ = true by kernel_rfl) ?_); conv => whnf)
    | ((with_reducible refine And.intro zC ?_); conv => whnf)
    | ((with_reducible refine And.intro ?hb ?_); (case hb => exact bytes_bd (Nat.le_of_ble_eq_true rfl) (by omega)); (conv => whnf))
    | ((refine DApp.a rfl rfl rfl rfl rfl rfl ?hb ?_); (case hb => exact zB); (conv => whnf))
    | ((refine DApp.b rfl rfl rfl rfl rfl rfl rfl rfl ?hb ?ho ?_); (case hb => exact zB); (case ho => omega); (conv => whnf))
    | ((refine DApp.c rfl rfl rfl rfl rfl ?hb ?_); (case hb => exact zB); (conv => whnf))
    | ((refine DApp.d rfl rfl rfl rfl rfl rfl ?hb ?ho ?_); (case hb => exact zB); (case ho => omega); (conv => whnf))
    | ((with_reducible refine nil_no (by omega) ?_); (conv => whnf))
    | ((with_reducible refine nil_any ?_ (fun hn0 => ?_)) <;> (conv => whnf))
    
    | ((refine ways (fun hc => ?_) (fun hc => ?_)) <;> (try simp only [decide_eq_true_eq, decide_eq_false_iff_not, Bool.and_eq_true, Bool.or_eq_true, Bool.and_eq_false_iff, Bool.or_eq_false_iff, Bool.not_eq_true', Bool.not_eq_false', beq_iff_eq, bne_iff_ne, ne_eq, beq_eq_false_iff_ne, bne_eq_false_iff_eq, Bool.not_eq_true, Bool.not_eq_false] at hc) <;> (try (exfalso; omega)) <;> (conv => whnf))))
  (refine FinLe.sealM ?_); (conv => whnf); (repeat' (first | exact trivial | exact Seal.any | exact Seal.d | exact Seal.ptrM rfl | exact Seal.slM rfl | exact Seal.sameM (by assumption) | exact Seal.lt0 (SV.Lt.of rfl) | exact Seal.sameM (SV.Lt.of rfl) | ((refine Seal.ptrN rfl rfl ?_); (conv => whnf)) | (refine Seal.le (Seal.sl (idxK_range_ge (Nat.le_of_ble_eq_true rfl)) rfl (by first | omega | simp)) ?_) | ((refine Seal.fn ?_); (conv => whnf)) | ((refine Seal.agg ?_); (conv => whnf)) | ((refine Seal.tup ?_); (conv => whnf)) | ((refine Seal.iref ?_); (conv => whnf)) | ((refine And.intro ?_ ?_) <;> (conv => whnf)) | exact Seal.le Seal.d SV.Le.nil))
theorem freeze_any (who : Int) (w : Nat) (F : Fn) (cs : List SV) (hF : SV.Lt 120 (.fn F cs)) : Fun TC 125 120 [lanesS, .i .i64 who, .i .i64 w, .fn F cs] [] 120 (freezeS who w (.fn F cs)) [] := by
  refine Fun.mk' Tryz.func125 rfl rfl (Nat.le_of_ble_eq_true rfl) (by decide) ?_
  (repeat' (first
    | with_reducible refine Wp.seq ?_
    | with_reducible refine Wp.block ?_
    | ((with_reducible first | refine Wp.region ?_ | refine Wp.drawL TC_mixed ?_ | refine Wp.cond ?_ | refine Wp.ret ?_ | refine Wp.skip ?_ | refine Wp.exit ?_ | refine Go.mk ?_ | apply Eff1.of); conv => whnf)
    | with_reducible exact rfl
    | ((with_reducible refine Ov.ok zO ?_); conv => whnf)
    | (with_reducible refine Ov.sh1 (by with_unfolding_all exact rfl) ?_)
    | ((with_reducible refine Ov.quo (by omega) (by omega) (by omega) (fun _ _ => ?_)); conv => whnf)
    | ((with_reducible refine And.intro (show drawOK _ _ _ _ = true by kernel_rfl) ?_); conv => whnf)
    | ((with_reducible refine And.intro zC ?_); conv => whnf)
    | ((with_reducible refine And.intro ?hb ?_); (case hb => exact bytes_bd (Nat.le_of_ble_eq_true rfl) (by omega)); (conv => whnf))
    | ((refine DApp.a rfl rfl rfl rfl rfl rfl ?hb ?_); (case hb => exact zB); (conv => whnf))
    | ((refine DApp.b rfl rfl rfl rfl rfl rfl rfl rfl ?hb ?ho ?_); (case hb => exact zB); (case ho => omega); (conv => whnf))
    | ((refine DApp.c rfl rfl rfl rfl rfl ?hb ?_); (case hb => exact zB); (conv => whnf))
    | ((refine DApp.d rfl rfl rfl rfl rfl rfl ?hb ?ho ?_); (case hb => exact zB); (case ho => omega); (conv => whnf))
    | ((with_reducible refine nil_no (by omega) ?_); (conv => whnf))
    | ((with_reducible refine nil_any ?_ (fun hn0 => ?_)) <;> (conv => whnf))
    
    | ((refine ways (fun hc => ?_) (fun hc => ?_)) <;> (try simp only [decide_eq_true_eq, decide_eq_false_iff_not, Bool.and_eq_true, Bool.or_eq_true, Bool.and_eq_false_iff, Bool.or_eq_false_iff, Bool.not_eq_true', Bool.not_eq_false', beq_iff_eq, bne_iff_ne, ne_eq, beq_eq_false_iff_ne, bne_eq_false_iff_eq, Bool.not_eq_true, Bool.not_eq_false] at hc) <;> (try (exfalso; omega)) <;> (conv => whnf))))
  (refine FinLe.sealM ?_); (conv => whnf); (repeat' (first | exact trivial | exact Seal.any | exact Seal.d | exact Seal.ptrM rfl | exact Seal.slM rfl | exact Seal.sameM (by assumption) | exact Seal.lt0 (SV.Lt.of rfl) | exact Seal.sameM (SV.Lt.of rfl) | ((refine Seal.ptrN rfl rfl ?_); (conv => whnf)) | (refine Seal.le (Seal.sl (idxK_range_ge (Nat.le_of_ble_eq_true rfl)) rfl (by first | omega | simp)) ?_) | ((refine Seal.fn ?_); (conv => whnf)) | ((refine Seal.agg ?_); (conv => whnf)) | ((refine Seal.tup ?_); (conv => whnf)) | ((refine Seal.iref ?_); (conv => whnf)) | ((refine And.intro ?_ ?_) <;> (conv => whnf)) | exact Seal.le Seal.d SV.Le.nil))
theorem half_any (who : Int) (lv : Nat) (hl : lv ≤ 3) (s : Int) (h : List Dir.Ent) (F : Fn) (cs : List SV) (hF : SV.Lt 120 (.fn F cs)) : Fun TC 127 120 [lanesS, .i .i64 who, .i .i64 ((lv : Int) + 1), .i .u64 s, .d (slOf 2 entD h), .fn F cs] [] 120 (halfS who (lv + 1) (Dir.plc (lv + 1) s) h (.fn F cs)) [] := by
  refine Fun.mk' Tryz.func127 rfl rfl (Nat.le_of_ble_eq_true rfl) (by decide) ?_
  (repeat' (first
    | with_reducible refine Wp.seq ?_
    | with_reducible refine Wp.block ?_
    | ((with_reducible first | refine Wp.region ?_ | refine Wp.drawL TC_mixed ?_ | refine Wp.cond ?_ | refine Wp.ret ?_ | refine Wp.skip ?_ | refine Wp.exit ?_ | refine Go.mk ?_ | apply Eff1.of); conv => whnf)
    | with_reducible exact rfl
    | ((with_reducible refine Ov.ok zO ?_); conv => whnf)
    | (with_reducible refine Ov.sh1 (by with_unfolding_all exact rfl) ?_)
    | ((with_reducible refine Ov.quo (by omega) (by omega) (by omega) (fun _ _ => ?_)); conv => whnf)
    | ((with_reducible refine And.intro (show drawOK _ _ _ _ = true by kernel_rfl) ?_); conv => whnf)
    | ((with_reducible refine And.intro zC ?_); conv => whnf)
    | ((with_reducible refine And.intro ?hb ?_); (case hb => exact bytes_bd (Nat.le_of_ble_eq_true rfl) (by omega)); (conv => whnf))
    | ((refine DApp.a rfl rfl rfl rfl rfl rfl ?hb ?_); (case hb => exact zB); (conv => whnf))
    | ((refine DApp.b rfl rfl rfl rfl rfl rfl rfl rfl ?hb ?ho ?_); (case hb => exact zB); (case ho => omega); (conv => whnf))
    | ((refine DApp.c rfl rfl rfl rfl rfl ?hb ?_); (case hb => exact zB); (conv => whnf))
    | ((refine DApp.d rfl rfl rfl rfl rfl rfl ?hb ?ho ?_); (case hb => exact zB); (case ho => omega); (conv => whnf))
    | ((with_reducible refine nil_no (by omega) ?_); (conv => whnf))
    | ((with_reducible refine nil_any ?_ (fun hn0 => ?_)) <;> (conv => whnf))
    | ((with_reducible refine CallStop.pure (lane_place1 lv hl _) rfl rfl ?_); conv => whnf) | ((with_reducible refine DCall.pure (lane_place1 lv hl _) rfl rfl ?_); conv => whnf)
    | ((refine ways (fun hc => ?_) (fun hc => ?_)) <;> (try simp only [decide_eq_true_eq, decide_eq_false_iff_not, Bool.and_eq_true, Bool.or_eq_true, Bool.and_eq_false_iff, Bool.or_eq_false_iff, Bool.not_eq_true', Bool.not_eq_false', beq_iff_eq, bne_iff_ne, ne_eq, beq_eq_false_iff_ne, bne_eq_false_iff_eq, Bool.not_eq_true, Bool.not_eq_false] at hc) <;> (try (exfalso; omega)) <;> (conv => whnf))))
  (refine FinLe.sealM ?_); (conv => whnf); (repeat' (first | exact trivial | exact Seal.any | exact Seal.d | exact Seal.ptrM rfl | exact Seal.slM rfl | exact Seal.sameM (by assumption) | exact Seal.lt0 (SV.Lt.of rfl) | exact Seal.sameM (SV.Lt.of rfl) | ((refine Seal.ptrN rfl rfl ?_); (conv => whnf)) | (refine Seal.le (Seal.sl (idxK_range_ge (Nat.le_of_ble_eq_true rfl)) rfl (by first | omega | simp)) ?_) | ((refine Seal.fn ?_); (conv => whnf)) | ((refine Seal.agg ?_); (conv => whnf)) | ((refine Seal.tup ?_); (conv => whnf)) | ((refine Seal.iref ?_); (conv => whnf)) | ((refine And.intro ?_ ?_) <;> (conv => whnf)) | exact Seal.le Seal.d SV.Le.nil))
theorem split_c (who : Int) : Fun TC 49 120 [lanesS, .i .i64 who, endS] [] 120 (cl who .s0) [] := by
  refine Fun.mk' Tryz.func49 rfl rfl (Nat.le_of_ble_eq_true rfl) (by decide) ?_
  (repeat' (first
    | with_reducible refine Wp.seq ?_
    | with_reducible refine Wp.block ?_
    | ((with_reducible first | refine Wp.region ?_ | refine Wp.drawL TC_mixed ?_ | refine Wp.cond ?_ | refine Wp.ret ?_ | refine Wp.skip ?_ | refine Wp.exit ?_ | refine Go.mk ?_ | apply Eff1.of); conv => whnf)
    | with_reducible exact rfl
    | ((with_reducible refine Ov.ok zO ?_); conv => whnf)
    | (with_reducible refine Ov.sh1 (by with_unfolding_all exact rfl) ?_)
    | ((with_reducible refine Ov.quo (by omega) (by omega) (by omega) (fun _ _ => ?_)); conv => whnf)
    | ((with_reducible refine And.intro (show drawOK _ _ _ _ = true by kernel_rfl) ?_); conv => whnf)
    | ((with_reducible refine And.intro zC ?_); conv => whnf)
    | ((with_reducible refine And.intro ?hb ?_); (case hb => exact bytes_bd (Nat.le_of_ble_eq_true rfl) (by omega)); (conv => whnf))
    | ((refine DApp.a rfl rfl rfl rfl rfl rfl ?hb ?_); (case hb => exact zB); (conv => whnf))
    | ((refine DApp.b rfl rfl rfl rfl rfl rfl rfl rfl ?hb ?ho ?_); (case hb => exact zB); (case ho => omega); (conv => whnf))
    | ((refine DApp.c rfl rfl rfl rfl rfl ?hb ?_); (case hb => exact zB); (conv => whnf))
    | ((refine DApp.d rfl rfl rfl rfl rfl rfl ?hb ?ho ?_); (case hb => exact zB); (case ho => omega); (conv => whnf))
    | ((with_reducible refine nil_no (by omega) ?_); (conv => whnf))
    | ((with_reducible refine nil_any ?_ (fun hn0 => ?_)) <;> (conv => whnf))
    
    | ((refine ways (fun hc => ?_) (fun hc => ?_)) <;> (try simp only [decide_eq_true_eq, decide_eq_false_iff_not, Bool.and_eq_true, Bool.or_eq_true, Bool.and_eq_false_iff, Bool.or_eq_false_iff, Bool.not_eq_true', Bool.not_eq_false', beq_iff_eq, bne_iff_ne, ne_eq, beq_eq_false_iff_ne, bne_eq_false_iff_eq, Bool.not_eq_true, Bool.not_eq_false] at hc) <;> (try (exfalso; omega)) <;> (conv => whnf))))
  (refine FinLe.sealM ?_); (conv => whnf); (repeat' (first | exact trivial | exact Seal.any | exact Seal.d | exact Seal.ptrM rfl | exact Seal.slM rfl | exact Seal.sameM (by assumption) | exact Seal.lt0 (SV.Lt.of rfl) | exact Seal.sameM (SV.Lt.of rfl) | ((refine Seal.ptrN rfl rfl ?_); (conv => whnf)) | (refine Seal.le (Seal.sl (idxK_range_ge (Nat.le_of_ble_eq_true rfl)) rfl (by first | omega | simp)) ?_) | ((refine Seal.fn ?_); (conv => whnf)) | ((refine Seal.agg ?_); (conv => whnf)) | ((refine Seal.tup ?_); (conv => whnf)) | ((refine Seal.iref ?_); (conv => whnf)) | ((refine And.intro ?_ ?_) <;> (conv => whnf)) | exact Seal.le Seal.d SV.Le.nil))
theorem shl_lv {lv : Nat} (hl : lv ≤ 4) : IntKind.i64.wrap (1 * 2 ^ min ((lv : Nat) : Int).toNat IntKind.i64.bits) = 2 ^ lv := by
  have hlv : lv = 0 ∨ lv = 1 ∨ lv = 2 ∨ lv = 3 ∨ lv = 4 := by omega
  rcases hlv with rfl | rfl | rfl | rfl | rfl <;> decide
theorem move_c (who : Int) (lv i : Nat) (hl : lv ≤ 3) (hi : i ≤ 2 ^ lv) : Fun TC 87 60 [lanesS, .i .i64 who, .i .i64 lv, .i .i64 i, endS] [] 60 (cl who (Dir.move lv i)) [] := by
  have e1 := shl_lv (show lv ≤ 4 by omega)
  have e2 : ((2 ^ lv : Nat) : Int) = 2 ^ lv := by simp
  have hb : (2 : Nat) ^ lv ≤ 2 ^ 3 := Nat.pow_le_pow_right (by omega) hl
  refine Fun.mk' Tryz.func87 rfl rfl (Nat.le_of_ble_eq_true rfl) (by decide) ?_
  (repeat' (first
    | with_reducible refine Wp.seq ?_
    | with_reducible refine Wp.block ?_
    | ((with_reducible first | refine Wp.region ?_ | refine Wp.drawL TC_mixed ?_ | refine Wp.cond ?_ | refine Wp.ret ?_ | refine Wp.skip ?_ | refine Wp.exit ?_ | refine Go.mk ?_ | apply Eff1.of); conv => whnf)
    | with_reducible exact rfl
    | ((with_reducible refine Ov.ok zO ?_); conv => whnf)
    | (with_reducible refine Ov.sh1 (by with_unfolding_all exact rfl) ?_)
    | ((with_reducible refine Ov.quo (by omega) (by omega) (by omega) (fun _ _ => ?_)); conv => whnf)
    | ((with_reducible refine And.intro (show drawOK _ _ _ _ = true by kernel_rfl) ?_); conv => whnf)
    | ((with_reducible refine And.intro zC ?_); conv => whnf)
    | ((with_reducible refine And.intro ?hb ?_); (case hb => exact bytes_bd (Nat.le_of_ble_eq_true rfl) (by omega)); (conv => whnf))
    | ((refine DApp.a rfl rfl rfl rfl rfl rfl ?hb ?_); (case hb => exact zB); (conv => whnf))
    | ((refine DApp.b rfl rfl rfl rfl rfl rfl rfl rfl ?hb ?ho ?_); (case hb => exact zB); (case ho => omega); (conv => whnf))
    | ((refine DApp.c rfl rfl rfl rfl rfl ?hb ?_); (case hb => exact zB); (conv => whnf))
    | ((refine DApp.d rfl rfl rfl rfl rfl rfl ?hb ?ho ?_); (case hb => exact zB); (case ho => omega); (conv => whnf))
    | ((with_reducible refine nil_no (by omega) ?_); (conv => whnf))
    | ((with_reducible refine nil_any ?_ (fun hn0 => ?_)) <;> (conv => whnf))
    | ((with_reducible refine CallStop.pure (lane_place lv (by omega) _) rfl rfl ?_); conv => whnf) | ((with_reducible refine DCall.pure (lane_place lv (by omega) _) rfl rfl ?_); conv => whnf)
    | ((with_reducible refine DCall.funM (find_any _ _ _ _ (by exact SV.Lt.of rfl)) rfl rfl ?_); conv => whnf) | ((with_reducible refine DCall.funM (enter_any _ _ _ _ _ (by exact SV.Lt.of rfl)) rfl rfl ?_); conv => whnf) | ((with_reducible refine DCall.funM (freeze_any _ _ _ _ (by exact SV.Lt.of rfl)) rfl rfl ?_); conv => whnf) | ((with_reducible refine DCall.funM (half_any _ _ (by omega) _ _ _ _ (by exact SV.Lt.of rfl)) rfl rfl ?_); conv => whnf) | ((with_reducible refine DCall.funM (split_c _) rfl rfl ?_); conv => whnf) | ((with_reducible refine CallStop.funM (find_any _ _ _ _ (by exact SV.Lt.of rfl)) rfl rfl ?_); conv => whnf) | ((with_reducible refine CallStop.funM (enter_any _ _ _ _ _ (by exact SV.Lt.of rfl)) rfl rfl ?_); conv => whnf) | ((with_reducible refine CallStop.funM (freeze_any _ _ _ _ (by exact SV.Lt.of rfl)) rfl rfl ?_); conv => whnf) | ((with_reducible refine CallStop.funM (half_any _ _ (by omega) _ _ _ _ (by exact SV.Lt.of rfl)) rfl rfl ?_); conv => whnf) | ((with_reducible refine CallStop.funM (split_c _) rfl rfl ?_); conv => whnf)
    | ((with_reducible refine Ov.mk ?_); conv => whnf)
    | ((refine ways (fun hc => ?_) (fun hc => ?_)) <;> (try simp only [decide_eq_true_eq, decide_eq_false_iff_not, Bool.and_eq_true, Bool.or_eq_true, Bool.and_eq_false_iff, Bool.or_eq_false_iff, Bool.not_eq_true', Bool.not_eq_false', beq_iff_eq, bne_iff_ne, ne_eq, beq_eq_false_iff_ne, bne_eq_false_iff_eq, Bool.not_eq_true, Bool.not_eq_false, e1] at hc) <;> (try (exfalso; omega)) <;> (conv => whnf))))
  · rw [show Dir.move lv i = .sV lv by unfold Dir.move; rw [if_pos (by omega)]]
    (refine FinLe.sealM ?_); (conv => whnf); (repeat' (first | exact trivial | exact Seal.any | exact Seal.d | exact Seal.ptrM rfl | exact Seal.slM rfl | exact Seal.sameM (by assumption) | exact Seal.lt0 (SV.Lt.of rfl) | exact Seal.sameM (SV.Lt.of rfl) | ((refine Seal.ptrN rfl rfl ?_); (conv => whnf)) | (refine Seal.le (Seal.sl (idxK_range_ge (Nat.le_of_ble_eq_true rfl)) rfl (by first | omega | simp)) ?_) | ((refine Seal.fn ?_); (conv => whnf)) | ((refine Seal.agg ?_); (conv => whnf)) | ((refine Seal.tup ?_); (conv => whnf)) | ((refine Seal.iref ?_); (conv => whnf)) | ((refine And.intro ?_ ?_) <;> (conv => whnf)) | exact Seal.le Seal.d SV.Le.nil))
  · rw [show Dir.move lv i = .sF lv i by unfold Dir.move; rw [if_neg (by omega)]]
    rw [show Dir.plc lv (i : Int) = 2 ^ lv + i by rw [plc_small (by omega) (by omega)]; rfl]
    (refine FinLe.sealM ?_); (conv => whnf); (repeat' (first | exact trivial | exact Seal.any | exact Seal.d | exact Seal.ptrM rfl | exact Seal.slM rfl | exact Seal.sameM (by assumption) | exact Seal.lt0 (SV.Lt.of rfl) | exact Seal.sameM (SV.Lt.of rfl) | ((refine Seal.ptrN rfl rfl ?_); (conv => whnf)) | (refine Seal.le (Seal.sl (idxK_range_ge (Nat.le_of_ble_eq_true rfl)) rfl (by first | omega | simp)) ?_) | ((refine Seal.fn ?_); (conv => whnf)) | ((refine Seal.agg ?_); (conv => whnf)) | ((refine Seal.tup ?_); (conv => whnf)) | ((refine Seal.iref ?_); (conv => whnf)) | ((refine And.intro ?_ ?_) <;> (conv => whnf)) | exact Seal.le Seal.d SV.Le.nil))
end Go.Proofs.YtbdclkjelhlfbaaGreat

namespace Go.Proofs.YtbdclkjelhlfbaaGreat
open Go.RowKit
set_option maxRecDepth 100000
def rslS (r : Dir.Res) : SV := .agg [.b r.done, .i .i64 r.e, .i .i64 r.n]
theorem posE_le (xs : List Dir.Ent) (key : List Int) : posE xs key ≤ xs.length := by
  have h : ∀ (lt : Nat → Bool) (q i j : Nat), i ≤ j → i ≤ bsF lt q i j ∧ bsF lt q i j ≤ j := by
    intro lt q
    induction q with
    | zero => intro i j h; simp [bsF]; exact h
    | succ q ih =>
      intro i j h
      unfold bsF
      by_cases h1 : i < j
      · rw [if_pos h1]
        split
        · have := ih ((i + j) / 2 + 1) j (by omega); omega
        · have := ih i ((i + j) / 2) (by omega); omega
      · rw [if_neg h1]; omega
  exact (h _ _ 0 _ (Nat.zero_le _)).2
theorem le_setE {h : List Dir.Ent} {p : Nat} {e : Dir.Ent} {X : List D} (hX : X = entD e) : SV.Le (.d (.sl 2 h.length fun i => if 0 + i = 0 + ((p : Nat) : Int).toNat then X else (fun i => entD (h.getD i default)) (0 + i))) (.d (slOf 2 entD (h.set p e))) := by
  have hl : h.length = (h.set p e).length := by simp
  have key : ∀ n, n = (h.set p e).length → SV.Le (.d (.sl 2 n fun i => if 0 + i = 0 + ((p : Nat) : Int).toNat then X else (fun i => entD (h.getD i default)) (0 + i))) (.d (slOf 2 entD (h.set p e))) := by
    rintro n rfl
    refine SV.Le.sl fun i hi => ?_
    rw [List.length_set] at hi
    simp only [Nat.zero_add, Int.toNat_natCast]
    rw [List.getD_eq_getElem?_getD, List.getD_eq_getElem?_getD, List.getElem?_set]
    by_cases h1 : i = p
    · subst h1; rw [if_pos rfl, if_pos rfl, if_pos hi]; exact hX
    · rw [if_neg h1, if_neg (fun e => h1 e.symm)]
  exact key _ hl
theorem hasE_lt {xs : List Dir.Ent} {key : List Int} (h : hasE xs key = true) : posE xs key < xs.length := by simp [hasE] at h; exact h.1
theorem found_c (who : Int) (c : Dir.Kc) (w : Nat) (v : Int) (h : List Dir.Ent) (hl : h.length ≤ 16000000) (hb : ∀ k, IsB (h.getD k default).key) (hk : IsB c.key) :
    Fun TC 91 60 [.i .i64 w, .i .u64 v, .d (slOf 2 entD h), bx (.d (slOf 1 (encI .u8) c.key)), bx (.i .i64 c.val), bx (.i .u8 c.op), bx (.ptr 0 0), bx (.i .i64 who)] []
      60 (.tup [cl who (Dir.found dirOps c w v h).1, rslS (Dir.found dirOps c w v h).2]) [] := by
  have hp := posE_le h c.key
  have hh := fun e => hasE_lt (xs := h) (key := c.key) e
  have hf := dir_find h c.key (by omega) hb hk
  cases hz : hasE h c.key with
  | false =>
    rw [hz] at hf
    refine Fun.mk' Tryz.func91 rfl rfl (Nat.le_of_ble_eq_true rfl) (by decide) ?_
    (repeat' (first
    | with_reducible refine Wp.seq ?_
    | with_reducible refine Wp.block ?_
    | ((with_reducible first | refine Wp.region ?_ | refine Wp.drawL TC_mixed ?_ | refine Wp.cond ?_ | refine Wp.ret ?_ | refine Wp.skip ?_ | refine Wp.exit ?_ | refine Go.mk ?_ | apply Eff1.of); conv => whnf)
    | with_reducible exact rfl
    | ((with_reducible refine Ov.ok zO ?_); conv => whnf)
    | (with_reducible refine Ov.sh1 (by with_unfolding_all exact rfl) ?_)
    | ((with_reducible refine Ov.quo (by omega) (by omega) (by omega) (fun _ _ => ?_)); conv => whnf)
    | ((with_reducible refine And.intro (show drawOK _ _ _ _ = true by kernel_rfl) ?_); conv => whnf)
    | ((with_reducible refine And.intro zC ?_); conv => whnf)
    | ((with_reducible refine And.intro ?hb ?_); (case hb => exact bytes_bd (Nat.le_of_ble_eq_true rfl) (by omega)); (conv => whnf))
    | ((refine DApp.a rfl rfl rfl rfl rfl rfl ?hb ?_); (case hb => exact zB); (conv => whnf))
    | ((refine DApp.b rfl rfl rfl rfl rfl rfl rfl rfl ?hb ?ho ?_); (case hb => exact zB); (case ho => omega); (conv => whnf))
    | ((refine DApp.c rfl rfl rfl rfl rfl ?hb ?_); (case hb => exact zB); (conv => whnf))
    | ((refine DApp.d rfl rfl rfl rfl rfl rfl ?hb ?ho ?_); (case hb => exact zB); (case ho => omega); (conv => whnf))
    | ((with_reducible refine nil_no (by omega) ?_); (conv => whnf))
    | ((with_reducible refine nil_any ?_ (fun hn0 => ?_)) <;> (conv => whnf))
    | ((with_reducible refine CallStop.pure (hf) rfl rfl ?_); conv => whnf) | ((with_reducible refine DCall.pure (hf) rfl rfl ?_); conv => whnf)
    | ((refine CallStop.fn (ent_Clone h (by omega)) [] rfl rfl rfl rfl rfl ?ha ?hh ?_); (case ha => exact zA); (case hh => exact zH); (conv => whnf))
    | ((refine DCall.fn (ent_Clone h (by omega)) [] [] rfl rfl rfl rfl rfl ?ha ?hh ?hs ?_); (case ha => exact zA); (case hh => exact zH); (case hs => exact zK); (conv => whnf)) | ((refine DCall.new (ent_Clone h (by omega)) [] [] rfl rfl rfl rfl rfl rfl ?ha ?hh ?hs ?_); (case ha => exact zA); (case hh => exact zH); (case hs => exact zK); (conv => whnf))
    | ((refine CallStop.fn (ent_Insert h (posE h c.key) ⟨c.key, c.val⟩ hp (by omega)) [64,66] rfl rfl rfl rfl rfl ?ha ?hh ?_); (case ha => exact zA); (case hh => exact zH); (conv => whnf))
    | ((refine DCall.fn (ent_Insert h (posE h c.key) ⟨c.key, c.val⟩ hp (by omega)) [64,66] [64,66] rfl rfl rfl rfl rfl ?ha ?hh ?hs ?_); (case ha => exact zA); (case hh => exact zH); (case hs => exact zK); (conv => whnf)) | ((refine DCall.new (ent_Insert h (posE h c.key) ⟨c.key, c.val⟩ hp (by omega)) [64,66] [64,66] rfl rfl rfl rfl rfl rfl ?ha ?hh ?hs ?_); (case ha => exact zA); (case hh => exact zH); (case hs => exact zK); (conv => whnf))
    | ((refine DCall.fn (ent_Insert h (posE h c.key) ⟨c.key, c.val⟩ hp (by omega)) [64,66] [] rfl rfl rfl rfl rfl ?ha ?hh ?hs ?_); (case ha => exact zA); (case hh => exact zH); (case hs => exact zK); (conv => whnf)) | ((refine DCall.new (ent_Insert h (posE h c.key) ⟨c.key, c.val⟩ hp (by omega)) [64,66] [] rfl rfl rfl rfl rfl rfl ?ha ?hh ?hs ?_); (case ha => exact zA); (case hh => exact zH); (case hs => exact zK); (conv => whnf))
    | ((refine ways (fun hc => ?_) (fun hc => ?_)) <;> (try simp only [decide_eq_true_eq, decide_eq_false_iff_not, Bool.and_eq_true, Bool.or_eq_true, Bool.and_eq_false_iff, Bool.or_eq_false_iff, Bool.not_eq_true', Bool.not_eq_false', beq_iff_eq, bne_iff_ne, ne_eq, beq_eq_false_iff_ne, bne_eq_false_iff_eq, Bool.not_eq_true, Bool.not_eq_false] at hc) <;> (try (exfalso; omega)) <;> (conv => whnf))))
    · rw [show Dir.found dirOps c w v h = (.none, ⟨true, 7, 0⟩) by simp [Dir.found, dirOps, fndE, *]]
      (refine FinLe.sealM ?_); (conv => whnf); (repeat' (first | exact trivial | exact Seal.any | exact Seal.d | exact Seal.ptrM rfl | exact Seal.slM rfl | exact Seal.sameM (by assumption) | exact Seal.lt0 (SV.Lt.of rfl) | exact Seal.sameM (SV.Lt.of rfl) | ((refine Seal.ptrN rfl rfl ?_); (conv => whnf)) | (refine Seal.le (Seal.sl (idxK_range_ge (Nat.le_of_ble_eq_true rfl)) rfl (by first | omega | simp)) ?_) | ((refine Seal.fn ?_); (conv => whnf)) | ((refine Seal.agg ?_); (conv => whnf)) | ((refine Seal.tup ?_); (conv => whnf)) | ((refine Seal.iref ?_); (conv => whnf)) | ((refine And.intro ?_ ?_) <;> (conv => whnf)) | exact Seal.le Seal.d SV.Le.nil))
    · rw [show Dir.found dirOps c w v h = (.kS c w v (insAt h (posE h c.key) ⟨c.key, c.val⟩) c.val, Dir.r0) by simp [Dir.found, dirOps, fndE, *]]
      (refine FinLe.sealM ?_); (conv => whnf); (repeat' (first | exact trivial | exact Seal.any | exact Seal.d | exact Seal.ptrM rfl | exact Seal.slM rfl | exact Seal.sameM (by assumption) | exact Seal.lt0 (SV.Lt.of rfl) | exact Seal.sameM (SV.Lt.of rfl) | ((refine Seal.ptrN rfl rfl ?_); (conv => whnf)) | (refine Seal.le (Seal.sl (idxK_range_ge (Nat.le_of_ble_eq_true rfl)) rfl (by first | omega | simp)) ?_) | ((refine Seal.fn ?_); (conv => whnf)) | ((refine Seal.agg ?_); (conv => whnf)) | ((refine Seal.tup ?_); (conv => whnf)) | ((refine Seal.iref ?_); (conv => whnf)) | ((refine And.intro ?_ ?_) <;> (conv => whnf)) | exact Seal.le Seal.d SV.Le.nil))
      all_goals first | exact SV.Le.sl fun i hi => by rw [Nat.zero_add] | exact le_setE (by rw [wat, Int.toNat_natCast]; rfl) | exact le_setE (by rw [wat]; rfl)
  | true =>
    have hh := hh hz
    rw [hz] at hf
    refine Fun.mk' Tryz.func91 rfl rfl (Nat.le_of_ble_eq_true rfl) (by decide) ?_
    (repeat' (first
    | with_reducible refine Wp.seq ?_
    | with_reducible refine Wp.block ?_
    | ((with_reducible first | refine Wp.region ?_ | refine Wp.drawL TC_mixed ?_ | refine Wp.cond ?_ | refine Wp.ret ?_ | refine Wp.skip ?_ | refine Wp.exit ?_ | refine Go.mk ?_ | apply Eff1.of); conv => whnf)
    | with_reducible exact rfl
    | ((with_reducible refine Ov.ok zO ?_); conv => whnf)
    | (with_reducible refine Ov.sh1 (by with_unfolding_all exact rfl) ?_)
    | ((with_reducible refine Ov.quo (by omega) (by omega) (by omega) (fun _ _ => ?_)); conv => whnf)
    | ((with_reducible refine And.intro (show drawOK _ _ _ _ = true by kernel_rfl) ?_); conv => whnf)
    | ((with_reducible refine And.intro zC ?_); conv => whnf)
    | ((with_reducible refine And.intro ?hb ?_); (case hb => exact bytes_bd (Nat.le_of_ble_eq_true rfl) (by omega)); (conv => whnf))
    | ((refine DApp.a rfl rfl rfl rfl rfl rfl ?hb ?_); (case hb => exact zB); (conv => whnf))
    | ((refine DApp.b rfl rfl rfl rfl rfl rfl rfl rfl ?hb ?ho ?_); (case hb => exact zB); (case ho => omega); (conv => whnf))
    | ((refine DApp.c rfl rfl rfl rfl rfl ?hb ?_); (case hb => exact zB); (conv => whnf))
    | ((refine DApp.d rfl rfl rfl rfl rfl rfl ?hb ?ho ?_); (case hb => exact zB); (case ho => omega); (conv => whnf))
    | ((with_reducible refine nil_no (by omega) ?_); (conv => whnf))
    | ((with_reducible refine nil_any ?_ (fun hn0 => ?_)) <;> (conv => whnf))
    | ((with_reducible refine CallStop.pure (hf) rfl rfl ?_); conv => whnf) | ((with_reducible refine DCall.pure (hf) rfl rfl ?_); conv => whnf)
    | ((refine CallStop.fn (ent_Clone h (by omega)) [] rfl rfl rfl rfl rfl ?ha ?hh ?_); (case ha => exact zA); (case hh => exact zH); (conv => whnf))
    | ((refine DCall.fn (ent_Clone h (by omega)) [] [] rfl rfl rfl rfl rfl ?ha ?hh ?hs ?_); (case ha => exact zA); (case hh => exact zH); (case hs => exact zK); (conv => whnf)) | ((refine DCall.new (ent_Clone h (by omega)) [] [] rfl rfl rfl rfl rfl rfl ?ha ?hh ?hs ?_); (case ha => exact zA); (case hh => exact zH); (case hs => exact zK); (conv => whnf))
    | ((refine CallStop.fn (ent_Delete h (posE h c.key) hh (by omega)) [64] rfl rfl rfl rfl rfl ?ha ?hh ?_); (case ha => exact zA); (case hh => exact zH); (conv => whnf))
    | ((refine DCall.fn (ent_Delete h (posE h c.key) hh (by omega)) [64] [64] rfl rfl rfl rfl rfl ?ha ?hh ?hs ?_); (case ha => exact zA); (case hh => exact zH); (case hs => exact zK); (conv => whnf)) | ((refine DCall.new (ent_Delete h (posE h c.key) hh (by omega)) [64] [64] rfl rfl rfl rfl rfl rfl ?ha ?hh ?hs ?_); (case ha => exact zA); (case hh => exact zH); (case hs => exact zK); (conv => whnf))
    | ((refine DCall.fn (ent_Delete h (posE h c.key) hh (by omega)) [64] [] rfl rfl rfl rfl rfl ?ha ?hh ?hs ?_); (case ha => exact zA); (case hh => exact zH); (case hs => exact zK); (conv => whnf)) | ((refine DCall.new (ent_Delete h (posE h c.key) hh (by omega)) [64] [] rfl rfl rfl rfl rfl rfl ?ha ?hh ?hs ?_); (case ha => exact zA); (case hh => exact zH); (case hs => exact zK); (conv => whnf))
    | ((refine ways (fun hc => ?_) (fun hc => ?_)) <;> (try simp only [decide_eq_true_eq, decide_eq_false_iff_not, Bool.and_eq_true, Bool.or_eq_true, Bool.and_eq_false_iff, Bool.or_eq_false_iff, Bool.not_eq_true', Bool.not_eq_false', beq_iff_eq, bne_iff_ne, ne_eq, beq_eq_false_iff_ne, bne_eq_false_iff_eq, Bool.not_eq_true, Bool.not_eq_false] at hc) <;> (try (exfalso; omega)) <;> (conv => whnf))))
    · rename_i hc0
      rw [show Dir.found dirOps c w v h = (.none, ⟨true, 0, (h.getD (posE h c.key) default).val⟩) by simp [Dir.found, dirOps, fndE, *]]
      (refine FinLe.sealM ?_); (conv => whnf); (repeat' (first | exact trivial | exact Seal.any | exact Seal.d | exact Seal.ptrM rfl | exact Seal.slM rfl | exact Seal.sameM (by assumption) | exact Seal.lt0 (SV.Lt.of rfl) | exact Seal.sameM (SV.Lt.of rfl) | ((refine Seal.ptrN rfl rfl ?_); (conv => whnf)) | (refine Seal.le (Seal.sl (idxK_range_ge (Nat.le_of_ble_eq_true rfl)) rfl (by first | omega | simp)) ?_) | ((refine Seal.fn ?_); (conv => whnf)) | ((refine Seal.agg ?_); (conv => whnf)) | ((refine Seal.tup ?_); (conv => whnf)) | ((refine Seal.iref ?_); (conv => whnf)) | ((refine And.intro ?_ ?_) <;> (conv => whnf)) | exact Seal.le Seal.d SV.Le.nil))
      try exact SV.Le.of_eq (by rw [Int.toNat_natCast])
    · rename_i hc0 hc1
      rw [show Dir.found dirOps c w v h = (.kS c w v (delAt h (posE h c.key)) (h.getD (posE h c.key) default).val, Dir.r0) by simp [Dir.found, dirOps, fndE, *]]
      (refine FinLe.sealM ?_); (conv => whnf); (repeat' (first | exact trivial | exact Seal.any | exact Seal.d | exact Seal.ptrM rfl | exact Seal.slM rfl | exact Seal.sameM (by assumption) | exact Seal.lt0 (SV.Lt.of rfl) | exact Seal.sameM (SV.Lt.of rfl) | ((refine Seal.ptrN rfl rfl ?_); (conv => whnf)) | (refine Seal.le (Seal.sl (idxK_range_ge (Nat.le_of_ble_eq_true rfl)) rfl (by first | omega | simp)) ?_) | ((refine Seal.fn ?_); (conv => whnf)) | ((refine Seal.agg ?_); (conv => whnf)) | ((refine Seal.tup ?_); (conv => whnf)) | ((refine Seal.iref ?_); (conv => whnf)) | ((refine And.intro ?_ ?_) <;> (conv => whnf)) | exact Seal.le Seal.d SV.Le.nil))
      all_goals first | exact SV.Le.sl fun i hi => by rw [Nat.zero_add] | exact le_setE (by rw [wat, Int.toNat_natCast]; rfl) | exact le_setE (by rw [wat]; rfl)
    · rename_i hc0 hc1
      rw [show Dir.found dirOps c w v h = (.kS c w v (h.set (posE h c.key) ⟨(h.getD (posE h c.key) default).key, (h.getD (posE h c.key) default).val⟩) (h.getD (posE h c.key) default).val, Dir.r0) by simp [Dir.found, dirOps, fndE, *]]
      (refine FinLe.sealM ?_); (conv => whnf); (repeat' (first | exact trivial | exact Seal.any | exact Seal.d | exact Seal.ptrM rfl | exact Seal.slM rfl | exact Seal.sameM (by assumption) | exact Seal.lt0 (SV.Lt.of rfl) | exact Seal.sameM (SV.Lt.of rfl) | ((refine Seal.ptrN rfl rfl ?_); (conv => whnf)) | (refine Seal.le (Seal.sl (idxK_range_ge (Nat.le_of_ble_eq_true rfl)) rfl (by first | omega | simp)) ?_) | ((refine Seal.fn ?_); (conv => whnf)) | ((refine Seal.agg ?_); (conv => whnf)) | ((refine Seal.tup ?_); (conv => whnf)) | ((refine Seal.iref ?_); (conv => whnf)) | ((refine And.intro ?_ ?_) <;> (conv => whnf)) | exact Seal.le Seal.d SV.Le.nil))
      all_goals first | exact SV.Le.sl fun i hi => by rw [Nat.zero_add] | exact le_setE (by rw [wat, Int.toNat_natCast]; rfl) | exact le_setE (by rw [wat]; rfl)
    · rw [show Dir.found dirOps c w v h = (.kS c w v (h.set (posE h c.key) ⟨(h.getD (posE h c.key) default).key, c.val⟩) c.val, Dir.r0) by simp [Dir.found, dirOps, fndE, *]]
      (refine FinLe.sealM ?_); (conv => whnf); (repeat' (first | exact trivial | exact Seal.any | exact Seal.d | exact Seal.ptrM rfl | exact Seal.slM rfl | exact Seal.sameM (by assumption) | exact Seal.lt0 (SV.Lt.of rfl) | exact Seal.sameM (SV.Lt.of rfl) | ((refine Seal.ptrN rfl rfl ?_); (conv => whnf)) | (refine Seal.le (Seal.sl (idxK_range_ge (Nat.le_of_ble_eq_true rfl)) rfl (by first | omega | simp)) ?_) | ((refine Seal.fn ?_); (conv => whnf)) | ((refine Seal.agg ?_); (conv => whnf)) | ((refine Seal.tup ?_); (conv => whnf)) | ((refine Seal.iref ?_); (conv => whnf)) | ((refine And.intro ?_ ?_) <;> (conv => whnf)) | exact Seal.le Seal.d SV.Le.nil))
      all_goals first | exact SV.Le.sl fun i hi => by rw [Nat.zero_add] | exact le_setE (by rw [wat, Int.toNat_natCast]; rfl) | exact le_setE (by rw [wat]; rfl)
end Go.Proofs.YtbdclkjelhlfbaaGreat

namespace Go.Proofs.YtbdclkjelhlfbaaGreat
open Go.RowKit
set_option maxRecDepth 100000
theorem Ov.tdivN {k : IntKind} {a b : Int} {p : Int → Prop} (ha : 0 ≤ a) (h : Ov k (a / b) p) : Ov k (a.tdiv b) p := by rw [Int.tdiv_eq_ediv_of_nonneg ha]; exact h
theorem place_I (x : Int) (h0 : 0 ≤ x) (h4 : x ≤ 4) (s : Int) : Pure TC 83 [.i .i64 x, .i .u64 s] (.i .i64 (Dir.plc x.toNat s)) := by
  have := lane_place x.toNat (by omega) s
  rwa [Int.toNat_of_nonneg h0] at this
def dirF (g : Nat → SV) : Nat → SV
  | 0 => lanesS
  | j + 1 => g j
def dirB (g : Nat → SV) : Blk := .cf 5 65 (dirF g)
def dirH (g : Nat → SV) (M : Dir.Mc) (nl : Nat) (f : Nat → List D) (clk cnt : Int) : List (Nat × Option Blk) :=
  [(0, some (dirB g)), (1, some (machB 2 4 32 nl clk cnt)), (2, some (wordB 32 M.W)), (3, some (holdB M.Hd)), (4, some (lastB nl f))]
def dirN (g : Nat → SV) (M : Dir.Mc) (nl : Nat) (f : Nat → List D) (clk cnt : Int) (a : List D) : List (Nat × Option Blk) :=
  [(0, some (dirB g)), (1, some (machB 2 5 32 (noteN nl) clk (cnt + 1))), (2, some (wordB 32 M.W)), (3, some (holdB M.Hd)), (4, none), (5, some (lastB (noteN nl) (noteF nl f a)))]
def HOK (h : List Dir.Ent) : Prop := h.length ≤ 16000000 ∧ ∀ k, IsB (h.getD k default).key
structure DOK (who : Int) (g : Nat → SV) (M : Dir.Mc) (nl : Nat) (cnt : Int) : Prop where
  w0 : 0 ≤ who
  w1 : who < 64
  nl : nl ≤ 128
  c0 : 0 ≤ cnt
  c1 : cnt ≤ 4611686018427387903
  g : ∀ j, SV.Lt 5 (g j)
  d0 : 0 ≤ M.W 0
  d1 : M.W 0 ≤ 8
  hd : ∀ w, HOK (M.Hd w)
theorem id5 {L : List Nat} {i : Nat} (hi : i < 5) : (0 :: 1 :: 2 :: 3 :: 4 :: L).getD i 0 = i := by
  rcases i with _ | _ | _ | _ | _ | i <;> first | rfl | omega
theorem dirF_lt {g : Nat → SV} (hg : ∀ j, SV.Lt 5 (g j)) (j : Nat) : SV.Lt 5 (dirF g j) := by
  cases j with
  | zero => exact .of rfl
  | succ j => exact hg j
theorem dir_seal {S : St} {g : Nat → SV} (hg : ∀ j, SV.Lt 5 (g j)) {L : List Nat} : ∀ j, j < 65 → Seal S (0 :: 1 :: 2 :: 3 :: 4 :: L) (dirF g j) (dirF g j) ∧ SV.Lt 5 (dirF g j) :=
  fun j _ => ⟨.same (dirF_lt hg j) (by simp) fun i hi => id5 hi, dirF_lt hg j⟩
variable {who : Int} {g : Nat → SV} {M : Dir.Mc} {nl : Nat} {f : Nat → List D} {clk cnt : Int}
theorem step_k0 (hM : DOK who g M nl cnt) (c : Dir.Kc) : Fun TC 130 5 [bx lanesS, bx (.i .i64 who), bx (.i .u64 (sumK c.key)), bx (thnK who c)] (dirH g M nl f clk cnt)
    6 (.tup [cl who (Dir.step dirOps M (.k0 c)).2.1, rslS (Dir.step dirOps M (.k0 c)).2.2]) (dirN g (Dir.step dirOps M (.k0 c)).1 nl f clk cnt (accD who 1 0 (M.W 0) 0 true)) := by
  have q0 := hM.w0; have q1 := hM.w1; have q2 := hM.nl; have q3 := hM.c0; have q4 := hM.c1; have q5 := hM.g; have q6 := hM.d0; have q7 := hM.d1; have q8 := hM.hd
  have qr : (M.W 0).tmod 2 = M.W 0 % 2 := Int.tmod_eq_emod_of_nonneg q6
  refine Fun.mk' Tryz.func130 rfl rfl (Nat.le_of_ble_eq_true rfl) (by decide) ?_
  (repeat' (first
    | with_reducible refine Wp.seq ?_
    | with_reducible refine Wp.block ?_
    | ((with_reducible first | refine Wp.region ?_ | refine Wp.drawL TC_mixed ?_ | refine Wp.cond ?_ | refine Wp.ret ?_ | refine Wp.skip ?_ | refine Wp.exit ?_ | refine Go.mk ?_ | apply Eff1.of); conv => whnf)
    | with_reducible exact rfl
    | ((with_reducible refine Ov.ok zO ?_); conv => whnf)
    | (with_reducible refine Ov.sh1 (by with_unfolding_all exact rfl) ?_)
    | ((with_reducible refine Ov.quo (by omega) (by omega) (by omega) (fun _ _ => ?_)); conv => whnf)
    | ((with_reducible refine And.intro (show drawOK _ _ _ _ = true by kernel_rfl) ?_); conv => whnf)
    | ((with_reducible refine And.intro zC ?_); conv => whnf)
    | ((with_reducible refine And.intro ?hb ?_); (case hb => exact bytes_bd (Nat.le_of_ble_eq_true rfl) (by omega)); (conv => whnf))
    | ((refine DApp.a rfl rfl rfl rfl rfl rfl ?hb ?_); (case hb => exact zB); (conv => whnf))
    | ((refine DApp.b rfl rfl rfl rfl rfl rfl rfl rfl ?hb ?ho ?_); (case hb => exact zB); (case ho => omega); (conv => whnf))
    | ((refine DApp.c rfl rfl rfl rfl rfl ?hb ?_); (case hb => exact zB); (conv => whnf))
    | ((refine DApp.d rfl rfl rfl rfl rfl rfl ?hb ?ho ?_); (case hb => exact zB); (case ho => omega); (conv => whnf))
    | ((with_reducible refine nil_no (by omega) ?_); (conv => whnf))
    | ((with_reducible refine nil_any ?_ (fun hn0 => ?_)) <;> (conv => whnf))
    | ((refine CallStop.fn (board_Load nl M.W M.Hd f clk cnt who 0 q2 q3 q4 q0 q1 (by omega)) [1,2,3,4] rfl rfl rfl rfl rfl ?ha ?hh ?_); (case ha => exact zA); (case hh => exact zH); (conv => whnf))
    | ((refine DCall.fn (board_Load nl M.W M.Hd f clk cnt who 0 q2 q3 q4 q0 q1 (by omega)) [1,2,3,4] [1,2,3,4] rfl rfl rfl rfl rfl ?ha ?hh ?hs ?_); (case ha => exact zA); (case hh => exact zH); (case hs => exact zK); (conv => whnf)) | ((refine DCall.new (board_Load nl M.W M.Hd f clk cnt who 0 q2 q3 q4 q0 q1 (by omega)) [1,2,3,4] [1,2,3,4] rfl rfl rfl rfl rfl rfl ?ha ?hh ?hs ?_); (case ha => exact zA); (case hh => exact zH); (case hs => exact zK); (conv => whnf))
    | ((refine DCall.fn (board_Load nl M.W M.Hd f clk cnt who 0 q2 q3 q4 q0 q1 (by omega)) [1,2,3,4] [] rfl rfl rfl rfl rfl ?ha ?hh ?hs ?_); (case ha => exact zA); (case hh => exact zH); (case hs => exact zK); (conv => whnf)) | ((refine DCall.new (board_Load nl M.W M.Hd f clk cnt who 0 q2 q3 q4 q0 q1 (by omega)) [1,2,3,4] [] rfl rfl rfl rfl rfl rfl ?ha ?hh ?hs ?_); (case ha => exact zA); (case hh => exact zH); (case hs => exact zK); (conv => whnf))
    | ((with_reducible refine CallStop.pure (place_I _ (by omega) (by omega) _) rfl rfl ?_); conv => whnf) | ((with_reducible refine DCall.pure (place_I _ (by omega) (by omega) _) rfl rfl ?_); conv => whnf)
    | ((with_reducible refine DCall.funM (find_any _ _ _ _ (by exact SV.Lt.of rfl)) rfl rfl ?_); conv => whnf) | ((with_reducible refine DCall.funM (enter_any _ _ _ _ _ (by exact SV.Lt.of rfl)) rfl rfl ?_); conv => whnf) | ((with_reducible refine DCall.funM (freeze_any _ _ _ _ (by exact SV.Lt.of rfl)) rfl rfl ?_); conv => whnf) | ((with_reducible refine DCall.funM (half_any _ _ (by omega) _ _ _ _ (by exact SV.Lt.of rfl)) rfl rfl ?_); conv => whnf) | ((with_reducible refine DCall.funM (split_c _) rfl rfl ?_); conv => whnf) | ((with_reducible refine CallStop.funM (find_any _ _ _ _ (by exact SV.Lt.of rfl)) rfl rfl ?_); conv => whnf) | ((with_reducible refine CallStop.funM (enter_any _ _ _ _ _ (by exact SV.Lt.of rfl)) rfl rfl ?_); conv => whnf) | ((with_reducible refine CallStop.funM (freeze_any _ _ _ _ (by exact SV.Lt.of rfl)) rfl rfl ?_); conv => whnf) | ((with_reducible refine CallStop.funM (half_any _ _ (by omega) _ _ _ _ (by exact SV.Lt.of rfl)) rfl rfl ?_); conv => whnf) | ((with_reducible refine CallStop.funM (split_c _) rfl rfl ?_); conv => whnf)
    | (with_reducible refine Ov.tdivN (by omega) ?_)
    | ((refine ways (fun hc => ?_) (fun hc => ?_)) <;> (try simp only [decide_eq_true_eq, decide_eq_false_iff_not, Bool.and_eq_true, Bool.or_eq_true, Bool.and_eq_false_iff, Bool.or_eq_false_iff, Bool.not_eq_true', Bool.not_eq_false', beq_iff_eq, bne_iff_ne, ne_eq, beq_eq_false_iff_ne, bne_eq_false_iff_eq, Bool.not_eq_true, Bool.not_eq_false, qr] at hc) <;> (try (exfalso; omega)) <;> (conv => whnf))))
  · rw [show Dir.step dirOps M (.k0 c) = (M, .kE c (Dir.plc (M.W 0 / 2).toNat (sumK c.key)), Dir.r0) by simp only [Dir.step]; rw [if_pos hc]; rfl]
    (refine FinLe.sealB [0,1,2,3,4,12] rfl rfl rfl ?_ ?_); (focus ((conv => whnf); (repeat' (first | exact zE | ((refine Seal.ptr rfl rfl ?_); (conv => whnf)) | ((refine Seal.fn ?_); (conv => whnf)) | ((refine Seal.agg ?_); (conv => whnf)) | ((refine Seal.tup ?_); (conv => whnf)) | ((refine Seal.iref ?_); (conv => whnf)) | ((refine And.intro ?_ ?_) <;> (conv => whnf)))))); (focus ((conv => whnf); (repeat' (first | exact zE | ((refine Seal.ptr rfl rfl ?_); (conv => whnf)) | ((refine Seal.fn ?_); (conv => whnf)) | ((refine Seal.agg ?_); (conv => whnf)) | ((refine Seal.tup ?_); (conv => whnf)) | ((refine Seal.iref ?_); (conv => whnf)) | ((refine And.intro ?_ ?_) <;> (conv => whnf))))))
  · rw [show Dir.step dirOps M (.k0 c) = (M, .kF c (M.W 0 / 2).toNat (Dir.plc (M.W 0 / 2).toNat (sumK c.key)), Dir.r0) by simp only [Dir.step]; rw [if_neg hc]; rfl]
    (refine FinLe.sealB [0,1,2,3,4,12] rfl rfl rfl ?_ ?_); (focus ((conv => whnf); (repeat' (first | exact zE | ((refine Seal.ptr rfl rfl ?_); (conv => whnf)) | ((refine Seal.fn ?_); (conv => whnf)) | ((refine Seal.agg ?_); (conv => whnf)) | ((refine Seal.tup ?_); (conv => whnf)) | ((refine Seal.iref ?_); (conv => whnf)) | ((refine And.intro ?_ ?_) <;> (conv => whnf)))))); (focus ((conv => whnf); (repeat' (first | exact zE | ((refine Seal.ptr rfl rfl ?_); (conv => whnf)) | ((refine Seal.fn ?_); (conv => whnf)) | ((refine Seal.agg ?_); (conv => whnf)) | ((refine Seal.tup ?_); (conv => whnf)) | ((refine Seal.iref ?_); (conv => whnf)) | ((refine And.intro ?_ ?_) <;> (conv => whnf))))))
theorem found_two (c : Dir.Kc) (w : Nat) (v : Int) (h : List Dir.Ent) : (∃ r, r.done = true ∧ Dir.found dirOps c w v h = (.none, r)) ∨ ∃ m n, Dir.found dirOps c w v h = (.kS c w v m n, Dir.r0) := by
  unfold Dir.found
  cases e : dirOps.fnd c h with
  | inl r =>
    refine .inl ⟨r, ?_, rfl⟩
    have e : fndE c h = .inl r := e
    unfold fndE at e
    split at e
    · cases e; rfl
    · split at e
      · cases e; rfl
      · split at e
        · cases e
        · split at e <;> cases e
  | inr p => exact .inr ⟨p.1, p.2, rfl⟩
theorem tf_K (who : Int) (c : Dir.Kc) (lv : Nat) (hl : lv ≤ 3) (h : List Dir.Ent) : Fun TC 132 60 [.d (slOf 2 entD h), bx lanesS, bx (.i .i64 who), bx (.i .i64 lv), bx (.i .u64 (sumK c.key)), bx (thnK who c), res0] []
    60 (cl who (Dir.toH dirOps c lv h)) [] := by
  refine Fun.mk' Tryz.func132 rfl rfl (Nat.le_of_ble_eq_true rfl) (by decide) ?_
  (repeat' (first
    | with_reducible refine Wp.seq ?_
    | with_reducible refine Wp.block ?_
    | ((with_reducible first | refine Wp.region ?_ | refine Wp.drawL TC_mixed ?_ | refine Wp.cond ?_ | refine Wp.ret ?_ | refine Wp.skip ?_ | refine Wp.exit ?_ | refine Go.mk ?_ | apply Eff1.of); conv => whnf)
    | with_reducible exact rfl
    | ((with_reducible refine Ov.ok zO ?_); conv => whnf)
    | (with_reducible refine Ov.sh1 (by with_unfolding_all exact rfl) ?_)
    | ((with_reducible refine Ov.quo (by omega) (by omega) (by omega) (fun _ _ => ?_)); conv => whnf)
    | ((with_reducible refine And.intro (show drawOK _ _ _ _ = true by kernel_rfl) ?_); conv => whnf)
    | ((with_reducible refine And.intro zC ?_); conv => whnf)
    | ((with_reducible refine And.intro ?hb ?_); (case hb => exact bytes_bd (Nat.le_of_ble_eq_true rfl) (by omega)); (conv => whnf))
    | ((refine DApp.a rfl rfl rfl rfl rfl rfl ?hb ?_); (case hb => exact zB); (conv => whnf))
    | ((refine DApp.b rfl rfl rfl rfl rfl rfl rfl rfl ?hb ?ho ?_); (case hb => exact zB); (case ho => omega); (conv => whnf))
    | ((refine DApp.c rfl rfl rfl rfl rfl ?hb ?_); (case hb => exact zB); (conv => whnf))
    | ((refine DApp.d rfl rfl rfl rfl rfl rfl ?hb ?ho ?_); (case hb => exact zB); (case ho => omega); (conv => whnf))
    | ((with_reducible refine nil_no (by omega) ?_); (conv => whnf))
    | ((with_reducible refine nil_any ?_ (fun hn0 => ?_)) <;> (conv => whnf))
    | ((with_reducible refine DCall.funM (find_any _ _ _ _ (by exact SV.Lt.of rfl)) rfl rfl ?_); conv => whnf) | ((with_reducible refine DCall.funM (enter_any _ _ _ _ _ (by exact SV.Lt.of rfl)) rfl rfl ?_); conv => whnf) | ((with_reducible refine DCall.funM (freeze_any _ _ _ _ (by exact SV.Lt.of rfl)) rfl rfl ?_); conv => whnf) | ((with_reducible refine DCall.funM (half_any _ _ (by omega) _ _ _ _ (by exact SV.Lt.of rfl)) rfl rfl ?_); conv => whnf) | ((with_reducible refine DCall.funM (split_c _) rfl rfl ?_); conv => whnf) | ((with_reducible refine CallStop.funM (find_any _ _ _ _ (by exact SV.Lt.of rfl)) rfl rfl ?_); conv => whnf) | ((with_reducible refine CallStop.funM (enter_any _ _ _ _ _ (by exact SV.Lt.of rfl)) rfl rfl ?_); conv => whnf) | ((with_reducible refine CallStop.funM (freeze_any _ _ _ _ (by exact SV.Lt.of rfl)) rfl rfl ?_); conv => whnf) | ((with_reducible refine CallStop.funM (half_any _ _ (by omega) _ _ _ _ (by exact SV.Lt.of rfl)) rfl rfl ?_); conv => whnf) | ((with_reducible refine CallStop.funM (split_c _) rfl rfl ?_); conv => whnf)
    | ((refine ways (fun hc => ?_) (fun hc => ?_)) <;> (try simp only [decide_eq_true_eq, decide_eq_false_iff_not, Bool.and_eq_true, Bool.or_eq_true, Bool.and_eq_false_iff, Bool.or_eq_false_iff, Bool.not_eq_true', Bool.not_eq_false', beq_iff_eq, bne_iff_ne, ne_eq, beq_eq_false_iff_ne, bne_eq_false_iff_eq, Bool.not_eq_true, Bool.not_eq_false] at hc) <;> (try (exfalso; omega)) <;> (conv => whnf))))
  (refine FinLe.sealM ?_); (conv => whnf); (repeat' (first | exact trivial | exact Seal.any | exact Seal.d | exact Seal.ptrM rfl | exact Seal.slM rfl | exact Seal.sameM (by assumption) | exact Seal.lt0 (SV.Lt.of rfl) | exact Seal.sameM (SV.Lt.of rfl) | ((refine Seal.ptrN rfl rfl ?_); (conv => whnf)) | (refine Seal.le (Seal.sl (idxK_range_ge (Nat.le_of_ble_eq_true rfl)) rfl (by first | omega | simp)) ?_) | ((refine Seal.fn ?_); (conv => whnf)) | ((refine Seal.agg ?_); (conv => whnf)) | ((refine Seal.tup ?_); (conv => whnf)) | ((refine Seal.iref ?_); (conv => whnf)) | ((refine And.intro ?_ ?_) <;> (conv => whnf)) | exact Seal.le Seal.d SV.Le.nil))
theorem tf_S (who : Int) (lv i : Nat) (hl : lv ≤ 3) (hi : i < 2 ^ lv) (h : List Dir.Ent) : Fun TC 126 60 [.d (slOf 2 entD h), bx lanesS, bx (.i .i64 who), bx (.i .i64 lv), bx (.i .i64 i), bx endS, res0] []
    60 (cl who (.sH lv i false h)) [] := by
  have hb : (2 : Nat) ^ lv ≤ 2 ^ 3 := Nat.pow_le_pow_right (by omega) hl
  have e : Dir.plc (lv + 1) (i : Int) = Dir.upW lv i false := by rw [← upW_plc hi]; rfl
  refine Fun.mk' Tryz.func126 rfl rfl (Nat.le_of_ble_eq_true rfl) (by decide) ?_
  (repeat' (first
    | with_reducible refine Wp.seq ?_
    | with_reducible refine Wp.block ?_
    | ((with_reducible first | refine Wp.region ?_ | refine Wp.drawL TC_mixed ?_ | refine Wp.cond ?_ | refine Wp.ret ?_ | refine Wp.skip ?_ | refine Wp.exit ?_ | refine Go.mk ?_ | apply Eff1.of); conv => whnf)
    | with_reducible exact rfl
    | ((with_reducible refine Ov.ok zO ?_); conv => whnf)
    | (with_reducible refine Ov.sh1 (by with_unfolding_all exact rfl) ?_)
    | ((with_reducible refine Ov.quo (by omega) (by omega) (by omega) (fun _ _ => ?_)); conv => whnf)
    | ((with_reducible refine And.intro (show drawOK _ _ _ _ = true by kernel_rfl) ?_); conv => whnf)
    | ((with_reducible refine And.intro zC ?_); conv => whnf)
    | ((with_reducible refine And.intro ?hb ?_); (case hb => exact bytes_bd (Nat.le_of_ble_eq_true rfl) (by omega)); (conv => whnf))
    | ((refine DApp.a rfl rfl rfl rfl rfl rfl ?hb ?_); (case hb => exact zB); (conv => whnf))
    | ((refine DApp.b rfl rfl rfl rfl rfl rfl rfl rfl ?hb ?ho ?_); (case hb => exact zB); (case ho => omega); (conv => whnf))
    | ((refine DApp.c rfl rfl rfl rfl rfl ?hb ?_); (case hb => exact zB); (conv => whnf))
    | ((refine DApp.d rfl rfl rfl rfl rfl rfl ?hb ?ho ?_); (case hb => exact zB); (case ho => omega); (conv => whnf))
    | ((with_reducible refine nil_no (by omega) ?_); (conv => whnf))
    | ((with_reducible refine nil_any ?_ (fun hn0 => ?_)) <;> (conv => whnf))
    | ((with_reducible refine DCall.funM (find_any _ _ _ _ (by exact SV.Lt.of rfl)) rfl rfl ?_); conv => whnf) | ((with_reducible refine DCall.funM (enter_any _ _ _ _ _ (by exact SV.Lt.of rfl)) rfl rfl ?_); conv => whnf) | ((with_reducible refine DCall.funM (freeze_any _ _ _ _ (by exact SV.Lt.of rfl)) rfl rfl ?_); conv => whnf) | ((with_reducible refine DCall.funM (half_any _ _ (by omega) _ _ _ _ (by exact SV.Lt.of rfl)) rfl rfl ?_); conv => whnf) | ((with_reducible refine DCall.funM (split_c _) rfl rfl ?_); conv => whnf) | ((with_reducible refine CallStop.funM (find_any _ _ _ _ (by exact SV.Lt.of rfl)) rfl rfl ?_); conv => whnf) | ((with_reducible refine CallStop.funM (enter_any _ _ _ _ _ (by exact SV.Lt.of rfl)) rfl rfl ?_); conv => whnf) | ((with_reducible refine CallStop.funM (freeze_any _ _ _ _ (by exact SV.Lt.of rfl)) rfl rfl ?_); conv => whnf) | ((with_reducible refine CallStop.funM (half_any _ _ (by omega) _ _ _ _ (by exact SV.Lt.of rfl)) rfl rfl ?_); conv => whnf) | ((with_reducible refine CallStop.funM (split_c _) rfl rfl ?_); conv => whnf)
    | ((refine ways (fun hc => ?_) (fun hc => ?_)) <;> (try simp only [decide_eq_true_eq, decide_eq_false_iff_not, Bool.and_eq_true, Bool.or_eq_true, Bool.and_eq_false_iff, Bool.or_eq_false_iff, Bool.not_eq_true', Bool.not_eq_false', beq_iff_eq, bne_iff_ne, ne_eq, beq_eq_false_iff_ne, bne_eq_false_iff_eq, Bool.not_eq_true, Bool.not_eq_false] at hc) <;> (try (exfalso; omega)) <;> (conv => whnf))))
  rw [e]
  (refine FinLe.sealM ?_); (conv => whnf); (repeat' (first | exact trivial | exact Seal.any | exact Seal.d | exact Seal.ptrM rfl | exact Seal.slM rfl | exact Seal.sameM (by assumption) | exact Seal.lt0 (SV.Lt.of rfl) | exact Seal.sameM (SV.Lt.of rfl) | ((refine Seal.ptrN rfl rfl ?_); (conv => whnf)) | (refine Seal.le (Seal.sl (idxK_range_ge (Nat.le_of_ble_eq_true rfl)) rfl (by first | omega | simp)) ?_) | ((refine Seal.fn ?_); (conv => whnf)) | ((refine Seal.agg ?_); (conv => whnf)) | ((refine Seal.tup ?_); (conv => whnf)) | ((refine Seal.iref ?_); (conv => whnf)) | ((refine And.intro ?_ ?_) <;> (conv => whnf)) | exact Seal.le Seal.d SV.Le.nil))
theorem move_I (who x y : Int) (hx : 0 ≤ x) (hx3 : x ≤ 3) (hy : 0 ≤ y) (hy2 : y ≤ 2 ^ x.toNat) : Fun TC 87 60 [lanesS, .i .i64 who, .i .i64 x, .i .i64 y, endS] [] 60 (cl who (Dir.move x.toNat y.toNat)) [] := by
  have e : ((2 ^ x.toNat : Nat) : Int) = 2 ^ x.toNat := by simp
  have := move_c who x.toNat y.toNat (by omega) (by omega)
  rwa [Int.toNat_of_nonneg hx, Int.toNat_of_nonneg hy] at this
theorem dir_cutI (xs : List Dir.Ent) (lv : Nat) (x : Int) (hlv : lv ≤ 4) (hx : 0 ≤ x) (hl : xs.length ≤ 16777216) : Pure TC 46 [.d (slOf 2 entD xs), .i .i64 lv, .i .i64 x] (.d (slOf 2 entD (cutL xs lv x.toNat))) := by
  have := dir_cut xs lv x.toNat hlv hl
  rwa [Int.toNat_of_nonneg hx] at this
theorem ent_1 {c : Dir.Kc} {w : Nat} {v : Int} {h : List Dir.Ent} (hv : v = 0 ∨ 4611686018427387904 ≤ v) : Dir.entered dirOps c w v h = (.k0 c, Dir.r0) := if_pos hv
theorem ent_2 {c : Dir.Kc} {w : Nat} {v : Int} {h : List Dir.Ent} (hv : ¬ (v = 0 ∨ 4611686018427387904 ≤ v)) : Dir.entered dirOps c w v h = Dir.found dirOps c w v h := if_neg hv
theorem step_kE (hM : DOK who g M nl cnt) (c : Dir.Kc) (w : Nat) (hw : w < 32) (hk : IsB c.key) : Fun TC 182 5 [bx lanesS, bx (.i .i64 who), bx (.i .i64 w), bx (.i .u64 (sumK c.key)), bx (thnK who c)] (dirH g M nl f clk cnt)
    6 (.tup [cl who (Dir.step dirOps M (.kE c w)).2.1, rslS (Dir.step dirOps M (.kE c w)).2.2]) (dirN g (Dir.step dirOps M (.kE c w)).1 nl f clk cnt (accD who 1 w (M.W w) 0 true)) := by
  have q0 := hM.w0; have q1 := hM.w1; have q2 := hM.nl; have q3 := hM.c0; have q4 := hM.c1; have q5 := hM.g; have q6 := hM.d0; have q7 := hM.d1; have q8 := hM.hd
  have qr : (M.W 0).tmod 2 = M.W 0 % 2 := Int.tmod_eq_emod_of_nonneg q6
  have hF := found_c who c w (M.W w) (M.Hd w) (q8 w).1 (q8 w).2 hk
  refine Fun.mk' Tryz.func182 rfl rfl (Nat.le_of_ble_eq_true rfl) (by decide) ?_
  rcases found_two c w (M.W w) (M.Hd w) with ⟨r, hr, e⟩ | ⟨m, n, e⟩
  all_goals
    rw [e] at hF
    (repeat' (first
    | with_reducible refine Wp.seq ?_
    | with_reducible refine Wp.block ?_
    | ((with_reducible first | refine Wp.region ?_ | refine Wp.drawL TC_mixed ?_ | refine Wp.cond ?_ | refine Wp.ret ?_ | refine Wp.skip ?_ | refine Wp.exit ?_ | refine Go.mk ?_ | apply Eff1.of); conv => whnf)
    | with_reducible exact rfl
    | ((with_reducible refine Ov.ok zO ?_); conv => whnf)
    | (with_reducible refine Ov.sh1 (by with_unfolding_all exact rfl) ?_)
    | ((with_reducible refine Ov.quo (by omega) (by omega) (by omega) (fun _ _ => ?_)); conv => whnf)
    | ((with_reducible refine And.intro (show drawOK _ _ _ _ = true by kernel_rfl) ?_); conv => whnf)
    | ((with_reducible refine And.intro zC ?_); conv => whnf)
    | ((with_reducible refine And.intro ?hb ?_); (case hb => exact bytes_bd (Nat.le_of_ble_eq_true rfl) (by omega)); (conv => whnf))
    | ((refine DApp.a rfl rfl rfl rfl rfl rfl ?hb ?_); (case hb => exact zB); (conv => whnf))
    | ((refine DApp.b rfl rfl rfl rfl rfl rfl rfl rfl ?hb ?ho ?_); (case hb => exact zB); (case ho => omega); (conv => whnf))
    | ((refine DApp.c rfl rfl rfl rfl rfl ?hb ?_); (case hb => exact zB); (conv => whnf))
    | ((refine DApp.d rfl rfl rfl rfl rfl rfl ?hb ?ho ?_); (case hb => exact zB); (case ho => omega); (conv => whnf))
    | ((with_reducible refine nil_no (by omega) ?_); (conv => whnf))
    | ((with_reducible refine nil_any ?_ (fun hn0 => ?_)) <;> (conv => whnf))
    | ((refine CallStop.fn (board_Load nl M.W M.Hd f clk cnt who w q2 q3 q4 q0 q1 hw) [1,2,3,4] rfl rfl rfl rfl rfl ?ha ?hh ?_); (case ha => exact zA); (case hh => exact zH); (conv => whnf))
    | ((refine DCall.fn (board_Load nl M.W M.Hd f clk cnt who w q2 q3 q4 q0 q1 hw) [1,2,3,4] [1,2,3,4] rfl rfl rfl rfl rfl ?ha ?hh ?hs ?_); (case ha => exact zA); (case hh => exact zH); (case hs => exact zK); (conv => whnf)) | ((refine DCall.new (board_Load nl M.W M.Hd f clk cnt who w q2 q3 q4 q0 q1 hw) [1,2,3,4] [1,2,3,4] rfl rfl rfl rfl rfl rfl ?ha ?hh ?hs ?_); (case ha => exact zA); (case hh => exact zH); (case hs => exact zK); (conv => whnf))
    | ((refine DCall.fn (board_Load nl M.W M.Hd f clk cnt who w q2 q3 q4 q0 q1 hw) [1,2,3,4] [] rfl rfl rfl rfl rfl ?ha ?hh ?hs ?_); (case ha => exact zA); (case hh => exact zH); (case hs => exact zK); (conv => whnf)) | ((refine DCall.new (board_Load nl M.W M.Hd f clk cnt who w q2 q3 q4 q0 q1 hw) [1,2,3,4] [] rfl rfl rfl rfl rfl rfl ?ha ?hh ?hs ?_); (case ha => exact zA); (case hh => exact zH); (case hs => exact zK); (conv => whnf))
    | (with_reducible refine CallStop.inline Tryz.func134 rfl rfl rfl (Nat.le_of_ble_eq_true rfl) ?_)
    | ((with_reducible refine DCall.funM (find_any _ _ _ _ (by exact SV.Lt.of rfl)) rfl rfl ?_); conv => whnf) | ((with_reducible refine DCall.funM (enter_any _ _ _ _ _ (by exact SV.Lt.of rfl)) rfl rfl ?_); conv => whnf) | ((with_reducible refine DCall.funM (freeze_any _ _ _ _ (by exact SV.Lt.of rfl)) rfl rfl ?_); conv => whnf) | ((with_reducible refine DCall.funM (half_any _ _ (by omega) _ _ _ _ (by exact SV.Lt.of rfl)) rfl rfl ?_); conv => whnf) | ((with_reducible refine DCall.funM (split_c _) rfl rfl ?_); conv => whnf) | ((with_reducible refine CallStop.funM (find_any _ _ _ _ (by exact SV.Lt.of rfl)) rfl rfl ?_); conv => whnf) | ((with_reducible refine CallStop.funM (enter_any _ _ _ _ _ (by exact SV.Lt.of rfl)) rfl rfl ?_); conv => whnf) | ((with_reducible refine CallStop.funM (freeze_any _ _ _ _ (by exact SV.Lt.of rfl)) rfl rfl ?_); conv => whnf) | ((with_reducible refine CallStop.funM (half_any _ _ (by omega) _ _ _ _ (by exact SV.Lt.of rfl)) rfl rfl ?_); conv => whnf) | ((with_reducible refine CallStop.funM (split_c _) rfl rfl ?_); conv => whnf)
    | ((with_reducible refine CallStop.funM hF rfl rfl ?_); conv => whnf)
    | ((refine ways (fun hc => ?_) (fun hc => ?_)) <;> (try simp only [decide_eq_true_eq, decide_eq_false_iff_not, Bool.and_eq_true, Bool.or_eq_true, Bool.and_eq_false_iff, Bool.or_eq_false_iff, Bool.not_eq_true', Bool.not_eq_false', beq_iff_eq, bne_iff_ne, ne_eq, beq_eq_false_iff_ne, bne_eq_false_iff_eq, Bool.not_eq_true, Bool.not_eq_false] at hc) <;> (try (exfalso; omega)) <;> (conv => whnf))))
  all_goals first
    | (rw [show Dir.step dirOps M (.kE c w) = (M, .k0 c, Dir.r0) from congrArg (Prod.mk M) (ent_1 (by omega))]; (refine FinLe.sealB [0,1,2,3,4,12] rfl rfl rfl ?_ ?_); (focus ((conv => whnf); (repeat' (first | exact zE | ((refine Seal.ptr rfl rfl ?_); (conv => whnf)) | ((refine Seal.fn ?_); (conv => whnf)) | ((refine Seal.agg ?_); (conv => whnf)) | ((refine Seal.tup ?_); (conv => whnf)) | ((refine Seal.iref ?_); (conv => whnf)) | ((refine And.intro ?_ ?_) <;> (conv => whnf)))))); (focus ((conv => whnf); (repeat' (first | exact zE | ((refine Seal.ptr rfl rfl ?_); (conv => whnf)) | ((refine Seal.fn ?_); (conv => whnf)) | ((refine Seal.agg ?_); (conv => whnf)) | ((refine Seal.tup ?_); (conv => whnf)) | ((refine Seal.iref ?_); (conv => whnf)) | ((refine And.intro ?_ ?_) <;> (conv => whnf)))))))
    | (rw [show Dir.step dirOps M (.kE c w) = (M, .none, r) from congrArg (Prod.mk M) ((ent_2 (by omega)).trans e)]; (refine FinLe.sealB [0,1,2,3,4,12] rfl rfl rfl ?_ ?_); (focus ((conv => whnf); (repeat' (first | exact zE | ((refine Seal.ptr rfl rfl ?_); (conv => whnf)) | ((refine Seal.fn ?_); (conv => whnf)) | ((refine Seal.agg ?_); (conv => whnf)) | ((refine Seal.tup ?_); (conv => whnf)) | ((refine Seal.iref ?_); (conv => whnf)) | ((refine And.intro ?_ ?_) <;> (conv => whnf)))))); (focus ((conv => whnf); (repeat' (first | exact zE | ((refine Seal.ptr rfl rfl ?_); (conv => whnf)) | ((refine Seal.fn ?_); (conv => whnf)) | ((refine Seal.agg ?_); (conv => whnf)) | ((refine Seal.tup ?_); (conv => whnf)) | ((refine Seal.iref ?_); (conv => whnf)) | ((refine And.intro ?_ ?_) <;> (conv => whnf)))))))
    | (rw [show Dir.step dirOps M (.kE c w) = (M, .kS c w (M.W w) m n, Dir.r0) from congrArg (Prod.mk M) ((ent_2 (by omega)).trans e)]; (refine FinLe.sealB [0,1,2,3,4,12] rfl rfl rfl ?_ ?_); (focus ((conv => whnf); (repeat' (first | exact zE | ((refine Seal.ptr rfl rfl ?_); (conv => whnf)) | ((refine Seal.fn ?_); (conv => whnf)) | ((refine Seal.agg ?_); (conv => whnf)) | ((refine Seal.tup ?_); (conv => whnf)) | ((refine Seal.iref ?_); (conv => whnf)) | ((refine And.intro ?_ ?_) <;> (conv => whnf)))))); (focus ((conv => whnf); (repeat' (first | exact zE | ((refine Seal.ptr rfl rfl ?_); (conv => whnf)) | ((refine Seal.fn ?_); (conv => whnf)) | ((refine Seal.agg ?_); (conv => whnf)) | ((refine Seal.tup ?_); (conv => whnf)) | ((refine Seal.iref ?_); (conv => whnf)) | ((refine And.intro ?_ ?_) <;> (conv => whnf)))))))
theorem step_kF (hM : DOK who g M nl cnt) (c : Dir.Kc) (lv w : Nat) (hl : lv ≤ 3) (hw : w < 32) : Fun TC 178 5 [bx lanesS, bx (.i .i64 who), bx (.i .i64 w), bx (tfK who c lv)] (dirH g M nl f clk cnt)
    6 (.tup [cl who (Dir.step dirOps M (.kF c lv w)).2.1, rslS (Dir.step dirOps M (.kF c lv w)).2.2]) (dirN g (Dir.step dirOps M (.kF c lv w)).1 nl f clk cnt (accD who 1 w (M.W w) 0 true)) := by
  have q0 := hM.w0; have q1 := hM.w1; have q2 := hM.nl; have q3 := hM.c0; have q4 := hM.c1; have q5 := hM.g; have q6 := hM.d0; have q7 := hM.d1; have q8 := hM.hd
  have qr : (M.W 0).tmod 2 = M.W 0 % 2 := Int.tmod_eq_emod_of_nonneg q6
  refine Fun.mk' Tryz.func178 rfl rfl (Nat.le_of_ble_eq_true rfl) (by decide) ?_
  (repeat' (first
    | with_reducible refine Wp.seq ?_
    | with_reducible refine Wp.block ?_
    | ((with_reducible first | refine Wp.region ?_ | refine Wp.drawL TC_mixed ?_ | refine Wp.cond ?_ | refine Wp.ret ?_ | refine Wp.skip ?_ | refine Wp.exit ?_ | refine Go.mk ?_ | apply Eff1.of); conv => whnf)
    | with_reducible exact rfl
    | ((with_reducible refine Ov.ok zO ?_); conv => whnf)
    | (with_reducible refine Ov.sh1 (by with_unfolding_all exact rfl) ?_)
    | ((with_reducible refine Ov.quo (by omega) (by omega) (by omega) (fun _ _ => ?_)); conv => whnf)
    | ((with_reducible refine And.intro (show drawOK _ _ _ _ = true by kernel_rfl) ?_); conv => whnf)
    | ((with_reducible refine And.intro zC ?_); conv => whnf)
    | ((with_reducible refine And.intro ?hb ?_); (case hb => exact bytes_bd (Nat.le_of_ble_eq_true rfl) (by omega)); (conv => whnf))
    | ((refine DApp.a rfl rfl rfl rfl rfl rfl ?hb ?_); (case hb => exact zB); (conv => whnf))
    | ((refine DApp.b rfl rfl rfl rfl rfl rfl rfl rfl ?hb ?ho ?_); (case hb => exact zB); (case ho => omega); (conv => whnf))
    | ((refine DApp.c rfl rfl rfl rfl rfl ?hb ?_); (case hb => exact zB); (conv => whnf))
    | ((refine DApp.d rfl rfl rfl rfl rfl rfl ?hb ?ho ?_); (case hb => exact zB); (case ho => omega); (conv => whnf))
    | ((with_reducible refine nil_no (by omega) ?_); (conv => whnf))
    | ((with_reducible refine nil_any ?_ (fun hn0 => ?_)) <;> (conv => whnf))
    | ((refine CallStop.fn (board_Load nl M.W M.Hd f clk cnt who w q2 q3 q4 q0 q1 hw) [1,2,3,4] rfl rfl rfl rfl rfl ?ha ?hh ?_); (case ha => exact zA); (case hh => exact zH); (conv => whnf))
    | ((refine DCall.fn (board_Load nl M.W M.Hd f clk cnt who w q2 q3 q4 q0 q1 hw) [1,2,3,4] [1,2,3,4] rfl rfl rfl rfl rfl ?ha ?hh ?hs ?_); (case ha => exact zA); (case hh => exact zH); (case hs => exact zK); (conv => whnf)) | ((refine DCall.new (board_Load nl M.W M.Hd f clk cnt who w q2 q3 q4 q0 q1 hw) [1,2,3,4] [1,2,3,4] rfl rfl rfl rfl rfl rfl ?ha ?hh ?hs ?_); (case ha => exact zA); (case hh => exact zH); (case hs => exact zK); (conv => whnf))
    | ((refine DCall.fn (board_Load nl M.W M.Hd f clk cnt who w q2 q3 q4 q0 q1 hw) [1,2,3,4] [] rfl rfl rfl rfl rfl ?ha ?hh ?hs ?_); (case ha => exact zA); (case hh => exact zH); (case hs => exact zK); (conv => whnf)) | ((refine DCall.new (board_Load nl M.W M.Hd f clk cnt who w q2 q3 q4 q0 q1 hw) [1,2,3,4] [] rfl rfl rfl rfl rfl rfl ?ha ?hh ?hs ?_); (case ha => exact zA); (case hh => exact zH); (case hs => exact zK); (conv => whnf))
    | ((with_reducible refine DCall.funM (find_any _ _ _ _ (by exact SV.Lt.of rfl)) rfl rfl ?_); conv => whnf) | ((with_reducible refine DCall.funM (enter_any _ _ _ _ _ (by exact SV.Lt.of rfl)) rfl rfl ?_); conv => whnf) | ((with_reducible refine DCall.funM (freeze_any _ _ _ _ (by exact SV.Lt.of rfl)) rfl rfl ?_); conv => whnf) | ((with_reducible refine DCall.funM (half_any _ _ (by omega) _ _ _ _ (by exact SV.Lt.of rfl)) rfl rfl ?_); conv => whnf) | ((with_reducible refine DCall.funM (split_c _) rfl rfl ?_); conv => whnf) | ((with_reducible refine CallStop.funM (find_any _ _ _ _ (by exact SV.Lt.of rfl)) rfl rfl ?_); conv => whnf) | ((with_reducible refine CallStop.funM (enter_any _ _ _ _ _ (by exact SV.Lt.of rfl)) rfl rfl ?_); conv => whnf) | ((with_reducible refine CallStop.funM (freeze_any _ _ _ _ (by exact SV.Lt.of rfl)) rfl rfl ?_); conv => whnf) | ((with_reducible refine CallStop.funM (half_any _ _ (by omega) _ _ _ _ (by exact SV.Lt.of rfl)) rfl rfl ?_); conv => whnf) | ((with_reducible refine CallStop.funM (split_c _) rfl rfl ?_); conv => whnf)
    | ((with_reducible refine DCall.funM (tf_K who c lv hl _) rfl rfl ?_); conv => whnf)
    | ((refine ways (fun hc => ?_) (fun hc => ?_)) <;> (try simp only [decide_eq_true_eq, decide_eq_false_iff_not, Bool.and_eq_true, Bool.or_eq_true, Bool.and_eq_false_iff, Bool.or_eq_false_iff, Bool.not_eq_true', Bool.not_eq_false', beq_iff_eq, bne_iff_ne, ne_eq, beq_eq_false_iff_ne, bne_eq_false_iff_eq, Bool.not_eq_true, Bool.not_eq_false] at hc) <;> (try (exfalso; omega)) <;> (conv => whnf))))
  · (rw [show Dir.step dirOps M (.kF c lv w) = (M, Dir.toH dirOps c lv (M.Hd w), Dir.r0) from (by simp only [Dir.step]; rw [if_pos (by omega)])]; (refine FinLe.sealB [0,1,2,3,4,13] rfl rfl rfl ?_ ?_); (focus ((conv => whnf); (repeat' (first | exact zE | ((refine Seal.ptr rfl rfl ?_); (conv => whnf)) | ((refine Seal.fn ?_); (conv => whnf)) | ((refine Seal.agg ?_); (conv => whnf)) | ((refine Seal.tup ?_); (conv => whnf)) | ((refine Seal.iref ?_); (conv => whnf)) | ((refine And.intro ?_ ?_) <;> (conv => whnf)))))); (focus ((conv => whnf); (repeat' (first | exact zE | ((refine Seal.ptr rfl rfl ?_); (conv => whnf)) | ((refine Seal.fn ?_); (conv => whnf)) | ((refine Seal.agg ?_); (conv => whnf)) | ((refine Seal.tup ?_); (conv => whnf)) | ((refine Seal.iref ?_); (conv => whnf)) | ((refine And.intro ?_ ?_) <;> (conv => whnf)))))))
  · (rw [show Dir.step dirOps M (.kF c lv w) = (M, .kG c lv w (M.W w) (M.Hd w), Dir.r0) from (by simp only [Dir.step]; rw [if_neg (by omega)])]; (refine FinLe.sealB [0,1,2,3,4,13] rfl rfl rfl ?_ ?_); (focus ((conv => whnf); (repeat' (first | exact zE | ((refine Seal.ptr rfl rfl ?_); (conv => whnf)) | ((refine Seal.fn ?_); (conv => whnf)) | ((refine Seal.agg ?_); (conv => whnf)) | ((refine Seal.tup ?_); (conv => whnf)) | ((refine Seal.iref ?_); (conv => whnf)) | ((refine And.intro ?_ ?_) <;> (conv => whnf)))))); (focus ((conv => whnf); (repeat' (first | exact zE | ((refine Seal.ptr rfl rfl ?_); (conv => whnf)) | ((refine Seal.fn ?_); (conv => whnf)) | ((refine Seal.agg ?_); (conv => whnf)) | ((refine Seal.tup ?_); (conv => whnf)) | ((refine Seal.iref ?_); (conv => whnf)) | ((refine And.intro ?_ ?_) <;> (conv => whnf)))))))
theorem step_sF (hM : DOK who g M nl cnt) (lv i : Nat) (hl : lv ≤ 3) (hi : i < 2 ^ lv) : Fun TC 178 5 [bx lanesS, bx (.i .i64 who), bx (.i .i64 ((2 ^ lv + i : Nat) : Int)), bx (tfS who lv i)] (dirH g M nl f clk cnt)
    6 (.tup [cl who (Dir.step dirOps M (.sF lv i)).2.1, rslS (Dir.step dirOps M (.sF lv i)).2.2]) (dirN g (Dir.step dirOps M (.sF lv i)).1 nl f clk cnt (accD who 1 ((2 ^ lv + i : Nat) : Int) (M.W (2 ^ lv + i)) 0 true)) := by
  have q0 := hM.w0; have q1 := hM.w1; have q2 := hM.nl; have q3 := hM.c0; have q4 := hM.c1; have q5 := hM.g; have q6 := hM.d0; have q7 := hM.d1; have q8 := hM.hd
  have qr : (M.W 0).tmod 2 = M.W 0 % 2 := Int.tmod_eq_emod_of_nonneg q6
  have hw := (Dir.sh_16 hl hi).2
  refine Fun.mk' Tryz.func178 rfl rfl (Nat.le_of_ble_eq_true rfl) (by decide) ?_
  (repeat' (first
    | with_reducible refine Wp.seq ?_
    | with_reducible refine Wp.block ?_
    | ((with_reducible first | refine Wp.region ?_ | refine Wp.drawL TC_mixed ?_ | refine Wp.cond ?_ | refine Wp.ret ?_ | refine Wp.skip ?_ | refine Wp.exit ?_ | refine Go.mk ?_ | apply Eff1.of); conv => whnf)
    | with_reducible exact rfl
    | ((with_reducible refine Ov.ok zO ?_); conv => whnf)
    | (with_reducible refine Ov.sh1 (by with_unfolding_all exact rfl) ?_)
    | ((with_reducible refine Ov.quo (by omega) (by omega) (by omega) (fun _ _ => ?_)); conv => whnf)
    | ((with_reducible refine And.intro (show drawOK _ _ _ _ = true by kernel_rfl) ?_); conv => whnf)
    | ((with_reducible refine And.intro zC ?_); conv => whnf)
    | ((with_reducible refine And.intro ?hb ?_); (case hb => exact bytes_bd (Nat.le_of_ble_eq_true rfl) (by omega)); (conv => whnf))
    | ((refine DApp.a rfl rfl rfl rfl rfl rfl ?hb ?_); (case hb => exact zB); (conv => whnf))
    | ((refine DApp.b rfl rfl rfl rfl rfl rfl rfl rfl ?hb ?ho ?_); (case hb => exact zB); (case ho => omega); (conv => whnf))
    | ((refine DApp.c rfl rfl rfl rfl rfl ?hb ?_); (case hb => exact zB); (conv => whnf))
    | ((refine DApp.d rfl rfl rfl rfl rfl rfl ?hb ?ho ?_); (case hb => exact zB); (case ho => omega); (conv => whnf))
    | ((with_reducible refine nil_no (by omega) ?_); (conv => whnf))
    | ((with_reducible refine nil_any ?_ (fun hn0 => ?_)) <;> (conv => whnf))
    | ((refine CallStop.fn (board_Load nl M.W M.Hd f clk cnt who (2 ^ lv + i) q2 q3 q4 q0 q1 (by omega)) [1,2,3,4] rfl rfl rfl rfl rfl ?ha ?hh ?_); (case ha => exact zA); (case hh => exact zH); (conv => whnf))
    | ((refine DCall.fn (board_Load nl M.W M.Hd f clk cnt who (2 ^ lv + i) q2 q3 q4 q0 q1 (by omega)) [1,2,3,4] [1,2,3,4] rfl rfl rfl rfl rfl ?ha ?hh ?hs ?_); (case ha => exact zA); (case hh => exact zH); (case hs => exact zK); (conv => whnf)) | ((refine DCall.new (board_Load nl M.W M.Hd f clk cnt who (2 ^ lv + i) q2 q3 q4 q0 q1 (by omega)) [1,2,3,4] [1,2,3,4] rfl rfl rfl rfl rfl rfl ?ha ?hh ?hs ?_); (case ha => exact zA); (case hh => exact zH); (case hs => exact zK); (conv => whnf))
    | ((refine DCall.fn (board_Load nl M.W M.Hd f clk cnt who (2 ^ lv + i) q2 q3 q4 q0 q1 (by omega)) [1,2,3,4] [] rfl rfl rfl rfl rfl ?ha ?hh ?hs ?_); (case ha => exact zA); (case hh => exact zH); (case hs => exact zK); (conv => whnf)) | ((refine DCall.new (board_Load nl M.W M.Hd f clk cnt who (2 ^ lv + i) q2 q3 q4 q0 q1 (by omega)) [1,2,3,4] [] rfl rfl rfl rfl rfl rfl ?ha ?hh ?hs ?_); (case ha => exact zA); (case hh => exact zH); (case hs => exact zK); (conv => whnf))
    | ((with_reducible refine DCall.funM (find_any _ _ _ _ (by exact SV.Lt.of rfl)) rfl rfl ?_); conv => whnf) | ((with_reducible refine DCall.funM (enter_any _ _ _ _ _ (by exact SV.Lt.of rfl)) rfl rfl ?_); conv => whnf) | ((with_reducible refine DCall.funM (freeze_any _ _ _ _ (by exact SV.Lt.of rfl)) rfl rfl ?_); conv => whnf) | ((with_reducible refine DCall.funM (half_any _ _ (by omega) _ _ _ _ (by exact SV.Lt.of rfl)) rfl rfl ?_); conv => whnf) | ((with_reducible refine DCall.funM (split_c _) rfl rfl ?_); conv => whnf) | ((with_reducible refine CallStop.funM (find_any _ _ _ _ (by exact SV.Lt.of rfl)) rfl rfl ?_); conv => whnf) | ((with_reducible refine CallStop.funM (enter_any _ _ _ _ _ (by exact SV.Lt.of rfl)) rfl rfl ?_); conv => whnf) | ((with_reducible refine CallStop.funM (freeze_any _ _ _ _ (by exact SV.Lt.of rfl)) rfl rfl ?_); conv => whnf) | ((with_reducible refine CallStop.funM (half_any _ _ (by omega) _ _ _ _ (by exact SV.Lt.of rfl)) rfl rfl ?_); conv => whnf) | ((with_reducible refine CallStop.funM (split_c _) rfl rfl ?_); conv => whnf)
    | ((with_reducible refine DCall.funM (tf_S who lv i hl hi _) rfl rfl ?_); conv => whnf)
    | ((refine ways (fun hc => ?_) (fun hc => ?_)) <;> (try simp only [decide_eq_true_eq, decide_eq_false_iff_not, Bool.and_eq_true, Bool.or_eq_true, Bool.and_eq_false_iff, Bool.or_eq_false_iff, Bool.not_eq_true', Bool.not_eq_false', beq_iff_eq, bne_iff_ne, ne_eq, beq_eq_false_iff_ne, bne_eq_false_iff_eq, Bool.not_eq_true, Bool.not_eq_false] at hc) <;> (try (exfalso; omega)) <;> (conv => whnf))))
  · (rw [show Dir.step dirOps M (.sF lv i) = (M, .sH lv i false (M.Hd (2 ^ lv + i)), Dir.r0) from (by simp only [Dir.step]; rw [if_pos (by omega)])]; (refine FinLe.sealB [0,1,2,3,4,13] rfl rfl rfl ?_ ?_); (focus ((conv => whnf); (repeat' (first | exact zE | ((refine Seal.ptr rfl rfl ?_); (conv => whnf)) | ((refine Seal.fn ?_); (conv => whnf)) | ((refine Seal.agg ?_); (conv => whnf)) | ((refine Seal.tup ?_); (conv => whnf)) | ((refine Seal.iref ?_); (conv => whnf)) | ((refine And.intro ?_ ?_) <;> (conv => whnf)))))); (focus ((conv => whnf); (repeat' (first | exact zE | ((refine Seal.ptr rfl rfl ?_); (conv => whnf)) | ((refine Seal.fn ?_); (conv => whnf)) | ((refine Seal.agg ?_); (conv => whnf)) | ((refine Seal.tup ?_); (conv => whnf)) | ((refine Seal.iref ?_); (conv => whnf)) | ((refine And.intro ?_ ?_) <;> (conv => whnf)))))))
  · (rw [show Dir.step dirOps M (.sF lv i) = (M, .sG lv i (M.W (2 ^ lv + i)) (M.Hd (2 ^ lv + i)), Dir.r0) from (by simp only [Dir.step]; rw [if_neg (by omega)])]; (refine FinLe.sealB [0,1,2,3,4,13] rfl rfl rfl ?_ ?_); (focus ((conv => whnf); (repeat' (first | exact zE | ((refine Seal.ptr rfl rfl ?_); (conv => whnf)) | ((refine Seal.fn ?_); (conv => whnf)) | ((refine Seal.agg ?_); (conv => whnf)) | ((refine Seal.tup ?_); (conv => whnf)) | ((refine Seal.iref ?_); (conv => whnf)) | ((refine And.intro ?_ ?_) <;> (conv => whnf)))))); (focus ((conv => whnf); (repeat' (first | exact zE | ((refine Seal.ptr rfl rfl ?_); (conv => whnf)) | ((refine Seal.fn ?_); (conv => whnf)) | ((refine Seal.agg ?_); (conv => whnf)) | ((refine Seal.tup ?_); (conv => whnf)) | ((refine Seal.iref ?_); (conv => whnf)) | ((refine And.intro ?_ ?_) <;> (conv => whnf)))))))
end Go.Proofs.YtbdclkjelhlfbaaGreat

namespace Go.Proofs.YtbdclkjelhlfbaaGreat
open Go.RowKit
set_option maxRecDepth 100000
variable {who : Int} {g : Nat → SV} {M : Dir.Mc} {nl : Nat} {f : Nat → List D} {clk cnt : Int}
theorem step_kG (hM : DOK who g M nl cnt) (c : Dir.Kc) (lv w : Nat) (v : Int) (h : List Dir.Ent) (hl : lv ≤ 3) (hw : w < 32) (hv0 : 0 ≤ v) (hv : v < 4611686018427387904) : Fun TC 179 5 [bx lanesS, bx (.i .i64 who), bx (.i .i64 w), bx (.i .u64 v), bx (.d (slOf 2 entD h)), bx (tfK who c lv), res0] (dirH g M nl f clk cnt)
    6 (.tup [cl who (Dir.step dirOps M (.kG c lv w v h)).2.1, rslS (Dir.step dirOps M (.kG c lv w v h)).2.2]) (dirN g (Dir.step dirOps M (.kG c lv w v h)).1 nl f clk cnt (accD who 2 w v (v + 4611686018427387904) (decide (M.W w = v)))) := by
  have q0 := hM.w0; have q1 := hM.w1; have q2 := hM.nl; have q3 := hM.c0; have q4 := hM.c1; have q5 := hM.g; have q6 := hM.d0; have q7 := hM.d1; have q8 := hM.hd
  have qr : (M.W 0).tmod 2 = M.W 0 % 2 := Int.tmod_eq_emod_of_nonneg q6
  refine Fun.mk' Tryz.func179 rfl rfl (Nat.le_of_ble_eq_true rfl) (by decide) ?_
  (repeat' (first
    | with_reducible refine Wp.seq ?_
    | with_reducible refine Wp.block ?_
    | ((with_reducible first | refine Wp.region ?_ | refine Wp.drawL TC_mixed ?_ | refine Wp.cond ?_ | refine Wp.ret ?_ | refine Wp.skip ?_ | refine Wp.exit ?_ | refine Go.mk ?_ | apply Eff1.of); conv => whnf)
    | with_reducible exact rfl
    | ((with_reducible refine Ov.ok zO ?_); conv => whnf)
    | (with_reducible refine Ov.sh1 (by with_unfolding_all exact rfl) ?_)
    | ((with_reducible refine Ov.quo (by omega) (by omega) (by omega) (fun _ _ => ?_)); conv => whnf)
    | ((with_reducible refine And.intro (show drawOK _ _ _ _ = true by kernel_rfl) ?_); conv => whnf)
    | ((with_reducible refine And.intro zC ?_); conv => whnf)
    | ((with_reducible refine And.intro ?hb ?_); (case hb => exact bytes_bd (Nat.le_of_ble_eq_true rfl) (by omega)); (conv => whnf))
    | ((refine DApp.a rfl rfl rfl rfl rfl rfl ?hb ?_); (case hb => exact zB); (conv => whnf))
    | ((refine DApp.b rfl rfl rfl rfl rfl rfl rfl rfl ?hb ?ho ?_); (case hb => exact zB); (case ho => omega); (conv => whnf))
    | ((refine DApp.c rfl rfl rfl rfl rfl ?hb ?_); (case hb => exact zB); (conv => whnf))
    | ((refine DApp.d rfl rfl rfl rfl rfl rfl ?hb ?ho ?_); (case hb => exact zB); (case ho => omega); (conv => whnf))
    | ((with_reducible refine nil_no (by omega) ?_); (conv => whnf))
    | ((with_reducible refine nil_any ?_ (fun hn0 => ?_)) <;> (conv => whnf))
    | ((refine CallStop.fn (board_Swap nl M.W M.Hd f clk cnt who v (v + 4611686018427387904) w h q2 q3 q4 q0 q1 hw) [1,2,3,4] rfl rfl rfl rfl rfl ?ha ?hh ?_); (case ha => exact zA); (case hh => exact zH); (conv => whnf))
    | ((refine DCall.fn (board_Swap nl M.W M.Hd f clk cnt who v (v + 4611686018427387904) w h q2 q3 q4 q0 q1 hw) [1,2,3,4] [1,2,3,4] rfl rfl rfl rfl rfl ?ha ?hh ?hs ?_); (case ha => exact zA); (case hh => exact zH); (case hs => exact zK); (conv => whnf)) | ((refine DCall.new (board_Swap nl M.W M.Hd f clk cnt who v (v + 4611686018427387904) w h q2 q3 q4 q0 q1 hw) [1,2,3,4] [1,2,3,4] rfl rfl rfl rfl rfl rfl ?ha ?hh ?hs ?_); (case ha => exact zA); (case hh => exact zH); (case hs => exact zK); (conv => whnf))
    | ((refine DCall.fn (board_Swap nl M.W M.Hd f clk cnt who v (v + 4611686018427387904) w h q2 q3 q4 q0 q1 hw) [1,2,3,4] [] rfl rfl rfl rfl rfl ?ha ?hh ?hs ?_); (case ha => exact zA); (case hh => exact zH); (case hs => exact zK); (conv => whnf)) | ((refine DCall.new (board_Swap nl M.W M.Hd f clk cnt who v (v + 4611686018427387904) w h q2 q3 q4 q0 q1 hw) [1,2,3,4] [] rfl rfl rfl rfl rfl rfl ?ha ?hh ?hs ?_); (case ha => exact zA); (case hh => exact zH); (case hs => exact zK); (conv => whnf))
    | ((with_reducible refine DCall.funM (find_any _ _ _ _ (by exact SV.Lt.of rfl)) rfl rfl ?_); conv => whnf) | ((with_reducible refine DCall.funM (enter_any _ _ _ _ _ (by exact SV.Lt.of rfl)) rfl rfl ?_); conv => whnf) | ((with_reducible refine DCall.funM (freeze_any _ _ _ _ (by exact SV.Lt.of rfl)) rfl rfl ?_); conv => whnf) | ((with_reducible refine DCall.funM (half_any _ _ (by omega) _ _ _ _ (by exact SV.Lt.of rfl)) rfl rfl ?_); conv => whnf) | ((with_reducible refine DCall.funM (split_c _) rfl rfl ?_); conv => whnf) | ((with_reducible refine CallStop.funM (find_any _ _ _ _ (by exact SV.Lt.of rfl)) rfl rfl ?_); conv => whnf) | ((with_reducible refine CallStop.funM (enter_any _ _ _ _ _ (by exact SV.Lt.of rfl)) rfl rfl ?_); conv => whnf) | ((with_reducible refine CallStop.funM (freeze_any _ _ _ _ (by exact SV.Lt.of rfl)) rfl rfl ?_); conv => whnf) | ((with_reducible refine CallStop.funM (half_any _ _ (by omega) _ _ _ _ (by exact SV.Lt.of rfl)) rfl rfl ?_); conv => whnf) | ((with_reducible refine CallStop.funM (split_c _) rfl rfl ?_); conv => whnf)
    | ((with_reducible refine DCall.funM (tf_K who c lv hl _) rfl rfl ?_); conv => whnf)
    | ((refine ways (fun hc => ?_) (fun hc => ?_)) <;> (try simp only [decide_eq_true_eq, decide_eq_false_iff_not, Bool.and_eq_true, Bool.or_eq_true, Bool.and_eq_false_iff, Bool.or_eq_false_iff, Bool.not_eq_true', Bool.not_eq_false', beq_iff_eq, bne_iff_ne, ne_eq, beq_eq_false_iff_ne, bne_eq_false_iff_eq, Bool.not_eq_true, Bool.not_eq_false] at hc) <;> (try (exfalso; omega)) <;> (conv => whnf))))
  · (rw [show Dir.step dirOps M (.kG c lv w v h) = (M, .kF c lv w, Dir.r0) from (by simp only [Dir.step]; rw [if_neg (by assumption)])]; (refine FinLe.sealB [0,1,2,3,4,16] rfl rfl rfl ?_ ?_); (focus ((conv => whnf); (repeat' (first | exact zE | ((refine Seal.ptr rfl rfl ?_); (conv => whnf)) | ((refine Seal.fn ?_); (conv => whnf)) | ((refine Seal.agg ?_); (conv => whnf)) | ((refine Seal.tup ?_); (conv => whnf)) | ((refine Seal.iref ?_); (conv => whnf)) | ((refine And.intro ?_ ?_) <;> (conv => whnf)))))); (focus ((conv => whnf); (repeat' (first | exact zE | ((refine Seal.ptr rfl rfl ?_); (conv => whnf)) | ((refine Seal.fn ?_); (conv => whnf)) | ((refine Seal.agg ?_); (conv => whnf)) | ((refine Seal.tup ?_); (conv => whnf)) | ((refine Seal.iref ?_); (conv => whnf)) | ((refine And.intro ?_ ?_) <;> (conv => whnf)))); all_goals (intro i hi; refine DLes.of ?_; dsimp only; first | (rw [if_neg (by assumption)]; done) | (rw [if_pos (by assumption)]; rfl)))))
  · (rw [show Dir.step dirOps M (.kG c lv w v h) = (M.set w (v + Dir.FZ) h, Dir.toH dirOps c lv h, Dir.r0) from (by simp only [Dir.step]; rw [if_pos (by assumption)])]; (refine FinLe.sealB [0,1,2,3,4,16] rfl rfl rfl ?_ ?_); (focus ((conv => whnf); (repeat' (first | exact zE | ((refine Seal.ptr rfl rfl ?_); (conv => whnf)) | ((refine Seal.fn ?_); (conv => whnf)) | ((refine Seal.agg ?_); (conv => whnf)) | ((refine Seal.tup ?_); (conv => whnf)) | ((refine Seal.iref ?_); (conv => whnf)) | ((refine And.intro ?_ ?_) <;> (conv => whnf)))))); (focus ((conv => whnf); (repeat' (first | exact zE | ((refine Seal.ptr rfl rfl ?_); (conv => whnf)) | ((refine Seal.fn ?_); (conv => whnf)) | ((refine Seal.agg ?_); (conv => whnf)) | ((refine Seal.tup ?_); (conv => whnf)) | ((refine Seal.iref ?_); (conv => whnf)) | ((refine And.intro ?_ ?_) <;> (conv => whnf)))); all_goals (intro i hi; refine DLes.of ?_; dsimp only; first | (rw [if_neg (by assumption)]; done) | (rw [if_pos (by assumption)]; rfl)))))
theorem step_sG (hM : DOK who g M nl cnt) (lv i : Nat) (v : Int) (h : List Dir.Ent) (hl : lv ≤ 3) (hi : i < 2 ^ lv) (hv0 : 0 ≤ v) (hv : v < 4611686018427387904) : Fun TC 179 5 [bx lanesS, bx (.i .i64 who), bx (.i .i64 ((2 ^ lv + i : Nat) : Int)), bx (.i .u64 v), bx (.d (slOf 2 entD h)), bx (tfS who lv i), res0] (dirH g M nl f clk cnt)
    6 (.tup [cl who (Dir.step dirOps M (.sG lv i v h)).2.1, rslS (Dir.step dirOps M (.sG lv i v h)).2.2]) (dirN g (Dir.step dirOps M (.sG lv i v h)).1 nl f clk cnt (accD who 2 ((2 ^ lv + i : Nat) : Int) v (v + 4611686018427387904) (decide (M.W (2 ^ lv + i) = v)))) := by
  have q0 := hM.w0; have q1 := hM.w1; have q2 := hM.nl; have q3 := hM.c0; have q4 := hM.c1; have q5 := hM.g; have q6 := hM.d0; have q7 := hM.d1; have q8 := hM.hd
  have qr : (M.W 0).tmod 2 = M.W 0 % 2 := Int.tmod_eq_emod_of_nonneg q6
  have hw := (Dir.sh_16 hl hi).2
  refine Fun.mk' Tryz.func179 rfl rfl (Nat.le_of_ble_eq_true rfl) (by decide) ?_
  (repeat' (first
    | with_reducible refine Wp.seq ?_
    | with_reducible refine Wp.block ?_
    | ((with_reducible first | refine Wp.region ?_ | refine Wp.drawL TC_mixed ?_ | refine Wp.cond ?_ | refine Wp.ret ?_ | refine Wp.skip ?_ | refine Wp.exit ?_ | refine Go.mk ?_ | apply Eff1.of); conv => whnf)
    | with_reducible exact rfl
    | ((with_reducible refine Ov.ok zO ?_); conv => whnf)
    | (with_reducible refine Ov.sh1 (by with_unfolding_all exact rfl) ?_)
    | ((with_reducible refine Ov.quo (by omega) (by omega) (by omega) (fun _ _ => ?_)); conv => whnf)
    | ((with_reducible refine And.intro (show drawOK _ _ _ _ = true by kernel_rfl) ?_); conv => whnf)
    | ((with_reducible refine And.intro zC ?_); conv => whnf)
    | ((with_reducible refine And.intro ?hb ?_); (case hb => exact bytes_bd (Nat.le_of_ble_eq_true rfl) (by omega)); (conv => whnf))
    | ((refine DApp.a rfl rfl rfl rfl rfl rfl ?hb ?_); (case hb => exact zB); (conv => whnf))
    | ((refine DApp.b rfl rfl rfl rfl rfl rfl rfl rfl ?hb ?ho ?_); (case hb => exact zB); (case ho => omega); (conv => whnf))
    | ((refine DApp.c rfl rfl rfl rfl rfl ?hb ?_); (case hb => exact zB); (conv => whnf))
    | ((refine DApp.d rfl rfl rfl rfl rfl rfl ?hb ?ho ?_); (case hb => exact zB); (case ho => omega); (conv => whnf))
    | ((with_reducible refine nil_no (by omega) ?_); (conv => whnf))
    | ((with_reducible refine nil_any ?_ (fun hn0 => ?_)) <;> (conv => whnf))
    | ((refine CallStop.fn (board_Swap nl M.W M.Hd f clk cnt who v (v + 4611686018427387904) (2 ^ lv + i) h q2 q3 q4 q0 q1 (by omega)) [1,2,3,4] rfl rfl rfl rfl rfl ?ha ?hh ?_); (case ha => exact zA); (case hh => exact zH); (conv => whnf))
    | ((refine DCall.fn (board_Swap nl M.W M.Hd f clk cnt who v (v + 4611686018427387904) (2 ^ lv + i) h q2 q3 q4 q0 q1 (by omega)) [1,2,3,4] [1,2,3,4] rfl rfl rfl rfl rfl ?ha ?hh ?hs ?_); (case ha => exact zA); (case hh => exact zH); (case hs => exact zK); (conv => whnf)) | ((refine DCall.new (board_Swap nl M.W M.Hd f clk cnt who v (v + 4611686018427387904) (2 ^ lv + i) h q2 q3 q4 q0 q1 (by omega)) [1,2,3,4] [1,2,3,4] rfl rfl rfl rfl rfl rfl ?ha ?hh ?hs ?_); (case ha => exact zA); (case hh => exact zH); (case hs => exact zK); (conv => whnf))
    | ((refine DCall.fn (board_Swap nl M.W M.Hd f clk cnt who v (v + 4611686018427387904) (2 ^ lv + i) h q2 q3 q4 q0 q1 (by omega)) [1,2,3,4] [] rfl rfl rfl rfl rfl ?ha ?hh ?hs ?_); (case ha => exact zA); (case hh => exact zH); (case hs => exact zK); (conv => whnf)) | ((refine DCall.new (board_Swap nl M.W M.Hd f clk cnt who v (v + 4611686018427387904) (2 ^ lv + i) h q2 q3 q4 q0 q1 (by omega)) [1,2,3,4] [] rfl rfl rfl rfl rfl rfl ?ha ?hh ?hs ?_); (case ha => exact zA); (case hh => exact zH); (case hs => exact zK); (conv => whnf))
    | ((with_reducible refine DCall.funM (find_any _ _ _ _ (by exact SV.Lt.of rfl)) rfl rfl ?_); conv => whnf) | ((with_reducible refine DCall.funM (enter_any _ _ _ _ _ (by exact SV.Lt.of rfl)) rfl rfl ?_); conv => whnf) | ((with_reducible refine DCall.funM (freeze_any _ _ _ _ (by exact SV.Lt.of rfl)) rfl rfl ?_); conv => whnf) | ((with_reducible refine DCall.funM (half_any _ _ (by omega) _ _ _ _ (by exact SV.Lt.of rfl)) rfl rfl ?_); conv => whnf) | ((with_reducible refine DCall.funM (split_c _) rfl rfl ?_); conv => whnf) | ((with_reducible refine CallStop.funM (find_any _ _ _ _ (by exact SV.Lt.of rfl)) rfl rfl ?_); conv => whnf) | ((with_reducible refine CallStop.funM (enter_any _ _ _ _ _ (by exact SV.Lt.of rfl)) rfl rfl ?_); conv => whnf) | ((with_reducible refine CallStop.funM (freeze_any _ _ _ _ (by exact SV.Lt.of rfl)) rfl rfl ?_); conv => whnf) | ((with_reducible refine CallStop.funM (half_any _ _ (by omega) _ _ _ _ (by exact SV.Lt.of rfl)) rfl rfl ?_); conv => whnf) | ((with_reducible refine CallStop.funM (split_c _) rfl rfl ?_); conv => whnf)
    | ((with_reducible refine DCall.funM (tf_S who lv i hl hi _) rfl rfl ?_); conv => whnf)
    | ((refine ways (fun hc => ?_) (fun hc => ?_)) <;> (try simp only [decide_eq_true_eq, decide_eq_false_iff_not, Bool.and_eq_true, Bool.or_eq_true, Bool.and_eq_false_iff, Bool.or_eq_false_iff, Bool.not_eq_true', Bool.not_eq_false', beq_iff_eq, bne_iff_ne, ne_eq, beq_eq_false_iff_ne, bne_eq_false_iff_eq, Bool.not_eq_true, Bool.not_eq_false] at hc) <;> (try (exfalso; omega)) <;> (conv => whnf))))
  · (rw [show Dir.step dirOps M (.sG lv i v h) = (M, .sF lv i, Dir.r0) from (by simp only [Dir.step]; rw [if_neg (by assumption)])]; (refine FinLe.sealB [0,1,2,3,4,16] rfl rfl rfl ?_ ?_); (focus ((conv => whnf); (repeat' (first | exact zE | ((refine Seal.ptr rfl rfl ?_); (conv => whnf)) | ((refine Seal.fn ?_); (conv => whnf)) | ((refine Seal.agg ?_); (conv => whnf)) | ((refine Seal.tup ?_); (conv => whnf)) | ((refine Seal.iref ?_); (conv => whnf)) | ((refine And.intro ?_ ?_) <;> (conv => whnf)))))); (focus ((conv => whnf); (repeat' (first | exact zE | ((refine Seal.ptr rfl rfl ?_); (conv => whnf)) | ((refine Seal.fn ?_); (conv => whnf)) | ((refine Seal.agg ?_); (conv => whnf)) | ((refine Seal.tup ?_); (conv => whnf)) | ((refine Seal.iref ?_); (conv => whnf)) | ((refine And.intro ?_ ?_) <;> (conv => whnf)))); all_goals (intro i hi; refine DLes.of ?_; dsimp only; first | (rw [if_neg (by assumption)]; done) | (rw [if_pos (by assumption)]; rfl)))))
  · (rw [show Dir.step dirOps M (.sG lv i v h) = (M.set (2 ^ lv + i) (v + Dir.FZ) h, .sH lv i false h, Dir.r0) from (by simp only [Dir.step]; rw [if_pos (by assumption)])]; (refine FinLe.sealB [0,1,2,3,4,16] rfl rfl rfl ?_ ?_); (focus ((conv => whnf); (repeat' (first | exact zE | ((refine Seal.ptr rfl rfl ?_); (conv => whnf)) | ((refine Seal.fn ?_); (conv => whnf)) | ((refine Seal.agg ?_); (conv => whnf)) | ((refine Seal.tup ?_); (conv => whnf)) | ((refine Seal.iref ?_); (conv => whnf)) | ((refine And.intro ?_ ?_) <;> (conv => whnf)))))); (focus ((conv => whnf); (repeat' (first | exact zE | ((refine Seal.ptr rfl rfl ?_); (conv => whnf)) | ((refine Seal.fn ?_); (conv => whnf)) | ((refine Seal.agg ?_); (conv => whnf)) | ((refine Seal.tup ?_); (conv => whnf)) | ((refine Seal.iref ?_); (conv => whnf)) | ((refine And.intro ?_ ?_) <;> (conv => whnf)))); all_goals (intro i hi; refine DLes.of ?_; dsimp only; first | (rw [if_neg (by assumption)]; done) | (rw [if_pos (by assumption)]; rfl)))))
theorem step_kH (hM : DOK who g M nl cnt) (c : Dir.Kc) (lv w : Nat) (h : List Dir.Ent) (hw : w < 32) (hk : IsB c.key) : Fun TC 180 5 [bx lanesS, bx (.i .i64 who), bx (.i .i64 w), bx (thK who c), bx (.d (slOf 2 entD h)), bx (.i .i64 lv)] (dirH g M nl f clk cnt)
    6 (.tup [cl who (Dir.step dirOps M (.kH c lv w h)).2.1, rslS (Dir.step dirOps M (.kH c lv w h)).2.2]) (dirN g (Dir.step dirOps M (.kH c lv w h)).1 nl f clk cnt (accD who 1 w (M.W w) 0 true)) := by
  have q0 := hM.w0; have q1 := hM.w1; have q2 := hM.nl; have q3 := hM.c0; have q4 := hM.c1; have q5 := hM.g; have q6 := hM.d0; have q7 := hM.d1; have q8 := hM.hd
  have qr : (M.W 0).tmod 2 = M.W 0 % 2 := Int.tmod_eq_emod_of_nonneg q6
  have hF := found_c who c w (M.W w) (M.Hd w) (q8 w).1 (q8 w).2 hk
  refine Fun.mk' Tryz.func180 rfl rfl (Nat.le_of_ble_eq_true rfl) (by decide) ?_
  rcases found_two c w (M.W w) (M.Hd w) with ⟨r, hr, e⟩ | ⟨m, n, e⟩
  all_goals
    rw [e] at hF
    (repeat' (first
    | with_reducible refine Wp.seq ?_
    | with_reducible refine Wp.block ?_
    | ((with_reducible first | refine Wp.region ?_ | refine Wp.drawL TC_mixed ?_ | refine Wp.cond ?_ | refine Wp.ret ?_ | refine Wp.skip ?_ | refine Wp.exit ?_ | refine Go.mk ?_ | apply Eff1.of); conv => whnf)
    | with_reducible exact rfl
    | ((with_reducible refine Ov.ok zO ?_); conv => whnf)
    | (with_reducible refine Ov.sh1 (by with_unfolding_all exact rfl) ?_)
    | ((with_reducible refine Ov.quo (by omega) (by omega) (by omega) (fun _ _ => ?_)); conv => whnf)
    | ((with_reducible refine And.intro (show drawOK _ _ _ _ = true by kernel_rfl) ?_); conv => whnf)
    | ((with_reducible refine And.intro zC ?_); conv => whnf)
    | ((with_reducible refine And.intro ?hb ?_); (case hb => exact bytes_bd (Nat.le_of_ble_eq_true rfl) (by omega)); (conv => whnf))
    | ((refine DApp.a rfl rfl rfl rfl rfl rfl ?hb ?_); (case hb => exact zB); (conv => whnf))
    | ((refine DApp.b rfl rfl rfl rfl rfl rfl rfl rfl ?hb ?ho ?_); (case hb => exact zB); (case ho => omega); (conv => whnf))
    | ((refine DApp.c rfl rfl rfl rfl rfl ?hb ?_); (case hb => exact zB); (conv => whnf))
    | ((refine DApp.d rfl rfl rfl rfl rfl rfl ?hb ?ho ?_); (case hb => exact zB); (case ho => omega); (conv => whnf))
    | ((with_reducible refine nil_no (by omega) ?_); (conv => whnf))
    | ((with_reducible refine nil_any ?_ (fun hn0 => ?_)) <;> (conv => whnf))
    | ((refine CallStop.fn (board_Load nl M.W M.Hd f clk cnt who w q2 q3 q4 q0 q1 hw) [1,2,3,4] rfl rfl rfl rfl rfl ?ha ?hh ?_); (case ha => exact zA); (case hh => exact zH); (conv => whnf))
    | ((refine DCall.fn (board_Load nl M.W M.Hd f clk cnt who w q2 q3 q4 q0 q1 hw) [1,2,3,4] [1,2,3,4] rfl rfl rfl rfl rfl ?ha ?hh ?hs ?_); (case ha => exact zA); (case hh => exact zH); (case hs => exact zK); (conv => whnf)) | ((refine DCall.new (board_Load nl M.W M.Hd f clk cnt who w q2 q3 q4 q0 q1 hw) [1,2,3,4] [1,2,3,4] rfl rfl rfl rfl rfl rfl ?ha ?hh ?hs ?_); (case ha => exact zA); (case hh => exact zH); (case hs => exact zK); (conv => whnf))
    | ((refine DCall.fn (board_Load nl M.W M.Hd f clk cnt who w q2 q3 q4 q0 q1 hw) [1,2,3,4] [] rfl rfl rfl rfl rfl ?ha ?hh ?hs ?_); (case ha => exact zA); (case hh => exact zH); (case hs => exact zK); (conv => whnf)) | ((refine DCall.new (board_Load nl M.W M.Hd f clk cnt who w q2 q3 q4 q0 q1 hw) [1,2,3,4] [] rfl rfl rfl rfl rfl rfl ?ha ?hh ?hs ?_); (case ha => exact zA); (case hh => exact zH); (case hs => exact zK); (conv => whnf))
    | (with_reducible refine CallStop.inline Tryz.func133 rfl rfl rfl (Nat.le_of_ble_eq_true rfl) ?_)
    | (with_reducible refine CallStop.inline Tryz.func134 rfl rfl rfl (Nat.le_of_ble_eq_true rfl) ?_)
    | ((with_reducible refine DCall.funM (find_any _ _ _ _ (by exact SV.Lt.of rfl)) rfl rfl ?_); conv => whnf) | ((with_reducible refine DCall.funM (enter_any _ _ _ _ _ (by exact SV.Lt.of rfl)) rfl rfl ?_); conv => whnf) | ((with_reducible refine DCall.funM (freeze_any _ _ _ _ (by exact SV.Lt.of rfl)) rfl rfl ?_); conv => whnf) | ((with_reducible refine DCall.funM (half_any _ _ (by omega) _ _ _ _ (by exact SV.Lt.of rfl)) rfl rfl ?_); conv => whnf) | ((with_reducible refine DCall.funM (split_c _) rfl rfl ?_); conv => whnf) | ((with_reducible refine CallStop.funM (find_any _ _ _ _ (by exact SV.Lt.of rfl)) rfl rfl ?_); conv => whnf) | ((with_reducible refine CallStop.funM (enter_any _ _ _ _ _ (by exact SV.Lt.of rfl)) rfl rfl ?_); conv => whnf) | ((with_reducible refine CallStop.funM (freeze_any _ _ _ _ (by exact SV.Lt.of rfl)) rfl rfl ?_); conv => whnf) | ((with_reducible refine CallStop.funM (half_any _ _ (by omega) _ _ _ _ (by exact SV.Lt.of rfl)) rfl rfl ?_); conv => whnf) | ((with_reducible refine CallStop.funM (split_c _) rfl rfl ?_); conv => whnf)
    | ((with_reducible refine CallStop.funM hF rfl rfl ?_); conv => whnf)
    | ((refine ways (fun hc => ?_) (fun hc => ?_)) <;> (try simp only [decide_eq_true_eq, decide_eq_false_iff_not, Bool.and_eq_true, Bool.or_eq_true, Bool.and_eq_false_iff, Bool.or_eq_false_iff, Bool.not_eq_true', Bool.not_eq_false', beq_iff_eq, bne_iff_ne, ne_eq, beq_eq_false_iff_ne, bne_eq_false_iff_eq, Bool.not_eq_true, Bool.not_eq_false] at hc) <;> (try (exfalso; omega)) <;> (conv => whnf))))
  all_goals first
    | (rw [show Dir.step dirOps M (.kH c lv w h) = (M, .kL c lv w h, Dir.r0) from (by simp only [Dir.step]; rw [if_pos (by omega)])]; (refine FinLe.sealB [0,1,2,3,4,12] rfl rfl rfl ?_ ?_); (focus ((conv => whnf); (repeat' (first | exact zE | ((refine Seal.ptr rfl rfl ?_); (conv => whnf)) | ((refine Seal.fn ?_); (conv => whnf)) | ((refine Seal.agg ?_); (conv => whnf)) | ((refine Seal.tup ?_); (conv => whnf)) | ((refine Seal.iref ?_); (conv => whnf)) | ((refine And.intro ?_ ?_) <;> (conv => whnf)))))); (focus ((conv => whnf); (repeat' (first | exact zE | ((refine Seal.ptr rfl rfl ?_); (conv => whnf)) | ((refine Seal.fn ?_); (conv => whnf)) | ((refine Seal.agg ?_); (conv => whnf)) | ((refine Seal.tup ?_); (conv => whnf)) | ((refine Seal.iref ?_); (conv => whnf)) | ((refine And.intro ?_ ?_) <;> (conv => whnf)))); all_goals (intro i hi; refine DLes.of ?_; dsimp only; first | (rw [if_neg (by assumption)]; done) | (rw [if_pos (by assumption)]; rfl)))))
    | (rw [show Dir.step dirOps M (.kH c lv w h) = (M, .k0 c, Dir.r0) from (by simp only [Dir.step]; rw [if_neg (by omega), ent_1 (by omega)])]; (refine FinLe.sealB [0,1,2,3,4,12] rfl rfl rfl ?_ ?_); (focus ((conv => whnf); (repeat' (first | exact zE | ((refine Seal.ptr rfl rfl ?_); (conv => whnf)) | ((refine Seal.fn ?_); (conv => whnf)) | ((refine Seal.agg ?_); (conv => whnf)) | ((refine Seal.tup ?_); (conv => whnf)) | ((refine Seal.iref ?_); (conv => whnf)) | ((refine And.intro ?_ ?_) <;> (conv => whnf)))))); (focus ((conv => whnf); (repeat' (first | exact zE | ((refine Seal.ptr rfl rfl ?_); (conv => whnf)) | ((refine Seal.fn ?_); (conv => whnf)) | ((refine Seal.agg ?_); (conv => whnf)) | ((refine Seal.tup ?_); (conv => whnf)) | ((refine Seal.iref ?_); (conv => whnf)) | ((refine And.intro ?_ ?_) <;> (conv => whnf)))); all_goals (intro i hi; refine DLes.of ?_; dsimp only; first | (rw [if_neg (by assumption)]; done) | (rw [if_pos (by assumption)]; rfl)))))
    | (rw [show Dir.step dirOps M (.kH c lv w h) = (M, .none, r) from (by simp only [Dir.step]; rw [if_neg (by omega), ent_2 (by omega), e])]; (refine FinLe.sealB [0,1,2,3,4,12] rfl rfl rfl ?_ ?_); (focus ((conv => whnf); (repeat' (first | exact zE | ((refine Seal.ptr rfl rfl ?_); (conv => whnf)) | ((refine Seal.fn ?_); (conv => whnf)) | ((refine Seal.agg ?_); (conv => whnf)) | ((refine Seal.tup ?_); (conv => whnf)) | ((refine Seal.iref ?_); (conv => whnf)) | ((refine And.intro ?_ ?_) <;> (conv => whnf)))))); (focus ((conv => whnf); (repeat' (first | exact zE | ((refine Seal.ptr rfl rfl ?_); (conv => whnf)) | ((refine Seal.fn ?_); (conv => whnf)) | ((refine Seal.agg ?_); (conv => whnf)) | ((refine Seal.tup ?_); (conv => whnf)) | ((refine Seal.iref ?_); (conv => whnf)) | ((refine And.intro ?_ ?_) <;> (conv => whnf)))); all_goals (intro i hi; refine DLes.of ?_; dsimp only; first | (rw [if_neg (by assumption)]; done) | (rw [if_pos (by assumption)]; rfl)))))
    | (rw [show Dir.step dirOps M (.kH c lv w h) = (M, .kS c w (M.W w) m n, Dir.r0) from (by simp only [Dir.step]; rw [if_neg (by omega), ent_2 (by omega), e])]; (refine FinLe.sealB [0,1,2,3,4,12] rfl rfl rfl ?_ ?_); (focus ((conv => whnf); (repeat' (first | exact zE | ((refine Seal.ptr rfl rfl ?_); (conv => whnf)) | ((refine Seal.fn ?_); (conv => whnf)) | ((refine Seal.agg ?_); (conv => whnf)) | ((refine Seal.tup ?_); (conv => whnf)) | ((refine Seal.iref ?_); (conv => whnf)) | ((refine And.intro ?_ ?_) <;> (conv => whnf)))))); (focus ((conv => whnf); (repeat' (first | exact zE | ((refine Seal.ptr rfl rfl ?_); (conv => whnf)) | ((refine Seal.fn ?_); (conv => whnf)) | ((refine Seal.agg ?_); (conv => whnf)) | ((refine Seal.tup ?_); (conv => whnf)) | ((refine Seal.iref ?_); (conv => whnf)) | ((refine And.intro ?_ ?_) <;> (conv => whnf)))); all_goals (intro i hi; refine DLes.of ?_; dsimp only; first | (rw [if_neg (by assumption)]; done) | (rw [if_pos (by assumption)]; rfl)))))
end Go.Proofs.YtbdclkjelhlfbaaGreat
