/- Parts of the proof, one behind the other: Dr14, Dr15, Dr16, Dr17, Dr18, Dq1, Dq2, Dq3. Lemmas and contracts of functions; no condition of its own. -/
import Derived.Test.YtbdclkjelhlfbaaGreatM10
set_option linter.unusedVariables false
set_option linter.unusedSimpArgs false
set_option maxHeartbeats 1000000
namespace Go.Proofs.YtbdclkjelhlfbaaGreat
open Go.RowKit
set_option maxRecDepth 100000
theorem SV.Le.sl' {z n m : Nat} {f g : Nat → List D} (e : n = m) (h : ∀ i, i < m → f i = g i) : SV.Le (.d (.sl z n f)) (.d (.sl z m g)) := by
  subst e; exact SV.Le.sl h
theorem bytes_CloneD (xs : List Int) (hn : xs.length ≤ 16777216) : Fun TC 52 60 [.d (slOf 1 (encI .u8) xs)] [] 60 (.d (slOf 1 (encI .u8) xs)) [] := by
  refine Fun.mk' Tryz.func52 rfl rfl (Nat.le_of_ble_eq_true rfl) (by decide) ?_
  (repeat' (first
    | with_reducible refine Wp.seq ?_
    | with_reducible refine Wp.block ?_
    | ((with_reducible first | refine Wp.region ?_ | refine Wp.drawL TC_mixed ?_ | refine Wp.cond ?_ | refine Wp.ret ?_ | refine Wp.skip ?_ | refine Wp.exit ?_ | refine Go.mk ?_ | apply Eff1.of); conv => whnf)
    | with_reducible exact rfl
    | ((with_reducible refine Ov.ok zO ?_); conv => whnf)
    | (with_reducible refine Ov.sh1 (by with_unfolding_all exact rfl) ?_)
    | ((with_reducible refine Ov.quo (by omega) (by omega) (by omega) (fun _ _ => ?_)); conv => whnf)
    | ((with_reducible refine And.intro (show drawOK _ _ _ _ = true by kernel_rfl) ?_); conv => whnf)
    | ((with_reducible refine And.intro zC ?_); conv => whnf)
    | ((with_reducible refine And.intro ?hb ?_); (case hb => exact bytes_bd (Nat.le_of_ble_eq_true rfl) (by omega)); (conv => whnf))
    | ((refine DApp.a rfl rfl rfl rfl rfl rfl ?hb ?_); (case hb => exact zB); (conv => whnf))
    | ((refine DApp.b rfl rfl rfl rfl rfl rfl rfl rfl ?hb ?ho ?_); (case hb => exact zB); (case ho => omega); (conv => whnf))
    | ((refine DApp.c rfl rfl rfl rfl rfl ?hb ?_); (case hb => exact zB); (conv => whnf))
    | ((refine DApp.d rfl rfl rfl rfl rfl rfl ?hb ?ho ?_); (case hb => exact zB); (case ho => omega); (conv => whnf))
    | ((with_reducible refine nil_no (by omega) ?_); (conv => whnf))
    | ((with_reducible refine nil_any ?_ (fun hn0 => ?_)) <;> (conv => whnf))
    
    | ((refine ways (fun hc => ?_) (fun hc => ?_)) <;> (try simp only [decide_eq_true_eq, decide_eq_false_iff_not, Bool.and_eq_true, Bool.or_eq_true, Bool.and_eq_false_iff, Bool.or_eq_false_iff, Bool.not_eq_true', Bool.not_eq_false', beq_iff_eq, bne_iff_ne, ne_eq, beq_eq_false_iff_ne, bne_eq_false_iff_eq, Bool.not_eq_true, Bool.not_eq_false] at hc) <;> (try (exfalso; omega)) <;> (conv => whnf))))
  · (refine FinLe.sealM ?_); (conv => whnf); (repeat' (first | exact trivial | exact Seal.any | exact Seal.d | exact Seal.ptrM rfl | exact Seal.slM rfl | exact Seal.sameM (by assumption) | exact Seal.lt0 (SV.Lt.of rfl) | exact Seal.sameM (SV.Lt.of rfl) | ((refine Seal.ptrN rfl rfl ?_); (conv => whnf)) | (refine Seal.le (Seal.sl (idxK_range_ge (Nat.le_of_ble_eq_true rfl)) rfl (by first | omega | simp)) ?_) | ((refine Seal.fn ?_); (conv => whnf)) | ((refine Seal.agg ?_); (conv => whnf)) | ((refine Seal.tup ?_); (conv => whnf)) | ((refine Seal.iref ?_); (conv => whnf)) | ((refine And.intro ?_ ?_) <;> (conv => whnf)) | exact Seal.le Seal.d SV.Le.nil))
    exact SV.Le.sl' (Nat.zero_add _) fun i hi => by simp [catF]
  · obtain rfl := List.eq_nil_of_length_eq_zero hn0
    (refine FinLe.sealM ?_); (conv => whnf); (repeat' (first | exact trivial | exact Seal.any | exact Seal.d | exact Seal.ptrM rfl | exact Seal.slM rfl | exact Seal.sameM (by assumption) | exact Seal.lt0 (SV.Lt.of rfl) | exact Seal.sameM (SV.Lt.of rfl) | ((refine Seal.ptrN rfl rfl ?_); (conv => whnf)) | (refine Seal.le (Seal.sl (idxK_range_ge (Nat.le_of_ble_eq_true rfl)) rfl (by first | omega | simp)) ?_) | ((refine Seal.fn ?_); (conv => whnf)) | ((refine Seal.agg ?_); (conv => whnf)) | ((refine Seal.tup ?_); (conv => whnf)) | ((refine Seal.iref ?_); (conv => whnf)) | ((refine And.intro ?_ ?_) <;> (conv => whnf)) | exact Seal.le Seal.d SV.Le.nil))
theorem dir_begin {g : Nat → SV} (q5 : ∀ j, SV.Lt 5 (g j)) (M : Dir.Mc) (nl : Nat) (f : Nat → List D) (clk cnt : Int) (who : Int) (op : Int) (key : List Int) (v : Int) (hk : key.length ≤ 16777216) : Fun TC 51 5 [.ptr 0 0, .i .i64 who, .i .u8 op, .d (slOf 1 (encI .u8) key), .i .i64 v] (dirH g M nl f clk cnt) 5 (cl who (.k0 ⟨op, key, v⟩)) (dirH g M nl f clk cnt) := by
  refine Fun.mk' Tryz.func51 rfl rfl (Nat.le_of_ble_eq_true rfl) (by decide) ?_
  (repeat' (first
    | with_reducible refine Wp.seq ?_
    | with_reducible refine Wp.block ?_
    | ((with_reducible first | refine Wp.region ?_ | refine Wp.drawL TC_mixed ?_ | refine Wp.cond ?_ | refine Wp.ret ?_ | refine Wp.skip ?_ | refine Wp.exit ?_ | refine Go.mk ?_ | apply Eff1.of); conv => whnf)
    | with_reducible exact rfl
    | ((with_reducible refine Ov.ok zO ?_); conv => whnf)
    | (with_reducible refine Ov.sh1 (by with_unfolding_all exact rfl) ?_)
    | ((with_reducible refine Ov.quo (by omega) (by omega) (by omega) (fun _ _ => ?_)); conv => whnf)
    | ((with_reducible refine And.intro (show drawOK _ _ _ _ = true by kernel_rfl) ?_); conv => whnf)
    | ((with_reducible refine And.intro zC ?_); conv => whnf)
    | ((with_reducible refine And.intro ?hb ?_); (case hb => exact bytes_bd (Nat.le_of_ble_eq_true rfl) (by omega)); (conv => whnf))
    | ((refine DApp.a rfl rfl rfl rfl rfl rfl ?hb ?_); (case hb => exact zB); (conv => whnf))
    | ((refine DApp.b rfl rfl rfl rfl rfl rfl rfl rfl ?hb ?ho ?_); (case hb => exact zB); (case ho => omega); (conv => whnf))
    | ((refine DApp.c rfl rfl rfl rfl rfl ?hb ?_); (case hb => exact zB); (conv => whnf))
    | ((refine DApp.d rfl rfl rfl rfl rfl rfl ?hb ?ho ?_); (case hb => exact zB); (case ho => omega); (conv => whnf))
    | ((with_reducible refine nil_no (by omega) ?_); (conv => whnf))
    | ((with_reducible refine nil_any ?_ (fun hn0 => ?_)) <;> (conv => whnf))
    | ((with_reducible refine At.mk' 0 rfl ?_); conv => whnf)
    | ((with_reducible refine CallStop.pure (hash_Sum _) rfl rfl ?_); conv => whnf) | ((with_reducible refine DCall.pure (hash_Sum _) rfl rfl ?_); conv => whnf)
    | ((with_reducible refine DCall.funM (find_any _ _ _ _ (by exact SV.Lt.of rfl)) rfl rfl ?_); conv => whnf) | ((with_reducible refine DCall.funM (enter_any _ _ _ _ _ (by exact SV.Lt.of rfl)) rfl rfl ?_); conv => whnf) | ((with_reducible refine DCall.funM (freeze_any _ _ _ _ (by exact SV.Lt.of rfl)) rfl rfl ?_); conv => whnf) | ((with_reducible refine DCall.funM (half_any _ _ (by omega) _ _ _ _ (by exact SV.Lt.of rfl)) rfl rfl ?_); conv => whnf) | ((with_reducible refine DCall.funM (split_c _) rfl rfl ?_); conv => whnf) | ((with_reducible refine CallStop.funM (find_any _ _ _ _ (by exact SV.Lt.of rfl)) rfl rfl ?_); conv => whnf) | ((with_reducible refine CallStop.funM (enter_any _ _ _ _ _ (by exact SV.Lt.of rfl)) rfl rfl ?_); conv => whnf) | ((with_reducible refine CallStop.funM (freeze_any _ _ _ _ (by exact SV.Lt.of rfl)) rfl rfl ?_); conv => whnf) | ((with_reducible refine CallStop.funM (half_any _ _ (by omega) _ _ _ _ (by exact SV.Lt.of rfl)) rfl rfl ?_); conv => whnf) | ((with_reducible refine CallStop.funM (split_c _) rfl rfl ?_); conv => whnf)
    | ((refine ways (fun hc => ?_) (fun hc => ?_)) <;> (try simp only [decide_eq_true_eq, decide_eq_false_iff_not, Bool.and_eq_true, Bool.or_eq_true, Bool.and_eq_false_iff, Bool.or_eq_false_iff, Bool.not_eq_true', Bool.not_eq_false', beq_iff_eq, bne_iff_ne, ne_eq, beq_eq_false_iff_ne, bne_eq_false_iff_eq, Bool.not_eq_true, Bool.not_eq_false] at hc) <;> (try (exfalso; omega)) <;> (conv => whnf))))
  (refine FinLe.sealB [0,1,2,3,4] rfl rfl rfl ?_ ?_); (focus ((conv => whnf); (repeat' (first | exact zE | ((refine Seal.ptr rfl rfl ?_); (conv => whnf)) | ((refine Seal.fn ?_); (conv => whnf)) | ((refine Seal.agg ?_); (conv => whnf)) | ((refine Seal.tup ?_); (conv => whnf)) | ((refine Seal.iref ?_); (conv => whnf)) | ((refine And.intro ?_ ?_) <;> (conv => whnf)))))); (focus ((conv => whnf); (repeat' (first | exact zE | ((refine Seal.ptr rfl rfl ?_); (conv => whnf)) | ((refine Seal.fn ?_); (conv => whnf)) | ((refine Seal.agg ?_); (conv => whnf)) | ((refine Seal.tup ?_); (conv => whnf)) | ((refine Seal.iref ?_); (conv => whnf)) | ((refine And.intro ?_ ?_) <;> (conv => whnf))))))
def startS (op : Int) (key : List Int) (v : Int) : Dir.CS := if op = 4 then .s0 else .k0 ⟨op, key, v⟩
theorem dir_sealV {S : St} {g : Nat → SV} (hg : ∀ j, SV.Lt 5 (g j)) {L : List Nat} {w : Nat} {x x' : SV} (hx : SV.Lt 5 x) (he : x' = x) :
    ∀ j, j < 65 → Seal S (0 :: 1 :: 2 :: 3 :: 4 :: L) (bif Nat.beq j (w + 1) then x' else dirF g j) (dirF (Dir.upd g w x) j) ∧ SV.Lt 5 (dirF (Dir.upd g w x) j) := by
  intro j hj
  have := dir_sealU (S := S) hg (L := L) (w := w) hx (π := id) (fun _ _ => rfl) he j hj
  rwa [ren_id (m := 5) (π := id) (fun _ _ => rfl) (dirF_lt hg j)] at this
theorem dir_Start {g : Nat → SV} (q5 : ∀ j, SV.Lt 5 (g j)) {M : Dir.Mc} {nl : Nat} {f : Nat → List D} {clk cnt : Int} (w : Nat) (hw : w < 64) (op : Int) (key : List Int) (v : Int) (ho : 1 ≤ op) (ho4 : op ≤ 4) (hk : key.length ≤ 256) (hv : tickB v = true) (hg : g w = nilF) :
    Fun TC 18 5 [.ptr 0 0, .i .i64 w, .i .u8 op, .d (slOf 1 (encI .u8) key), .i .i64 v] (dirH g M nl f clk cnt) 5 (.i .i64 0) (dirH (Dir.upd g w (cl w (startS op key v))) M nl f clk cnt) := by
  have hg2 : dirF g (w + 1) = nilF := hg
  have hT := tick_Form v
  rw [hv] at hT
  have hB := dir_begin q5 M nl f clk cnt w op key v (by omega)
  have hC := bytes_CloneD key (by omega)
  have ltK := cl_lt (w : Int) (.k0 ⟨op, key, v⟩)
  refine Fun.mk' Tryz.func18 rfl rfl (Nat.le_of_ble_eq_true rfl) (by decide) ?_
  (repeat' (first
    | with_reducible refine Wp.seq ?_
    | with_reducible refine Wp.block ?_
    | ((with_reducible first | refine Wp.region ?_ | refine Wp.drawL TC_mixed ?_ | refine Wp.cond ?_ | refine Wp.ret ?_ | refine Wp.skip ?_ | refine Wp.exit ?_ | refine Go.mk ?_ | apply Eff1.of); conv => whnf)
    | with_reducible exact rfl
    | ((with_reducible refine Ov.ok zO ?_); conv => whnf)
    | (with_reducible refine Ov.sh1 (by with_unfolding_all exact rfl) ?_)
    | ((with_reducible refine Ov.quo (by omega) (by omega) (by omega) (fun _ _ => ?_)); conv => whnf)
    | ((with_reducible refine And.intro (show drawOK _ _ _ _ = true by kernel_rfl) ?_); conv => whnf)
    | ((with_reducible refine And.intro zC ?_); conv => whnf)
    | ((with_reducible refine And.intro ?hb ?_); (case hb => exact bytes_bd (Nat.le_of_ble_eq_true rfl) (by omega)); (conv => whnf))
    | ((refine DApp.a rfl rfl rfl rfl rfl rfl ?hb ?_); (case hb => exact zB); (conv => whnf))
    | ((refine DApp.b rfl rfl rfl rfl rfl rfl rfl rfl ?hb ?ho ?_); (case hb => exact zB); (case ho => omega); (conv => whnf))
    | ((refine DApp.c rfl rfl rfl rfl rfl ?hb ?_); (case hb => exact zB); (conv => whnf))
    | ((refine DApp.d rfl rfl rfl rfl rfl rfl ?hb ?ho ?_); (case hb => exact zB); (case ho => omega); (conv => whnf))
    | ((with_reducible refine nil_no (by omega) ?_); (conv => whnf))
    | ((with_reducible refine nil_any ?_ (fun hn0 => ?_)) <;> (conv => whnf))
    | ((with_reducible refine CallStop.pure (board_Is _) rfl rfl ?_); conv => whnf) | ((with_reducible refine DCall.pure (board_Is _) rfl rfl ?_); conv => whnf)
    | ((with_reducible refine CallStop.pure (hT) rfl rfl ?_); conv => whnf) | ((with_reducible refine DCall.pure (hT) rfl rfl ?_); conv => whnf)
    | ((refine At.mk' (w + 1) (by show 1 + ((w : Nat) : Int).toNat * 1 = w + 1; omega) ?_); (refine And.intro (by omega) ?_); (rw [hg2]); (conv => whnf))
    | ((with_reducible refine At.mk' 0 rfl ?_); conv => whnf)
    | ((with_reducible refine DCall.funM hC rfl rfl ?_); conv => whnf)
    | ((with_reducible refine DCall.funM (find_any _ _ _ _ (by exact SV.Lt.of rfl)) rfl rfl ?_); conv => whnf) | ((with_reducible refine DCall.funM (enter_any _ _ _ _ _ (by exact SV.Lt.of rfl)) rfl rfl ?_); conv => whnf) | ((with_reducible refine DCall.funM (freeze_any _ _ _ _ (by exact SV.Lt.of rfl)) rfl rfl ?_); conv => whnf) | ((with_reducible refine DCall.funM (half_any _ _ (by omega) _ _ _ _ (by exact SV.Lt.of rfl)) rfl rfl ?_); conv => whnf) | ((with_reducible refine DCall.funM (split_c _) rfl rfl ?_); conv => whnf) | ((with_reducible refine CallStop.funM (find_any _ _ _ _ (by exact SV.Lt.of rfl)) rfl rfl ?_); conv => whnf) | ((with_reducible refine CallStop.funM (enter_any _ _ _ _ _ (by exact SV.Lt.of rfl)) rfl rfl ?_); conv => whnf) | ((with_reducible refine CallStop.funM (freeze_any _ _ _ _ (by exact SV.Lt.of rfl)) rfl rfl ?_); conv => whnf) | ((with_reducible refine CallStop.funM (half_any _ _ (by omega) _ _ _ _ (by exact SV.Lt.of rfl)) rfl rfl ?_); conv => whnf) | ((with_reducible refine CallStop.funM (split_c _) rfl rfl ?_); conv => whnf)
    | ((refine CallStop.fn (hB) [0,1,2,3,4] rfl rfl rfl rfl rfl ?ha ?hh ?_); (case ha => exact zA); (case hh => exact zD); (conv => whnf))
    | ((refine DCall.fn (hB) [0,1,2,3,4] [1,2,3,4] rfl rfl rfl rfl rfl ?ha ?hh ?hs ?_); (case ha => exact zA); (case hh => exact zD); (case hs => exact zK); (conv => whnf)) | ((refine DCall.new (hB) [0,1,2,3,4] [1,2,3,4] rfl rfl rfl rfl rfl rfl ?ha ?hh ?hs ?_); (case ha => exact zA); (case hh => exact zD); (case hs => exact zK); (conv => whnf))
    | ((refine And.intro (by first | exact .of rfl | exact lt_renL ltK (fun l hl => by rcases l with _ | _ | _ | _ | _ | l <;> first | rfl | omega) rfl) ?_); conv => whnf)
    | ((refine At.mk' (w + 1) (by show 1 + ((w : Nat) : Int).toNat * 1 = w + 1; omega) ?_); (refine And.intro (by omega) ?_); conv => whnf)
    | ((refine ways (fun hc => ?_) (fun hc => ?_)) <;> (try simp only [decide_eq_true_eq, decide_eq_false_iff_not, Bool.and_eq_true, Bool.or_eq_true, Bool.and_eq_false_iff, Bool.or_eq_false_iff, Bool.not_eq_true', Bool.not_eq_false', beq_iff_eq, bne_iff_ne, ne_eq, beq_eq_false_iff_ne, bne_eq_false_iff_eq, Bool.not_eq_true, Bool.not_eq_false] at hc) <;> (try (exfalso; omega)) <;> (conv => whnf))))
  all_goals first
    | rw [show startS op key v = .s0 from if_pos (by omega)]
    | rw [show startS op key v = .k0 ⟨op, key, v⟩ from if_neg (by omega)]
  all_goals
    (refine FinLe.sealB [0, 1, 2, 3, 4] rfl rfl rfl ?_ ?_); (focus ((conv => whnf); (repeat' (first | exact zE | ((refine Seal.ptr rfl rfl ?_); (conv => whnf)) | ((refine Seal.fn ?_); (conv => whnf)) | ((refine Seal.agg ?_); (conv => whnf)) | ((refine Seal.tup ?_); (conv => whnf)) | ((refine Seal.iref ?_); (conv => whnf)) | ((refine And.intro ?_ ?_) <;> (conv => whnf)))))); (focus ((conv => whnf); (repeat' (first | exact zE | ((refine Seal.ptr rfl rfl ?_); (conv => whnf)) | ((refine Seal.fn ?_); (conv => whnf)) | ((refine Seal.agg ?_); (conv => whnf)) | ((refine Seal.tup ?_); (conv => whnf)) | ((refine Seal.iref ?_); (conv => whnf)) | ((refine And.intro ?_ ?_) <;> (conv => whnf))))))
    all_goals first
      | exact dir_sealU q5 (cl_lt _ _) (fun l hl => by rcases l with _ | _ | _ | _ | _ | l <;> first | rfl | omega) rfl
      | exact dir_sealU q5 (cl_lt _ _) (fun l hl => by rcases l with _ | _ | _ | _ | _ | l <;> first | rfl | omega) (renL_fn ltK (fun l hl => by rcases l with _ | _ | _ | _ | _ | l <;> first | rfl | omega))
      | exact dir_sealV q5 (cl_lt _ _) rfl
end Go.Proofs.YtbdclkjelhlfbaaGreat

namespace Go.Proofs.YtbdclkjelhlfbaaGreat
open Go.RowKit
set_option maxRecDepth 100000
theorem mach_NewF : Fun TC 121 0 [.i .i64 32] [] 3 (.tup [.ptr 0 0, .i .i64 0]) [(0, some (machB 1 2 32 0 0 0)), (1, some (wordB 32 fun _ => 0)), (2, some (lastB 0 fun _ => []))] := by
  refine Fun.mk' Tryz.func121 rfl rfl (Nat.le_of_ble_eq_true rfl) (by decide) ?_
  (repeat' (first
    | with_reducible refine Wp.seq ?_
    | with_reducible refine Wp.block ?_
    | ((with_reducible first | refine Wp.region ?_ | refine Wp.drawL TC_mixed ?_ | refine Wp.cond ?_ | refine Wp.ret ?_ | refine Wp.skip ?_ | refine Wp.exit ?_ | refine Go.mk ?_ | apply Eff1.of); conv => whnf)
    | with_reducible exact rfl
    | ((with_reducible refine Ov.ok zO ?_); conv => whnf)
    | (with_reducible refine Ov.sh1 (by with_unfolding_all exact rfl) ?_)
    | ((with_reducible refine Ov.quo (by omega) (by omega) (by omega) (fun _ _ => ?_)); conv => whnf)
    | ((with_reducible refine And.intro (show drawOK _ _ _ _ = true by kernel_rfl) ?_); conv => whnf)
    | ((with_reducible refine And.intro zC ?_); conv => whnf)
    | ((with_reducible refine And.intro ?hb ?_); (case hb => exact bytes_bd (Nat.le_of_ble_eq_true rfl) (by omega)); (conv => whnf))
    | ((refine DApp.a rfl rfl rfl rfl rfl rfl ?hb ?_); (case hb => exact zB); (conv => whnf))
    | ((refine DApp.b rfl rfl rfl rfl rfl rfl rfl rfl ?hb ?ho ?_); (case hb => exact zB); (case ho => omega); (conv => whnf))
    | ((refine DApp.c rfl rfl rfl rfl rfl ?hb ?_); (case hb => exact zB); (conv => whnf))
    | ((refine DApp.d rfl rfl rfl rfl rfl rfl ?hb ?ho ?_); (case hb => exact zB); (case ho => omega); (conv => whnf))
    | ((with_reducible refine nil_no (by omega) ?_); (conv => whnf))
    | ((with_reducible refine nil_any ?_ (fun hn0 => ?_)) <;> (conv => whnf))
    
    | ((refine ways (fun hc => ?_) (fun hc => ?_)) <;> (try simp only [decide_eq_true_eq, decide_eq_false_iff_not, Bool.and_eq_true, Bool.or_eq_true, Bool.and_eq_false_iff, Bool.or_eq_false_iff, Bool.not_eq_true', Bool.not_eq_false', beq_iff_eq, bne_iff_ne, ne_eq, beq_eq_false_iff_ne, bne_eq_false_iff_eq, Bool.not_eq_true, Bool.not_eq_false] at hc) <;> (try (exfalso; omega)) <;> (conv => whnf))))
  refine FinLe.virtC 1 3 274 6 (fun _ => []) (by decide) rfl rfl (by decide) ?_
  (refine FinLe.sealB [1,0,2] rfl rfl rfl ?_ ?_); (focus ((conv => whnf); (repeat' (first | exact zE | ((refine Seal.ptr rfl rfl ?_); (conv => whnf)) | ((refine Seal.fn ?_); (conv => whnf)) | ((refine Seal.agg ?_); (conv => whnf)) | ((refine Seal.tup ?_); (conv => whnf)) | ((refine Seal.iref ?_); (conv => whnf)) | ((refine And.intro ?_ ?_) <;> (conv => whnf)))))); (focus ((conv => whnf); (repeat' (first | exact zE | ((refine Seal.ptr rfl rfl ?_); (conv => whnf)) | ((refine Seal.fn ?_); (conv => whnf)) | ((refine Seal.agg ?_); (conv => whnf)) | ((refine Seal.tup ?_); (conv => whnf)) | ((refine Seal.iref ?_); (conv => whnf)) | ((refine And.intro ?_ ?_) <;> (conv => whnf))))))
theorem board_NewF : Fun TC 81 0 [.i .i64 32] [] 4 (boardS 0 2) [(0, some (machB 1 3 32 0 0 0)), (1, some (wordB 32 fun _ => 0)), (2, some (holdB fun _ => [])), (3, some (lastB 0 fun _ => []))] := by
  refine Fun.mk' Tryz.func81 rfl rfl (Nat.le_of_ble_eq_true rfl) (by decide) ?_
  (repeat' (first
    | with_reducible refine Wp.seq ?_
    | with_reducible refine Wp.block ?_
    | ((with_reducible first | refine Wp.region ?_ | refine Wp.drawL TC_mixed ?_ | refine Wp.cond ?_ | refine Wp.ret ?_ | refine Wp.skip ?_ | refine Wp.exit ?_ | refine Go.mk ?_ | apply Eff1.of); conv => whnf)
    | with_reducible exact rfl
    | ((with_reducible refine Ov.ok zO ?_); conv => whnf)
    | (with_reducible refine Ov.sh1 (by with_unfolding_all exact rfl) ?_)
    | ((with_reducible refine Ov.quo (by omega) (by omega) (by omega) (fun _ _ => ?_)); conv => whnf)
    | ((with_reducible refine And.intro (show drawOK _ _ _ _ = true by kernel_rfl) ?_); conv => whnf)
    | ((with_reducible refine And.intro zC ?_); conv => whnf)
    | ((with_reducible refine And.intro ?hb ?_); (case hb => exact bytes_bd (Nat.le_of_ble_eq_true rfl) (by omega)); (conv => whnf))
    | ((refine DApp.a rfl rfl rfl rfl rfl rfl ?hb ?_); (case hb => exact zB); (conv => whnf))
    | ((refine DApp.b rfl rfl rfl rfl rfl rfl rfl rfl ?hb ?ho ?_); (case hb => exact zB); (case ho => omega); (conv => whnf))
    | ((refine DApp.c rfl rfl rfl rfl rfl ?hb ?_); (case hb => exact zB); (conv => whnf))
    | ((refine DApp.d rfl rfl rfl rfl rfl rfl ?hb ?ho ?_); (case hb => exact zB); (case ho => omega); (conv => whnf))
    | ((with_reducible refine nil_no (by omega) ?_); (conv => whnf))
    | ((with_reducible refine nil_any ?_ (fun hn0 => ?_)) <;> (conv => whnf))
    | ((refine CallStop.fn (mach_NewF) [] rfl rfl rfl rfl rfl ?ha ?hh ?_); (case ha => exact zA); (case hh => exact zH); (conv => whnf))
    | ((refine DCall.fn (mach_NewF) [] [] rfl rfl rfl rfl rfl ?ha ?hh ?hs ?_); (case ha => exact zA); (case hh => exact zH); (case hs => exact zK); (conv => whnf)) | ((refine DCall.new (mach_NewF) [] [] rfl rfl rfl rfl rfl rfl ?ha ?hh ?hs ?_); (case ha => exact zA); (case hh => exact zH); (case hs => exact zK); (conv => whnf))
    | ((refine ways (fun hc => ?_) (fun hc => ?_)) <;> (try simp only [decide_eq_true_eq, decide_eq_false_iff_not, Bool.and_eq_true, Bool.or_eq_true, Bool.and_eq_false_iff, Bool.or_eq_false_iff, Bool.not_eq_true', Bool.not_eq_false', beq_iff_eq, bne_iff_ne, ne_eq, beq_eq_false_iff_ne, bne_eq_false_iff_eq, Bool.not_eq_true, Bool.not_eq_false] at hc) <;> (try (exfalso; omega)) <;> (conv => whnf))))
  (refine FinLe.sealB [0,1,3,2] rfl rfl rfl ?_ ?_); (focus ((conv => whnf); (repeat' (first | exact zE | ((refine Seal.ptr rfl rfl ?_); (conv => whnf)) | ((refine Seal.fn ?_); (conv => whnf)) | ((refine Seal.agg ?_); (conv => whnf)) | ((refine Seal.tup ?_); (conv => whnf)) | ((refine Seal.iref ?_); (conv => whnf)) | ((refine And.intro ?_ ?_) <;> (conv => whnf)))))); (focus ((conv => whnf); (repeat' (first | exact zE | ((refine Seal.ptr rfl rfl ?_); (conv => whnf)) | ((refine Seal.fn ?_); (conv => whnf)) | ((refine Seal.agg ?_); (conv => whnf)) | ((refine Seal.tup ?_); (conv => whnf)) | ((refine Seal.iref ?_); (conv => whnf)) | ((refine And.intro ?_ ?_) <;> (conv => whnf))))))
  exact fun i hi => (show DLe (.val (.slice none 0 0)) (.sl 2 0 _) ∧ True from ⟨.nil, trivial⟩)
theorem lane_NewF : Fun TC 45 0 [.i .i64 0, .d (.val (.slice none 0 0)), .d (.fn (.func 46) [])] [] 4 (.iref [boardS 0 2, .d (.fn (.func 46) [])] 0)
    [(0, some (machB 1 3 32 (noteN 0) 0 1)), (1, some (wordB 32 Dir.M0.W)), (2, some (holdB Dir.M0.Hd)), (3, some (lastB (noteN 0) (noteF 0 (fun _ => []) (accD 0 2 1 0 1 true))))] := by
  refine Fun.mk' Tryz.func45 rfl rfl (Nat.le_of_ble_eq_true rfl) (by decide) ?_
  (repeat' (first
    | with_reducible refine Wp.seq ?_
    | with_reducible refine Wp.block ?_
    | ((with_reducible first | refine Wp.region ?_ | refine Wp.drawL TC_mixed ?_ | refine Wp.cond ?_ | refine Wp.ret ?_ | refine Wp.skip ?_ | refine Wp.exit ?_ | refine Go.mk ?_ | apply Eff1.of); conv => whnf)
    | with_reducible exact rfl
    | ((with_reducible refine Ov.ok zO ?_); conv => whnf)
    | (with_reducible refine Ov.sh1 (by with_unfolding_all exact rfl) ?_)
    | ((with_reducible refine Ov.quo (by omega) (by omega) (by omega) (fun _ _ => ?_)); conv => whnf)
    | ((with_reducible refine And.intro (show drawOK _ _ _ _ = true by kernel_rfl) ?_); conv => whnf)
    | ((with_reducible refine And.intro zC ?_); conv => whnf)
    | ((with_reducible refine And.intro ?hb ?_); (case hb => exact bytes_bd (Nat.le_of_ble_eq_true rfl) (by omega)); (conv => whnf))
    | ((refine DApp.a rfl rfl rfl rfl rfl rfl ?hb ?_); (case hb => exact zB); (conv => whnf))
    | ((refine DApp.b rfl rfl rfl rfl rfl rfl rfl rfl ?hb ?ho ?_); (case hb => exact zB); (case ho => omega); (conv => whnf))
    | ((refine DApp.c rfl rfl rfl rfl rfl ?hb ?_); (case hb => exact zB); (conv => whnf))
    | ((refine DApp.d rfl rfl rfl rfl rfl rfl ?hb ?ho ?_); (case hb => exact zB); (case ho => omega); (conv => whnf))
    | ((with_reducible refine nil_no (by omega) ?_); (conv => whnf))
    | ((with_reducible refine nil_any ?_ (fun hn0 => ?_)) <;> (conv => whnf))
    | ((refine CallStop.fn (board_NewF) [] rfl rfl rfl rfl rfl ?ha ?hh ?_); (case ha => exact zA); (case hh => exact zH); (conv => whnf))
    | ((refine DCall.fn (board_NewF) [] [] rfl rfl rfl rfl rfl ?ha ?hh ?hs ?_); (case ha => exact zA); (case hh => exact zH); (case hs => exact zK); (conv => whnf)) | ((refine DCall.new (board_NewF) [] [] rfl rfl rfl rfl rfl rfl ?ha ?hh ?hs ?_); (case ha => exact zA); (case hh => exact zH); (case hs => exact zK); (conv => whnf))
    | ((with_reducible refine CallStop.pure (lane_place 0 (by omega) 0) rfl rfl ?_); conv => whnf) | ((with_reducible refine DCall.pure (lane_place 0 (by omega) 0) rfl rfl ?_); conv => whnf)
    | ((refine CallStop.fn (board_Swap 0 (fun _ => 0) (fun _ => []) (fun _ => []) 0 0 0 0 1 1 [] (by decide) (by decide) (by decide) (by decide) (by decide) (by decide)) [0,1,2,3] rfl rfl rfl rfl rfl ?ha ?hh ?_); (case ha => exact zA); (case hh => exact zH); (conv => whnf))
    | ((refine DCall.fn (board_Swap 0 (fun _ => 0) (fun _ => []) (fun _ => []) 0 0 0 0 1 1 [] (by decide) (by decide) (by decide) (by decide) (by decide) (by decide)) [0,1,2,3] [0,1,2,3] rfl rfl rfl rfl rfl ?ha ?hh ?hs ?_); (case ha => exact zA); (case hh => exact zH); (case hs => exact zK); (conv => whnf)) | ((refine DCall.new (board_Swap 0 (fun _ => 0) (fun _ => []) (fun _ => []) 0 0 0 0 1 1 [] (by decide) (by decide) (by decide) (by decide) (by decide) (by decide)) [0,1,2,3] [0,1,2,3] rfl rfl rfl rfl rfl rfl ?ha ?hh ?hs ?_); (case ha => exact zA); (case hh => exact zH); (case hs => exact zK); (conv => whnf))
    | ((refine DCall.fn (board_Swap 0 (fun _ => 0) (fun _ => []) (fun _ => []) 0 0 0 0 1 1 [] (by decide) (by decide) (by decide) (by decide) (by decide) (by decide)) [0,1,2,3] [] rfl rfl rfl rfl rfl ?ha ?hh ?hs ?_); (case ha => exact zA); (case hh => exact zH); (case hs => exact zK); (conv => whnf)) | ((refine DCall.new (board_Swap 0 (fun _ => 0) (fun _ => []) (fun _ => []) 0 0 0 0 1 1 [] (by decide) (by decide) (by decide) (by decide) (by decide) (by decide)) [0,1,2,3] [] rfl rfl rfl rfl rfl rfl ?ha ?hh ?hs ?_); (case ha => exact zA); (case hh => exact zH); (case hs => exact zK); (conv => whnf))
    | ((refine ways (fun hc => ?_) (fun hc => ?_)) <;> (try simp only [decide_eq_true_eq, decide_eq_false_iff_not, Bool.and_eq_true, Bool.or_eq_true, Bool.and_eq_false_iff, Bool.or_eq_false_iff, Bool.not_eq_true', Bool.not_eq_false', beq_iff_eq, bne_iff_ne, ne_eq, beq_eq_false_iff_ne, bne_eq_false_iff_eq, Bool.not_eq_true, Bool.not_eq_false] at hc) <;> (try (exfalso; omega)) <;> (conv => whnf))))
  (refine FinLe.sealB [0,1,2,11] rfl rfl rfl ?_ ?_); (focus ((conv => whnf); (repeat' (first | exact zE | ((refine Seal.ptr rfl rfl ?_); (conv => whnf)) | ((refine Seal.fn ?_); (conv => whnf)) | ((refine Seal.agg ?_); (conv => whnf)) | ((refine Seal.tup ?_); (conv => whnf)) | ((refine Seal.iref ?_); (conv => whnf)) | ((refine And.intro ?_ ?_) <;> (conv => whnf)))))); (focus ((conv => whnf); (repeat' (first | exact zE | ((refine Seal.ptr rfl rfl ?_); (conv => whnf)) | ((refine Seal.fn ?_); (conv => whnf)) | ((refine Seal.agg ?_); (conv => whnf)) | ((refine Seal.tup ?_); (conv => whnf)) | ((refine Seal.iref ?_); (conv => whnf)) | ((refine And.intro ?_ ?_) <;> (conv => whnf))))))
  refine fun i hi => DLes.of ?_
  dsimp only
  rw [if_pos rfl]
  unfold Dir.upd
  split <;> rfl
theorem dir_NewF : Fun TC 15 0 [] [] 5 (.ptr 0 0) (dirH (fun _ => nilF) Dir.M0 (noteN 0) (noteF 0 (fun _ => []) (accD 0 2 1 0 1 true)) 0 1) := by
  refine Fun.mk' Tryz.func15 rfl rfl (Nat.le_of_ble_eq_true rfl) (by decide) ?_
  (repeat' (first
    | with_reducible refine Wp.seq ?_
    | with_reducible refine Wp.block ?_
    | ((with_reducible first | refine Wp.region ?_ | refine Wp.drawL TC_mixed ?_ | refine Wp.cond ?_ | refine Wp.ret ?_ | refine Wp.skip ?_ | refine Wp.exit ?_ | refine Go.mk ?_ | apply Eff1.of); conv => whnf)
    | with_reducible exact rfl
    | ((with_reducible refine Ov.ok zO ?_); conv => whnf)
    | (with_reducible refine Ov.sh1 (by with_unfolding_all exact rfl) ?_)
    | ((with_reducible refine Ov.quo (by omega) (by omega) (by omega) (fun _ _ => ?_)); conv => whnf)
    | ((with_reducible refine And.intro (show drawOK _ _ _ _ = true by kernel_rfl) ?_); conv => whnf)
    | ((with_reducible refine And.intro zC ?_); conv => whnf)
    | ((with_reducible refine And.intro ?hb ?_); (case hb => exact bytes_bd (Nat.le_of_ble_eq_true rfl) (by omega)); (conv => whnf))
    | ((refine DApp.a rfl rfl rfl rfl rfl rfl ?hb ?_); (case hb => exact zB); (conv => whnf))
    | ((refine DApp.b rfl rfl rfl rfl rfl rfl rfl rfl ?hb ?ho ?_); (case hb => exact zB); (case ho => omega); (conv => whnf))
    | ((refine DApp.c rfl rfl rfl rfl rfl ?hb ?_); (case hb => exact zB); (conv => whnf))
    | ((refine DApp.d rfl rfl rfl rfl rfl rfl ?hb ?ho ?_); (case hb => exact zB); (case ho => omega); (conv => whnf))
    | ((with_reducible refine nil_no (by omega) ?_); (conv => whnf))
    | ((with_reducible refine nil_any ?_ (fun hn0 => ?_)) <;> (conv => whnf))
    | ((refine CallStop.fn (lane_NewF) [] rfl rfl rfl rfl rfl ?ha ?hh ?_); (case ha => exact zA); (case hh => exact zH); (conv => whnf))
    | ((refine DCall.fn (lane_NewF) [] [] rfl rfl rfl rfl rfl ?ha ?hh ?hs ?_); (case ha => exact zA); (case hh => exact zH); (case hs => exact zK); (conv => whnf)) | ((refine DCall.new (lane_NewF) [] [] rfl rfl rfl rfl rfl rfl ?ha ?hh ?hs ?_); (case ha => exact zA); (case hh => exact zH); (case hs => exact zK); (conv => whnf))
    | ((refine ways (fun hc => ?_) (fun hc => ?_)) <;> (try simp only [decide_eq_true_eq, decide_eq_false_iff_not, Bool.and_eq_true, Bool.or_eq_true, Bool.and_eq_false_iff, Bool.or_eq_false_iff, Bool.not_eq_true', Bool.not_eq_false', beq_iff_eq, bne_iff_ne, ne_eq, beq_eq_false_iff_ne, bne_eq_false_iff_eq, Bool.not_eq_true, Bool.not_eq_false] at hc) <;> (try (exfalso; omega)) <;> (conv => whnf))))
  (refine FinLe.sealB [4,0,1,2,3] rfl rfl rfl ?_ ?_); (focus ((conv => whnf); (repeat' (first | exact zE | ((refine Seal.ptr rfl rfl ?_); (conv => whnf)) | ((refine Seal.fn ?_); (conv => whnf)) | ((refine Seal.agg ?_); (conv => whnf)) | ((refine Seal.tup ?_); (conv => whnf)) | ((refine Seal.iref ?_); (conv => whnf)) | ((refine And.intro ?_ ?_) <;> (conv => whnf)))))); (focus ((conv => whnf); (repeat' (first | exact zE | ((refine Seal.ptr rfl rfl ?_); (conv => whnf)) | ((refine Seal.fn ?_); (conv => whnf)) | ((refine Seal.agg ?_); (conv => whnf)) | ((refine Seal.tup ?_); (conv => whnf)) | ((refine Seal.iref ?_); (conv => whnf)) | ((refine And.intro ?_ ?_) <;> (conv => whnf))))))
  · exact Nat.le_of_ble_eq_true rfl
  · exact fun j _ => dirF_lt (fun _ => .of rfl) j
theorem dir_Level {g : Nat → SV} (q5 : ∀ j, SV.Lt 5 (g j)) (M : Dir.Mc) (nl : Nat) (f : Nat → List D) (clk cnt : Int) (h0 : 0 ≤ M.W 0) (h8 : M.W 0 ≤ 8) :
    Fun TC 24 5 [.ptr 0 0] (dirH g M nl f clk cnt) 5 (.tup [.i .i64 (M.W 0 / 2), .b (decide (M.W 0 % 2 = 1))]) (dirH g M nl f clk cnt) := by
  have qr : (M.W 0).tmod 2 = M.W 0 % 2 := Int.tmod_eq_emod_of_nonneg h0
  refine Fun.mk' Tryz.func24 rfl rfl (Nat.le_of_ble_eq_true rfl) (by decide) ?_
  (repeat' (first
    | with_reducible refine Wp.seq ?_
    | with_reducible refine Wp.block ?_
    | ((with_reducible first | refine Wp.region ?_ | refine Wp.drawL TC_mixed ?_ | refine Wp.cond ?_ | refine Wp.ret ?_ | refine Wp.skip ?_ | refine Wp.exit ?_ | refine Go.mk ?_ | apply Eff1.of); conv => whnf)
    | with_reducible exact rfl
    | ((with_reducible refine Ov.ok zO ?_); conv => whnf)
    | (with_reducible refine Ov.sh1 (by with_unfolding_all exact rfl) ?_)
    | ((with_reducible refine Ov.quo (by omega) (by omega) (by omega) (fun _ _ => ?_)); conv => whnf)
    | ((with_reducible refine And.intro (show drawOK _ _ _ _ = true by kernel_rfl) ?_); conv => whnf)
    | ((with_reducible refine And.intro zC ?_); conv => whnf)
    | ((with_reducible refine And.intro ?hb ?_); (case hb => exact bytes_bd (Nat.le_of_ble_eq_true rfl) (by omega)); (conv => whnf))
    | ((refine DApp.a rfl rfl rfl rfl rfl rfl ?hb ?_); (case hb => exact zB); (conv => whnf))
    | ((refine DApp.b rfl rfl rfl rfl rfl rfl rfl rfl ?hb ?ho ?_); (case hb => exact zB); (case ho => omega); (conv => whnf))
    | ((refine DApp.c rfl rfl rfl rfl rfl ?hb ?_); (case hb => exact zB); (conv => whnf))
    | ((refine DApp.d rfl rfl rfl rfl rfl rfl ?hb ?ho ?_); (case hb => exact zB); (case ho => omega); (conv => whnf))
    | ((with_reducible refine nil_no (by omega) ?_); (conv => whnf))
    | ((with_reducible refine nil_any ?_ (fun hn0 => ?_)) <;> (conv => whnf))
    | (with_reducible refine CallStop.inline Tryz.func61 rfl rfl rfl (Nat.le_of_ble_eq_true rfl) ?_)
    | ((with_reducible refine At.mk' 0 rfl ?_); conv => whnf)
    | ((refine CallStop.fn (board_Look nl M.W M.Hd f clk cnt 0 (by decide)) [1,2,3,4] rfl rfl rfl rfl rfl ?ha ?hh ?_); (case ha => exact zA); (case hh => exact zH); (conv => whnf))
    | ((refine DCall.fn (board_Look nl M.W M.Hd f clk cnt 0 (by decide)) [1,2,3,4] [1,2,3,4] rfl rfl rfl rfl rfl ?ha ?hh ?hs ?_); (case ha => exact zA); (case hh => exact zH); (case hs => exact zK); (conv => whnf)) | ((refine DCall.new (board_Look nl M.W M.Hd f clk cnt 0 (by decide)) [1,2,3,4] [1,2,3,4] rfl rfl rfl rfl rfl rfl ?ha ?hh ?hs ?_); (case ha => exact zA); (case hh => exact zH); (case hs => exact zK); (conv => whnf))
    | ((refine DCall.fn (board_Look nl M.W M.Hd f clk cnt 0 (by decide)) [1,2,3,4] [] rfl rfl rfl rfl rfl ?ha ?hh ?hs ?_); (case ha => exact zA); (case hh => exact zH); (case hs => exact zK); (conv => whnf)) | ((refine DCall.new (board_Look nl M.W M.Hd f clk cnt 0 (by decide)) [1,2,3,4] [] rfl rfl rfl rfl rfl rfl ?ha ?hh ?hs ?_); (case ha => exact zA); (case hh => exact zH); (case hs => exact zK); (conv => whnf))
    | (with_reducible refine Ov.tdivN (by omega) ?_)
    | ((refine ways (fun hc => ?_) (fun hc => ?_)) <;> (try simp only [decide_eq_true_eq, decide_eq_false_iff_not, Bool.and_eq_true, Bool.or_eq_true, Bool.and_eq_false_iff, Bool.or_eq_false_iff, Bool.not_eq_true', Bool.not_eq_false', beq_iff_eq, bne_iff_ne, ne_eq, beq_eq_false_iff_ne, bne_eq_false_iff_eq, Bool.not_eq_true, Bool.not_eq_false, qr] at hc) <;> (try (exfalso; omega)) <;> (conv => whnf))))
  rw [qr]
  (refine FinLe.sealB [0,1,2,3,4] rfl rfl rfl ?_ ?_); (focus ((conv => whnf); (repeat' (first | exact zE | ((refine Seal.ptr rfl rfl ?_); (conv => whnf)) | ((refine Seal.fn ?_); (conv => whnf)) | ((refine Seal.agg ?_); (conv => whnf)) | ((refine Seal.tup ?_); (conv => whnf)) | ((refine Seal.iref ?_); (conv => whnf)) | ((refine And.intro ?_ ?_) <;> (conv => whnf)))))); (focus ((conv => whnf); (repeat' (first | exact zE | ((refine Seal.ptr rfl rfl ?_); (conv => whnf)) | ((refine Seal.fn ?_); (conv => whnf)) | ((refine Seal.agg ?_); (conv => whnf)) | ((refine Seal.tup ?_); (conv => whnf)) | ((refine Seal.iref ?_); (conv => whnf)) | ((refine And.intro ?_ ?_) <;> (conv => whnf))))))
theorem dir_Steps {g : Nat → SV} (q5 : ∀ j, SV.Lt 5 (g j)) (M : Dir.Mc) (nl : Nat) (f : Nat → List D) (clk cnt : Int) (h0 : 0 ≤ cnt) (h8 : cnt ≤ 4611686018427387904) :
    Fun TC 28 5 [.ptr 0 0] (dirH g M nl f clk cnt) 5 (.i .i64 (cnt - 1)) (dirH g M nl f clk cnt) := by
  refine Fun.mk' Tryz.func28 rfl rfl (Nat.le_of_ble_eq_true rfl) (by decide) ?_
  (repeat' (first
    | with_reducible refine Wp.seq ?_
    | with_reducible refine Wp.block ?_
    | ((with_reducible first | refine Wp.region ?_ | refine Wp.drawL TC_mixed ?_ | refine Wp.cond ?_ | refine Wp.ret ?_ | refine Wp.skip ?_ | refine Wp.exit ?_ | refine Go.mk ?_ | apply Eff1.of); conv => whnf)
    | with_reducible exact rfl
    | ((with_reducible refine Ov.ok zO ?_); conv => whnf)
    | (with_reducible refine Ov.sh1 (by with_unfolding_all exact rfl) ?_)
    | ((with_reducible refine Ov.quo (by omega) (by omega) (by omega) (fun _ _ => ?_)); conv => whnf)
    | ((with_reducible refine And.intro (show drawOK _ _ _ _ = true by kernel_rfl) ?_); conv => whnf)
    | ((with_reducible refine And.intro zC ?_); conv => whnf)
    | ((with_reducible refine And.intro ?hb ?_); (case hb => exact bytes_bd (Nat.le_of_ble_eq_true rfl) (by omega)); (conv => whnf))
    | ((refine DApp.a rfl rfl rfl rfl rfl rfl ?hb ?_); (case hb => exact zB); (conv => whnf))
    | ((refine DApp.b rfl rfl rfl rfl rfl rfl rfl rfl ?hb ?ho ?_); (case hb => exact zB); (case ho => omega); (conv => whnf))
    | ((refine DApp.c rfl rfl rfl rfl rfl ?hb ?_); (case hb => exact zB); (conv => whnf))
    | ((refine DApp.d rfl rfl rfl rfl rfl rfl ?hb ?ho ?_); (case hb => exact zB); (case ho => omega); (conv => whnf))
    | ((with_reducible refine nil_no (by omega) ?_); (conv => whnf))
    | ((with_reducible refine nil_any ?_ (fun hn0 => ?_)) <;> (conv => whnf))
    | (with_reducible refine CallStop.inline Tryz.func62 rfl rfl rfl (Nat.le_of_ble_eq_true rfl) ?_)
    | ((with_reducible refine At.mk' 0 rfl ?_); conv => whnf)
    | ((refine ways (fun hc => ?_) (fun hc => ?_)) <;> (try simp only [decide_eq_true_eq, decide_eq_false_iff_not, Bool.and_eq_true, Bool.or_eq_true, Bool.and_eq_false_iff, Bool.or_eq_false_iff, Bool.not_eq_true', Bool.not_eq_false', beq_iff_eq, bne_iff_ne, ne_eq, beq_eq_false_iff_ne, bne_eq_false_iff_eq, Bool.not_eq_true, Bool.not_eq_false] at hc) <;> (try (exfalso; omega)) <;> (conv => whnf))))
  (refine FinLe.sealB [0,1,2,3,4] rfl rfl rfl ?_ ?_); (focus ((conv => whnf); (repeat' (first | exact zE | ((refine Seal.ptr rfl rfl ?_); (conv => whnf)) | ((refine Seal.fn ?_); (conv => whnf)) | ((refine Seal.agg ?_); (conv => whnf)) | ((refine Seal.tup ?_); (conv => whnf)) | ((refine Seal.iref ?_); (conv => whnf)) | ((refine And.intro ?_ ?_) <;> (conv => whnf)))))); (focus ((conv => whnf); (repeat' (first | exact zE | ((refine Seal.ptr rfl rfl ?_); (conv => whnf)) | ((refine Seal.fn ?_); (conv => whnf)) | ((refine Seal.agg ?_); (conv => whnf)) | ((refine Seal.tup ?_); (conv => whnf)) | ((refine Seal.iref ?_); (conv => whnf)) | ((refine And.intro ?_ ?_) <;> (conv => whnf))))))
end Go.Proofs.YtbdclkjelhlfbaaGreat

namespace Go.Proofs.YtbdclkjelhlfbaaGreat
open Go.RowKit
set_option maxRecDepth 100000
namespace Dir
def Hn (n : Nat) (h : List Ent) : Prop := h.length ≤ n ∧ ∀ e ∈ h, IsB e.key
theorem Hn.mono {n m : Nat} {h : List Ent} (x : Hn n h) (e : n ≤ m) : Hn m h := ⟨Nat.le_trans x.1 e, x.2⟩
theorem Hn.get {n : Nat} {h : List Ent} (x : Hn n h) (k : Nat) : IsB (h.getD k default).key := by
  rw [List.getD_eq_getElem?_getD]
  cases e : h[k]? with
  | none => intro y hy; exact absurd hy (by simp [default, instInhabitedEnt.default])
  | some z => exact x.2 z (List.mem_of_getElem? e)
theorem Hn.ok {n : Nat} {h : List Ent} (x : Hn n h) (hn : n ≤ 16000000) : HOK h := ⟨Nat.le_trans x.1 hn, x.get⟩
theorem Hn.cut {n : Nat} {h : List Ent} (x : Hn n h) (lv sh : Nat) : Hn n (cutL h lv sh) :=
  ⟨Nat.le_trans (List.length_filter_le _ _) x.1, fun e he => x.2 e (List.mem_filter.1 he).1⟩
theorem Hn.fnd {n : Nat} {c : Kc} {h m : List Ent} {k : Int} (x : Hn n h) (hc : IsB c.key) (e : fndE c h = .inr (m, k)) : Hn (n + 1) m := by
  unfold fndE at e
  have hp := posE_le h c.key
  split at e
  · cases e
  · split at e
    · cases e
    · split at e
      · cases e
        refine ⟨?_, fun y hy => ?_⟩
        · unfold delAt; simp; have := x.1; omega
        · unfold delAt at hy
          rcases List.mem_append.1 hy with hy | hy
          · exact x.2 y (List.mem_of_mem_take hy)
          · exact x.2 y (List.mem_of_mem_drop hy)
      · split at e
        · cases e
          refine ⟨by rw [List.length_set]; have := x.1; omega, fun y hy => ?_⟩
          rcases List.mem_or_eq_of_mem_set hy with hy | rfl
          · exact x.2 y hy
          · exact x.get _
        · cases e
          refine ⟨by rw [insAt_length _ _ _ hp]; have := x.1; omega, fun y hy => ?_⟩
          unfold insAt at hy
          rcases List.mem_append.1 hy with hy | hy
          · rcases List.mem_append.1 hy with hy | hy
            · exact x.2 y (List.mem_of_mem_take hy)
            · rw [List.mem_singleton] at hy; subst hy; exact hc
          · exact x.2 y (List.mem_of_mem_drop hy)
def okH (n : Nat) : CS → Prop
  | .k0 c => IsB c.key
  | .kE c _ => IsB c.key
  | .kF c _ _ => IsB c.key
  | .kG c _ _ v h => IsB c.key ∧ Hn n h ∧ 0 ≤ v
  | .kH c _ _ h => IsB c.key ∧ Hn n h
  | .kL c _ _ h => IsB c.key ∧ Hn n h
  | .kS c _ _ m _ => IsB c.key ∧ Hn n m
  | .sG _ _ v h => Hn n h ∧ 0 ≤ v
  | .sH _ _ _ h => Hn n h
  | .sL _ _ _ h => Hn n h
  | _ => True
theorem okH.mono {n m : Nat} (e : n ≤ m) {s : CS} (h : okH n s) : okH m s := by
  cases s <;> first | trivial | exact h | exact ⟨h.1, h.2.1.mono e, h.2.2⟩ | exact ⟨h.1, h.2.mono e⟩ | exact ⟨Hn.mono h.1 e, h.2⟩ | exact Hn.mono h e
theorem plc_bd {lv : Nat} (s : Int) : ∃ i, i < 2 ^ lv ∧ plc lv s = 2 ^ lv + i := by
  refine ⟨(s % 2 ^ lv).toNat, ?_, rfl⟩
  have e : ((2 ^ lv : Nat) : Int) = 2 ^ lv := by simp
  have h0 : (0 : Int) < 2 ^ lv := Int.pow_pos (by decide)
  have h1 := Int.emod_lt_of_pos s h0
  have h2 := Int.emod_nonneg s (Int.ne_of_gt h0)
  omega
theorem pow_32 {lv i : Nat} (h : lv ≤ 4) (hi : i < 2 ^ lv) : 2 ^ lv + i < 32 := by
  have : 2 ^ lv ≤ 2 ^ 4 := Nat.pow_le_pow_right (by omega) h
  omega
theorem found_H {n : Nat} {c : Kc} {w : Nat} {v : Int} {h : List Ent} (hh : Hn n h) (hc : IsB c.key) : okH (n + 1) (found dirOps c w v h).1 := by
  unfold found
  cases e : dirOps.fnd c h with
  | inl r => trivial
  | inr p => exact ⟨hc, hh.fnd hc (show fndE c h = .inr (p.1, p.2) from e)⟩
theorem entered_H {n : Nat} {c : Kc} {w : Nat} {v : Int} {h : List Ent} (hh : Hn n h) (hc : IsB c.key) : okH (n + 1) (entered dirOps c w v h).1 := by
  unfold entered
  split
  · exact hc
  · exact found_H hh hc
theorem on_H {n lv i : Nat} {up : Bool} {h : List Ent} (hh : Hn n h) : okH n (on lv i up h) := by
  unfold on move
  split
  · split <;> trivial
  · exact hh
theorem upd_H {n : Nat} {f : Nat → List Ent} (hf : ∀ w, Hn n (f w)) {w : Nat} {h : List Ent} (hh : Hn n h) : ∀ j, Hn n (upd f w h j) := fun j => by
  unfold upd; split
  · exact hh
  · exact hf j
theorem Iw.pos {W : Nat → Int} {B : Int} (h : Iw W B) {lv i : Nat} (hl : lv ≤ 4) (hi : i < 2 ^ lv) : 0 ≤ W (2 ^ lv + i) := (h.w lv i hl hi).1
theorem nilH {n : Nat} : Hn n [] := ⟨Nat.zero_le _, by simp⟩
theorem step_H {n : Nat} {M : Mc} {B : Int} (hI : Iw M.W B) (hM : ∀ w, Hn n (M.Hd w)) {s : CS} (hs : Cw dirOps M.W s) (h : okH n s) : (∀ w, Hn (n + 1) ((step dirOps M s).1.Hd w)) ∧ okH (n + 1) (step dirOps M s).2.1 := by
  have hM' : ∀ w, Hn (n + 1) (M.Hd w) := fun w => (hM w).mono (by omega)
  cases s with
  | none => exact ⟨hM', trivial⟩
  | k0 c => exact ⟨hM', by simp only [step]; split <;> exact h⟩
  | kE c w => exact ⟨hM', entered_H (hM w) h⟩
  | kF c lv w =>
    refine ⟨hM', ?_⟩
    obtain ⟨i, hi, e⟩ := plc_bd (lv := lv) (dirOps.sum c.key)
    have hw : 0 ≤ M.W w := by rw [hs.2.1, e]; exact hI.pos (by have := hs.1; omega) hi
    simp only [step]; split
    · exact ⟨h, hM' w⟩
    · exact ⟨h, hM' w, hw⟩
  | kG c lv w v l =>
    have hl := h.2.1.mono (Nat.le_succ n)
    simp only [step]; split
    · exact ⟨upd_H hM' hl, h.1, hl⟩
    · exact ⟨hM', h.1⟩
  | kH c lv w l =>
    simp only [step]; split
    · exact ⟨hM', h.1, h.2.mono (Nat.le_succ n)⟩
    · exact ⟨hM', entered_H (hM w) h.1⟩
  | kL c lv w l =>
    simp only [step]; split
    · exact ⟨upd_H hM' ((h.2.mono (Nat.le_succ n)).cut _ _), h.1⟩
    · exact ⟨hM', h.1⟩
  | kS c w v m k =>
    simp only [step]; split
    · exact ⟨upd_H hM' (h.2.mono (Nat.le_succ n)), trivial⟩
    · exact ⟨hM', h.1⟩
  | s0 => simp only [step]; split
          · exact ⟨hM', trivial⟩
          · split <;> exact ⟨hM', trivial⟩
  | sM lv => simp only [step]; split
             · exact ⟨upd_H hM' nilH, trivial⟩
             · exact ⟨hM', trivial⟩
  | sF lv i =>
    refine ⟨hM', ?_⟩
    have hw : 0 ≤ M.W (2 ^ lv + i) := hI.pos (by have := hs.1; omega) hs.2.1
    simp only [step]; split
    · exact hM' _
    · exact ⟨hM' _, hw⟩
  | sG lv i v l =>
    have hl := h.1.mono (Nat.le_succ n)
    simp only [step]; split
    · exact ⟨upd_H hM' hl, hl⟩
    · exact ⟨hM', trivial⟩
  | sH lv i up l =>
    have hl : Hn (n + 1) l := Hn.mono h (Nat.le_succ n)
    refine ⟨hM', ?_⟩
    simp only [step]; split
    · exact hl
    · exact on_H hl
  | sL lv i up l =>
    have hl : Hn (n + 1) l := Hn.mono h (Nat.le_succ n)
    refine ⟨?_, on_H hl⟩
    simp only [step]; split
    · exact upd_H hM' (hl.cut _ _)
    · exact hM'
  | sV lv =>
    refine ⟨?_, trivial⟩
    simp only [step]; split
    · exact upd_H hM' nilH
    · exact hM'
end Dir
open Dir in
theorem okC_of {n : Nat} {W : Nat → Int} {s : Dir.CS} (hs : Dir.Cw dirOps W s) (h : Dir.okH n s) (hn : n ≤ 16000000) : okC s := by
  cases s with
  | none => trivial
  | k0 c => trivial
  | kE c w => exact ⟨hs.2, h⟩
  | kF c lv w =>
    obtain ⟨i, hi, e⟩ := plc_bd (lv := lv) (dirOps.sum c.key)
    exact ⟨hs.1, by rw [hs.2.1, e]; exact pow_32 (by have := hs.1; omega) hi⟩
  | kG c lv w v l =>
    obtain ⟨i, hi, e⟩ := plc_bd (lv := lv) (dirOps.sum c.key)
    exact ⟨⟨hs.1, by rw [hs.2.1, e]; exact pow_32 (by have := hs.1; omega) hi⟩, h.2.2, hs.2.2.2⟩
  | kH c lv w l =>
    obtain ⟨i, hi, e⟩ := plc_bd (lv := lv) (dirOps.sum c.key)
    exact ⟨by rw [hs.2.2.1, e]; exact pow_32 hs.2.1 hi, h.1⟩
  | kL c lv w l =>
    obtain ⟨i, hi, e⟩ := plc_bd (lv := lv) (dirOps.sum c.key)
    exact ⟨⟨hs.2.1, by rw [hs.2.2.1, e]; omega, by rw [hs.2.2.1, e]; exact pow_32 hs.2.1 hi⟩, h.2.ok hn⟩
  | kS c w v m k => exact ⟨hs.2.1, Int.le_of_lt hs.2.2.1, hs.2.2.2⟩
  | s0 => trivial
  | sM lv => exact hs
  | sF lv i => exact ⟨hs.1, hs.2.1⟩
  | sG lv i v l => exact ⟨⟨hs.1, hs.2.1⟩, h.2, hs.2.2.2.2⟩
  | sH lv i up l => exact ⟨hs.1, hs.2.1⟩
  | sL lv i up l => exact ⟨⟨hs.1, hs.2.1⟩, Hn.ok h hn⟩
  | sV lv => exact hs.1
end Go.Proofs.YtbdclkjelhlfbaaGreat

namespace Go.Proofs.YtbdclkjelhlfbaaGreat
open Go.RowKit
set_option maxRecDepth 100000
def gOf (cs : Nat → Dir.CS) : Nat → SV := fun j => cl j (cs j)
theorem gOf_lt (cs : Nat → Dir.CS) : ∀ j, SV.Lt 5 (gOf cs j) := fun j => cl_lt _ _
theorem gOf_upd (cs : Nat → Dir.CS) (w : Nat) (s : Dir.CS) : Dir.upd (gOf cs) w (cl w s) = gOf (Dir.upd cs w s) := by
  funext j
  unfold gOf Dir.upd
  by_cases h : j = w
  · rw [if_pos h, if_pos h, h]
  · rw [if_neg h, if_neg h]
theorem fnd_done : ∀ c h r, dirOps.fnd c h = .inl r → r.done = true := by
  intro c h r e
  have e : fndE c h = .inl r := e
  unfold fndE at e
  split at e
  · cases e; rfl
  · split at e
    · cases e; rfl
    · split at e
      · cases e
      · split at e <;> cases e
structure LawS (k : Nat) (M : Dir.Mc) (cs : Nat → Dir.CS) (nl : Nat) (cnt : Int) : Prop where
  inv : Dir.Inv dirOps M cs ((k : Int) + 1)
  hd : ∀ w, Dir.Hn k (M.Hd w)
  ok : ∀ j, Dir.okH k (cs j)
  nl : nl ≤ 128
  cnt : cnt = (k : Int) + 1
theorem LawS.zero : LawS 0 Dir.M0 (fun _ => .none) (noteN 0) 1 := ⟨Dir.Inv.zero _, fun _ => Dir.nilH, fun _ => trivial, by decide, rfl⟩
theorem LawS.step {k : Nat} {M : Dir.Mc} {cs : Nat → Dir.CS} {nl : Nat} {cnt : Int} (h : LawS k M cs nl cnt) (hk : k ≤ 1000000) (i : Nat) :
    LawS (k + 1) (Dir.step dirOps M (cs i)).1 (Dir.upd cs i (Dir.step dirOps M (cs i)).2.1) (noteN nl) (cnt + 1) := by
  have h1 := Dir.step_H h.inv.iw h.hd (h.inv.cw i) (h.ok i)
  refine ⟨?_, h1.1, fun j => ?_, noteN_le h.nl, by have := h.cnt; omega⟩
  · have := h.inv.step fnd_done (show (k : Int) + 1 + 1 < Dir.FZ by unfold Dir.FZ; omega) i
    rwa [show ((k + 1 : Nat) : Int) + 1 = (k : Int) + 1 + 1 by omega]
  · unfold Dir.upd
    split
    · exact h1.2
    · exact (h.ok j).mono (Nat.le_succ k)
theorem LawS.start {k : Nat} {M : Dir.Mc} {cs : Nat → Dir.CS} {nl : Nat} {cnt : Int} (h : LawS k M cs nl cnt) (i : Nat) (op : Int) (key : List Int) (v : Int) (hk : IsB key) :
    LawS k M (Dir.upd cs i (startS op key v)) nl cnt := by
  refine ⟨⟨h.inv.iw, h.inv.b, fun j => ?_⟩, h.hd, fun j => ?_, h.nl, h.cnt⟩
  · unfold Dir.upd; split
    · unfold startS; split <;> trivial
    · exact h.inv.cw j
  · unfold Dir.upd; split
    · unfold startS; split
      · trivial
      · exact hk
    · exact h.ok j
theorem LawS.dok {k : Nat} {M : Dir.Mc} {cs : Nat → Dir.CS} {nl : Nat} {cnt : Int} (h : LawS k M cs nl cnt) (hk : k ≤ 1000000) (w : Nat) (hw : w < 64) : DOK w (gOf cs) M nl cnt :=
  ⟨by omega, by omega, h.nl, by have := h.cnt; omega, by have := h.cnt; omega, gOf_lt cs, h.inv.iw.d.1, h.inv.iw.d.2, fun w => (h.hd w).ok (by omega)⟩
theorem law_Step {k : Nat} {M : Dir.Mc} {cs : Nat → Dir.CS} {nl : Nat} {f : Nat → List D} {clk cnt : Int} (h : LawS k M cs nl cnt) (hk : k ≤ 1000000) (w : Nat) (hw : w < 64) (hc : isC (cs w) = true) :
    ∃ a, Fun TC 21 5 [.ptr 0 0, .i .i64 w] (dirH (gOf cs) M nl f clk cnt) 6 (.tup [rslS (Dir.step dirOps M (cs w)).2.2, .i .i64 0]) (dirN (gOf (Dir.upd cs w (Dir.step dirOps M (cs w)).2.1)) (Dir.step dirOps M (cs w)).1 nl f clk cnt a) := by
  obtain ⟨a, hF⟩ := dir_Step (f := f) (clk := clk) w hw (h.dok hk w hw) hc (okC_of (h.inv.cw w) (h.ok w) (by omega)) rfl
  rw [gOf_upd] at hF
  exact ⟨a, hF⟩
theorem law_Start {M : Dir.Mc} {cs : Nat → Dir.CS} {nl : Nat} {f : Nat → List D} {clk cnt : Int} (w : Nat) (hw : w < 64) (op : Int) (key : List Int) (v : Int) (ho : 1 ≤ op) (ho4 : op ≤ 4) (hk : key.length ≤ 256) (hv : tickB v = true) (hc : cs w = .none) :
    Fun TC 18 5 [.ptr 0 0, .i .i64 w, .i .u8 op, .d (slOf 1 (encI .u8) key), .i .i64 v] (dirH (gOf cs) M nl f clk cnt) 5 (.i .i64 0) (dirH (gOf (Dir.upd cs w (startS op key v))) M nl f clk cnt) := by
  have := dir_Start (gOf_lt cs) (M := M) (nl := nl) (f := f) (clk := clk) (cnt := cnt) w hw op key v ho ho4 hk hv (show cl w (cs w) = nilF by rw [hc]; rfl)
  rwa [gOf_upd] at this
theorem law_Pending {M : Dir.Mc} {cs : Nat → Dir.CS} {nl : Nat} {f : Nat → List D} {clk cnt : Int} (w : Nat) (hw : w < 64) :
    Fun TC 26 5 [.ptr 0 0, .i .i64 w] (dirH (gOf cs) M nl f clk cnt) 5 (.b (isC (cs w))) (dirH (gOf cs) M nl f clk cnt) :=
  dir_Pending w hw (gOf_lt cs) rfl
def awS : List (Nat × Option Dir.Kc) := [(0, some ⟨2, [97], 5⟩), (0, none), (0, none), (0, none), (1, some ⟨4, [], 0⟩), (1, none), (1, none), (1, none), (1, none), (1, none), (1, none), (1, none), (1, none), (1, none), (2, some ⟨1, [97], 0⟩), (2, none), (2, none)]
def aw1 (st : Dir.Mc × (Nat → Dir.CS)) : Nat × Option Dir.Kc → Dir.Mc × (Nat → Dir.CS)
  | (w, some c) => (st.1, Dir.upd st.2 w (startS c.op c.key c.val))
  | (w, none) => ((Dir.step dirOps st.1 (st.2 w)).1, Dir.upd st.2 w (Dir.step dirOps st.1 (st.2 w)).2.1)
def awR (st : Dir.Mc × (Nat → Dir.CS)) : List (Nat × Option Dir.Kc) → List (Dir.Res)
  | [] => []
  | (w, o) :: r => (match o with | none => (Dir.step dirOps st.1 (st.2 w)).2.2 | some _ => Dir.r0) :: awR (aw1 st (w, o)) r
def awC (st : Dir.Mc × (Nat → Dir.CS)) : List (Nat × Option Dir.Kc) → List Bool
  | [] => []
  | (w, o) :: r => isC (st.2 w) :: awC (aw1 st (w, o)) r
def awE (st : Dir.Mc × (Nat → Dir.CS)) : List (Nat × Option Dir.Kc) → Int
  | [] => st.1.W 0
  | x :: r => awE (aw1 st x) r
structure AwK (st : Dir.Mc × (Nat → Dir.CS)) (l : List (Nat × Option Dir.Kc)) (rs : List Dir.Res) (bs : List Bool) : Prop where
  r : awR st l = rs
  c : awC st l = bs
  e : awE st l = 2
theorem aw_start {k : Nat} {M : Dir.Mc} {cs : Nat → Dir.CS} {nl : Nat} {cnt : Int} (h : LawS k M cs nl cnt) {w : Nat} {c : Dir.Kc} {l : List (Nat × Option Dir.Kc)} {r : Dir.Res} {rs : List Dir.Res} {bs : List Bool} (K : AwK (M, cs) ((w, some c) :: l) (r :: rs) (false :: bs))
    (hw : w < 64) (ho : 1 ≤ c.op) (ho4 : c.op ≤ 4) (hk : IsB c.key ∧ c.key.length ≤ 256) (hv : tickB c.val = true) :
    ∃ cs', LawS k M cs' nl cnt ∧ AwK (M, cs') l rs bs ∧ ∀ f clk, Fun TC 18 5 [.ptr 0 0, .i .i64 w, .i .u8 c.op, .d (slOf 1 (encI .u8) c.key), .i .i64 c.val] (dirH (gOf cs) M nl f clk cnt) 5 (.i .i64 0) (dirH (gOf cs') M nl f clk cnt) := by
  have hr := K.r; have hc := K.c
  simp only [awR, awC, List.cons.injEq] at hr hc
  exact ⟨_, h.start w c.op c.key c.val hk.1, ⟨hr.2, hc.2, K.e⟩, fun f clk => law_Start w hw c.op c.key c.val ho ho4 hk.2 hv (isC_no hc.1)⟩
theorem aw_step {k : Nat} {M : Dir.Mc} {cs : Nat → Dir.CS} {nl : Nat} {cnt : Int} (h : LawS k M cs nl cnt) {w : Nat} {l : List (Nat × Option Dir.Kc)} {r : Dir.Res} {rs : List Dir.Res} {bs : List Bool} (K : AwK (M, cs) ((w, none) :: l) (r :: rs) (true :: bs))
    (hw : w < 64) (hk : k ≤ 1000000) (f : Nat → List D) (clk : Int) :
    ∃ M' cs' f', LawS (k + 1) M' cs' (noteN nl) (cnt + 1) ∧ AwK (M', cs') l rs bs ∧ Fun TC 21 5 [.ptr 0 0, .i .i64 w] (dirH (gOf cs) M nl f clk cnt) 6 (.tup [rslS r, .i .i64 0])
      [(0, some (dirB (gOf cs'))), (1, some (machB 2 5 32 (noteN nl) clk (cnt + 1))), (2, some (wordB 32 M'.W)), (3, some (holdB M'.Hd)), (4, none), (5, some (lastB (noteN nl) f'))] := by
  have hr := K.r; have hc := K.c
  simp only [awR, awC, List.cons.injEq] at hr hc
  obtain ⟨a, hF⟩ := law_Step (f := f) (clk := clk) h hk w hw hc.1
  rw [hr.1] at hF
  exact ⟨_, _, _, h.step hk w, ⟨hr.2, hc.2, K.e⟩, hF⟩
theorem aw_all : AwK (Dir.M0, fun _ => .none) awS
    [⟨false, 0, 0⟩, ⟨false, 0, 0⟩, ⟨false, 0, 0⟩, ⟨true, 0, 5⟩, ⟨false, 0, 0⟩, ⟨false, 0, 0⟩, ⟨false, 0, 0⟩, ⟨false, 0, 0⟩, ⟨false, 0, 0⟩, ⟨false, 0, 0⟩, ⟨false, 0, 0⟩, ⟨false, 0, 0⟩, ⟨false, 0, 0⟩, ⟨true, 0, 0⟩, ⟨false, 0, 0⟩, ⟨false, 0, 0⟩, ⟨true, 0, 5⟩]
    [false, true, true, true, false, true, true, true, true, true, true, true, true, true, false, true, true] := ⟨by decide +kernel, by decide +kernel, by decide +kernel⟩
theorem law_Level {k : Nat} {M : Dir.Mc} {cs : Nat → Dir.CS} {nl : Nat} {cnt : Int} (h : LawS k M cs nl cnt) (f : Nat → List D) (clk : Int) :
    Fun TC 24 5 [.ptr 0 0] (dirH (gOf cs) M nl f clk cnt) 5 (.tup [.i .i64 (M.W 0 / 2), .b (decide (M.W 0 % 2 = 1))]) (dirH (gOf cs) M nl f clk cnt) :=
  dir_Level (gOf_lt cs) M nl f clk cnt h.inv.iw.d.1 h.inv.iw.d.2
theorem law_Steps {k : Nat} {M : Dir.Mc} {cs : Nat → Dir.CS} {nl : Nat} {cnt : Int} (h : LawS k M cs nl cnt) (hk : k ≤ 1000000) (f : Nat → List D) (clk : Int) :
    Fun TC 28 5 [.ptr 0 0] (dirH (gOf cs) M nl f clk cnt) 5 (.i .i64 (cnt - 1)) (dirH (gOf cs) M nl f clk cnt) :=
  dir_Steps (gOf_lt cs) M nl f clk cnt (by have := h.cnt; omega) (by have := h.cnt; omega)
theorem cl_lt4 (who : Int) (s : Dir.CS) : SV.Lt 4 (cl who s) := by
  cases s with
  | sH lv i up h => cases up <;> exact .of rfl
  | sL lv i up h => cases up <;> exact .of rfl
  | _ => exact .of rfl
theorem gOf_lt4 (cs : Nat → Dir.CS) : ∀ j, SV.Lt 4 (dirF (gOf cs) j) := fun j => by
  cases j with
  | zero => exact .of rfl
  | succ j => exact cl_lt4 _ _
theorem id4 {L : List Nat} {i : Nat} (hi : i < 4) : (0 :: 1 :: 2 :: 3 :: L).getD i 0 = i := by
  rcases i with _ | _ | _ | _ | i <;> first | rfl | omega
theorem dir_arg4 {cs : Nat → Dir.CS} {L : List Nat} : ∀ j, j < 65 → ArgLe (0 :: 1 :: 2 :: 3 :: L) (dirF (gOf cs) j) (dirF (gOf cs) j) ∧ SV.Lt 5 (dirF (gOf cs) j) :=
  fun j _ => ⟨.same (gOf_lt4 cs j) (by simp) fun i hi => id4 hi, (gOf_lt4 cs j).mono (by decide)⟩
theorem dir_argR4 {cs : Nat → Dir.CS} {L : List Nat} {π : Nat → Nat} (hπ : ∀ l, l < 4 → π l = l) : ∀ j, j < 65 → ArgLe (0 :: 1 :: 2 :: 3 :: L) (SV.ren π (dirF (gOf cs) j)) (dirF (gOf cs) j) ∧ SV.Lt 5 (dirF (gOf cs) j) :=
  fun j hj => ⟨by rw [ren_id hπ (gOf_lt4 cs j)]; exact (dir_arg4 j hj).1, (gOf_lt4 cs j).mono (by decide)⟩
theorem ArgLe.sl5 {l z o n : Nat} : ArgLe [0, 1, 2, 3, l] (.sl l z o n) (.sl 4 z o n) := by
  refine ⟨fun E nx w v hv => ?_⟩
  cases hv with
  | sl _ _ _ _ ad cap hl hc hm ha h0 => exact .sl _ _ _ _ _ _ (by simp) hc hm ha h0
theorem law_New : Fun TC 15 0 [] [] 5 (.ptr 0 0) (dirH (gOf fun _ => .none) Dir.M0 (noteN 0) (noteF 0 (fun _ => []) (accD 0 2 1 0 1 true)) 0 1) := dir_NewF
theorem CallStop.fn5 {C : Cx} {nt : NT} {nx : Nat} {fr : List (Nat × SV)} {hp : List (Nat × Option Blk)} {g : Nat} {args : List SV} {k : St → SV → Prop} {m' : Nat} {args0 : List SV} {H H' : List (Nat × Option Blk)} {r : SV} {l : Nat} (h : Fun C g 5 args0 H m' r H')
    (hh : HeapLe hp [0, 1, 2, 3, l] H) (ha : ArgLes [0, 1, 2, 3, l] args args0) (hd : noDup [0, 1, 2, 3, l] = true) (hlive : liveK H 5 = true) (hkeys : keysK H' 5 = true) (hlt : keysLt H' m' = true)
    (hk : k ⟨nt, nx + (m' - 5), fr, postH (πf [0, 1, 2, 3, l] nx) hp H'⟩ (ren2 (πf [0, 1, 2, 3, l] nx) r)) : CallStop C ⟨nt, nx, fr, hp⟩ g args k :=
  .fn h _ rfl hd hlive hkeys hlt ha hh hk
end Go.Proofs.YtbdclkjelhlfbaaGreat

namespace Go.Proofs.YtbdclkjelhlfbaaGreat
open Go.RowKit
set_option maxRecDepth 100000
set_option maxHeartbeats 8000000 in
theorem awake_T : Pure TC 14 [] (.b true) := by
  have L0 := LawS.zero
  have K0 := aw_all
  obtain ⟨cs1, L1, K1, F1⟩ := aw_start L0 K0 (by decide) (by decide) (by decide) ⟨by intro x hx; simp at hx; try omega, by decide⟩ (by decide)
  have S1 := F1 (noteF 0 (fun _ => []) (accD 0 2 1 0 1 true)) 0
  obtain ⟨M2, cs2, f2, L2, K2, S2⟩ := aw_step L1 K1 (by decide) (by decide) (noteF 0 (fun _ => []) (accD 0 2 1 0 1 true)) 0
  obtain ⟨M3, cs3, f3, L3, K3, S3⟩ := aw_step L2 K2 (by decide) (by decide) f2 0
  obtain ⟨M4, cs4, f4, L4, K4, S4⟩ := aw_step L3 K3 (by decide) (by decide) f3 0
  obtain ⟨cs5, L5, K5, F5⟩ := aw_start L4 K4 (by decide) (by decide) (by decide) ⟨by intro x hx; simp at hx; try omega, by decide⟩ (by decide)
  have S5 := F5 f4 0
  obtain ⟨M6, cs6, f6, L6, K6, S6⟩ := aw_step L5 K5 (by decide) (by decide) f4 0
  obtain ⟨M7, cs7, f7, L7, K7, S7⟩ := aw_step L6 K6 (by decide) (by decide) f6 0
  obtain ⟨M8, cs8, f8, L8, K8, S8⟩ := aw_step L7 K7 (by decide) (by decide) f7 0
  obtain ⟨M9, cs9, f9, L9, K9, S9⟩ := aw_step L8 K8 (by decide) (by decide) f8 0
  obtain ⟨M10, cs10, f10, L10, K10, S10⟩ := aw_step L9 K9 (by decide) (by decide) f9 0
  obtain ⟨M11, cs11, f11, L11, K11, S11⟩ := aw_step L10 K10 (by decide) (by decide) f10 0
  obtain ⟨M12, cs12, f12, L12, K12, S12⟩ := aw_step L11 K11 (by decide) (by decide) f11 0
  obtain ⟨M13, cs13, f13, L13, K13, S13⟩ := aw_step L12 K12 (by decide) (by decide) f12 0
  obtain ⟨M14, cs14, f14, L14, K14, S14⟩ := aw_step L13 K13 (by decide) (by decide) f13 0
  obtain ⟨cs15, L15, K15, F15⟩ := aw_start L14 K14 (by decide) (by decide) (by decide) ⟨by intro x hx; simp at hx; try omega, by decide⟩ (by decide)
  have S15 := F15 f14 0
  obtain ⟨M16, cs16, f16, L16, K16, S16⟩ := aw_step L15 K15 (by decide) (by decide) f14 0
  obtain ⟨M17, cs17, f17, L17, K17, S17⟩ := aw_step L16 K16 (by decide) (by decide) f16 0
  have e17 : M17.W 0 = 2 := K17.e
  have SL := law_Level L17 f17 0
  rw [e17] at SL
  have ST := law_Steps L17 (by decide) f17 0
  clear K0 K1 K2 K3 K4 K5 K6 K7 K8 K9 K10 K11 K12 K13 K14 K15 K16 K17 L0 L1 L2 L3 L4 L5 L6 L7 L8 L9 L10 L11 L12 L13 L14 L15 L16 L17 F1 F5 F15
  refine Pure.mk' Tryz.func14 rfl rfl (Nat.le_of_ble_eq_true rfl) ?_
  (repeat' (first
    | with_reducible refine Wp.seq ?_
    | with_reducible refine Wp.block ?_
    | ((with_reducible first | refine Wp.region ?_ | refine Wp.drawL TC_mixed ?_ | refine Wp.cond ?_ | refine Wp.ret ?_ | refine Wp.skip ?_ | refine Wp.exit ?_ | refine Go.mk ?_ | apply Eff1.of); conv => whnf)
    | with_reducible exact rfl
    | ((with_reducible refine Ov.ok zO ?_); conv => whnf)
    | (with_reducible refine Ov.sh1 (by with_unfolding_all exact rfl) ?_)
    | ((with_reducible refine Ov.quo (by omega) (by omega) (by omega) (fun _ _ => ?_)); conv => whnf)
    | ((with_reducible refine And.intro (show drawOK _ _ _ _ = true by kernel_rfl) ?_); conv => whnf)
    | ((with_reducible refine And.intro zC ?_); conv => whnf)
    | ((with_reducible refine And.intro ?hb ?_); (case hb => exact bytes_bd (Nat.le_of_ble_eq_true rfl) (by omega)); (conv => whnf))
    | ((refine DApp.a rfl rfl rfl rfl rfl rfl ?hb ?_); (case hb => exact zB); (conv => whnf))
    | ((refine DApp.b rfl rfl rfl rfl rfl rfl rfl rfl ?hb ?ho ?_); (case hb => exact zB); (case ho => omega); (conv => whnf))
    | ((refine DApp.c rfl rfl rfl rfl rfl ?hb ?_); (case hb => exact zB); (conv => whnf))
    | ((refine DApp.d rfl rfl rfl rfl rfl rfl ?hb ?ho ?_); (case hb => exact zB); (case ho => omega); (conv => whnf))
    | ((with_reducible refine nil_no (by omega) ?_); (conv => whnf))
    | ((with_reducible refine nil_any ?_ (fun hn0 => ?_)) <;> (conv => whnf))
    | ((refine CallStop.fn (law_New) [] rfl rfl rfl rfl rfl ?ha ?hh ?_); (case ha => exact zA); (case hh => exact zH); (conv => whnf))
    | ((refine DCall.fn (law_New) [] [] rfl rfl rfl rfl rfl ?ha ?hh ?hs ?_); (case ha => exact zA); (case hh => exact zH); (case hs => exact zK); (conv => whnf)) | ((refine DCall.new (law_New) [] [] rfl rfl rfl rfl rfl rfl ?ha ?hh ?hs ?_); (case ha => exact zA); (case hh => exact zH); (case hs => exact zK); (conv => whnf))
    | (with_reducible refine CallStop.inline Tryz.func36 rfl rfl rfl (Nat.le_of_ble_eq_true rfl) ?_)
    | ((with_reducible refine Wp.loopN 10 ?_); conv => whnf)
    | ((apply CallStop.fn5 (h := S1)); (case hh => exact zG); (case ha => exact zA); (case hd => exact rfl); (case hlive => exact rfl); (case hkeys => exact rfl); (case hlt => exact rfl); (conv => whnf))
    | ((apply CallStop.fn5 (h := S2)); (case hh => exact zG); (case ha => exact zA); (case hd => exact rfl); (case hlive => exact rfl); (case hkeys => exact rfl); (case hlt => exact rfl); (conv => whnf))
    | ((apply CallStop.fn5 (h := S3)); (case hh => exact zG); (case ha => exact zA); (case hd => exact rfl); (case hlive => exact rfl); (case hkeys => exact rfl); (case hlt => exact rfl); (conv => whnf))
    | ((apply CallStop.fn5 (h := S4)); (case hh => exact zG); (case ha => exact zA); (case hd => exact rfl); (case hlive => exact rfl); (case hkeys => exact rfl); (case hlt => exact rfl); (conv => whnf))
    | ((apply CallStop.fn5 (h := S5)); (case hh => exact zG); (case ha => exact zA); (case hd => exact rfl); (case hlive => exact rfl); (case hkeys => exact rfl); (case hlt => exact rfl); (conv => whnf))
    | ((apply CallStop.fn5 (h := S6)); (case hh => exact zG); (case ha => exact zA); (case hd => exact rfl); (case hlive => exact rfl); (case hkeys => exact rfl); (case hlt => exact rfl); (conv => whnf))
    | ((apply CallStop.fn5 (h := S7)); (case hh => exact zG); (case ha => exact zA); (case hd => exact rfl); (case hlive => exact rfl); (case hkeys => exact rfl); (case hlt => exact rfl); (conv => whnf))
    | ((apply CallStop.fn5 (h := S8)); (case hh => exact zG); (case ha => exact zA); (case hd => exact rfl); (case hlive => exact rfl); (case hkeys => exact rfl); (case hlt => exact rfl); (conv => whnf))
    | ((apply CallStop.fn5 (h := S9)); (case hh => exact zG); (case ha => exact zA); (case hd => exact rfl); (case hlive => exact rfl); (case hkeys => exact rfl); (case hlt => exact rfl); (conv => whnf))
    | ((apply CallStop.fn5 (h := S10)); (case hh => exact zG); (case ha => exact zA); (case hd => exact rfl); (case hlive => exact rfl); (case hkeys => exact rfl); (case hlt => exact rfl); (conv => whnf))
    | ((apply CallStop.fn5 (h := S11)); (case hh => exact zG); (case ha => exact zA); (case hd => exact rfl); (case hlive => exact rfl); (case hkeys => exact rfl); (case hlt => exact rfl); (conv => whnf))
    | ((apply CallStop.fn5 (h := S12)); (case hh => exact zG); (case ha => exact zA); (case hd => exact rfl); (case hlive => exact rfl); (case hkeys => exact rfl); (case hlt => exact rfl); (conv => whnf))
    | ((apply CallStop.fn5 (h := S13)); (case hh => exact zG); (case ha => exact zA); (case hd => exact rfl); (case hlive => exact rfl); (case hkeys => exact rfl); (case hlt => exact rfl); (conv => whnf))
    | ((apply CallStop.fn5 (h := S14)); (case hh => exact zG); (case ha => exact zA); (case hd => exact rfl); (case hlive => exact rfl); (case hkeys => exact rfl); (case hlt => exact rfl); (conv => whnf))
    | ((apply CallStop.fn5 (h := S15)); (case hh => exact zG); (case ha => exact zA); (case hd => exact rfl); (case hlive => exact rfl); (case hkeys => exact rfl); (case hlt => exact rfl); (conv => whnf))
    | ((apply CallStop.fn5 (h := S16)); (case hh => exact zG); (case ha => exact zA); (case hd => exact rfl); (case hlive => exact rfl); (case hkeys => exact rfl); (case hlt => exact rfl); (conv => whnf))
    | ((apply CallStop.fn5 (h := S17)); (case hh => exact zG); (case ha => exact zA); (case hd => exact rfl); (case hlive => exact rfl); (case hkeys => exact rfl); (case hlt => exact rfl); (conv => whnf))
    | ((apply CallStop.fn5 (h := SL)); (case hh => exact zG); (case ha => exact zA); (case hd => exact rfl); (case hlive => exact rfl); (case hkeys => exact rfl); (case hlt => exact rfl); (conv => whnf))
    | ((apply CallStop.fn5 (h := ST)); (case hh => exact zG); (case ha => exact zA); (case hd => exact rfl); (case hlive => exact rfl); (case hkeys => exact rfl); (case hlt => exact rfl); (conv => whnf))
    | ((refine ways (fun hc => ?_) (fun hc => ?_)) <;> (try simp only [decide_eq_true_eq, decide_eq_false_iff_not, Bool.and_eq_true, Bool.or_eq_true, Bool.and_eq_false_iff, Bool.or_eq_false_iff, Bool.not_eq_true', Bool.not_eq_false', beq_iff_eq, bne_iff_ne, ne_eq, beq_eq_false_iff_ne, bne_eq_false_iff_eq, Bool.not_eq_true, Bool.not_eq_false] at hc) <;> (try (exfalso; omega)) <;> (conv => whnf))))
  exact .b (by decide)
end Go.Proofs.YtbdclkjelhlfbaaGreat

namespace Go.Proofs.YtbdclkjelhlfbaaGreat
open Go.RowKit
namespace Dir
theorem cmpS : ∀ a : List Int, cmpI a a = 0
  | [] => rfl
  | x :: r => by simp only [cmpI]; rw [if_neg (by omega), if_neg (by omega)]; exact cmpS r
theorem cmpEq : ∀ {a b : List Int}, cmpI a b = 0 → a = b
  | [], [], _ => rfl
  | [], _ :: _, h => by simp [cmpI] at h
  | _ :: _, [], h => by simp [cmpI] at h
  | x :: a, y :: b, h => by
    simp only [cmpI] at h
    split at h
    · omega
    · split at h
      · omega
      · rw [cmpEq h, show x = y by omega]
theorem cmpSw : ∀ a b : List Int, cmpI b a = - cmpI a b
  | [], [] => rfl
  | [], _ :: _ => rfl
  | _ :: _, [] => rfl
  | x :: a, y :: b => by
    simp only [cmpI]
    by_cases h1 : x < y
    · rw [if_neg (by omega), if_pos h1, if_pos h1]; rfl
    · by_cases h2 : y < x
      · rw [if_pos h2, if_neg h1, if_pos h2]
      · rw [if_neg h2, if_neg h1, if_neg h1, if_neg h2]; exact cmpSw a b
theorem cmpTr : ∀ {a b c : List Int}, cmpI a b < 0 → cmpI b c < 0 → cmpI a c < 0
  | [], [], _, h, _ => by simp [cmpI] at h
  | [], _ :: _, [], _, h => by simp [cmpI] at h
  | [], _ :: _, _ :: _, _, _ => by simp [cmpI]
  | _ :: _, [], _, h, _ => by simp [cmpI] at h
  | _ :: _, _ :: _, [], _, h => by simp [cmpI] at h
  | x :: a, y :: b, z :: c, h1, h2 => by
    simp only [cmpI] at h1 h2 ⊢
    by_cases e1 : x < y
    · by_cases e2 : y < z
      · rw [if_pos (by omega)]; omega
      · by_cases e3 : z < y
        · rw [if_neg e2, if_pos e3] at h2; omega
        · rw [if_pos (by omega)]; omega
    · by_cases e2 : y < x
      · rw [if_neg e1, if_pos e2] at h1; omega
      · rw [if_neg e1, if_neg e2] at h1
        by_cases e3 : y < z
        · rw [if_pos (by omega)]; omega
        · by_cases e4 : z < y
          · rw [if_neg e3, if_pos e4] at h2; omega
          · rw [if_neg e3, if_neg e4] at h2
            rw [if_neg (by omega), if_neg (by omega)]
            exact cmpTr h1 h2
theorem bsF_ok {lt : Nat → Bool} {n : Nat} (mono : ∀ i j, i ≤ j → j < n → lt j = true → lt i = true) : ∀ (q i j : Nat), i ≤ j → j ≤ n → j - i < q → (∀ k, k < i → lt k = true) → (∀ k, j ≤ k → k < n → lt k = false) →
    (∀ k, k < bsF lt q i j → lt k = true) ∧ ∀ k, bsF lt q i j ≤ k → k < n → lt k = false
  | 0, i, j, _, _, h, _, _ => by omega
  | q + 1, i, j, h1, h2, h3, h4, h5 => by
    unfold bsF
    by_cases hij : i < j
    · rw [if_pos hij]
      by_cases hl : lt ((i + j) / 2) = true
      · rw [if_pos hl]
        exact bsF_ok mono q _ _ (by omega) h2 (by omega) (fun k hk => mono k ((i + j) / 2) (by omega) (by omega) hl) h5
      · rw [if_neg hl]
        refine bsF_ok mono q _ _ (by omega) (by omega) (by omega) h4 (fun k hk hkn => ?_)
        cases hlk : lt k with
        | false => rfl
        | true => exact absurd (mono _ k hk hkn hlk) hl
    · rw [if_neg hij]
      exact ⟨h4, fun k hk hkn => h5 k (by omega) hkn⟩
def srt (h : List Ent) : Prop := h.Pairwise fun a b => cmpI a.key b.key < 0
theorem srt.at {h : List Ent} (s : srt h) {i j : Nat} (hij : i < j) (hj : j < h.length) : cmpI (h.getD i default).key (h.getD j default).key < 0 := by
  rw [List.getD_eq_getElem?_getD, List.getD_eq_getElem?_getD, List.getElem?_eq_getElem hj, List.getElem?_eq_getElem (by omega : i < h.length)]
  exact List.pairwise_iff_getElem.1 s i j (by omega) hj hij
theorem mem_at {h : List Ent} {i : Nat} (hi : i < h.length) : h.getD i default ∈ h := by
  rw [List.getD_eq_getElem?_getD, List.getElem?_eq_getElem hi]; exact List.getElem_mem hi
theorem at_mem {h : List Ent} {e : Ent} (he : e ∈ h) : ∃ i, i < h.length ∧ h.getD i default = e := by
  obtain ⟨i, hi, rfl⟩ := List.getElem_of_mem he
  exact ⟨i, hi, by rw [List.getD_eq_getElem?_getD, List.getElem?_eq_getElem hi]; rfl⟩
theorem srt.uniq {h : List Ent} (s : srt h) {a b : Ent} (ha : a ∈ h) (hb : b ∈ h) (e : a.key = b.key) : a = b := by
  obtain ⟨i, hi, rfl⟩ := at_mem ha
  obtain ⟨j, hj, rfl⟩ := at_mem hb
  rcases Nat.lt_trichotomy i j with hlt | rfl | hlt
  · have := s.at hlt hj; rw [e, cmpS] at this; omega
  · rfl
  · have := s.at hlt hi; rw [e, cmpS] at this; omega
def lk (h : List Ent) (k : List Int) : Option Int := (h.find? fun e => decide (e.key = k)).map (·.val)
theorem lk_iff {h : List Ent} (s : srt h) {k : List Int} {v : Int} : lk h k = some v ↔ (⟨k, v⟩ : Ent) ∈ h := by
  constructor
  · intro e
    unfold lk at e
    obtain ⟨x, hx, rfl⟩ := Option.map_eq_some_iff.1 e
    have h1 := List.mem_of_find?_eq_some hx
    have h2 : x.key = k := by simpa using List.find?_some hx
    subst h2; exact h1
  · intro hm
    unfold lk
    cases e : h.find? (fun e => decide (e.key = k)) with
    | none => rw [List.find?_eq_none] at e; exact absurd (by simp) (e _ hm)
    | some x =>
      have h1 := List.mem_of_find?_eq_some e
      have h2 : x.key = k := by simpa using List.find?_some e
      rw [s.uniq h1 hm h2]; rfl
theorem lk_of {h : List Ent} (s : srt h) {e : Ent} (he : e ∈ h) : lk h e.key = some e.val := (lk_iff s).2 he
theorem lk_none {h : List Ent} {k : List Int} : lk h k = none ↔ ∀ e ∈ h, e.key ≠ k := by unfold lk; rw [Option.map_eq_none_iff, List.find?_eq_none]; simp
theorem opt_ext {a b : Option Int} (h : ∀ v, a = some v ↔ b = some v) : a = b := by
  cases a with
  | none => cases b with
    | none => rfl
    | some v => exact absurd ((h v).2 rfl) (by simp)
  | some v => exact ((h v).1 rfl).symm
theorem srt_ext : ∀ {a b : List Ent}, srt a → srt b → (∀ k, lk a k = lk b k) → a = b
  | [], [], _, _, _ => rfl
  | [], y :: b, _, hb, h => by have := (h y.key).symm.trans rfl; rw [lk_of hb (by simp)] at this; simp [lk] at this
  | x :: a, [], ha, _, h => by have := (h x.key); rw [lk_of ha (by simp)] at this; simp [lk] at this
  | x :: a, y :: b, ha, hb, h => by
    have ha' := List.pairwise_cons.1 ha
    have hb' := List.pairwise_cons.1 hb
    have h1 : (⟨x.key, x.val⟩ : Ent) ∈ y :: b := (lk_iff hb).1 (by rw [← h]; exact lk_of ha (by simp))
    have h2 : (⟨y.key, y.val⟩ : Ent) ∈ x :: a := (lk_iff ha).1 (by rw [h]; exact lk_of hb (by simp))
    have e : x = y := by
      rcases List.mem_cons.1 h1 with h1 | h1
      · exact h1
      · rcases List.mem_cons.1 h2 with h2 | h2
        · exact h2.symm
        · have g1 := hb'.1 _ h1
          have g2 := ha'.1 _ h2
          rw [cmpSw] at g1; dsimp only at g1 g2; omega
    subst e
    congr 1
    refine srt_ext ha'.2 hb'.2 fun k => opt_ext fun v => ?_
    rw [lk_iff ha'.2, lk_iff hb'.2]
    have g := h k
    constructor
    · intro hm
      have g1 : lk (x :: a) k = some v := (lk_iff ha).2 (List.mem_cons_of_mem _ hm)
      rw [g] at g1
      rcases List.mem_cons.1 ((lk_iff hb).1 g1) with e | e
      · have := ha'.1 _ hm; rw [← e, cmpS] at this; omega
      · exact e
    · intro hm
      have g1 : lk (x :: b) k = some v := (lk_iff hb).2 (List.mem_cons_of_mem _ hm)
      rw [← g] at g1
      rcases List.mem_cons.1 ((lk_iff ha).1 g1) with e | e
      · have := hb'.1 _ hm; rw [← e, cmpS] at this; omega
      · exact e
theorem pos_ok {h : List Ent} (s : srt h) (k : List Int) : (∀ i, i < posE h k → cmpI (h.getD i default).key k < 0) ∧ ∀ i, posE h k ≤ i → i < h.length → ¬ cmpI (h.getD i default).key k < 0 := by
  have := bsF_ok (lt := fun i => decide (cmpI (h.getD i default).key k < 0)) (n := h.length) (fun i j hij hj hlt => by
    simp only [decide_eq_true_eq] at hlt ⊢
    by_cases e : i = j
    · subst e; exact hlt
    · exact cmpTr (s.at (by omega) hj) hlt) (h.length + 1) 0 h.length (Nat.zero_le _) (Nat.le_refl _) (by omega) (fun k hk => by omega) (fun k hk hkn => by omega)
  refine ⟨fun i hi => ?_, fun i hi hl => ?_⟩
  · simpa using this.1 i hi
  · simpa using this.2 i hi hl
theorem has_iff {h : List Ent} {k : List Int} : hasE h k = true ↔ posE h k < h.length ∧ (h.getD (posE h k) default).key = k := by
  unfold hasE
  rw [Bool.and_eq_true, decide_eq_true_eq, decide_eq_true_eq]
  exact ⟨fun ⟨a, b⟩ => ⟨a, cmpEq b⟩, fun ⟨a, b⟩ => ⟨a, by rw [b, cmpS]⟩⟩
theorem has_lk {h : List Ent} (s : srt h) {k : List Int} (e : hasE h k = true) : lk h k = some (h.getD (posE h k) default).val := by
  obtain ⟨h1, h2⟩ := has_iff.1 e
  have := lk_of s (mem_at h1)
  rwa [h2] at this
theorem hasn_lk {h : List Ent} (s : srt h) {k : List Int} (e : hasE h k = false) : lk h k = none := by
  rw [lk_none]
  intro x hx hk
  obtain ⟨i, hi, rfl⟩ := at_mem hx
  obtain ⟨p1, p2⟩ := pos_ok s k
  by_cases h1 : i < posE h k
  · have := p1 i h1; rw [hk, cmpS] at this; omega
  · by_cases h2 : i = posE h k
    · rw [has_iff.2 ⟨by omega, by rw [← h2]; exact hk⟩] at e; cases e
    · have h3 := s.at (i := posE h k) (j := i) (by omega) hi
      rw [hk] at h3
      exact p2 _ (Nat.le_refl _) (by omega) h3
theorem getD_some {α : Type} [Inhabited α] {l : List α} {i : Nat} (hi : i < l.length) : l.getD i default = l[i] := by
  rw [List.getD_eq_getElem?_getD, List.getElem?_eq_getElem hi]; rfl
theorem srt_of {h : List Ent} (H : ∀ i j, i < j → j < h.length → cmpI (h.getD i default).key (h.getD j default).key < 0) : srt h :=
  List.pairwise_iff_getElem.2 fun i j hi hj hij => by
    have := H i j hij hj
    rwa [getD_some hi, getD_some hj] at this
theorem mem_ins {h : List Ent} {i : Nat} {x e : Ent} : e ∈ insAt h i x ↔ e = x ∨ e ∈ h := by
  unfold insAt
  rw [List.mem_append, List.mem_append, List.mem_singleton]
  constructor
  · rintro ((a | a) | a)
    · exact .inr (List.mem_of_mem_take a)
    · exact .inl a
    · exact .inr (List.mem_of_mem_drop a)
  · rintro (a | a)
    · exact .inl (.inr a)
    · rw [← List.take_append_drop i h] at a
      rcases List.mem_append.1 a with a | a
      · exact .inl (.inl a)
      · exact .inr a
theorem ins_ok {h : List Ent} (s : srt h) {k : List Int} {v : Int} (e : hasE h k = false) : srt (insAt h (posE h k) ⟨k, v⟩) ∧ ∀ q, lk (insAt h (posE h k) ⟨k, v⟩) q = if q = k then some v else lk h q := by
  have hp := posE_le h k
  obtain ⟨p1, p2⟩ := pos_ok s k
  have hn := lk_none.1 (hasn_lk s e)
  have s' : srt (insAt h (posE h k) ⟨k, v⟩) := by
    refine srt_of fun i j hij hj => ?_
    rw [insAt_length _ _ _ hp] at hj
    rw [insAt_getD _ _ _ hp, insAt_getD _ _ _ hp]
    by_cases h1 : j < posE h k
    · rw [if_pos h1, if_pos (by omega)]; exact s.at hij (by omega)
    · rw [if_neg h1]
      by_cases h2 : j = posE h k
      · rw [if_pos h2, if_pos (by omega)]; exact p1 i (by omega)
      · rw [if_neg h2]
        have h3 : 0 < cmpI (h.getD (j - 1) default).key k := by
          have h4 := p2 (j - 1) (by omega) (by omega)
          have h5 : cmpI (h.getD (j - 1) default).key k ≠ 0 := fun e0 => hn _ (mem_at (by omega)) (cmpEq e0)
          omega
        by_cases h6 : i < posE h k
        · rw [if_pos h6]; exact s.at (by omega) (by omega)
        · rw [if_neg h6]
          by_cases h7 : i = posE h k
          · rw [if_pos h7]; rw [cmpSw]; dsimp only; omega
          · rw [if_neg h7]; exact s.at (by omega) (by omega)
  refine ⟨s', fun q => opt_ext fun x => ?_⟩
  rw [lk_iff s', mem_ins]
  by_cases hq : q = k
  · subst hq
    rw [if_pos rfl]
    constructor
    · rintro (h1 | h1)
      · simp only [Ent.mk.injEq] at h1; rw [h1.2]
      · exact absurd rfl (hn _ h1)
    · rintro h1; cases h1; exact .inl rfl
  · rw [if_neg hq, lk_iff s]
    constructor
    · rintro (h1 | h1)
      · simp only [Ent.mk.injEq] at h1; exact absurd h1.1 hq
      · exact h1
    · exact .inr
theorem set_at {h : List Ent} {p i : Nat} {x : Ent} (hp : p < h.length) : (h.set p x).getD i default = if i = p then x else h.getD i default := by
  rw [List.getD_eq_getElem?_getD, List.getD_eq_getElem?_getD, List.getElem?_set]
  by_cases e : p = i
  · subst e; rw [if_pos rfl, if_pos rfl, if_pos hp]; rfl
  · rw [if_neg e, if_neg (by omega)]
theorem set_ok {h : List Ent} (s : srt h) {k : List Int} {v : Int} (e : hasE h k = true) : srt (h.set (posE h k) ⟨(h.getD (posE h k) default).key, v⟩) ∧ ∀ q, lk (h.set (posE h k) ⟨(h.getD (posE h k) default).key, v⟩) q = if q = k then some v else lk h q := by
  obtain ⟨hp, hk⟩ := has_iff.1 e
  rw [hk]
  have key : ∀ i, ((h.set (posE h k) ⟨k, v⟩).getD i default).key = (h.getD i default).key := fun i => by
    rw [set_at hp]
    by_cases e1 : i = posE h k
    · rw [if_pos e1, e1, hk]
    · rw [if_neg e1]
  have s' : srt (h.set (posE h k) ⟨k, v⟩) := srt_of fun i j hij hj => by
    rw [key, key]; rw [List.length_set] at hj; exact s.at hij hj
  refine ⟨s', fun q => opt_ext fun x => ?_⟩
  rw [lk_iff s']
  have hm : ∀ z : Ent, z ∈ h.set (posE h k) ⟨k, v⟩ ↔ z = ⟨k, v⟩ ∨ (z ∈ h ∧ z.key ≠ k) := fun z => by
    constructor
    · intro hz
      obtain ⟨i, hi, rfl⟩ := at_mem hz
      rw [List.length_set] at hi
      rw [set_at hp]
      by_cases e1 : i = posE h k
      · rw [if_pos e1]; exact .inl rfl
      · rw [if_neg e1]
        refine .inr ⟨mem_at hi, fun e2 => ?_⟩
        rcases Nat.lt_or_ge i (posE h k) with h1 | h1
        · have := s.at h1 hp; rw [e2, hk, cmpS] at this; omega
        · have := s.at (i := posE h k) (j := i) (by omega) hi; rw [e2, hk, cmpS] at this; omega
    · rintro (rfl | ⟨h1, h2⟩)
      · have := mem_at (h := h.set (posE h k) ⟨k, v⟩) (i := posE h k) (by rw [List.length_set]; exact hp)
        rwa [set_at hp, if_pos rfl] at this
      · obtain ⟨i, hi, rfl⟩ := at_mem h1
        have e1 : i ≠ posE h k := fun e1 => h2 (by rw [e1, hk])
        have := mem_at (h := h.set (posE h k) ⟨k, v⟩) (i := i) (by rw [List.length_set]; exact hi)
        rwa [set_at hp, if_neg e1] at this
  rw [hm]
  by_cases hq : q = k
  · subst hq
    rw [if_pos rfl]
    constructor
    · rintro (h1 | ⟨_, h1⟩)
      · simp only [Ent.mk.injEq] at h1; rw [h1.2]
      · exact absurd rfl h1
    · rintro h1; cases h1; exact .inl rfl
  · rw [if_neg hq, lk_iff s]
    constructor
    · rintro (h1 | ⟨h1, _⟩)
      · simp only [Ent.mk.injEq] at h1; exact absurd h1.1 hq
      · exact h1
    · exact fun h1 => .inr ⟨h1, hq⟩
theorem del_ok {h : List Ent} (s : srt h) {k : List Int} (e : hasE h k = true) : srt (delAt h (posE h k)) ∧ ∀ q, lk (delAt h (posE h k)) q = if q = k then none else lk h q := by
  obtain ⟨hp, hk⟩ := has_iff.1 e
  have s' : srt (delAt h (posE h k)) := srt_of fun i j hij hj => by
    rw [delAt_length _ _ hp] at hj
    rw [delAt_getD _ _ hp, delAt_getD _ _ hp]
    by_cases h1 : j < posE h k
    · rw [if_pos h1, if_pos (by omega)]; exact s.at hij (by omega)
    · rw [if_neg h1]
      by_cases h2 : i < posE h k
      · rw [if_pos h2]; exact s.at (by omega) (by omega)
      · rw [if_neg h2]; exact s.at (by omega) (by omega)
  have hm : ∀ z : Ent, z ∈ delAt h (posE h k) ↔ z ∈ h ∧ z.key ≠ k := fun z => by
    constructor
    · intro hz
      obtain ⟨i, hi, rfl⟩ := at_mem hz
      rw [delAt_length _ _ hp] at hi
      rw [delAt_getD _ _ hp]
      by_cases h1 : i < posE h k
      · rw [if_pos h1]
        refine ⟨mem_at (by omega), fun e2 => ?_⟩
        have := s.at h1 hp; rw [e2, hk, cmpS] at this; omega
      · rw [if_neg h1]
        refine ⟨mem_at (by omega), fun e2 => ?_⟩
        have := s.at (i := posE h k) (j := i + 1) (by omega) (by omega); rw [e2, hk, cmpS] at this; omega
    · rintro ⟨h1, h2⟩
      obtain ⟨i, hi, rfl⟩ := at_mem h1
      have e1 : i ≠ posE h k := fun e1 => h2 (by rw [e1, hk])
      rcases Nat.lt_or_ge i (posE h k) with h3 | h3
      · have := mem_at (h := delAt h (posE h k)) (i := i) (by rw [delAt_length _ _ hp]; omega)
        rwa [delAt_getD _ _ hp, if_pos h3] at this
      · have := mem_at (h := delAt h (posE h k)) (i := i - 1) (by rw [delAt_length _ _ hp]; omega)
        rwa [delAt_getD _ _ hp, if_neg (by omega), show i - 1 + 1 = i by omega] at this
  refine ⟨s', fun q => opt_ext fun x => ?_⟩
  rw [lk_iff s', hm]
  by_cases hq : q = k
  · subst hq
    rw [if_pos rfl]
    constructor
    · rintro ⟨_, h1⟩; exact absurd rfl h1
    · intro h1; cases h1
  · rw [if_neg hq, lk_iff s]
    exact ⟨fun h1 => h1.1, fun h1 => ⟨h1, hq⟩⟩
def ansE (c : Kc) (o : Option Int) : Res := if c.op = 2 then ⟨true, 0, c.val⟩ else match o with | none => ⟨true, 7, 0⟩ | some v => ⟨true, 0, v⟩
def newE (c : Kc) (o : Option Int) : Option Int := if c.op = 2 then some c.val else if c.op = 3 then none else o
theorem fnd_inl {c : Kc} {h : List Ent} (s : srt h) (hop : 1 ≤ c.op ∧ c.op ≤ 3) {r : Res} (e : fndE c h = .inl r) : r = ansE c (lk h c.key) ∧ newE c (lk h c.key) = lk h c.key := by
  unfold fndE at e
  unfold ansE newE
  by_cases h1 : c.op ≠ 2 ∧ hasE h c.key = false
  · rw [if_pos h1] at e
    cases e
    rw [hasn_lk s h1.2, if_neg h1.1, if_neg h1.1]
    exact ⟨rfl, by split <;> rfl⟩
  · rw [if_neg h1] at e
    by_cases h2 : c.op = 1
    · rw [if_pos h2] at e
      cases e
      have h3 : hasE h c.key = true := by
        cases h4 : hasE h c.key with
        | true => rfl
        | false => exact absurd ⟨by omega, h4⟩ h1
      rw [has_lk s h3, if_neg (by omega), if_neg (by omega), if_neg (by omega)]
      exact ⟨rfl, rfl⟩
    · rw [if_neg h2] at e
      split at e
      · cases e
      · split at e <;> cases e
theorem fnd_inr {c : Kc} {h m : List Ent} {n : Int} (s : srt h) (hop : 1 ≤ c.op ∧ c.op ≤ 3) (e : fndE c h = .inr (m, n)) :
    ansE c (lk h c.key) = ⟨true, 0, n⟩ ∧ srt m ∧ ∀ q, lk m q = if q = c.key then newE c (lk h c.key) else lk h q := by
  unfold fndE at e
  unfold ansE newE
  by_cases h1 : c.op ≠ 2 ∧ hasE h c.key = false
  · rw [if_pos h1] at e; cases e
  · rw [if_neg h1] at e
    by_cases h2 : c.op = 1
    · rw [if_pos h2] at e; cases e
    · rw [if_neg h2] at e
      by_cases h3 : c.op = 3
      · rw [if_pos h3] at e
        cases e
        have h4 : hasE h c.key = true := by
          cases h5 : hasE h c.key with
          | true => rfl
          | false => exact absurd ⟨by omega, h5⟩ h1
        rw [has_lk s h4, if_neg (by omega), if_neg (by omega), if_pos h3]
        exact ⟨rfl, del_ok s h4⟩
      · rw [if_neg h3] at e
        have h5 : c.op = 2 := by omega
        rw [if_pos h5, if_pos h5]
        cases h6 : hasE h c.key with
        | true =>
          rw [h6, if_pos rfl, if_pos h5] at e
          cases e
          exact ⟨rfl, set_ok s h6⟩
        | false =>
          rw [h6, if_neg (by decide)] at e
          cases e
          exact ⟨rfl, ins_ok s h6⟩
theorem fnd_key {c : Kc} {h m : List Ent} {n : Int} (s : srt h) (hop : 1 ≤ c.op ∧ c.op ≤ 3) (e : fndE c h = .inr (m, n)) {x : Ent} (hx : x ∈ m) : x.key = c.key ∨ ∃ y ∈ h, y.key = x.key := by
  obtain ⟨_, h1, h2⟩ := fnd_inr s hop e
  by_cases hk : x.key = c.key
  · exact .inl hk
  · have h3 := lk_of h1 hx
    rw [h2, if_neg hk] at h3
    exact .inr ⟨_, (lk_iff s).1 h3, rfl⟩
end Dir
end Go.Proofs.YtbdclkjelhlfbaaGreat

namespace Go.Proofs.YtbdclkjelhlfbaaGreat
open Go.RowKit
namespace Dir
def home (W : Nat → Int) (s : Int) : Nat :=
  if W 0 % 2 = 0 ∨ W (plc (W 0 / 2).toNat s) < FZ ∨ W (plc ((W 0 / 2).toNat + 1) s) = 0 then plc (W 0 / 2).toNat s else plc ((W 0 / 2).toNat + 1) s
def own (M : Mc) (k : List Int) : Option Int := lk (M.Hd (home M.W (sumK k))) k
theorem plc_pos (lv : Nat) (s : Int) : 1 ≤ plc lv s := by have := pow_pos2 lv; unfold plc; omega
theorem plc_ne (lv : Nat) (s t : Int) : plc lv s ≠ plc (lv + 1) t := by
  obtain ⟨i, h1, h2⟩ := plc_sh lv s
  obtain ⟨j, h3, h4⟩ := plc_sh (lv + 1) t
  intro e; rw [h2, h4] at e
  have := sh_inj h1 h3 e; omega
theorem home_congr {W W' : Nat → Int} (h0 : W' 0 = W 0) (h : ∀ p, 1 ≤ p → (W' p < FZ ↔ W p < FZ) ∧ (W' p = 0 ↔ W p = 0)) (s : Int) : home W' s = home W s := by
  unfold home
  simp only [h0, (h _ (plc_pos _ s)).1, (h _ (plc_pos _ s)).2]
theorem Iw.plc {W : Nat → Int} {B : Int} (h : Iw W B) {lv : Nat} (hl : lv ≤ 4) (s : Int) : okW (W 0) lv (W (plc lv s)) (W (plc (lv - 1) s)) B ∨ lv = 0 ∧ okW (W 0) lv (W (Dir.plc lv s)) (W (Dir.plc 0 s)) B := by
  obtain ⟨i, h1, h2⟩ := plc_sh lv s
  have ho := h.sh hl h1
  rcases Nat.eq_zero_or_pos lv with e | e
  · subst e
    obtain rfl : i = 0 := by simp at h1; omega
    have hp : Dir.plc 0 s = 1 := by rw [h2]
    right; refine ⟨rfl, ?_⟩
    rw [hp]; exact ho
  · left
    have h3 := plc_low (lv - 1) s
    rw [Nat.sub_add_cancel e, h2, Nat.add_sub_cancel_left] at h3
    unfold lowW at ho
    rw [h3, ← h2] at ho
    exact ho
theorem Iw.at0 {W : Nat → Int} {B : Int} (h : Iw W B) {lv : Nat} (hl : lv ≤ 4) (s : Int) : ∃ low, okW (W 0) lv (W (Dir.plc lv s)) low B := by
  rcases h.plc hl s with h | ⟨_, h⟩ <;> exact ⟨_, h⟩
theorem Iw.at1 {W : Nat → Int} {B : Int} (h : Iw W B) {lv : Nat} (hl : lv ≤ 3) (s : Int) : okW (W 0) (lv + 1) (W (Dir.plc (lv + 1) s)) (W (Dir.plc lv s)) B := by
  rcases h.plc (lv := lv + 1) (by omega) s with h | ⟨h, _⟩
  · exact h
  · omega
theorem home_live {W : Nat → Int} {B : Int} (h : Iw W B) {lv : Nat} (hl : lv ≤ 4) {s : Int} (hv : 0 < W (plc lv s) ∧ W (plc lv s) < FZ) : home W s = plc lv s := by
  obtain ⟨low, ho⟩ := h.at0 hl s
  have hd := h.d
  unfold home
  by_cases e1 : W 0 = 2 * lv
  · rw [if_pos (.inl (by omega)), show (W 0 / 2).toNat = lv by omega]
  · by_cases e2 : W 0 = 2 * lv + 1
    · rw [show (W 0 / 2).toNat = lv by omega, if_pos (.inr (.inl hv.2))]
    · have e3 : W 0 + 1 = 2 * lv := by unfold okW at ho; omega
      obtain ⟨l, rfl⟩ : ∃ l, lv = l + 1 := ⟨lv - 1, by omega⟩
      have ho1 := h.at1 (by omega : l ≤ 3) s
      rw [show (W 0 / 2).toNat = l by omega]
      rw [if_neg]
      unfold okW at ho1; omega
theorem home_freeze {W : Nat → Int} {B : Int} (h : Iw W B) {lv i : Nat} (hl : lv ≤ 3) (hi : i < 2 ^ lv) (hd : W 0 = 2 * lv + 1) (hv : 0 < W (2 ^ lv + i) ∧ W (2 ^ lv + i) < FZ) (s : Int) :
    home (upd W (2 ^ lv + i) (W (2 ^ lv + i) + FZ)) s = home W s := by
  have hw := sh_16 hl hi
  have e0 : upd W (2 ^ lv + i) (W (2 ^ lv + i) + FZ) 0 = W 0 := upd_ne _ _ (by omega)
  have ho1 := h.at1 hl s
  unfold home
  rw [e0, show (W 0 / 2).toNat = lv by omega]
  by_cases e : plc lv s = 2 ^ lv + i
  · have e1 : plc (lv + 1) s ≠ 2 ^ lv + i := by rw [← e]; exact (plc_ne lv s s).symm
    have hz : W (plc (lv + 1) s) = 0 := by
      rw [e] at ho1
      unfold okW at ho1; omega
    rw [if_pos (.inr (.inr (by rw [upd_ne _ _ e1]; exact hz))), if_pos (.inr (.inr hz))]
  · rw [upd_ne _ _ e]
    by_cases e1 : plc (lv + 1) s = 2 ^ lv + i
    · exfalso
      obtain ⟨j, h3, h4⟩ := plc_sh (lv + 1) s
      rw [h4] at e1
      have := sh_inj h3 hi e1; omega
    · rw [upd_ne _ _ e1]
theorem home_lay {W : Nat → Int} {B : Int} (h : Iw W B) {lv i : Nat} (hl : lv ≤ 3) (hi : i < 2 ^ (lv + 1)) (hd : 2 * (lv : Int) + 1 ≤ W 0) (hz : W (2 ^ (lv + 1) + i) = 0) (hlow : FZ ≤ W (2 ^ lv + i % 2 ^ lv)) (s : Int) :
    (plc (lv + 1) s = 2 ^ (lv + 1) + i → home W s = 2 ^ lv + i % 2 ^ lv ∧ home (upd W (2 ^ (lv + 1) + i) 1) s = 2 ^ (lv + 1) + i) ∧
    (plc (lv + 1) s ≠ 2 ^ (lv + 1) + i → home (upd W (2 ^ (lv + 1) + i) 1) s = home W s ∧ home W s ≠ 2 ^ (lv + 1) + i) := by
  have hw := sh_32 (by omega : lv + 1 ≤ 4) hi
  have ho := h.sh (by omega : lv + 1 ≤ 4) hi
  have hD : W 0 = 2 * lv + 1 := by
    have hF : FZ = 4611686018427387904 := rfl
    rw [hz] at ho; unfold okW at ho; omega
  have e0 : upd W (2 ^ (lv + 1) + i) 1 0 = W 0 := upd_ne _ _ (by omega)
  have hp : plc lv s ≠ 2 ^ (lv + 1) + i := fun e => by
    obtain ⟨j, h3, h4⟩ := plc_sh lv s
    rw [h4] at e
    have := sh_inj h3 hi e; omega
  unfold home
  rw [e0, show (W 0 / 2).toNat = lv by omega, upd_ne _ _ hp]
  constructor
  · intro e
    have h3 := plc_low lv s
    rw [e, Nat.add_sub_cancel_left] at h3
    rw [e, upd_same, if_pos (.inr (.inr hz)), if_neg (by rw [← h3]; have hF : FZ = 4611686018427387904 := rfl; omega)]
    exact ⟨h3.symm, rfl⟩
  · intro e
    rw [upd_ne _ _ e]
    refine ⟨rfl, ?_⟩
    split
    · exact hp
    · exact e
theorem home_begin {W : Nat → Int} {B : Int} (h : Iw W B) {k : Nat} (hk : k ≤ 3) (e : W 0 = 2 * k) (s : Int) : home (upd W 0 (2 * k + 1)) s = home W s := by
  obtain ⟨low, ho⟩ := h.at0 (by omega : k ≤ 4) s
  have hp := plc_pos k s
  unfold home
  have hx : W (plc k s) < FZ := by unfold okW at ho; omega
  rw [upd_same, show ((2 * (k : Int) + 1) / 2).toNat = k by omega, show (W 0 / 2).toNat = k by omega, if_pos (.inr (.inl (by rw [upd_ne _ _ (by omega)]; exact hx))), if_pos (.inl (by omega : W 0 % 2 = 0))]
theorem home_fin {W : Nat → Int} {k : Nat} (e : W 0 = 2 * k + 1) (hg : Cw.gone W k (2 ^ k)) (s : Int) : home (upd W 0 (2 * k + 2)) s = home W s := by
  unfold home
  rw [upd_same, show ((2 * (k : Int) + 2) / 2).toNat = k + 1 by omega, show (W 0 / 2).toNat = k by omega, if_pos (.inl (by omega : (2 * (k : Int) + 2) % 2 = 0)), if_neg]
  obtain ⟨i, h1, h2⟩ := plc_sh k s
  have g := hg i h1
  have hq : W (plc (k + 1) s) ≠ 0 := by
    obtain ⟨j, h3, h4⟩ := plc_sh (k + 1) s
    rw [h4]
    by_cases hlt : j < 2 ^ k
    · exact (hg j hlt).2.1
    · have hj : j - 2 ^ k < 2 ^ k := by rw [Nat.pow_succ] at h3; omega
      have := (hg _ hj).2.2
      rwa [Nat.sub_add_cancel (by omega)] at this
  rw [h2]
  omega
def Ih (M : Mc) : Prop := ∀ lv i, lv ≤ 4 → i < 2 ^ lv → srt (M.Hd (2 ^ lv + i)) ∧ ∀ e ∈ M.Hd (2 ^ lv + i), sumK e.key % 2 ^ lv = i
def okOp (c : Kc) : Prop := 1 ≤ c.op ∧ c.op ≤ 3
def Ch (M : Mc) : CS → Prop
  | .none => True
  | .k0 c => okOp c
  | .kE c w => okOp c ∧ ∃ lv, lv ≤ 4 ∧ w = plc lv (sumK c.key)
  | .kF c _ _ => okOp c
  | .kG c _ w v h => okOp c ∧ v ≤ M.W w ∧ (M.W w = v → M.Hd w = h)
  | .kH c lv _ h => okOp c ∧ M.Hd (plc (lv - 1) (sumK c.key)) = h
  | .kL c lv _ h => okOp c ∧ M.Hd (plc (lv - 1) (sumK c.key)) = h
  | .kS c w v m n => okOp c ∧ (∃ lv, lv ≤ 4 ∧ w = plc lv (sumK c.key)) ∧ v ≤ M.W w ∧ (M.W w = v → fndE c (M.Hd w) = .inr (m, n))
  | .s0 => True
  | .sM _ => True
  | .sF _ _ => True
  | .sG lv i v h => v ≤ M.W (2 ^ lv + i) ∧ (M.W (2 ^ lv + i) = v → M.Hd (2 ^ lv + i) = h)
  | .sH lv i _ h => M.Hd (2 ^ lv + i) = h
  | .sL lv i _ h => M.Hd (2 ^ lv + i) = h
  | .sV _ => True
structure Mono (M M' : Mc) : Prop where
  le : ∀ w, M.W w ≤ M'.W w
  hd : ∀ w, 1 ≤ w → M'.W w = M.W w → M'.Hd w = M.Hd w
  fz : ∀ w, FZ ≤ M.W w → M'.W w = M.W w
theorem Mono.refl (M : Mc) : Mono M M := ⟨fun _ => Int.le_refl _, fun _ _ _ => rfl, fun _ _ => rfl⟩
theorem Mono.set {M : Mc} {w : Nat} {x : Int} {h : List Ent} (h1 : M.W w < x) (h2 : M.W w < FZ) : Mono M (M.set w x h) := by
  refine ⟨fun j => ?_, fun j _ hj => ?_, fun j hj => ?_⟩
  · show _ ≤ upd M.W w x j
    unfold upd; split
    · rename_i e; subst e; omega
    · omega
  · replace hj : upd M.W w x j = M.W j := hj
    show upd M.Hd w h j = _
    unfold upd at hj ⊢
    split at hj
    · rename_i e; subst e; omega
    · rename_i e; rw [if_neg e]
  · show upd M.W w x j = _
    unfold upd; split
    · rename_i e; subst e; omega
    · rfl
theorem Mono.ch {M M' : Mc} (h : Mono M M') {s : CS} (hc : Cw dirOps M.W s) (hs : Ch M s) : Ch M' s := by
  have swp : ∀ {w : Nat} {v : Int} {Q : List Ent → Prop}, 1 ≤ w → v ≤ M.W w → (M.W w = v → Q (M.Hd w)) → v ≤ M'.W w ∧ (M'.W w = v → Q (M'.Hd w)) := by
    intro w v Q hw h1 h2
    have h3 := h.le w
    refine ⟨by omega, fun e => ?_⟩
    have e2 : M.W w = v := by omega
    rw [h.hd w hw (by omega)]; exact h2 e2
  cases s with
  | none => trivial
  | k0 c => exact hs
  | kE c w => exact hs
  | kF c lv w => exact hs
  | kG c lv w v m =>
    obtain ⟨a, b, d⟩ := hs
    have hw : 1 ≤ w := by rw [hc.2.1]; exact plc_pos _ _
    have := swp (Q := fun x => x = m) hw b d
    exact ⟨a, this.1, this.2⟩
  | kH c lv w m =>
    refine ⟨hs.1, ?_⟩
    have := h.hd _ (plc_pos _ _) (h.fz _ hc.2.2.2.2)
    exact this.trans hs.2
  | kL c lv w m =>
    refine ⟨hs.1, ?_⟩
    have := h.hd _ (plc_pos _ _) (h.fz _ hc.2.2.2.2)
    exact this.trans hs.2
  | kS c w v m n =>
    obtain ⟨a, b, d, e⟩ := hs
    have := swp (Q := fun x => fndE c x = .inr (m, n)) hc.1 d e
    exact ⟨a, b, this.1, this.2⟩
  | s0 => trivial
  | sM lv => trivial
  | sF lv i => trivial
  | sG lv i v m =>
    have hw : 1 ≤ 2 ^ lv + i := by have := pow_pos2 lv; omega
    exact swp (Q := fun x => x = m) hw hs.1 hs.2
  | sH lv i up m =>
    have hw : 1 ≤ 2 ^ lv + i := by have := pow_pos2 lv; omega
    show M'.Hd _ = _
    rw [h.hd _ hw (h.fz _ hc.2.2.2.2.1)]; exact hs
  | sL lv i up m =>
    have hw : 1 ≤ 2 ^ lv + i := by have := pow_pos2 lv; omega
    show M'.Hd _ = _
    rw [h.hd _ hw (h.fz _ hc.2.2.2.2.1)]; exact hs
  | sV lv => trivial
def callOf : CS → Option Kc
  | .k0 c => some c
  | .kE c _ => some c
  | .kF c _ _ => some c
  | .kG c _ _ _ _ => some c
  | .kH c _ _ _ => some c
  | .kL c _ _ _ => some c
  | .kS c _ _ _ _ => some c
  | _ => none
structure Eff (M : Mc) (s : CS) (M' : Mc) (s' : CS) (r : Res) : Prop where
  mono : Mono M M'
  ih : Ih M'
  ch : Ch M' s'
  no : r.done = false → r = r0 ∧ s' ≠ .none ∧ callOf s' = callOf s ∧ ∀ k, own M' k = own M k
  yes : r.done = true → s' = .none ∧ match callOf s with
    | some c => r = ansE c (own M c.key) ∧ ∀ k, own M' k = if k = c.key then newE c (own M c.key) else own M k
    | none => (r = ⟨true, 0, 0⟩ ∨ (r = ⟨true, 5, 0⟩ ∧ 8 ≤ M.W 0)) ∧ ∀ k, own M' k = own M k
theorem Eff.same {M : Mc} {s s' : CS} (h : Ih M) (hc : Ch M s') (hn : s' ≠ .none) (hk : callOf s' = callOf s) : Eff M s M s' r0 :=
  ⟨.refl M, h, hc, fun _ => ⟨rfl, hn, hk, fun _ => rfl⟩, fun e => by simp [r0] at e⟩
theorem Eff.calm {M M' : Mc} {s s' : CS} (hm : Mono M M') (h : Ih M') (hc : Ch M' s') (hn : s' ≠ .none) (hk : callOf s' = callOf s) (ho : ∀ k, own M' k = own M k) : Eff M s M' s' r0 :=
  ⟨hm, h, hc, fun _ => ⟨rfl, hn, hk, ho⟩, fun e => by simp [r0] at e⟩
theorem ansE_done (c : Kc) (o : Option Int) : (ansE c o).done = true := by
  unfold ansE; split
  · rfl
  · split <;> rfl
theorem own_live {M : Mc} {B : Int} (h : Iw M.W B) {c : Kc} {w : Nat} (hw : ∃ lv, lv ≤ 4 ∧ w = plc lv (sumK c.key)) (hv : 0 < M.W w ∧ M.W w < FZ) : home M.W (sumK c.key) = w ∧ own M c.key = lk (M.Hd w) c.key := by
  obtain ⟨lv, hl, rfl⟩ := hw
  have := home_live h hl hv
  exact ⟨this, by unfold own; rw [this]⟩
theorem Ih.word {M : Mc} (h : Ih M) {w : Nat} (hw : 1 ≤ w ∧ w < 32) : srt (M.Hd w) := by
  obtain ⟨lv, i, hl, hi, rfl⟩ := word_sh hw
  exact (h lv i hl hi).1
theorem plc_32 {lv : Nat} (hl : lv ≤ 4) (s : Int) : 1 ≤ plc lv s ∧ plc lv s < 32 := by
  obtain ⟨i, h1, h2⟩ := plc_sh lv s
  rw [h2]; exact sh_32 hl h1
theorem entered_eff {M : Mc} {B : Int} (h : Iw M.W B) (hI : Ih M) {c : Kc} (hop : okOp c) {w : Nat} (hw : ∃ lv, lv ≤ 4 ∧ w = plc lv (sumK c.key)) (h0 : 0 ≤ M.W w) {s : CS} (hk : callOf s = some c) :
    Eff M s M (entered dirOps c w (M.W w) (M.Hd w)).1 (entered dirOps c w (M.W w) (M.Hd w)).2 := by
  unfold entered
  by_cases e : M.W w = 0 ∨ FZ ≤ M.W w
  · rw [if_pos e]
    exact .same hI hop (by simp) (by rw [hk]; rfl)
  · rw [if_neg e]
    obtain ⟨g1, g2⟩ := own_live (M := M) h hw (by omega)
    have hs : srt (M.Hd w) := by obtain ⟨lv, hl, rfl⟩ := hw; exact hI.word (plc_32 hl _)
    unfold found
    cases ef : dirOps.fnd c (M.Hd w) with
    | inl r =>
      have := fnd_inl hs hop (show fndE c (M.Hd w) = .inl r from ef)
      rw [← g2] at this
      refine ⟨.refl M, hI, trivial, fun e => ?_, fun _ => ⟨rfl, ?_⟩⟩
      · exfalso
        replace e : r.done = false := e
        rw [this.1, ansE_done] at e
        cases e
      · rw [hk]
        refine ⟨this.1, fun k => ?_⟩
        split
        · rename_i ek; rw [ek, this.2]
        · rfl
    | inr p =>
      obtain ⟨m, n⟩ := p
      exact .same hI ⟨hop, hw, Int.le_refl _, fun _ => ef⟩ (by simp) (by rw [hk]; rfl)
theorem Ih.set {M : Mc} (h : Ih M) {lv i : Nat} (hl : lv ≤ 4) (hi : i < 2 ^ lv) {x : Int} {m : List Ent} (h1 : srt m) (h2 : ∀ e ∈ m, sumK e.key % 2 ^ lv = i) : Ih (M.set (2 ^ lv + i) x m) := fun l j hl' hj => by
  show srt (upd M.Hd _ _ _) ∧ ∀ e ∈ upd M.Hd _ _ _, _
  by_cases e : 2 ^ l + j = 2 ^ lv + i
  · obtain ⟨rfl, rfl⟩ := sh_inj hj hi e
    rw [upd_same]; exact ⟨h1, h2⟩
  · rw [upd_ne _ _ e]; exact h l j hl' hj
theorem Ih.set0 {M : Mc} (h : Ih M) {x : Int} {m : List Ent} : Ih (M.set 0 x m) := fun l j hl' hj => by
  show srt (upd M.Hd _ _ _) ∧ ∀ e ∈ upd M.Hd _ _ _, _
  rw [upd_ne _ _ (by have := pow_pos2 l; omega)]; exact h l j hl' hj
theorem home_pos (W : Nat → Int) (s : Int) : 1 ≤ home W s := by unfold home; split <;> exact plc_pos _ _
theorem own_0 {M : Mc} {x : Int} {m : List Ent} (hh : ∀ s, home (upd M.W 0 x) s = home M.W s) (k : List Int) : own (M.set 0 x m) k = own M k := by
  unfold own
  show lk (upd M.Hd 0 m (home (upd M.W 0 x) (sumK k))) k = _
  rw [hh, upd_ne _ _ (by have := home_pos M.W (sumK k); omega)]
theorem freeze_eff {M : Mc} {B : Int} (h : Iw M.W B) (hI : Ih M) {lv i : Nat} (hl : lv ≤ 3) (hi : i < 2 ^ lv) (hd : 2 * (lv : Int) + 1 ≤ M.W 0) {v : Int} (hv : v < FZ) (e : M.W (2 ^ lv + i) = v) {m : List Ent} (hm : M.Hd (2 ^ lv + i) = m) :
    Mono M (M.set (2 ^ lv + i) (v + FZ) m) ∧ Ih (M.set (2 ^ lv + i) (v + FZ) m) ∧ ∀ k, own (M.set (2 ^ lv + i) (v + FZ) m) k = own M k := by
  obtain ⟨g1, g2, _⟩ := freeze_ok h hl hi hd hv e
  have hF : FZ = 4611686018427387904 := rfl
  have hi0 := hI lv i (by omega) hi
  refine ⟨.set (by omega) (by omega), hI.set (by omega) hi (by rw [← hm]; exact hi0.1) (by rw [← hm]; exact hi0.2), fun k => ?_⟩
  unfold own
  show lk (upd M.Hd _ m (home (upd M.W _ (v + FZ)) (sumK k))) k = _
  rw [← e, home_freeze h hl hi g2 (by omega)]
  congr 1
  unfold upd; split
  · rename_i e2; rw [e2, hm]
  · rfl
theorem cut_ok {h : List Ent} (s : srt h) (lv i : Nat) : srt (cutL h lv i) ∧ (∀ e ∈ cutL h lv i, sumK e.key % 2 ^ lv = i) ∧ ∀ k, sumK k % 2 ^ lv = i → lk (cutL h lv i) k = lk h k := by
  have s' : srt (cutL h lv i) := List.Pairwise.filter _ s
  refine ⟨s', fun e he => by simpa [inSh] using (List.mem_filter.1 he).2, fun k hk => opt_ext fun v => ?_⟩
  rw [lk_iff s', lk_iff s]
  unfold cutL
  rw [List.mem_filter]
  exact ⟨fun h => h.1, fun h => ⟨h, by simpa [inSh] using hk⟩⟩
theorem plc_mod {lv i : Nat} {s : Int} : plc lv s = 2 ^ lv + i ↔ s % 2 ^ lv = i := by
  unfold plc
  have hp : (0 : Int) < 2 ^ lv := by exact_mod_cast pow_pos2 lv
  have h1 := Int.emod_nonneg s (by omega : (2 ^ lv : Int) ≠ 0)
  omega
theorem lay_eff {M : Mc} {B : Int} (h : Iw M.W B) (hI : Ih M) {lv i : Nat} (hl : lv ≤ 3) (hi : i < 2 ^ (lv + 1)) (hd : 2 * (lv : Int) + 1 ≤ M.W 0) (hz : M.W (2 ^ (lv + 1) + i) = 0) (hlow : FZ ≤ M.W (2 ^ lv + i % 2 ^ lv)) {m : List Ent} (hm : M.Hd (2 ^ lv + i % 2 ^ lv) = m) :
    Mono M (M.set (2 ^ (lv + 1) + i) 1 (cutL m (lv + 1) i)) ∧ Ih (M.set (2 ^ (lv + 1) + i) 1 (cutL m (lv + 1) i)) ∧ ∀ k, own (M.set (2 ^ (lv + 1) + i) 1 (cutL m (lv + 1) i)) k = own M k := by
  have hF : FZ = 4611686018427387904 := rfl
  have hs : srt m := by rw [← hm]; exact (hI lv (i % 2 ^ lv) (by omega) (Nat.mod_lt _ (pow_pos2 lv))).1
  obtain ⟨c1, c2, c3⟩ := cut_ok hs (lv + 1) i
  refine ⟨.set (by omega) (by omega), hI.set (by omega) hi c1 c2, fun k => ?_⟩
  obtain ⟨g1, g2⟩ := home_lay h hl hi hd hz hlow (sumK k)
  unfold own
  show lk (upd M.Hd _ _ (home (upd M.W _ 1) (sumK k))) k = _
  by_cases e : plc (lv + 1) (sumK k) = 2 ^ (lv + 1) + i
  · obtain ⟨a, b⟩ := g1 e
    rw [b, upd_same, a, hm]
    exact c3 k (plc_mod.1 e)
  · obtain ⟨a, b⟩ := g2 e
    rw [a, upd_ne _ _ b]
end Dir
end Go.Proofs.YtbdclkjelhlfbaaGreat

namespace Go.Proofs.YtbdclkjelhlfbaaGreat
open Go.RowKit
namespace Dir
theorem low_plc {lv i : Nat} {s : Int} (e : plc (lv + 1) s = 2 ^ (lv + 1) + i) : 2 ^ lv + i % 2 ^ lv = plc lv s := by
  have h3 := plc_low lv s
  rwa [e, Nat.add_sub_cancel_left] at h3
theorem on_ne {lv i : Nat} {up : Bool} {h : List Ent} : on lv i up h ≠ .none := by unfold on move; split <;> (try split) <;> simp
theorem on_call {lv i : Nat} {up : Bool} {h : List Ent} : callOf (on lv i up h) = none := by unfold on move; split <;> (try split) <;> rfl
theorem on_ch {M : Mc} {lv i : Nat} {up : Bool} {h : List Ent} (e : M.Hd (2 ^ lv + i) = h) : Ch M (on lv i up h) := by
  unfold on move; split
  · split <;> trivial
  · exact e
theorem step_eff {M : Mc} {B : Int} (h : Iw M.W B) (hB : 1 ≤ B ∧ B + 1 < FZ) {s : CS} (hs : Cw dirOps M.W s) (hI : Ih M) (hc : Ch M s) (hn : s ≠ .none) :
    Eff M s (step dirOps M s).1 (step dirOps M s).2.1 (step dirOps M s).2.2 := by
  have hF : FZ = 4611686018427387904 := rfl
  have hd := h.d
  cases s with
  | none => exact absurd rfl hn
  | k0 c =>
    by_cases e : M.W 0 % 2 = 0
    · simp only [step, if_pos e]
      exact .same hI ⟨hc, _, by omega, rfl⟩ (by simp) rfl
    · simp only [step, if_neg e]
      exact .same hI hc (by simp) rfl
  | kE c w =>
    obtain ⟨hop, lv, hl, rfl⟩ := hc
    obtain ⟨low, ho⟩ := h.at0 hl (sumK c.key)
    exact entered_eff h hI hop ⟨lv, hl, rfl⟩ ho.1 rfl
  | kF c lv w =>
    obtain ⟨a, b, d⟩ := hs
    by_cases e : FZ ≤ M.W w
    · simp only [step, if_pos e]
      exact .same hI ⟨hc, by rw [Nat.add_sub_cancel]; exact congrArg M.Hd b.symm⟩ (by simp [toH]) rfl
    · simp only [step, if_neg e]
      exact .same hI ⟨hc, Int.le_refl _, fun _ => rfl⟩ (by simp) rfl
  | kG c lv w v m =>
    obtain ⟨a, b, d, e⟩ := hs
    obtain ⟨hop, c1, c2⟩ := hc
    by_cases hm : M.W w = v
    · simp only [step, if_pos hm]
      obtain ⟨i, h1, h2⟩ := plc_sh lv (dirOps.sum c.key)
      have hb := b
      rw [h2] at hb
      have hHd := c2 hm
      subst hb
      obtain ⟨g1, g2, g3⟩ := freeze_eff h hI a h1 d e hm hHd
      refine .calm g1 g2 ⟨hop, ?_⟩ (by simp [toH]) rfl g3
      rw [Nat.add_sub_cancel]
      show upd M.Hd _ m (plc lv (dirOps.sum c.key)) = m
      rw [h2, upd_same]
    · simp only [step, if_neg hm]
      exact .same hI hop (by simp) rfl
  | kH c lv w m =>
    obtain ⟨a, b, d, e, f⟩ := hs
    obtain ⟨low, ho⟩ := h.at0 b (sumK c.key)
    by_cases hm : M.W w = 0
    · simp only [step, if_pos hm]
      exact .same hI hc (by simp) rfl
    · simp only [step, if_neg hm]
      refine entered_eff h hI hc.1 ⟨lv, b, d⟩ ?_ rfl
      rw [d]; exact ho.1
  | kL c lv w m =>
    obtain ⟨a, b, d, e, f⟩ := hs
    obtain ⟨hop, hHd⟩ := hc
    by_cases hm : M.W w = 0
    · simp only [step, if_pos hm]
      obtain ⟨l, rfl⟩ : ∃ l, lv = l + 1 := ⟨lv - 1, by omega⟩
      obtain ⟨i, h1, h2⟩ := plc_sh (l + 1) (dirOps.sum c.key)
      rw [Nat.add_sub_cancel] at f hHd
      have hlow := low_plc h2
      have hb := d
      rw [h2] at hb
      subst hb
      have g := lay_eff h hI (by omega) h1 (by omega) hm (by rw [hlow]; exact f) (m := m) (by rw [hlow]; exact hHd)
      rw [Nat.add_sub_cancel_left]
      exact .calm g.1 g.2.1 ⟨hop, l + 1, b, d⟩ (by simp) rfl g.2.2
    · simp only [step, if_neg hm]
      exact .same hI ⟨hop, lv, b, d⟩ (by simp) rfl
  | kS c w v m n =>
    obtain ⟨a, b, d, e⟩ := hs
    obtain ⟨hop, hw, c1, c2⟩ := hc
    by_cases hm : M.W w = v
    · simp only [step, if_pos hm]
      have hfn := c2 hm
      obtain ⟨g1, g2⟩ := own_live (M := M) h hw (by omega)
      have hsrt : srt (M.Hd w) := hI.word ⟨a, b⟩
      have hk := fnd_inr hsrt hop hfn
      obtain ⟨lv, hl, hwe⟩ := hw
      obtain ⟨i, h1, h2⟩ := plc_sh lv (sumK c.key)
      have hset : Ih (M.set w (v + 1) m) := by
        rw [hwe, h2]
        refine hI.set hl h1 hk.2.1 fun x hx => ?_
        rcases fnd_key hsrt hop hfn hx with e1 | ⟨y, hy, e1⟩
        · rw [e1]; exact plc_mod.1 h2
        · rw [← e1]
          rw [hwe, h2] at hy
          exact (hI lv i hl h1).2 y hy
      refine ⟨.set (by omega) (by omega), hset, trivial, fun e => by simp at e, fun _ => ⟨rfl, ?_⟩⟩
      show (_ = _ ∧ ∀ k, _)
      rw [g2]
      refine ⟨hk.1.symm, fun k => ?_⟩
      have hh : home (upd M.W w (v + 1)) (sumK k) = home M.W (sumK k) := by
        refine home_congr (upd_ne _ _ (by omega)) (fun p _ => ?_) _
        by_cases ep : p = w
        · subst ep
          rw [upd_same]
          have ho := h.d
          have hv1 : v + 1 < FZ := by
            obtain ⟨low, hok⟩ := h.at0 hl (sumK c.key)
            rw [← hwe] at hok
            unfold okW at hok; omega
          omega
        · rw [upd_ne _ _ ep]; simp
      unfold own
      show lk (upd M.Hd w m (home (upd M.W w (v + 1)) (sumK k))) k = _
      rw [hh]
      by_cases ew : home M.W (sumK k) = w
      · rw [ew, upd_same, hk.2.2 k]
      · rw [upd_ne _ _ ew, if_neg]
        intro e2; subst e2; exact ew g1
    · simp only [step, if_neg hm]
      exact .same hI hop (by simp) rfl
  | s0 =>
    by_cases h1 : M.W 0 % 2 = 1
    · simp only [step, if_pos h1]; exact .same hI trivial (by simp) rfl
    · by_cases h2 : M.W 0 / 2 = 4
      · simp only [step, if_neg h1, if_pos h2]
        exact ⟨.refl M, hI, trivial, fun e => by simp at e, fun _ => ⟨rfl, .inr ⟨rfl, by omega⟩, fun _ => rfl⟩⟩
      · simp only [step, if_neg h1, if_neg h2]; exact .same hI trivial (by simp) rfl
  | sM lv =>
    by_cases hm : M.W 0 = 2 * lv
    · simp only [step, if_pos hm]
      refine .calm (.set (by omega) (by omega)) hI.set0 trivial (by simp) rfl fun k => own_0 (fun s => home_begin h hs hm s) k
    · simp only [step, if_neg hm]; exact .same hI trivial (by simp) rfl
  | sF lv i =>
    by_cases e : FZ ≤ M.W (2 ^ lv + i)
    · simp only [step, if_pos e]; exact .same hI rfl (by simp) rfl
    · simp only [step, if_neg e]; exact .same hI ⟨Int.le_refl _, fun _ => rfl⟩ (by simp) rfl
  | sG lv i v m =>
    obtain ⟨a, b, d, e, f⟩ := hs
    by_cases hm : M.W (2 ^ lv + i) = v
    · simp only [step, if_pos hm]
      obtain ⟨g1, g2, g3⟩ := freeze_eff h hI a b d f hm (hc.2 hm)
      refine .calm g1 g2 ?_ (by simp) rfl g3
      show upd M.Hd _ m _ = m
      rw [upd_same]
    · simp only [step, if_neg hm]; exact .same hI trivial (by simp) rfl
  | sH lv i up m =>
    by_cases hm : M.W (upW lv i up) = 0
    · simp only [step, if_pos hm]; exact .same hI hc (by simp) rfl
    · simp only [step, if_neg hm]; exact .same hI (on_ch hc) on_ne on_call
  | sL lv i up m =>
    obtain ⟨a, b, d, e, f, g⟩ := hs
    obtain ⟨j, h1, h2, h3⟩ := upW_sh (up := up) b
    by_cases hm : M.W (upW lv i up) = 0
    · simp only [step, if_pos hm]
      rw [h2] at hm ⊢
      rw [Nat.add_sub_cancel_left]
      have g := lay_eff h hI a h1 d hm (by rw [h3]; exact f) (m := m) (by rw [h3]; exact hc)
      refine .calm g.1 g.2.1 (on_ch ?_) on_ne on_call g.2.2
      show upd M.Hd _ _ _ = m
      rw [upd_ne _ _ (fun e9 => by have := sh_inj b h1 e9; omega)]
      exact hc
    · simp only [step, if_neg hm]; exact .same hI (on_ch hc) on_ne on_call
  | sV lv =>
    obtain ⟨a, b, d⟩ := hs
    by_cases hm : M.W 0 = 2 * lv + 1
    · simp only [step, if_pos hm]
      exact ⟨.set (by omega) (by omega), hI.set0, trivial, fun e => by simp at e, fun _ => ⟨rfl, .inl rfl, fun k => own_0 (fun s => home_fin hm d s) k⟩⟩
    · simp only [step, if_neg hm]
      exact ⟨.refl M, hI, trivial, fun e => by simp at e, fun _ => ⟨rfl, .inl rfl, fun _ => rfl⟩⟩
theorem Ih.zero : Ih M0 := fun lv i _ _ => ⟨List.Pairwise.nil, fun e he => by cases he⟩
end Dir
end Go.Proofs.YtbdclkjelhlfbaaGreat
