/- Parts of the proof, one behind the other: Dr13, Dr14, Dr15, Dr16. Lemmas and contracts of functions; no condition of its own. -/
import Derived.Test.YtbdclkjelhlfbaaGreatM13
set_option linter.unusedVariables false
set_option linter.unusedSimpArgs false
namespace Go.Proofs.YtbdclkjelhlfbaaGreat
open Go.RowKit
set_option maxRecDepth 100000
def isC : Dir.CS → Bool
  | .none => false
  | _ => true
theorem cl_pend (who : Int) (s : Dir.CS) : (cl who s = nilF ∧ isC s = false) ∨ ∃ n caps, cl who s = .fn (.func n) caps ∧ isC s = true := by
  cases s with
  | none => exact .inl ⟨rfl, rfl⟩
  | _ => exact .inr ⟨_, _, rfl, rfl⟩
theorem isC_ne {s : Dir.CS} (h : isC s = true) : s ≠ .none := by rintro rfl; cases h
theorem isC_no {s : Dir.CS} (h : isC s = false) : s = .none := by cases s <;> first | rfl | cases h
theorem dir_Pending {g : Nat → SV} {M : Dir.Mc} {nl : Nat} {f : Nat → List D} {clk cnt : Int} (w : Nat) (hw : w < 64) (q5 : ∀ j, SV.Lt 5 (g j)) {s : Dir.CS} (hg : g w = cl w s) :
    Fun TC 26 5 [.ptr 0 0, .i .i64 w] (dirH g M nl f clk cnt) 5 (.b (isC s)) (dirH g M nl f clk cnt) := by
  refine Fun.mk' Tryz.func26 rfl rfl (Nat.le_of_ble_eq_true rfl) (by decide) ?_
  have hg2 : dirF g (w + 1) = cl w s := hg
  rcases cl_pend w s with ⟨e, e2⟩ | ⟨n, caps, e, e2⟩
  all_goals
    rw [e] at hg2
    rw [e2]
    (repeat' (first
    | with_reducible refine Wp.seq ?_
    | with_reducible refine Wp.block ?_
    | ((with_reducible refine Wp.region ?_); conv => whnf)
    | ((with_reducible refine Wp.drawL TC_mixed ?_); conv => whnf)
    | ((with_reducible refine Wp.cond ?_); conv => whnf)
    | ((with_reducible refine Wp.ret ?_); conv => whnf)
    | ((with_reducible refine Wp.skip ?_); conv => whnf)
    | ((with_reducible refine Wp.exit ?_); conv => whnf)
    | ((with_reducible refine Go.mk ?_); conv => whnf)
    | ((with_reducible apply Eff1.of); conv => whnf)
    | with_reducible exact rfl
    | ((with_reducible refine Ov.ok (by first | exact IntWalk.i64_in _ (by omega) | exact IntWalk.u64_in _ (by omega) | exact IntWalk.u8_in _ (by omega) | exact IntWalk.u32_in _ (by omega) | exact IntWalk.i32_in _ (by omega) | exact IntWalk.u16_in _ (by omega)) ?_); conv => whnf)
    | (with_reducible refine Ov.sh1 (by with_unfolding_all exact rfl) ?_)
    | ((with_reducible refine Ov.quo (by omega) (by omega) (by omega) (fun _ _ => ?_)); conv => whnf)
    | ((with_reducible refine And.intro (show drawOK _ _ _ _ = true by kernel_rfl) ?_); conv => whnf)
    | ((with_reducible refine And.intro (by first | omega | exact Nat.le_of_ble_eq_true rfl) ?_); conv => whnf)
    | ((with_reducible refine And.intro ?hb ?_); (case hb => exact bytes_bd (Nat.le_of_ble_eq_true rfl) (by omega)); (conv => whnf))
    | ((refine DApp.a rfl rfl rfl rfl rfl rfl ?hb ?_); (case hb => first | exact bytes_bd (Nat.le_of_ble_eq_true rfl) (by omega) | omega); (conv => whnf))
    | ((refine DApp.b rfl rfl rfl rfl rfl rfl rfl rfl ?hb ?ho ?_); (case hb => first | exact bytes_bd (Nat.le_of_ble_eq_true rfl) (by omega) | omega); (case ho => omega); (conv => whnf))
    | ((refine DApp.c rfl rfl rfl rfl rfl ?hb ?_); (case hb => first | exact bytes_bd (Nat.le_of_ble_eq_true rfl) (by omega) | omega); (conv => whnf))
    | ((refine DApp.d rfl rfl rfl rfl rfl rfl ?hb ?ho ?_); (case hb => first | exact bytes_bd (Nat.le_of_ble_eq_true rfl) (by omega) | omega); (case ho => omega); (conv => whnf))
    | ((with_reducible refine nil_no (by omega) ?_); (conv => whnf))
    | ((with_reducible refine nil_any ?_ (fun hn0 => ?_)) <;> (conv => whnf))
    | ((with_reducible refine CallStop.pure (board_Is _) rfl rfl ?_); conv => whnf) | ((with_reducible refine DCall.pure (board_Is _) rfl rfl ?_); conv => whnf)
    | ((refine At.mk' (w + 1) (by show 1 + ((w : Nat) : Int).toNat * 1 = w + 1; omega) ?_); (refine And.intro (by omega) ?_); (rw [hg2]); (conv => whnf))
    | ((refine ways (fun hc => ?_) (fun hc => ?_)) <;> (try simp only [decide_eq_true_eq, decide_eq_false_iff_not, Bool.and_eq_true, Bool.or_eq_true, Bool.and_eq_false_iff, Bool.or_eq_false_iff, Bool.not_eq_true', Bool.not_eq_false', beq_iff_eq, bne_iff_ne, ne_eq, beq_eq_false_iff_ne, bne_eq_false_iff_eq, Bool.not_eq_true, Bool.not_eq_false] at hc) <;> (try (exfalso; omega)) <;> (conv => whnf))))
  all_goals
    (refine FinLe.sealB [0,1,2,3,4] rfl rfl rfl ?_ ?_); (focus ((conv => whnf); (repeat' (first | exact trivial | exact Seal.any | exact Seal.d | exact Seal.ptrL rfl | exact Seal.slL rfl | exact Seal.lt0 (SV.Lt.of rfl) | exact Seal.same (by assumption) (Nat.le_of_ble_eq_true rfl) (fun i hi => id5 hi) | exact Seal.le Seal.d (SV.Le.i (by omega)) | exact ⟨rfl, rfl, rfl⟩ | exact ⟨rfl, Nat.le_of_ble_eq_true rfl⟩ | exact dir_seal (by assumption) | exact dir_sealR (by assumption) (fun l hl => by rcases l with _ | _ | _ | _ | _ | l <;> first | rfl | omega) | exact fun i hi => DLes.refl _ | ((refine Seal.ptr rfl rfl ?_); (conv => whnf)) | ((refine Seal.fn ?_); (conv => whnf)) | ((refine Seal.agg ?_); (conv => whnf)) | ((refine Seal.tup ?_); (conv => whnf)) | ((refine Seal.iref ?_); (conv => whnf)) | ((refine And.intro ?_ ?_) <;> (conv => whnf)) | exact Seal.le Seal.d SV.Le.nil | exact Seal.le (Seal.sl rfl rfl (by omega)) (SV.Le.sl fun i hi => by simp only [Nat.zero_add]))))); (focus ((conv => whnf); (repeat' (first | exact trivial | exact Seal.any | exact Seal.d | exact Seal.ptrL rfl | exact Seal.slL rfl | exact Seal.lt0 (SV.Lt.of rfl) | exact Seal.same (by assumption) (Nat.le_of_ble_eq_true rfl) (fun i hi => id5 hi) | exact Seal.le Seal.d (SV.Le.i (by omega)) | exact ⟨rfl, rfl, rfl⟩ | exact ⟨rfl, Nat.le_of_ble_eq_true rfl⟩ | exact dir_seal (by assumption) | exact dir_sealR (by assumption) (fun l hl => by rcases l with _ | _ | _ | _ | _ | l <;> first | rfl | omega) | exact fun i hi => DLes.refl _ | ((refine Seal.ptr rfl rfl ?_); (conv => whnf)) | ((refine Seal.fn ?_); (conv => whnf)) | ((refine Seal.agg ?_); (conv => whnf)) | ((refine Seal.tup ?_); (conv => whnf)) | ((refine Seal.iref ?_); (conv => whnf)) | ((refine And.intro ?_ ?_) <;> (conv => whnf)) | exact Seal.le Seal.d SV.Le.nil | exact Seal.le (Seal.sl rfl rfl (by omega)) (SV.Le.sl fun i hi => by simp only [Nat.zero_add])))))
theorem dir_Step {g : Nat → SV} {M : Dir.Mc} {nl : Nat} {f : Nat → List D} {clk cnt : Int} (w : Nat) (hw : w < 64) (hM : DOK w g M nl cnt) {s : Dir.CS} (hn : isC s = true) (hs : okC s) (hg : g w = cl w s) :
    ∃ a, Fun TC 21 5 [.ptr 0 0, .i .i64 w] (dirH g M nl f clk cnt) 6 (.tup [rslS (Dir.step dirOps M s).2.2, .i .i64 0]) (dirN (Dir.upd g w (cl w (Dir.step dirOps M s).2.1)) (Dir.step dirOps M s).1 nl f clk cnt a) := by
  obtain ⟨a, hS⟩ := calls_Step (f := f) (clk := clk) w hw hM (isC_ne hn) hs hg
  have q5 := hM.g
  have hP := dir_Pending (M := M) (nl := nl) (f := f) (clk := clk) (cnt := cnt) w hw q5 hg
  rw [hn] at hP
  have q6 : ∀ j, SV.Lt 5 (Dir.upd g w (cl w (Dir.step dirOps M s).2.1) j) := fun j => by
    unfold Dir.upd
    split
    · exact cl_lt _ _
    · exact q5 j
  refine ⟨a, ?_⟩
  generalize Dir.step dirOps M s = Q at hS q6 ⊢
  obtain ⟨M', s', r⟩ := Q
  dsimp only at hS q6 ⊢
  generalize Dir.upd g w (cl w s') = g' at hS q6 ⊢
  refine Fun.mk' Tryz.func21 rfl rfl (Nat.le_of_ble_eq_true rfl) (by decide) ?_
  (repeat' (first
    | with_reducible refine Wp.seq ?_
    | with_reducible refine Wp.block ?_
    | ((with_reducible refine Wp.region ?_); conv => whnf)
    | ((with_reducible refine Wp.drawL TC_mixed ?_); conv => whnf)
    | ((with_reducible refine Wp.cond ?_); conv => whnf)
    | ((with_reducible refine Wp.ret ?_); conv => whnf)
    | ((with_reducible refine Wp.skip ?_); conv => whnf)
    | ((with_reducible refine Wp.exit ?_); conv => whnf)
    | ((with_reducible refine Go.mk ?_); conv => whnf)
    | ((with_reducible apply Eff1.of); conv => whnf)
    | with_reducible exact rfl
    | ((with_reducible refine Ov.ok (by first | exact IntWalk.i64_in _ (by omega) | exact IntWalk.u64_in _ (by omega) | exact IntWalk.u8_in _ (by omega) | exact IntWalk.u32_in _ (by omega) | exact IntWalk.i32_in _ (by omega) | exact IntWalk.u16_in _ (by omega)) ?_); conv => whnf)
    | (with_reducible refine Ov.sh1 (by with_unfolding_all exact rfl) ?_)
    | ((with_reducible refine Ov.quo (by omega) (by omega) (by omega) (fun _ _ => ?_)); conv => whnf)
    | ((with_reducible refine And.intro (show drawOK _ _ _ _ = true by kernel_rfl) ?_); conv => whnf)
    | ((with_reducible refine And.intro (by first | omega | exact Nat.le_of_ble_eq_true rfl) ?_); conv => whnf)
    | ((with_reducible refine And.intro ?hb ?_); (case hb => exact bytes_bd (Nat.le_of_ble_eq_true rfl) (by omega)); (conv => whnf))
    | ((refine DApp.a rfl rfl rfl rfl rfl rfl ?hb ?_); (case hb => first | exact bytes_bd (Nat.le_of_ble_eq_true rfl) (by omega) | omega); (conv => whnf))
    | ((refine DApp.b rfl rfl rfl rfl rfl rfl rfl rfl ?hb ?ho ?_); (case hb => first | exact bytes_bd (Nat.le_of_ble_eq_true rfl) (by omega) | omega); (case ho => omega); (conv => whnf))
    | ((refine DApp.c rfl rfl rfl rfl rfl ?hb ?_); (case hb => first | exact bytes_bd (Nat.le_of_ble_eq_true rfl) (by omega) | omega); (conv => whnf))
    | ((refine DApp.d rfl rfl rfl rfl rfl rfl ?hb ?ho ?_); (case hb => first | exact bytes_bd (Nat.le_of_ble_eq_true rfl) (by omega) | omega); (case ho => omega); (conv => whnf))
    | ((with_reducible refine nil_no (by omega) ?_); (conv => whnf))
    | ((with_reducible refine nil_any ?_ (fun hn0 => ?_)) <;> (conv => whnf))
    | ((with_reducible refine CallStop.pure (board_Is _) rfl rfl ?_); conv => whnf) | ((with_reducible refine DCall.pure (board_Is _) rfl rfl ?_); conv => whnf)
    | ((refine CallStop.fn (hP) [0,1,2,3,4] rfl rfl rfl rfl rfl ?ha ?hh ?_); (case ha => ((conv => whnf); repeat' (first | exact trivial | exact ArgLe.rfl rfl | exact ArgLe.ptr rfl | exact ArgLe.sl rfl | ((with_reducible refine ArgLe.fn ?_); (conv => whnf)) | ((refine ArgLe.iref ?_); (conv => whnf)) | exact ArgLe.free SV.Le.nil rfl | ((with_reducible refine And.intro ?_ ?_) <;> (conv => whnf)) | ((refine ArgLe.free ?_ rfl); (repeat' (first | exact SV.Le.rfl _ | exact SV.Le.nil | exact SV.Le.sl (fun i hi => by (rcases i with _ | _ | _ | _ | i) <;> first | rfl | (exfalso; omega)) | with_reducible refine SV.Le.agg ?_ | exact Les.nil | with_reducible refine Les.cons ?_ ?_)))))); (case hh => ((conv => whnf); repeat' (first | exact trivial | exact ArgLe.rfl rfl | exact ArgLe.ptr rfl | exact ArgLe.sl rfl | exact ⟨rfl, rfl, rfl⟩ | exact ⟨rfl, Nat.le_of_ble_eq_true rfl⟩ | exact dir_arg (by assumption) | exact dir_argR (by assumption) (fun l hl => by rcases l with _ | _ | _ | _ | _ | l <;> first | rfl | omega) | exact fun i hi => rfl | ((with_reducible refine And.intro ?_ ?_) <;> (conv => whnf))))); (conv => whnf))
    | ((refine DCall.fn (hP) [0,1,2,3,4] [0,1,2,3,4] rfl rfl rfl rfl rfl ?ha ?hh ?hs ?_); (case ha => ((conv => whnf); repeat' (first | exact trivial | exact ArgLe.rfl rfl | exact ArgLe.ptr rfl | exact ArgLe.sl rfl | ((with_reducible refine ArgLe.fn ?_); (conv => whnf)) | ((refine ArgLe.iref ?_); (conv => whnf)) | exact ArgLe.free SV.Le.nil rfl | ((with_reducible refine And.intro ?_ ?_) <;> (conv => whnf)) | ((refine ArgLe.free ?_ rfl); (repeat' (first | exact SV.Le.rfl _ | exact SV.Le.nil | exact SV.Le.sl (fun i hi => by (rcases i with _ | _ | _ | _ | i) <;> first | rfl | (exfalso; omega)) | with_reducible refine SV.Le.agg ?_ | exact Les.nil | with_reducible refine Les.cons ?_ ?_)))))); (case hh => ((conv => whnf); repeat' (first | exact trivial | exact ArgLe.rfl rfl | exact ArgLe.ptr rfl | exact ArgLe.sl rfl | exact ⟨rfl, rfl, rfl⟩ | exact ⟨rfl, Nat.le_of_ble_eq_true rfl⟩ | exact dir_arg (by assumption) | exact dir_argR (by assumption) (fun l hl => by rcases l with _ | _ | _ | _ | _ | l <;> first | rfl | omega) | exact fun i hi => rfl | ((with_reducible refine And.intro ?_ ?_) <;> (conv => whnf))))); (case hs => (conv => whnf); repeat' (first | exact trivial | ((refine And.intro rfl ?_); (conv => whnf)))); (conv => whnf)) | ((refine DCall.new (hP) [0,1,2,3,4] [0,1,2,3,4] rfl rfl rfl rfl rfl rfl ?ha ?hh ?hs ?_); (case ha => ((conv => whnf); repeat' (first | exact trivial | exact ArgLe.rfl rfl | exact ArgLe.ptr rfl | exact ArgLe.sl rfl | ((with_reducible refine ArgLe.fn ?_); (conv => whnf)) | ((refine ArgLe.iref ?_); (conv => whnf)) | exact ArgLe.free SV.Le.nil rfl | ((with_reducible refine And.intro ?_ ?_) <;> (conv => whnf)) | ((refine ArgLe.free ?_ rfl); (repeat' (first | exact SV.Le.rfl _ | exact SV.Le.nil | exact SV.Le.sl (fun i hi => by (rcases i with _ | _ | _ | _ | i) <;> first | rfl | (exfalso; omega)) | with_reducible refine SV.Le.agg ?_ | exact Les.nil | with_reducible refine Les.cons ?_ ?_)))))); (case hh => ((conv => whnf); repeat' (first | exact trivial | exact ArgLe.rfl rfl | exact ArgLe.ptr rfl | exact ArgLe.sl rfl | exact ⟨rfl, rfl, rfl⟩ | exact ⟨rfl, Nat.le_of_ble_eq_true rfl⟩ | exact dir_arg (by assumption) | exact dir_argR (by assumption) (fun l hl => by rcases l with _ | _ | _ | _ | _ | l <;> first | rfl | omega) | exact fun i hi => rfl | ((with_reducible refine And.intro ?_ ?_) <;> (conv => whnf))))); (case hs => (conv => whnf); repeat' (first | exact trivial | ((refine And.intro rfl ?_); (conv => whnf)))); (conv => whnf))
    | ((refine DCall.fn (hP) [0,1,2,3,4] [] rfl rfl rfl rfl rfl ?ha ?hh ?hs ?_); (case ha => ((conv => whnf); repeat' (first | exact trivial | exact ArgLe.rfl rfl | exact ArgLe.ptr rfl | exact ArgLe.sl rfl | ((with_reducible refine ArgLe.fn ?_); (conv => whnf)) | ((refine ArgLe.iref ?_); (conv => whnf)) | exact ArgLe.free SV.Le.nil rfl | ((with_reducible refine And.intro ?_ ?_) <;> (conv => whnf)) | ((refine ArgLe.free ?_ rfl); (repeat' (first | exact SV.Le.rfl _ | exact SV.Le.nil | exact SV.Le.sl (fun i hi => by (rcases i with _ | _ | _ | _ | i) <;> first | rfl | (exfalso; omega)) | with_reducible refine SV.Le.agg ?_ | exact Les.nil | with_reducible refine Les.cons ?_ ?_)))))); (case hh => ((conv => whnf); repeat' (first | exact trivial | exact ArgLe.rfl rfl | exact ArgLe.ptr rfl | exact ArgLe.sl rfl | exact ⟨rfl, rfl, rfl⟩ | exact ⟨rfl, Nat.le_of_ble_eq_true rfl⟩ | exact dir_arg (by assumption) | exact dir_argR (by assumption) (fun l hl => by rcases l with _ | _ | _ | _ | _ | l <;> first | rfl | omega) | exact fun i hi => rfl | ((with_reducible refine And.intro ?_ ?_) <;> (conv => whnf))))); (case hs => (conv => whnf); repeat' (first | exact trivial | ((refine And.intro rfl ?_); (conv => whnf)))); (conv => whnf)) | ((refine DCall.new (hP) [0,1,2,3,4] [] rfl rfl rfl rfl rfl rfl ?ha ?hh ?hs ?_); (case ha => ((conv => whnf); repeat' (first | exact trivial | exact ArgLe.rfl rfl | exact ArgLe.ptr rfl | exact ArgLe.sl rfl | ((with_reducible refine ArgLe.fn ?_); (conv => whnf)) | ((refine ArgLe.iref ?_); (conv => whnf)) | exact ArgLe.free SV.Le.nil rfl | ((with_reducible refine And.intro ?_ ?_) <;> (conv => whnf)) | ((refine ArgLe.free ?_ rfl); (repeat' (first | exact SV.Le.rfl _ | exact SV.Le.nil | exact SV.Le.sl (fun i hi => by (rcases i with _ | _ | _ | _ | i) <;> first | rfl | (exfalso; omega)) | with_reducible refine SV.Le.agg ?_ | exact Les.nil | with_reducible refine Les.cons ?_ ?_)))))); (case hh => ((conv => whnf); repeat' (first | exact trivial | exact ArgLe.rfl rfl | exact ArgLe.ptr rfl | exact ArgLe.sl rfl | exact ⟨rfl, rfl, rfl⟩ | exact ⟨rfl, Nat.le_of_ble_eq_true rfl⟩ | exact dir_arg (by assumption) | exact dir_argR (by assumption) (fun l hl => by rcases l with _ | _ | _ | _ | _ | l <;> first | rfl | omega) | exact fun i hi => rfl | ((with_reducible refine And.intro ?_ ?_) <;> (conv => whnf))))); (case hs => (conv => whnf); repeat' (first | exact trivial | ((refine And.intro rfl ?_); (conv => whnf)))); (conv => whnf))
    | ((refine CallStop.fn (hS) [0,1,2,3,4] rfl rfl rfl rfl rfl ?ha ?hh ?_); (case ha => ((conv => whnf); repeat' (first | exact trivial | exact ArgLe.rfl rfl | exact ArgLe.ptr rfl | exact ArgLe.sl rfl | ((with_reducible refine ArgLe.fn ?_); (conv => whnf)) | ((refine ArgLe.iref ?_); (conv => whnf)) | exact ArgLe.free SV.Le.nil rfl | ((with_reducible refine And.intro ?_ ?_) <;> (conv => whnf)) | ((refine ArgLe.free ?_ rfl); (repeat' (first | exact SV.Le.rfl _ | exact SV.Le.nil | exact SV.Le.sl (fun i hi => by (rcases i with _ | _ | _ | _ | i) <;> first | rfl | (exfalso; omega)) | with_reducible refine SV.Le.agg ?_ | exact Les.nil | with_reducible refine Les.cons ?_ ?_)))))); (case hh => ((conv => whnf); repeat' (first | exact trivial | exact ArgLe.rfl rfl | exact ArgLe.ptr rfl | exact ArgLe.sl rfl | exact ⟨rfl, rfl, rfl⟩ | exact ⟨rfl, Nat.le_of_ble_eq_true rfl⟩ | exact dir_arg (by assumption) | exact dir_argR (by assumption) (fun l hl => by rcases l with _ | _ | _ | _ | _ | l <;> first | rfl | omega) | exact fun i hi => rfl | ((with_reducible refine And.intro ?_ ?_) <;> (conv => whnf))))); (conv => whnf))
    | ((refine DCall.fn (hS) [0,1,2,3,4] [0,1,2,3,4] rfl rfl rfl rfl rfl ?ha ?hh ?hs ?_); (case ha => ((conv => whnf); repeat' (first | exact trivial | exact ArgLe.rfl rfl | exact ArgLe.ptr rfl | exact ArgLe.sl rfl | ((with_reducible refine ArgLe.fn ?_); (conv => whnf)) | ((refine ArgLe.iref ?_); (conv => whnf)) | exact ArgLe.free SV.Le.nil rfl | ((with_reducible refine And.intro ?_ ?_) <;> (conv => whnf)) | ((refine ArgLe.free ?_ rfl); (repeat' (first | exact SV.Le.rfl _ | exact SV.Le.nil | exact SV.Le.sl (fun i hi => by (rcases i with _ | _ | _ | _ | i) <;> first | rfl | (exfalso; omega)) | with_reducible refine SV.Le.agg ?_ | exact Les.nil | with_reducible refine Les.cons ?_ ?_)))))); (case hh => ((conv => whnf); repeat' (first | exact trivial | exact ArgLe.rfl rfl | exact ArgLe.ptr rfl | exact ArgLe.sl rfl | exact ⟨rfl, rfl, rfl⟩ | exact ⟨rfl, Nat.le_of_ble_eq_true rfl⟩ | exact dir_arg (by assumption) | exact dir_argR (by assumption) (fun l hl => by rcases l with _ | _ | _ | _ | _ | l <;> first | rfl | omega) | exact fun i hi => rfl | ((with_reducible refine And.intro ?_ ?_) <;> (conv => whnf))))); (case hs => (conv => whnf); repeat' (first | exact trivial | ((refine And.intro rfl ?_); (conv => whnf)))); (conv => whnf)) | ((refine DCall.new (hS) [0,1,2,3,4] [0,1,2,3,4] rfl rfl rfl rfl rfl rfl ?ha ?hh ?hs ?_); (case ha => ((conv => whnf); repeat' (first | exact trivial | exact ArgLe.rfl rfl | exact ArgLe.ptr rfl | exact ArgLe.sl rfl | ((with_reducible refine ArgLe.fn ?_); (conv => whnf)) | ((refine ArgLe.iref ?_); (conv => whnf)) | exact ArgLe.free SV.Le.nil rfl | ((with_reducible refine And.intro ?_ ?_) <;> (conv => whnf)) | ((refine ArgLe.free ?_ rfl); (repeat' (first | exact SV.Le.rfl _ | exact SV.Le.nil | exact SV.Le.sl (fun i hi => by (rcases i with _ | _ | _ | _ | i) <;> first | rfl | (exfalso; omega)) | with_reducible refine SV.Le.agg ?_ | exact Les.nil | with_reducible refine Les.cons ?_ ?_)))))); (case hh => ((conv => whnf); repeat' (first | exact trivial | exact ArgLe.rfl rfl | exact ArgLe.ptr rfl | exact ArgLe.sl rfl | exact ⟨rfl, rfl, rfl⟩ | exact ⟨rfl, Nat.le_of_ble_eq_true rfl⟩ | exact dir_arg (by assumption) | exact dir_argR (by assumption) (fun l hl => by rcases l with _ | _ | _ | _ | _ | l <;> first | rfl | omega) | exact fun i hi => rfl | ((with_reducible refine And.intro ?_ ?_) <;> (conv => whnf))))); (case hs => (conv => whnf); repeat' (first | exact trivial | ((refine And.intro rfl ?_); (conv => whnf)))); (conv => whnf))
    | ((refine DCall.fn (hS) [0,1,2,3,4] [] rfl rfl rfl rfl rfl ?ha ?hh ?hs ?_); (case ha => ((conv => whnf); repeat' (first | exact trivial | exact ArgLe.rfl rfl | exact ArgLe.ptr rfl | exact ArgLe.sl rfl | ((with_reducible refine ArgLe.fn ?_); (conv => whnf)) | ((refine ArgLe.iref ?_); (conv => whnf)) | exact ArgLe.free SV.Le.nil rfl | ((with_reducible refine And.intro ?_ ?_) <;> (conv => whnf)) | ((refine ArgLe.free ?_ rfl); (repeat' (first | exact SV.Le.rfl _ | exact SV.Le.nil | exact SV.Le.sl (fun i hi => by (rcases i with _ | _ | _ | _ | i) <;> first | rfl | (exfalso; omega)) | with_reducible refine SV.Le.agg ?_ | exact Les.nil | with_reducible refine Les.cons ?_ ?_)))))); (case hh => ((conv => whnf); repeat' (first | exact trivial | exact ArgLe.rfl rfl | exact ArgLe.ptr rfl | exact ArgLe.sl rfl | exact ⟨rfl, rfl, rfl⟩ | exact ⟨rfl, Nat.le_of_ble_eq_true rfl⟩ | exact dir_arg (by assumption) | exact dir_argR (by assumption) (fun l hl => by rcases l with _ | _ | _ | _ | _ | l <;> first | rfl | omega) | exact fun i hi => rfl | ((with_reducible refine And.intro ?_ ?_) <;> (conv => whnf))))); (case hs => (conv => whnf); repeat' (first | exact trivial | ((refine And.intro rfl ?_); (conv => whnf)))); (conv => whnf)) | ((refine DCall.new (hS) [0,1,2,3,4] [] rfl rfl rfl rfl rfl rfl ?ha ?hh ?hs ?_); (case ha => ((conv => whnf); repeat' (first | exact trivial | exact ArgLe.rfl rfl | exact ArgLe.ptr rfl | exact ArgLe.sl rfl | ((with_reducible refine ArgLe.fn ?_); (conv => whnf)) | ((refine ArgLe.iref ?_); (conv => whnf)) | exact ArgLe.free SV.Le.nil rfl | ((with_reducible refine And.intro ?_ ?_) <;> (conv => whnf)) | ((refine ArgLe.free ?_ rfl); (repeat' (first | exact SV.Le.rfl _ | exact SV.Le.nil | exact SV.Le.sl (fun i hi => by (rcases i with _ | _ | _ | _ | i) <;> first | rfl | (exfalso; omega)) | with_reducible refine SV.Le.agg ?_ | exact Les.nil | with_reducible refine Les.cons ?_ ?_)))))); (case hh => ((conv => whnf); repeat' (first | exact trivial | exact ArgLe.rfl rfl | exact ArgLe.ptr rfl | exact ArgLe.sl rfl | exact ⟨rfl, rfl, rfl⟩ | exact ⟨rfl, Nat.le_of_ble_eq_true rfl⟩ | exact dir_arg (by assumption) | exact dir_argR (by assumption) (fun l hl => by rcases l with _ | _ | _ | _ | _ | l <;> first | rfl | omega) | exact fun i hi => rfl | ((with_reducible refine And.intro ?_ ?_) <;> (conv => whnf))))); (case hs => (conv => whnf); repeat' (first | exact trivial | ((refine And.intro rfl ?_); (conv => whnf)))); (conv => whnf))
    | ((refine ways (fun hc => ?_) (fun hc => ?_)) <;> (try simp only [decide_eq_true_eq, decide_eq_false_iff_not, Bool.and_eq_true, Bool.or_eq_true, Bool.and_eq_false_iff, Bool.or_eq_false_iff, Bool.not_eq_true', Bool.not_eq_false', beq_iff_eq, bne_iff_ne, ne_eq, beq_eq_false_iff_ne, bne_eq_false_iff_eq, Bool.not_eq_true, Bool.not_eq_false] at hc) <;> (try (exfalso; omega)) <;> (conv => whnf))))
  (refine FinLe.sealB [0,1,2,3,4,6] rfl rfl rfl ?_ ?_); (focus ((conv => whnf); (repeat' (first | exact trivial | exact Seal.any | exact Seal.d | exact Seal.ptrL rfl | exact Seal.slL rfl | exact Seal.lt0 (SV.Lt.of rfl) | exact Seal.same (by assumption) (Nat.le_of_ble_eq_true rfl) (fun i hi => id5 hi) | exact Seal.le Seal.d (SV.Le.i (by omega)) | exact ⟨rfl, rfl, rfl⟩ | exact ⟨rfl, Nat.le_of_ble_eq_true rfl⟩ | exact dir_seal (by assumption) | exact dir_sealR (by assumption) (fun l hl => by rcases l with _ | _ | _ | _ | _ | l <;> first | rfl | omega) | exact fun i hi => DLes.refl _ | ((refine Seal.ptr rfl rfl ?_); (conv => whnf)) | ((refine Seal.fn ?_); (conv => whnf)) | ((refine Seal.agg ?_); (conv => whnf)) | ((refine Seal.tup ?_); (conv => whnf)) | ((refine Seal.iref ?_); (conv => whnf)) | ((refine And.intro ?_ ?_) <;> (conv => whnf)) | exact Seal.le Seal.d SV.Le.nil | exact Seal.le (Seal.sl rfl rfl (by omega)) (SV.Le.sl fun i hi => by simp only [Nat.zero_add]))))); (focus ((conv => whnf); (repeat' (first | exact trivial | exact Seal.any | exact Seal.d | exact Seal.ptrL rfl | exact Seal.slL rfl | exact Seal.lt0 (SV.Lt.of rfl) | exact Seal.same (by assumption) (Nat.le_of_ble_eq_true rfl) (fun i hi => id5 hi) | exact Seal.le Seal.d (SV.Le.i (by omega)) | exact ⟨rfl, rfl, rfl⟩ | exact ⟨rfl, Nat.le_of_ble_eq_true rfl⟩ | exact dir_seal (by assumption) | exact dir_sealR (by assumption) (fun l hl => by rcases l with _ | _ | _ | _ | _ | l <;> first | rfl | omega) | exact fun i hi => DLes.refl _ | ((refine Seal.ptr rfl rfl ?_); (conv => whnf)) | ((refine Seal.fn ?_); (conv => whnf)) | ((refine Seal.agg ?_); (conv => whnf)) | ((refine Seal.tup ?_); (conv => whnf)) | ((refine Seal.iref ?_); (conv => whnf)) | ((refine And.intro ?_ ?_) <;> (conv => whnf)) | exact Seal.le Seal.d SV.Le.nil | exact Seal.le (Seal.sl rfl rfl (by omega)) (SV.Le.sl fun i hi => by simp only [Nat.zero_add])))))
end Go.Proofs.YtbdclkjelhlfbaaGreat

namespace Go.Proofs.YtbdclkjelhlfbaaGreat
open Go.RowKit
set_option maxRecDepth 100000
theorem SV.Le.sl' {z n m : Nat} {f g : Nat → List D} (e : n = m) (h : ∀ i, i < m → f i = g i) : SV.Le (.d (.sl z n f)) (.d (.sl z m g)) := by
  subst e; exact SV.Le.sl h
theorem bytes_CloneD (xs : List Int) (hn : xs.length ≤ 16777216) : Fun TC 52 60 [.d (slOf 1 (encI .u8) xs)] [] 60 (.d (slOf 1 (encI .u8) xs)) [] := by
  refine Fun.mk' Tryz.func52 rfl rfl (Nat.le_of_ble_eq_true rfl) (by decide) ?_
  (repeat' (first
    | with_reducible refine Wp.seq ?_
    | with_reducible refine Wp.block ?_
    | ((with_reducible refine Wp.region ?_); conv => whnf)
    | ((with_reducible refine Wp.drawL TC_mixed ?_); conv => whnf)
    | ((with_reducible refine Wp.cond ?_); conv => whnf)
    | ((with_reducible refine Wp.ret ?_); conv => whnf)
    | ((with_reducible refine Wp.skip ?_); conv => whnf)
    | ((with_reducible refine Wp.exit ?_); conv => whnf)
    | ((with_reducible refine Go.mk ?_); conv => whnf)
    | ((with_reducible apply Eff1.of); conv => whnf)
    | with_reducible exact rfl
    | ((with_reducible refine Ov.ok (by first | exact IntWalk.i64_in _ (by omega) | exact IntWalk.u64_in _ (by omega) | exact IntWalk.u8_in _ (by omega) | exact IntWalk.u32_in _ (by omega) | exact IntWalk.i32_in _ (by omega) | exact IntWalk.u16_in _ (by omega)) ?_); conv => whnf)
    | (with_reducible refine Ov.sh1 (by with_unfolding_all exact rfl) ?_)
    | ((with_reducible refine Ov.quo (by omega) (by omega) (by omega) (fun _ _ => ?_)); conv => whnf)
    | ((with_reducible refine And.intro (show drawOK _ _ _ _ = true by kernel_rfl) ?_); conv => whnf)
    | ((with_reducible refine And.intro (by first | omega | exact Nat.le_of_ble_eq_true rfl) ?_); conv => whnf)
    | ((with_reducible refine And.intro ?hb ?_); (case hb => exact bytes_bd (Nat.le_of_ble_eq_true rfl) (by omega)); (conv => whnf))
    | ((refine DApp.a rfl rfl rfl rfl rfl rfl ?hb ?_); (case hb => first | exact bytes_bd (Nat.le_of_ble_eq_true rfl) (by omega) | omega); (conv => whnf))
    | ((refine DApp.b rfl rfl rfl rfl rfl rfl rfl rfl ?hb ?ho ?_); (case hb => first | exact bytes_bd (Nat.le_of_ble_eq_true rfl) (by omega) | omega); (case ho => omega); (conv => whnf))
    | ((refine DApp.c rfl rfl rfl rfl rfl ?hb ?_); (case hb => first | exact bytes_bd (Nat.le_of_ble_eq_true rfl) (by omega) | omega); (conv => whnf))
    | ((refine DApp.d rfl rfl rfl rfl rfl rfl ?hb ?ho ?_); (case hb => first | exact bytes_bd (Nat.le_of_ble_eq_true rfl) (by omega) | omega); (case ho => omega); (conv => whnf))
    | ((with_reducible refine nil_no (by omega) ?_); (conv => whnf))
    | ((with_reducible refine nil_any ?_ (fun hn0 => ?_)) <;> (conv => whnf))
    
    | ((refine ways (fun hc => ?_) (fun hc => ?_)) <;> (try simp only [decide_eq_true_eq, decide_eq_false_iff_not, Bool.and_eq_true, Bool.or_eq_true, Bool.and_eq_false_iff, Bool.or_eq_false_iff, Bool.not_eq_true', Bool.not_eq_false', beq_iff_eq, bne_iff_ne, ne_eq, beq_eq_false_iff_ne, bne_eq_false_iff_eq, Bool.not_eq_true, Bool.not_eq_false] at hc) <;> (try (exfalso; omega)) <;> (conv => whnf))))
  · (refine FinLe.sealM ?_); (conv => whnf); (repeat' (first | exact trivial | exact Seal.any | exact Seal.d | exact Seal.ptrM rfl | exact Seal.slM rfl | exact Seal.sameM (by assumption) | exact Seal.lt0 (SV.Lt.of rfl) | exact Seal.sameM (SV.Lt.of rfl) | ((refine Seal.ptrN rfl rfl ?_); (conv => whnf)) | (refine Seal.le (Seal.sl (idxK_range_ge (Nat.le_of_ble_eq_true rfl)) rfl (by first | omega | simp)) ?_) | ((refine Seal.fn ?_); (conv => whnf)) | ((refine Seal.agg ?_); (conv => whnf)) | ((refine Seal.tup ?_); (conv => whnf)) | ((refine Seal.iref ?_); (conv => whnf)) | ((refine And.intro ?_ ?_) <;> (conv => whnf)) | exact Seal.le Seal.d SV.Le.nil))
    exact SV.Le.sl' (Nat.zero_add _) fun i hi => by simp [catF]
  · obtain rfl := List.eq_nil_of_length_eq_zero hn0
    (refine FinLe.sealM ?_); (conv => whnf); (repeat' (first | exact trivial | exact Seal.any | exact Seal.d | exact Seal.ptrM rfl | exact Seal.slM rfl | exact Seal.sameM (by assumption) | exact Seal.lt0 (SV.Lt.of rfl) | exact Seal.sameM (SV.Lt.of rfl) | ((refine Seal.ptrN rfl rfl ?_); (conv => whnf)) | (refine Seal.le (Seal.sl (idxK_range_ge (Nat.le_of_ble_eq_true rfl)) rfl (by first | omega | simp)) ?_) | ((refine Seal.fn ?_); (conv => whnf)) | ((refine Seal.agg ?_); (conv => whnf)) | ((refine Seal.tup ?_); (conv => whnf)) | ((refine Seal.iref ?_); (conv => whnf)) | ((refine And.intro ?_ ?_) <;> (conv => whnf)) | exact Seal.le Seal.d SV.Le.nil))
theorem dir_begin {g : Nat → SV} (q5 : ∀ j, SV.Lt 5 (g j)) (M : Dir.Mc) (nl : Nat) (f : Nat → List D) (clk cnt : Int) (who : Int) (op : Int) (key : List Int) (v : Int) (hk : key.length ≤ 16777216) : Fun TC 51 5 [.ptr 0 0, .i .i64 who, .i .u8 op, .d (slOf 1 (encI .u8) key), .i .i64 v] (dirH g M nl f clk cnt) 5 (cl who (.k0 ⟨op, key, v⟩)) (dirH g M nl f clk cnt) := by
  refine Fun.mk' Tryz.func51 rfl rfl (Nat.le_of_ble_eq_true rfl) (by decide) ?_
  (repeat' (first
    | with_reducible refine Wp.seq ?_
    | with_reducible refine Wp.block ?_
    | ((with_reducible refine Wp.region ?_); conv => whnf)
    | ((with_reducible refine Wp.drawL TC_mixed ?_); conv => whnf)
    | ((with_reducible refine Wp.cond ?_); conv => whnf)
    | ((with_reducible refine Wp.ret ?_); conv => whnf)
    | ((with_reducible refine Wp.skip ?_); conv => whnf)
    | ((with_reducible refine Wp.exit ?_); conv => whnf)
    | ((with_reducible refine Go.mk ?_); conv => whnf)
    | ((with_reducible apply Eff1.of); conv => whnf)
    | with_reducible exact rfl
    | ((with_reducible refine Ov.ok (by first | exact IntWalk.i64_in _ (by omega) | exact IntWalk.u64_in _ (by omega) | exact IntWalk.u8_in _ (by omega) | exact IntWalk.u32_in _ (by omega) | exact IntWalk.i32_in _ (by omega) | exact IntWalk.u16_in _ (by omega)) ?_); conv => whnf)
    | (with_reducible refine Ov.sh1 (by with_unfolding_all exact rfl) ?_)
    | ((with_reducible refine Ov.quo (by omega) (by omega) (by omega) (fun _ _ => ?_)); conv => whnf)
    | ((with_reducible refine And.intro (show drawOK _ _ _ _ = true by kernel_rfl) ?_); conv => whnf)
    | ((with_reducible refine And.intro (by first | omega | exact Nat.le_of_ble_eq_true rfl) ?_); conv => whnf)
    | ((with_reducible refine And.intro ?hb ?_); (case hb => exact bytes_bd (Nat.le_of_ble_eq_true rfl) (by omega)); (conv => whnf))
    | ((refine DApp.a rfl rfl rfl rfl rfl rfl ?hb ?_); (case hb => first | exact bytes_bd (Nat.le_of_ble_eq_true rfl) (by omega) | omega); (conv => whnf))
    | ((refine DApp.b rfl rfl rfl rfl rfl rfl rfl rfl ?hb ?ho ?_); (case hb => first | exact bytes_bd (Nat.le_of_ble_eq_true rfl) (by omega) | omega); (case ho => omega); (conv => whnf))
    | ((refine DApp.c rfl rfl rfl rfl rfl ?hb ?_); (case hb => first | exact bytes_bd (Nat.le_of_ble_eq_true rfl) (by omega) | omega); (conv => whnf))
    | ((refine DApp.d rfl rfl rfl rfl rfl rfl ?hb ?ho ?_); (case hb => first | exact bytes_bd (Nat.le_of_ble_eq_true rfl) (by omega) | omega); (case ho => omega); (conv => whnf))
    | ((with_reducible refine nil_no (by omega) ?_); (conv => whnf))
    | ((with_reducible refine nil_any ?_ (fun hn0 => ?_)) <;> (conv => whnf))
    | ((with_reducible refine At.mk' 0 rfl ?_); conv => whnf)
    | ((with_reducible refine CallStop.pure (hash_Sum _) rfl rfl ?_); conv => whnf) | ((with_reducible refine DCall.pure (hash_Sum _) rfl rfl ?_); conv => whnf)
    | ((with_reducible refine DCall.funM (find_any _ _ _ _ (by exact SV.Lt.of rfl)) rfl rfl ?_); conv => whnf) | ((with_reducible refine DCall.funM (enter_any _ _ _ _ _ (by exact SV.Lt.of rfl)) rfl rfl ?_); conv => whnf) | ((with_reducible refine DCall.funM (freeze_any _ _ _ _ (by exact SV.Lt.of rfl)) rfl rfl ?_); conv => whnf) | ((with_reducible refine DCall.funM (half_any _ _ (by omega) _ _ _ _ (by exact SV.Lt.of rfl)) rfl rfl ?_); conv => whnf) | ((with_reducible refine DCall.funM (split_c _) rfl rfl ?_); conv => whnf) | ((with_reducible refine CallStop.funM (find_any _ _ _ _ (by exact SV.Lt.of rfl)) rfl rfl ?_); conv => whnf) | ((with_reducible refine CallStop.funM (enter_any _ _ _ _ _ (by exact SV.Lt.of rfl)) rfl rfl ?_); conv => whnf) | ((with_reducible refine CallStop.funM (freeze_any _ _ _ _ (by exact SV.Lt.of rfl)) rfl rfl ?_); conv => whnf) | ((with_reducible refine CallStop.funM (half_any _ _ (by omega) _ _ _ _ (by exact SV.Lt.of rfl)) rfl rfl ?_); conv => whnf) | ((with_reducible refine CallStop.funM (split_c _) rfl rfl ?_); conv => whnf)
    | ((refine ways (fun hc => ?_) (fun hc => ?_)) <;> (try simp only [decide_eq_true_eq, decide_eq_false_iff_not, Bool.and_eq_true, Bool.or_eq_true, Bool.and_eq_false_iff, Bool.or_eq_false_iff, Bool.not_eq_true', Bool.not_eq_false', beq_iff_eq, bne_iff_ne, ne_eq, beq_eq_false_iff_ne, bne_eq_false_iff_eq, Bool.not_eq_true, Bool.not_eq_false] at hc) <;> (try (exfalso; omega)) <;> (conv => whnf))))
  (refine FinLe.sealB [0,1,2,3,4] rfl rfl rfl ?_ ?_); (focus ((conv => whnf); (repeat' (first | exact trivial | exact Seal.any | exact Seal.d | exact Seal.ptrL rfl | exact Seal.slL rfl | exact Seal.lt0 (SV.Lt.of rfl) | exact Seal.same (by assumption) (Nat.le_of_ble_eq_true rfl) (fun i hi => id5 hi) | exact Seal.le Seal.d (SV.Le.i (by omega)) | exact ⟨rfl, rfl, rfl⟩ | exact ⟨rfl, Nat.le_of_ble_eq_true rfl⟩ | exact dir_seal (by assumption) | exact dir_sealR (by assumption) (fun l hl => by rcases l with _ | _ | _ | _ | _ | l <;> first | rfl | omega) | exact fun i hi => DLes.refl _ | ((refine Seal.ptr rfl rfl ?_); (conv => whnf)) | ((refine Seal.fn ?_); (conv => whnf)) | ((refine Seal.agg ?_); (conv => whnf)) | ((refine Seal.tup ?_); (conv => whnf)) | ((refine Seal.iref ?_); (conv => whnf)) | ((refine And.intro ?_ ?_) <;> (conv => whnf)) | exact Seal.le Seal.d SV.Le.nil | exact Seal.le (Seal.sl rfl rfl (by omega)) (SV.Le.sl fun i hi => by simp only [Nat.zero_add]))))); (focus ((conv => whnf); (repeat' (first | exact trivial | exact Seal.any | exact Seal.d | exact Seal.ptrL rfl | exact Seal.slL rfl | exact Seal.lt0 (SV.Lt.of rfl) | exact Seal.same (by assumption) (Nat.le_of_ble_eq_true rfl) (fun i hi => id5 hi) | exact Seal.le Seal.d (SV.Le.i (by omega)) | exact ⟨rfl, rfl, rfl⟩ | exact ⟨rfl, Nat.le_of_ble_eq_true rfl⟩ | exact dir_seal (by assumption) | exact dir_sealR (by assumption) (fun l hl => by rcases l with _ | _ | _ | _ | _ | l <;> first | rfl | omega) | exact fun i hi => DLes.refl _ | ((refine Seal.ptr rfl rfl ?_); (conv => whnf)) | ((refine Seal.fn ?_); (conv => whnf)) | ((refine Seal.agg ?_); (conv => whnf)) | ((refine Seal.tup ?_); (conv => whnf)) | ((refine Seal.iref ?_); (conv => whnf)) | ((refine And.intro ?_ ?_) <;> (conv => whnf)) | exact Seal.le Seal.d SV.Le.nil | exact Seal.le (Seal.sl rfl rfl (by omega)) (SV.Le.sl fun i hi => by simp only [Nat.zero_add])))))
def startS (op : Int) (key : List Int) (v : Int) : Dir.CS := if op = 4 then .s0 else .k0 ⟨op, key, v⟩
theorem dir_sealV {S : St} {g : Nat → SV} (hg : ∀ j, SV.Lt 5 (g j)) {L : List Nat} {w : Nat} {x x' : SV} (hx : SV.Lt 5 x) (he : x' = x) :
    ∀ j, j < 65 → Seal S (0 :: 1 :: 2 :: 3 :: 4 :: L) (bif Nat.beq j (w + 1) then x' else dirF g j) (dirF (Dir.upd g w x) j) ∧ SV.Lt 5 (dirF (Dir.upd g w x) j) := by
  intro j hj
  have := dir_sealU (S := S) hg (L := L) (w := w) hx (π := id) (fun _ _ => rfl) he j hj
  rwa [ren_id (m := 5) (π := id) (fun _ _ => rfl) (dirF_lt hg j)] at this
theorem dir_Start {g : Nat → SV} (q5 : ∀ j, SV.Lt 5 (g j)) {M : Dir.Mc} {nl : Nat} {f : Nat → List D} {clk cnt : Int} (w : Nat) (hw : w < 64) (op : Int) (key : List Int) (v : Int) (ho : 1 ≤ op) (ho4 : op ≤ 4) (hk : key.length ≤ 256) (hv : tickB v = true) (hg : g w = nilF) :
    Fun TC 18 5 [.ptr 0 0, .i .i64 w, .i .u8 op, .d (slOf 1 (encI .u8) key), .i .i64 v] (dirH g M nl f clk cnt) 5 (.i .i64 0) (dirH (Dir.upd g w (cl w (startS op key v))) M nl f clk cnt) := by
  have hg2 : dirF g (w + 1) = nilF := hg
  have hT := tick_Form v
  rw [hv] at hT
  have hB := dir_begin q5 M nl f clk cnt w op key v (by omega)
  have hC := bytes_CloneD key (by omega)
  have ltK := cl_lt (w : Int) (.k0 ⟨op, key, v⟩)
  refine Fun.mk' Tryz.func18 rfl rfl (Nat.le_of_ble_eq_true rfl) (by decide) ?_
  (repeat' (first
    | with_reducible refine Wp.seq ?_
    | with_reducible refine Wp.block ?_
    | ((with_reducible refine Wp.region ?_); conv => whnf)
    | ((with_reducible refine Wp.drawL TC_mixed ?_); conv => whnf)
    | ((with_reducible refine Wp.cond ?_); conv => whnf)
    | ((with_reducible refine Wp.ret ?_); conv => whnf)
    | ((with_reducible refine Wp.skip ?_); conv => whnf)
    | ((with_reducible refine Wp.exit ?_); conv => whnf)
    | ((with_reducible refine Go.mk ?_); conv => whnf)
    | ((with_reducible apply Eff1.of); conv => whnf)
    | with_reducible exact rfl
    | ((with_reducible refine Ov.ok (by first | exact IntWalk.i64_in _ (by omega) | exact IntWalk.u64_in _ (by omega) | exact IntWalk.u8_in _ (by omega) | exact IntWalk.u32_in _ (by omega) | exact IntWalk.i32_in _ (by omega) | exact IntWalk.u16_in _ (by omega)) ?_); conv => whnf)
    | (with_reducible refine Ov.sh1 (by with_unfolding_all exact rfl) ?_)
    | ((with_reducible refine Ov.quo (by omega) (by omega) (by omega) (fun _ _ => ?_)); conv => whnf)
    | ((with_reducible refine And.intro (show drawOK _ _ _ _ = true by kernel_rfl) ?_); conv => whnf)
    | ((with_reducible refine And.intro (by first | omega | exact Nat.le_of_ble_eq_true rfl) ?_); conv => whnf)
    | ((with_reducible refine And.intro ?hb ?_); (case hb => exact bytes_bd (Nat.le_of_ble_eq_true rfl) (by omega)); (conv => whnf))
    | ((refine DApp.a rfl rfl rfl rfl rfl rfl ?hb ?_); (case hb => first | exact bytes_bd (Nat.le_of_ble_eq_true rfl) (by omega) | omega); (conv => whnf))
    | ((refine DApp.b rfl rfl rfl rfl rfl rfl rfl rfl ?hb ?ho ?_); (case hb => first | exact bytes_bd (Nat.le_of_ble_eq_true rfl) (by omega) | omega); (case ho => omega); (conv => whnf))
    | ((refine DApp.c rfl rfl rfl rfl rfl ?hb ?_); (case hb => first | exact bytes_bd (Nat.le_of_ble_eq_true rfl) (by omega) | omega); (conv => whnf))
    | ((refine DApp.d rfl rfl rfl rfl rfl rfl ?hb ?ho ?_); (case hb => first | exact bytes_bd (Nat.le_of_ble_eq_true rfl) (by omega) | omega); (case ho => omega); (conv => whnf))
    | ((with_reducible refine nil_no (by omega) ?_); (conv => whnf))
    | ((with_reducible refine nil_any ?_ (fun hn0 => ?_)) <;> (conv => whnf))
    | ((with_reducible refine CallStop.pure (board_Is _) rfl rfl ?_); conv => whnf) | ((with_reducible refine DCall.pure (board_Is _) rfl rfl ?_); conv => whnf)
    | ((with_reducible refine CallStop.pure (hT) rfl rfl ?_); conv => whnf) | ((with_reducible refine DCall.pure (hT) rfl rfl ?_); conv => whnf)
    | ((refine At.mk' (w + 1) (by show 1 + ((w : Nat) : Int).toNat * 1 = w + 1; omega) ?_); (refine And.intro (by omega) ?_); (rw [hg2]); (conv => whnf))
    | ((with_reducible refine At.mk' 0 rfl ?_); conv => whnf)
    | ((with_reducible refine DCall.funM hC rfl rfl ?_); conv => whnf)
    | ((with_reducible refine DCall.funM (find_any _ _ _ _ (by exact SV.Lt.of rfl)) rfl rfl ?_); conv => whnf) | ((with_reducible refine DCall.funM (enter_any _ _ _ _ _ (by exact SV.Lt.of rfl)) rfl rfl ?_); conv => whnf) | ((with_reducible refine DCall.funM (freeze_any _ _ _ _ (by exact SV.Lt.of rfl)) rfl rfl ?_); conv => whnf) | ((with_reducible refine DCall.funM (half_any _ _ (by omega) _ _ _ _ (by exact SV.Lt.of rfl)) rfl rfl ?_); conv => whnf) | ((with_reducible refine DCall.funM (split_c _) rfl rfl ?_); conv => whnf) | ((with_reducible refine CallStop.funM (find_any _ _ _ _ (by exact SV.Lt.of rfl)) rfl rfl ?_); conv => whnf) | ((with_reducible refine CallStop.funM (enter_any _ _ _ _ _ (by exact SV.Lt.of rfl)) rfl rfl ?_); conv => whnf) | ((with_reducible refine CallStop.funM (freeze_any _ _ _ _ (by exact SV.Lt.of rfl)) rfl rfl ?_); conv => whnf) | ((with_reducible refine CallStop.funM (half_any _ _ (by omega) _ _ _ _ (by exact SV.Lt.of rfl)) rfl rfl ?_); conv => whnf) | ((with_reducible refine CallStop.funM (split_c _) rfl rfl ?_); conv => whnf)
    | ((refine CallStop.fn (hB) [0,1,2,3,4] rfl rfl rfl rfl rfl ?ha ?hh ?_); (case ha => ((conv => whnf); repeat' (first | exact trivial | exact ArgLe.rfl rfl | exact ArgLe.ptr rfl | exact ArgLe.sl rfl | ((with_reducible refine ArgLe.fn ?_); (conv => whnf)) | ((refine ArgLe.iref ?_); (conv => whnf)) | exact ArgLe.free SV.Le.nil rfl | ((with_reducible refine And.intro ?_ ?_) <;> (conv => whnf)) | ((refine ArgLe.free ?_ rfl); (repeat' (first | exact SV.Le.rfl _ | exact SV.Le.nil | exact SV.Le.sl (fun i hi => by (rcases i with _ | _ | _ | _ | i) <;> first | rfl | (exfalso; omega)) | with_reducible refine SV.Le.agg ?_ | exact Les.nil | with_reducible refine Les.cons ?_ ?_)))))); (case hh => ((conv => whnf); repeat' (first | exact trivial | exact ArgLe.rfl rfl | exact ArgLe.ptr rfl | exact ArgLe.sl rfl | exact ⟨rfl, rfl, rfl⟩ | exact ⟨rfl, Nat.le_of_ble_eq_true rfl⟩ | exact dir_arg (by assumption) | exact dir_argR (by assumption) (fun l hl => by rcases l with _ | _ | _ | _ | _ | l <;> first | rfl | omega) | exact fun i hi => rfl | ((with_reducible refine And.intro ?_ ?_) <;> (conv => whnf))))); (conv => whnf))
    | ((refine DCall.fn (hB) [0,1,2,3,4] [1,2,3,4] rfl rfl rfl rfl rfl ?ha ?hh ?hs ?_); (case ha => ((conv => whnf); repeat' (first | exact trivial | exact ArgLe.rfl rfl | exact ArgLe.ptr rfl | exact ArgLe.sl rfl | ((with_reducible refine ArgLe.fn ?_); (conv => whnf)) | ((refine ArgLe.iref ?_); (conv => whnf)) | exact ArgLe.free SV.Le.nil rfl | ((with_reducible refine And.intro ?_ ?_) <;> (conv => whnf)) | ((refine ArgLe.free ?_ rfl); (repeat' (first | exact SV.Le.rfl _ | exact SV.Le.nil | exact SV.Le.sl (fun i hi => by (rcases i with _ | _ | _ | _ | i) <;> first | rfl | (exfalso; omega)) | with_reducible refine SV.Le.agg ?_ | exact Les.nil | with_reducible refine Les.cons ?_ ?_)))))); (case hh => ((conv => whnf); repeat' (first | exact trivial | exact ArgLe.rfl rfl | exact ArgLe.ptr rfl | exact ArgLe.sl rfl | exact ⟨rfl, rfl, rfl⟩ | exact ⟨rfl, Nat.le_of_ble_eq_true rfl⟩ | exact dir_arg (by assumption) | exact dir_argR (by assumption) (fun l hl => by rcases l with _ | _ | _ | _ | _ | l <;> first | rfl | omega) | exact fun i hi => rfl | ((with_reducible refine And.intro ?_ ?_) <;> (conv => whnf))))); (case hs => (conv => whnf); repeat' (first | exact trivial | ((refine And.intro rfl ?_); (conv => whnf)))); (conv => whnf)) | ((refine DCall.new (hB) [0,1,2,3,4] [1,2,3,4] rfl rfl rfl rfl rfl rfl ?ha ?hh ?hs ?_); (case ha => ((conv => whnf); repeat' (first | exact trivial | exact ArgLe.rfl rfl | exact ArgLe.ptr rfl | exact ArgLe.sl rfl | ((with_reducible refine ArgLe.fn ?_); (conv => whnf)) | ((refine ArgLe.iref ?_); (conv => whnf)) | exact ArgLe.free SV.Le.nil rfl | ((with_reducible refine And.intro ?_ ?_) <;> (conv => whnf)) | ((refine ArgLe.free ?_ rfl); (repeat' (first | exact SV.Le.rfl _ | exact SV.Le.nil | exact SV.Le.sl (fun i hi => by (rcases i with _ | _ | _ | _ | i) <;> first | rfl | (exfalso; omega)) | with_reducible refine SV.Le.agg ?_ | exact Les.nil | with_reducible refine Les.cons ?_ ?_)))))); (case hh => ((conv => whnf); repeat' (first | exact trivial | exact ArgLe.rfl rfl | exact ArgLe.ptr rfl | exact ArgLe.sl rfl | exact ⟨rfl, rfl, rfl⟩ | exact ⟨rfl, Nat.le_of_ble_eq_true rfl⟩ | exact dir_arg (by assumption) | exact dir_argR (by assumption) (fun l hl => by rcases l with _ | _ | _ | _ | _ | l <;> first | rfl | omega) | exact fun i hi => rfl | ((with_reducible refine And.intro ?_ ?_) <;> (conv => whnf))))); (case hs => (conv => whnf); repeat' (first | exact trivial | ((refine And.intro rfl ?_); (conv => whnf)))); (conv => whnf))
    | ((refine And.intro (by first | exact .of rfl | exact lt_renL ltK (fun l hl => by rcases l with _ | _ | _ | _ | _ | l <;> first | rfl | omega) rfl) ?_); conv => whnf)
    | ((refine At.mk' (w + 1) (by show 1 + ((w : Nat) : Int).toNat * 1 = w + 1; omega) ?_); (refine And.intro (by omega) ?_); conv => whnf)
    | ((refine ways (fun hc => ?_) (fun hc => ?_)) <;> (try simp only [decide_eq_true_eq, decide_eq_false_iff_not, Bool.and_eq_true, Bool.or_eq_true, Bool.and_eq_false_iff, Bool.or_eq_false_iff, Bool.not_eq_true', Bool.not_eq_false', beq_iff_eq, bne_iff_ne, ne_eq, beq_eq_false_iff_ne, bne_eq_false_iff_eq, Bool.not_eq_true, Bool.not_eq_false] at hc) <;> (try (exfalso; omega)) <;> (conv => whnf))))
  all_goals first
    | rw [show startS op key v = .s0 from if_pos (by omega)]
    | rw [show startS op key v = .k0 ⟨op, key, v⟩ from if_neg (by omega)]
  all_goals
    (refine FinLe.sealB [0, 1, 2, 3, 4] rfl rfl rfl ?_ ?_); (focus ((conv => whnf); (repeat' (first | exact trivial | exact Seal.any | exact Seal.d | exact Seal.ptrL rfl | exact Seal.slL rfl | exact Seal.lt0 (SV.Lt.of rfl) | exact Seal.same (by assumption) (Nat.le_of_ble_eq_true rfl) (fun i hi => id5 hi) | exact Seal.le Seal.d (SV.Le.i (by omega)) | exact ⟨rfl, rfl, rfl⟩ | exact ⟨rfl, Nat.le_of_ble_eq_true rfl⟩ | exact dir_seal (by assumption) | exact dir_sealR (by assumption) (fun l hl => by rcases l with _ | _ | _ | _ | _ | l <;> first | rfl | omega) | exact fun i hi => DLes.refl _ | ((refine Seal.ptr rfl rfl ?_); (conv => whnf)) | ((refine Seal.fn ?_); (conv => whnf)) | ((refine Seal.agg ?_); (conv => whnf)) | ((refine Seal.tup ?_); (conv => whnf)) | ((refine Seal.iref ?_); (conv => whnf)) | ((refine And.intro ?_ ?_) <;> (conv => whnf)) | exact Seal.le Seal.d SV.Le.nil | exact Seal.le (Seal.sl rfl rfl (by omega)) (SV.Le.sl fun i hi => by simp only [Nat.zero_add]))))); (focus ((conv => whnf); (repeat' (first | exact trivial | exact Seal.any | exact Seal.d | exact Seal.ptrL rfl | exact Seal.slL rfl | exact Seal.lt0 (SV.Lt.of rfl) | exact Seal.same (by assumption) (Nat.le_of_ble_eq_true rfl) (fun i hi => id5 hi) | exact Seal.le Seal.d (SV.Le.i (by omega)) | exact ⟨rfl, rfl, rfl⟩ | exact ⟨rfl, Nat.le_of_ble_eq_true rfl⟩ | exact dir_seal (by assumption) | exact dir_sealR (by assumption) (fun l hl => by rcases l with _ | _ | _ | _ | _ | l <;> first | rfl | omega) | exact fun i hi => DLes.refl _ | ((refine Seal.ptr rfl rfl ?_); (conv => whnf)) | ((refine Seal.fn ?_); (conv => whnf)) | ((refine Seal.agg ?_); (conv => whnf)) | ((refine Seal.tup ?_); (conv => whnf)) | ((refine Seal.iref ?_); (conv => whnf)) | ((refine And.intro ?_ ?_) <;> (conv => whnf)) | exact Seal.le Seal.d SV.Le.nil | exact Seal.le (Seal.sl rfl rfl (by omega)) (SV.Le.sl fun i hi => by simp only [Nat.zero_add])))))
    all_goals first
      | exact dir_sealU q5 (cl_lt _ _) (fun l hl => by rcases l with _ | _ | _ | _ | _ | l <;> first | rfl | omega) rfl
      | exact dir_sealU q5 (cl_lt _ _) (fun l hl => by rcases l with _ | _ | _ | _ | _ | l <;> first | rfl | omega) (renL_fn ltK (fun l hl => by rcases l with _ | _ | _ | _ | _ | l <;> first | rfl | omega))
      | exact dir_sealV q5 (cl_lt _ _) rfl
end Go.Proofs.YtbdclkjelhlfbaaGreat

namespace Go.Proofs.YtbdclkjelhlfbaaGreat
open Go.RowKit
set_option maxRecDepth 100000
theorem mach_NewF : Fun TC 121 0 [.i .i64 32] [] 3 (.tup [.ptr 0 0, .i .i64 0]) [(0, some (machB 1 2 32 0 0 0)), (1, some (wordB 32 fun _ => 0)), (2, some (lastB 0 fun _ => []))] := by
  refine Fun.mk' Tryz.func121 rfl rfl (Nat.le_of_ble_eq_true rfl) (by decide) ?_
  (repeat' (first
    | with_reducible refine Wp.seq ?_
    | with_reducible refine Wp.block ?_
    | ((with_reducible refine Wp.region ?_); conv => whnf)
    | ((with_reducible refine Wp.drawL TC_mixed ?_); conv => whnf)
    | ((with_reducible refine Wp.cond ?_); conv => whnf)
    | ((with_reducible refine Wp.ret ?_); conv => whnf)
    | ((with_reducible refine Wp.skip ?_); conv => whnf)
    | ((with_reducible refine Wp.exit ?_); conv => whnf)
    | ((with_reducible refine Go.mk ?_); conv => whnf)
    | ((with_reducible apply Eff1.of); conv => whnf)
    | with_reducible exact rfl
    | ((with_reducible refine Ov.ok (by first | exact IntWalk.i64_in _ (by omega) | exact IntWalk.u64_in _ (by omega) | exact IntWalk.u8_in _ (by omega) | exact IntWalk.u32_in _ (by omega) | exact IntWalk.i32_in _ (by omega) | exact IntWalk.u16_in _ (by omega)) ?_); conv => whnf)
    | (with_reducible refine Ov.sh1 (by with_unfolding_all exact rfl) ?_)
    | ((with_reducible refine Ov.quo (by omega) (by omega) (by omega) (fun _ _ => ?_)); conv => whnf)
    | ((with_reducible refine And.intro (show drawOK _ _ _ _ = true by kernel_rfl) ?_); conv => whnf)
    | ((with_reducible refine And.intro (by first | omega | exact Nat.le_of_ble_eq_true rfl) ?_); conv => whnf)
    | ((with_reducible refine And.intro ?hb ?_); (case hb => exact bytes_bd (Nat.le_of_ble_eq_true rfl) (by omega)); (conv => whnf))
    | ((refine DApp.a rfl rfl rfl rfl rfl rfl ?hb ?_); (case hb => first | exact bytes_bd (Nat.le_of_ble_eq_true rfl) (by omega) | omega); (conv => whnf))
    | ((refine DApp.b rfl rfl rfl rfl rfl rfl rfl rfl ?hb ?ho ?_); (case hb => first | exact bytes_bd (Nat.le_of_ble_eq_true rfl) (by omega) | omega); (case ho => omega); (conv => whnf))
    | ((refine DApp.c rfl rfl rfl rfl rfl ?hb ?_); (case hb => first | exact bytes_bd (Nat.le_of_ble_eq_true rfl) (by omega) | omega); (conv => whnf))
    | ((refine DApp.d rfl rfl rfl rfl rfl rfl ?hb ?ho ?_); (case hb => first | exact bytes_bd (Nat.le_of_ble_eq_true rfl) (by omega) | omega); (case ho => omega); (conv => whnf))
    | ((with_reducible refine nil_no (by omega) ?_); (conv => whnf))
    | ((with_reducible refine nil_any ?_ (fun hn0 => ?_)) <;> (conv => whnf))
    
    | ((refine ways (fun hc => ?_) (fun hc => ?_)) <;> (try simp only [decide_eq_true_eq, decide_eq_false_iff_not, Bool.and_eq_true, Bool.or_eq_true, Bool.and_eq_false_iff, Bool.or_eq_false_iff, Bool.not_eq_true', Bool.not_eq_false', beq_iff_eq, bne_iff_ne, ne_eq, beq_eq_false_iff_ne, bne_eq_false_iff_eq, Bool.not_eq_true, Bool.not_eq_false] at hc) <;> (try (exfalso; omega)) <;> (conv => whnf))))
  refine FinLe.virtC 1 3 274 6 (fun _ => []) (by decide) rfl rfl (by decide) ?_
  (refine FinLe.sealB [1,0,2] rfl rfl rfl ?_ ?_); (focus ((conv => whnf); (repeat' (first | exact trivial | exact Seal.any | exact Seal.d | exact Seal.ptrL rfl | exact Seal.slL rfl | exact Seal.lt0 (SV.Lt.of rfl) | exact Seal.same (by assumption) (Nat.le_of_ble_eq_true rfl) (fun i hi => id5 hi) | exact Seal.le Seal.d (SV.Le.i (by omega)) | exact ⟨rfl, rfl, rfl⟩ | exact ⟨rfl, Nat.le_of_ble_eq_true rfl⟩ | exact dir_seal (by assumption) | exact dir_sealR (by assumption) (fun l hl => by rcases l with _ | _ | _ | _ | _ | l <;> first | rfl | omega) | exact fun i hi => DLes.refl _ | ((refine Seal.ptr rfl rfl ?_); (conv => whnf)) | ((refine Seal.fn ?_); (conv => whnf)) | ((refine Seal.agg ?_); (conv => whnf)) | ((refine Seal.tup ?_); (conv => whnf)) | ((refine Seal.iref ?_); (conv => whnf)) | ((refine And.intro ?_ ?_) <;> (conv => whnf)) | exact Seal.le Seal.d SV.Le.nil | exact Seal.le (Seal.sl rfl rfl (by omega)) (SV.Le.sl fun i hi => by simp only [Nat.zero_add]))))); (focus ((conv => whnf); (repeat' (first | exact trivial | exact Seal.any | exact Seal.d | exact Seal.ptrL rfl | exact Seal.slL rfl | exact Seal.lt0 (SV.Lt.of rfl) | exact Seal.same (by assumption) (Nat.le_of_ble_eq_true rfl) (fun i hi => id5 hi) | exact Seal.le Seal.d (SV.Le.i (by omega)) | exact ⟨rfl, rfl, rfl⟩ | exact ⟨rfl, Nat.le_of_ble_eq_true rfl⟩ | exact dir_seal (by assumption) | exact dir_sealR (by assumption) (fun l hl => by rcases l with _ | _ | _ | _ | _ | l <;> first | rfl | omega) | exact fun i hi => DLes.refl _ | ((refine Seal.ptr rfl rfl ?_); (conv => whnf)) | ((refine Seal.fn ?_); (conv => whnf)) | ((refine Seal.agg ?_); (conv => whnf)) | ((refine Seal.tup ?_); (conv => whnf)) | ((refine Seal.iref ?_); (conv => whnf)) | ((refine And.intro ?_ ?_) <;> (conv => whnf)) | exact Seal.le Seal.d SV.Le.nil | exact Seal.le (Seal.sl rfl rfl (by omega)) (SV.Le.sl fun i hi => by simp only [Nat.zero_add])))))
theorem board_NewF : Fun TC 81 0 [.i .i64 32] [] 4 (boardS 0 2) [(0, some (machB 1 3 32 0 0 0)), (1, some (wordB 32 fun _ => 0)), (2, some (holdB fun _ => [])), (3, some (lastB 0 fun _ => []))] := by
  refine Fun.mk' Tryz.func81 rfl rfl (Nat.le_of_ble_eq_true rfl) (by decide) ?_
  (repeat' (first
    | with_reducible refine Wp.seq ?_
    | with_reducible refine Wp.block ?_
    | ((with_reducible refine Wp.region ?_); conv => whnf)
    | ((with_reducible refine Wp.drawL TC_mixed ?_); conv => whnf)
    | ((with_reducible refine Wp.cond ?_); conv => whnf)
    | ((with_reducible refine Wp.ret ?_); conv => whnf)
    | ((with_reducible refine Wp.skip ?_); conv => whnf)
    | ((with_reducible refine Wp.exit ?_); conv => whnf)
    | ((with_reducible refine Go.mk ?_); conv => whnf)
    | ((with_reducible apply Eff1.of); conv => whnf)
    | with_reducible exact rfl
    | ((with_reducible refine Ov.ok (by first | exact IntWalk.i64_in _ (by omega) | exact IntWalk.u64_in _ (by omega) | exact IntWalk.u8_in _ (by omega) | exact IntWalk.u32_in _ (by omega) | exact IntWalk.i32_in _ (by omega) | exact IntWalk.u16_in _ (by omega)) ?_); conv => whnf)
    | (with_reducible refine Ov.sh1 (by with_unfolding_all exact rfl) ?_)
    | ((with_reducible refine Ov.quo (by omega) (by omega) (by omega) (fun _ _ => ?_)); conv => whnf)
    | ((with_reducible refine And.intro (show drawOK _ _ _ _ = true by kernel_rfl) ?_); conv => whnf)
    | ((with_reducible refine And.intro (by first | omega | exact Nat.le_of_ble_eq_true rfl) ?_); conv => whnf)
    | ((with_reducible refine And.intro ?hb ?_); (case hb => exact bytes_bd (Nat.le_of_ble_eq_true rfl) (by omega)); (conv => whnf))
    | ((refine DApp.a rfl rfl rfl rfl rfl rfl ?hb ?_); (case hb => first | exact bytes_bd (Nat.le_of_ble_eq_true rfl) (by omega) | omega); (conv => whnf))
    | ((refine DApp.b rfl rfl rfl rfl rfl rfl rfl rfl ?hb ?ho ?_); (case hb => first | exact bytes_bd (Nat.le_of_ble_eq_true rfl) (by omega) | omega); (case ho => omega); (conv => whnf))
    | ((refine DApp.c rfl rfl rfl rfl rfl ?hb ?_); (case hb => first | exact bytes_bd (Nat.le_of_ble_eq_true rfl) (by omega) | omega); (conv => whnf))
    | ((refine DApp.d rfl rfl rfl rfl rfl rfl ?hb ?ho ?_); (case hb => first | exact bytes_bd (Nat.le_of_ble_eq_true rfl) (by omega) | omega); (case ho => omega); (conv => whnf))
    | ((with_reducible refine nil_no (by omega) ?_); (conv => whnf))
    | ((with_reducible refine nil_any ?_ (fun hn0 => ?_)) <;> (conv => whnf))
    | ((refine CallStop.fn (mach_NewF) [] rfl rfl rfl rfl rfl ?ha ?hh ?_); (case ha => ((conv => whnf); repeat' (first | exact trivial | exact ArgLe.rfl rfl | exact ArgLe.ptr rfl | exact ArgLe.sl rfl | ((with_reducible refine ArgLe.fn ?_); (conv => whnf)) | ((refine ArgLe.iref ?_); (conv => whnf)) | exact ArgLe.free SV.Le.nil rfl | ((with_reducible refine And.intro ?_ ?_) <;> (conv => whnf)) | ((refine ArgLe.free ?_ rfl); (repeat' (first | exact SV.Le.rfl _ | exact SV.Le.nil | exact SV.Le.sl (fun i hi => by (rcases i with _ | _ | _ | _ | i) <;> first | rfl | (exfalso; omega)) | with_reducible refine SV.Le.agg ?_ | exact Les.nil | with_reducible refine Les.cons ?_ ?_)))))); (case hh => ((conv => whnf); repeat' (first | exact trivial | exact ArgLe.rfl rfl | exact ArgLe.ptr rfl | exact ArgLe.sl rfl | ((with_reducible refine ArgLe.fn ?_); (conv => whnf)) | ((refine ArgLe.iref ?_); (conv => whnf)) | exact ArgLe.free SV.Le.nil rfl | exact ⟨rfl, rfl, rfl⟩ | exact fun i hi => rfl | exact (fun i hi => by (rcases i with _ | i) <;> first | rfl | (exfalso; omega)) | ((with_reducible refine And.intro ?_ ?_) <;> (conv => whnf))))); (conv => whnf))
    | ((refine DCall.fn (mach_NewF) [] [] rfl rfl rfl rfl rfl ?ha ?hh ?hs ?_); (case ha => ((conv => whnf); repeat' (first | exact trivial | exact ArgLe.rfl rfl | exact ArgLe.ptr rfl | exact ArgLe.sl rfl | ((with_reducible refine ArgLe.fn ?_); (conv => whnf)) | ((refine ArgLe.iref ?_); (conv => whnf)) | exact ArgLe.free SV.Le.nil rfl | ((with_reducible refine And.intro ?_ ?_) <;> (conv => whnf)) | ((refine ArgLe.free ?_ rfl); (repeat' (first | exact SV.Le.rfl _ | exact SV.Le.nil | exact SV.Le.sl (fun i hi => by (rcases i with _ | _ | _ | _ | i) <;> first | rfl | (exfalso; omega)) | with_reducible refine SV.Le.agg ?_ | exact Les.nil | with_reducible refine Les.cons ?_ ?_)))))); (case hh => ((conv => whnf); repeat' (first | exact trivial | exact ArgLe.rfl rfl | exact ArgLe.ptr rfl | exact ArgLe.sl rfl | ((with_reducible refine ArgLe.fn ?_); (conv => whnf)) | ((refine ArgLe.iref ?_); (conv => whnf)) | exact ArgLe.free SV.Le.nil rfl | exact ⟨rfl, rfl, rfl⟩ | exact fun i hi => rfl | exact (fun i hi => by (rcases i with _ | i) <;> first | rfl | (exfalso; omega)) | ((with_reducible refine And.intro ?_ ?_) <;> (conv => whnf))))); (case hs => (conv => whnf); repeat' (first | exact trivial | ((refine And.intro rfl ?_); (conv => whnf)))); (conv => whnf)) | ((refine DCall.new (mach_NewF) [] [] rfl rfl rfl rfl rfl rfl ?ha ?hh ?hs ?_); (case ha => ((conv => whnf); repeat' (first | exact trivial | exact ArgLe.rfl rfl | exact ArgLe.ptr rfl | exact ArgLe.sl rfl | ((with_reducible refine ArgLe.fn ?_); (conv => whnf)) | ((refine ArgLe.iref ?_); (conv => whnf)) | exact ArgLe.free SV.Le.nil rfl | ((with_reducible refine And.intro ?_ ?_) <;> (conv => whnf)) | ((refine ArgLe.free ?_ rfl); (repeat' (first | exact SV.Le.rfl _ | exact SV.Le.nil | exact SV.Le.sl (fun i hi => by (rcases i with _ | _ | _ | _ | i) <;> first | rfl | (exfalso; omega)) | with_reducible refine SV.Le.agg ?_ | exact Les.nil | with_reducible refine Les.cons ?_ ?_)))))); (case hh => ((conv => whnf); repeat' (first | exact trivial | exact ArgLe.rfl rfl | exact ArgLe.ptr rfl | exact ArgLe.sl rfl | ((with_reducible refine ArgLe.fn ?_); (conv => whnf)) | ((refine ArgLe.iref ?_); (conv => whnf)) | exact ArgLe.free SV.Le.nil rfl | exact ⟨rfl, rfl, rfl⟩ | exact fun i hi => rfl | exact (fun i hi => by (rcases i with _ | i) <;> first | rfl | (exfalso; omega)) | ((with_reducible refine And.intro ?_ ?_) <;> (conv => whnf))))); (case hs => (conv => whnf); repeat' (first | exact trivial | ((refine And.intro rfl ?_); (conv => whnf)))); (conv => whnf))
    | ((refine ways (fun hc => ?_) (fun hc => ?_)) <;> (try simp only [decide_eq_true_eq, decide_eq_false_iff_not, Bool.and_eq_true, Bool.or_eq_true, Bool.and_eq_false_iff, Bool.or_eq_false_iff, Bool.not_eq_true', Bool.not_eq_false', beq_iff_eq, bne_iff_ne, ne_eq, beq_eq_false_iff_ne, bne_eq_false_iff_eq, Bool.not_eq_true, Bool.not_eq_false] at hc) <;> (try (exfalso; omega)) <;> (conv => whnf))))
  (refine FinLe.sealB [0,1,3,2] rfl rfl rfl ?_ ?_); (focus ((conv => whnf); (repeat' (first | exact trivial | exact Seal.any | exact Seal.d | exact Seal.ptrL rfl | exact Seal.slL rfl | exact Seal.lt0 (SV.Lt.of rfl) | exact Seal.same (by assumption) (Nat.le_of_ble_eq_true rfl) (fun i hi => id5 hi) | exact Seal.le Seal.d (SV.Le.i (by omega)) | exact ⟨rfl, rfl, rfl⟩ | exact ⟨rfl, Nat.le_of_ble_eq_true rfl⟩ | exact dir_seal (by assumption) | exact dir_sealR (by assumption) (fun l hl => by rcases l with _ | _ | _ | _ | _ | l <;> first | rfl | omega) | exact fun i hi => DLes.refl _ | ((refine Seal.ptr rfl rfl ?_); (conv => whnf)) | ((refine Seal.fn ?_); (conv => whnf)) | ((refine Seal.agg ?_); (conv => whnf)) | ((refine Seal.tup ?_); (conv => whnf)) | ((refine Seal.iref ?_); (conv => whnf)) | ((refine And.intro ?_ ?_) <;> (conv => whnf)) | exact Seal.le Seal.d SV.Le.nil | exact Seal.le (Seal.sl rfl rfl (by omega)) (SV.Le.sl fun i hi => by simp only [Nat.zero_add]))))); (focus ((conv => whnf); (repeat' (first | exact trivial | exact Seal.any | exact Seal.d | exact Seal.ptrL rfl | exact Seal.slL rfl | exact Seal.lt0 (SV.Lt.of rfl) | exact Seal.same (by assumption) (Nat.le_of_ble_eq_true rfl) (fun i hi => id5 hi) | exact Seal.le Seal.d (SV.Le.i (by omega)) | exact ⟨rfl, rfl, rfl⟩ | exact ⟨rfl, Nat.le_of_ble_eq_true rfl⟩ | exact dir_seal (by assumption) | exact dir_sealR (by assumption) (fun l hl => by rcases l with _ | _ | _ | _ | _ | l <;> first | rfl | omega) | exact fun i hi => DLes.refl _ | ((refine Seal.ptr rfl rfl ?_); (conv => whnf)) | ((refine Seal.fn ?_); (conv => whnf)) | ((refine Seal.agg ?_); (conv => whnf)) | ((refine Seal.tup ?_); (conv => whnf)) | ((refine Seal.iref ?_); (conv => whnf)) | ((refine And.intro ?_ ?_) <;> (conv => whnf)) | exact Seal.le Seal.d SV.Le.nil | exact Seal.le (Seal.sl rfl rfl (by omega)) (SV.Le.sl fun i hi => by simp only [Nat.zero_add])))))
  exact fun i hi => (show DLe (.val (.slice none 0 0)) (.sl 2 0 _) ∧ True from ⟨.nil, trivial⟩)
theorem lane_NewF : Fun TC 45 0 [.i .i64 0, .d (.val (.slice none 0 0)), .d (.fn (.func 46) [])] [] 4 (.iref [boardS 0 2, .d (.fn (.func 46) [])] 0)
    [(0, some (machB 1 3 32 (noteN 0) 0 1)), (1, some (wordB 32 Dir.M0.W)), (2, some (holdB Dir.M0.Hd)), (3, some (lastB (noteN 0) (noteF 0 (fun _ => []) (accD 0 2 1 0 1 true))))] := by
  refine Fun.mk' Tryz.func45 rfl rfl (Nat.le_of_ble_eq_true rfl) (by decide) ?_
  (repeat' (first
    | with_reducible refine Wp.seq ?_
    | with_reducible refine Wp.block ?_
    | ((with_reducible refine Wp.region ?_); conv => whnf)
    | ((with_reducible refine Wp.drawL TC_mixed ?_); conv => whnf)
    | ((with_reducible refine Wp.cond ?_); conv => whnf)
    | ((with_reducible refine Wp.ret ?_); conv => whnf)
    | ((with_reducible refine Wp.skip ?_); conv => whnf)
    | ((with_reducible refine Wp.exit ?_); conv => whnf)
    | ((with_reducible refine Go.mk ?_); conv => whnf)
    | ((with_reducible apply Eff1.of); conv => whnf)
    | with_reducible exact rfl
    | ((with_reducible refine Ov.ok (by first | exact IntWalk.i64_in _ (by omega) | exact IntWalk.u64_in _ (by omega) | exact IntWalk.u8_in _ (by omega) | exact IntWalk.u32_in _ (by omega) | exact IntWalk.i32_in _ (by omega) | exact IntWalk.u16_in _ (by omega)) ?_); conv => whnf)
    | (with_reducible refine Ov.sh1 (by with_unfolding_all exact rfl) ?_)
    | ((with_reducible refine Ov.quo (by omega) (by omega) (by omega) (fun _ _ => ?_)); conv => whnf)
    | ((with_reducible refine And.intro (show drawOK _ _ _ _ = true by kernel_rfl) ?_); conv => whnf)
    | ((with_reducible refine And.intro (by first | omega | exact Nat.le_of_ble_eq_true rfl) ?_); conv => whnf)
    | ((with_reducible refine And.intro ?hb ?_); (case hb => exact bytes_bd (Nat.le_of_ble_eq_true rfl) (by omega)); (conv => whnf))
    | ((refine DApp.a rfl rfl rfl rfl rfl rfl ?hb ?_); (case hb => first | exact bytes_bd (Nat.le_of_ble_eq_true rfl) (by omega) | omega); (conv => whnf))
    | ((refine DApp.b rfl rfl rfl rfl rfl rfl rfl rfl ?hb ?ho ?_); (case hb => first | exact bytes_bd (Nat.le_of_ble_eq_true rfl) (by omega) | omega); (case ho => omega); (conv => whnf))
    | ((refine DApp.c rfl rfl rfl rfl rfl ?hb ?_); (case hb => first | exact bytes_bd (Nat.le_of_ble_eq_true rfl) (by omega) | omega); (conv => whnf))
    | ((refine DApp.d rfl rfl rfl rfl rfl rfl ?hb ?ho ?_); (case hb => first | exact bytes_bd (Nat.le_of_ble_eq_true rfl) (by omega) | omega); (case ho => omega); (conv => whnf))
    | ((with_reducible refine nil_no (by omega) ?_); (conv => whnf))
    | ((with_reducible refine nil_any ?_ (fun hn0 => ?_)) <;> (conv => whnf))
    | ((refine CallStop.fn (board_NewF) [] rfl rfl rfl rfl rfl ?ha ?hh ?_); (case ha => ((conv => whnf); repeat' (first | exact trivial | exact ArgLe.rfl rfl | exact ArgLe.ptr rfl | exact ArgLe.sl rfl | ((with_reducible refine ArgLe.fn ?_); (conv => whnf)) | ((refine ArgLe.iref ?_); (conv => whnf)) | exact ArgLe.free SV.Le.nil rfl | ((with_reducible refine And.intro ?_ ?_) <;> (conv => whnf)) | ((refine ArgLe.free ?_ rfl); (repeat' (first | exact SV.Le.rfl _ | exact SV.Le.nil | exact SV.Le.sl (fun i hi => by (rcases i with _ | _ | _ | _ | i) <;> first | rfl | (exfalso; omega)) | with_reducible refine SV.Le.agg ?_ | exact Les.nil | with_reducible refine Les.cons ?_ ?_)))))); (case hh => ((conv => whnf); repeat' (first | exact trivial | exact ArgLe.rfl rfl | exact ArgLe.ptr rfl | exact ArgLe.sl rfl | ((with_reducible refine ArgLe.fn ?_); (conv => whnf)) | ((refine ArgLe.iref ?_); (conv => whnf)) | exact ArgLe.free SV.Le.nil rfl | exact ⟨rfl, rfl, rfl⟩ | exact fun i hi => rfl | exact (fun i hi => by (rcases i with _ | i) <;> first | rfl | (exfalso; omega)) | ((with_reducible refine And.intro ?_ ?_) <;> (conv => whnf))))); (conv => whnf))
    | ((refine DCall.fn (board_NewF) [] [] rfl rfl rfl rfl rfl ?ha ?hh ?hs ?_); (case ha => ((conv => whnf); repeat' (first | exact trivial | exact ArgLe.rfl rfl | exact ArgLe.ptr rfl | exact ArgLe.sl rfl | ((with_reducible refine ArgLe.fn ?_); (conv => whnf)) | ((refine ArgLe.iref ?_); (conv => whnf)) | exact ArgLe.free SV.Le.nil rfl | ((with_reducible refine And.intro ?_ ?_) <;> (conv => whnf)) | ((refine ArgLe.free ?_ rfl); (repeat' (first | exact SV.Le.rfl _ | exact SV.Le.nil | exact SV.Le.sl (fun i hi => by (rcases i with _ | _ | _ | _ | i) <;> first | rfl | (exfalso; omega)) | with_reducible refine SV.Le.agg ?_ | exact Les.nil | with_reducible refine Les.cons ?_ ?_)))))); (case hh => ((conv => whnf); repeat' (first | exact trivial | exact ArgLe.rfl rfl | exact ArgLe.ptr rfl | exact ArgLe.sl rfl | ((with_reducible refine ArgLe.fn ?_); (conv => whnf)) | ((refine ArgLe.iref ?_); (conv => whnf)) | exact ArgLe.free SV.Le.nil rfl | exact ⟨rfl, rfl, rfl⟩ | exact fun i hi => rfl | exact (fun i hi => by (rcases i with _ | i) <;> first | rfl | (exfalso; omega)) | ((with_reducible refine And.intro ?_ ?_) <;> (conv => whnf))))); (case hs => (conv => whnf); repeat' (first | exact trivial | ((refine And.intro rfl ?_); (conv => whnf)))); (conv => whnf)) | ((refine DCall.new (board_NewF) [] [] rfl rfl rfl rfl rfl rfl ?ha ?hh ?hs ?_); (case ha => ((conv => whnf); repeat' (first | exact trivial | exact ArgLe.rfl rfl | exact ArgLe.ptr rfl | exact ArgLe.sl rfl | ((with_reducible refine ArgLe.fn ?_); (conv => whnf)) | ((refine ArgLe.iref ?_); (conv => whnf)) | exact ArgLe.free SV.Le.nil rfl | ((with_reducible refine And.intro ?_ ?_) <;> (conv => whnf)) | ((refine ArgLe.free ?_ rfl); (repeat' (first | exact SV.Le.rfl _ | exact SV.Le.nil | exact SV.Le.sl (fun i hi => by (rcases i with _ | _ | _ | _ | i) <;> first | rfl | (exfalso; omega)) | with_reducible refine SV.Le.agg ?_ | exact Les.nil | with_reducible refine Les.cons ?_ ?_)))))); (case hh => ((conv => whnf); repeat' (first | exact trivial | exact ArgLe.rfl rfl | exact ArgLe.ptr rfl | exact ArgLe.sl rfl | ((with_reducible refine ArgLe.fn ?_); (conv => whnf)) | ((refine ArgLe.iref ?_); (conv => whnf)) | exact ArgLe.free SV.Le.nil rfl | exact ⟨rfl, rfl, rfl⟩ | exact fun i hi => rfl | exact (fun i hi => by (rcases i with _ | i) <;> first | rfl | (exfalso; omega)) | ((with_reducible refine And.intro ?_ ?_) <;> (conv => whnf))))); (case hs => (conv => whnf); repeat' (first | exact trivial | ((refine And.intro rfl ?_); (conv => whnf)))); (conv => whnf))
    | ((with_reducible refine CallStop.pure (lane_place 0 (by omega) 0) rfl rfl ?_); conv => whnf) | ((with_reducible refine DCall.pure (lane_place 0 (by omega) 0) rfl rfl ?_); conv => whnf)
    | ((refine CallStop.fn (board_Swap 0 (fun _ => 0) (fun _ => []) (fun _ => []) 0 0 0 0 1 1 [] (by decide) (by decide) (by decide) (by decide) (by decide) (by decide)) [0,1,2,3] rfl rfl rfl rfl rfl ?ha ?hh ?_); (case ha => ((conv => whnf); repeat' (first | exact trivial | exact ArgLe.rfl rfl | exact ArgLe.ptr rfl | exact ArgLe.sl rfl | ((with_reducible refine ArgLe.fn ?_); (conv => whnf)) | ((refine ArgLe.iref ?_); (conv => whnf)) | exact ArgLe.free SV.Le.nil rfl | ((with_reducible refine And.intro ?_ ?_) <;> (conv => whnf)) | ((refine ArgLe.free ?_ rfl); (repeat' (first | exact SV.Le.rfl _ | exact SV.Le.nil | exact SV.Le.sl (fun i hi => by (rcases i with _ | _ | _ | _ | i) <;> first | rfl | (exfalso; omega)) | with_reducible refine SV.Le.agg ?_ | exact Les.nil | with_reducible refine Les.cons ?_ ?_)))))); (case hh => ((conv => whnf); repeat' (first | exact trivial | exact ArgLe.rfl rfl | exact ArgLe.ptr rfl | exact ArgLe.sl rfl | ((with_reducible refine ArgLe.fn ?_); (conv => whnf)) | ((refine ArgLe.iref ?_); (conv => whnf)) | exact ArgLe.free SV.Le.nil rfl | exact ⟨rfl, rfl, rfl⟩ | exact fun i hi => rfl | exact (fun i hi => by (rcases i with _ | i) <;> first | rfl | (exfalso; omega)) | ((with_reducible refine And.intro ?_ ?_) <;> (conv => whnf))))); (conv => whnf))
    | ((refine DCall.fn (board_Swap 0 (fun _ => 0) (fun _ => []) (fun _ => []) 0 0 0 0 1 1 [] (by decide) (by decide) (by decide) (by decide) (by decide) (by decide)) [0,1,2,3] [0,1,2,3] rfl rfl rfl rfl rfl ?ha ?hh ?hs ?_); (case ha => ((conv => whnf); repeat' (first | exact trivial | exact ArgLe.rfl rfl | exact ArgLe.ptr rfl | exact ArgLe.sl rfl | ((with_reducible refine ArgLe.fn ?_); (conv => whnf)) | ((refine ArgLe.iref ?_); (conv => whnf)) | exact ArgLe.free SV.Le.nil rfl | ((with_reducible refine And.intro ?_ ?_) <;> (conv => whnf)) | ((refine ArgLe.free ?_ rfl); (repeat' (first | exact SV.Le.rfl _ | exact SV.Le.nil | exact SV.Le.sl (fun i hi => by (rcases i with _ | _ | _ | _ | i) <;> first | rfl | (exfalso; omega)) | with_reducible refine SV.Le.agg ?_ | exact Les.nil | with_reducible refine Les.cons ?_ ?_)))))); (case hh => ((conv => whnf); repeat' (first | exact trivial | exact ArgLe.rfl rfl | exact ArgLe.ptr rfl | exact ArgLe.sl rfl | ((with_reducible refine ArgLe.fn ?_); (conv => whnf)) | ((refine ArgLe.iref ?_); (conv => whnf)) | exact ArgLe.free SV.Le.nil rfl | exact ⟨rfl, rfl, rfl⟩ | exact fun i hi => rfl | exact (fun i hi => by (rcases i with _ | i) <;> first | rfl | (exfalso; omega)) | ((with_reducible refine And.intro ?_ ?_) <;> (conv => whnf))))); (case hs => (conv => whnf); repeat' (first | exact trivial | ((refine And.intro rfl ?_); (conv => whnf)))); (conv => whnf)) | ((refine DCall.new (board_Swap 0 (fun _ => 0) (fun _ => []) (fun _ => []) 0 0 0 0 1 1 [] (by decide) (by decide) (by decide) (by decide) (by decide) (by decide)) [0,1,2,3] [0,1,2,3] rfl rfl rfl rfl rfl rfl ?ha ?hh ?hs ?_); (case ha => ((conv => whnf); repeat' (first | exact trivial | exact ArgLe.rfl rfl | exact ArgLe.ptr rfl | exact ArgLe.sl rfl | ((with_reducible refine ArgLe.fn ?_); (conv => whnf)) | ((refine ArgLe.iref ?_); (conv => whnf)) | exact ArgLe.free SV.Le.nil rfl | ((with_reducible refine And.intro ?_ ?_) <;> (conv => whnf)) | ((refine ArgLe.free ?_ rfl); (repeat' (first | exact SV.Le.rfl _ | exact SV.Le.nil | exact SV.Le.sl (fun i hi => by (rcases i with _ | _ | _ | _ | i) <;> first | rfl | (exfalso; omega)) | with_reducible refine SV.Le.agg ?_ | exact Les.nil | with_reducible refine Les.cons ?_ ?_)))))); (case hh => ((conv => whnf); repeat' (first | exact trivial | exact ArgLe.rfl rfl | exact ArgLe.ptr rfl | exact ArgLe.sl rfl | ((with_reducible refine ArgLe.fn ?_); (conv => whnf)) | ((refine ArgLe.iref ?_); (conv => whnf)) | exact ArgLe.free SV.Le.nil rfl | exact ⟨rfl, rfl, rfl⟩ | exact fun i hi => rfl | exact (fun i hi => by (rcases i with _ | i) <;> first | rfl | (exfalso; omega)) | ((with_reducible refine And.intro ?_ ?_) <;> (conv => whnf))))); (case hs => (conv => whnf); repeat' (first | exact trivial | ((refine And.intro rfl ?_); (conv => whnf)))); (conv => whnf))
    | ((refine DCall.fn (board_Swap 0 (fun _ => 0) (fun _ => []) (fun _ => []) 0 0 0 0 1 1 [] (by decide) (by decide) (by decide) (by decide) (by decide) (by decide)) [0,1,2,3] [] rfl rfl rfl rfl rfl ?ha ?hh ?hs ?_); (case ha => ((conv => whnf); repeat' (first | exact trivial | exact ArgLe.rfl rfl | exact ArgLe.ptr rfl | exact ArgLe.sl rfl | ((with_reducible refine ArgLe.fn ?_); (conv => whnf)) | ((refine ArgLe.iref ?_); (conv => whnf)) | exact ArgLe.free SV.Le.nil rfl | ((with_reducible refine And.intro ?_ ?_) <;> (conv => whnf)) | ((refine ArgLe.free ?_ rfl); (repeat' (first | exact SV.Le.rfl _ | exact SV.Le.nil | exact SV.Le.sl (fun i hi => by (rcases i with _ | _ | _ | _ | i) <;> first | rfl | (exfalso; omega)) | with_reducible refine SV.Le.agg ?_ | exact Les.nil | with_reducible refine Les.cons ?_ ?_)))))); (case hh => ((conv => whnf); repeat' (first | exact trivial | exact ArgLe.rfl rfl | exact ArgLe.ptr rfl | exact ArgLe.sl rfl | ((with_reducible refine ArgLe.fn ?_); (conv => whnf)) | ((refine ArgLe.iref ?_); (conv => whnf)) | exact ArgLe.free SV.Le.nil rfl | exact ⟨rfl, rfl, rfl⟩ | exact fun i hi => rfl | exact (fun i hi => by (rcases i with _ | i) <;> first | rfl | (exfalso; omega)) | ((with_reducible refine And.intro ?_ ?_) <;> (conv => whnf))))); (case hs => (conv => whnf); repeat' (first | exact trivial | ((refine And.intro rfl ?_); (conv => whnf)))); (conv => whnf)) | ((refine DCall.new (board_Swap 0 (fun _ => 0) (fun _ => []) (fun _ => []) 0 0 0 0 1 1 [] (by decide) (by decide) (by decide) (by decide) (by decide) (by decide)) [0,1,2,3] [] rfl rfl rfl rfl rfl rfl ?ha ?hh ?hs ?_); (case ha => ((conv => whnf); repeat' (first | exact trivial | exact ArgLe.rfl rfl | exact ArgLe.ptr rfl | exact ArgLe.sl rfl | ((with_reducible refine ArgLe.fn ?_); (conv => whnf)) | ((refine ArgLe.iref ?_); (conv => whnf)) | exact ArgLe.free SV.Le.nil rfl | ((with_reducible refine And.intro ?_ ?_) <;> (conv => whnf)) | ((refine ArgLe.free ?_ rfl); (repeat' (first | exact SV.Le.rfl _ | exact SV.Le.nil | exact SV.Le.sl (fun i hi => by (rcases i with _ | _ | _ | _ | i) <;> first | rfl | (exfalso; omega)) | with_reducible refine SV.Le.agg ?_ | exact Les.nil | with_reducible refine Les.cons ?_ ?_)))))); (case hh => ((conv => whnf); repeat' (first | exact trivial | exact ArgLe.rfl rfl | exact ArgLe.ptr rfl | exact ArgLe.sl rfl | ((with_reducible refine ArgLe.fn ?_); (conv => whnf)) | ((refine ArgLe.iref ?_); (conv => whnf)) | exact ArgLe.free SV.Le.nil rfl | exact ⟨rfl, rfl, rfl⟩ | exact fun i hi => rfl | exact (fun i hi => by (rcases i with _ | i) <;> first | rfl | (exfalso; omega)) | ((with_reducible refine And.intro ?_ ?_) <;> (conv => whnf))))); (case hs => (conv => whnf); repeat' (first | exact trivial | ((refine And.intro rfl ?_); (conv => whnf)))); (conv => whnf))
    | ((refine ways (fun hc => ?_) (fun hc => ?_)) <;> (try simp only [decide_eq_true_eq, decide_eq_false_iff_not, Bool.and_eq_true, Bool.or_eq_true, Bool.and_eq_false_iff, Bool.or_eq_false_iff, Bool.not_eq_true', Bool.not_eq_false', beq_iff_eq, bne_iff_ne, ne_eq, beq_eq_false_iff_ne, bne_eq_false_iff_eq, Bool.not_eq_true, Bool.not_eq_false] at hc) <;> (try (exfalso; omega)) <;> (conv => whnf))))
  (refine FinLe.sealB [0,1,2,11] rfl rfl rfl ?_ ?_); (focus ((conv => whnf); (repeat' (first | exact trivial | exact Seal.any | exact Seal.d | exact Seal.ptrL rfl | exact Seal.slL rfl | exact Seal.lt0 (SV.Lt.of rfl) | exact Seal.same (by assumption) (Nat.le_of_ble_eq_true rfl) (fun i hi => id5 hi) | exact Seal.le Seal.d (SV.Le.i (by omega)) | exact ⟨rfl, rfl, rfl⟩ | exact ⟨rfl, Nat.le_of_ble_eq_true rfl⟩ | exact dir_seal (by assumption) | exact dir_sealR (by assumption) (fun l hl => by rcases l with _ | _ | _ | _ | _ | l <;> first | rfl | omega) | exact fun i hi => DLes.refl _ | ((refine Seal.ptr rfl rfl ?_); (conv => whnf)) | ((refine Seal.fn ?_); (conv => whnf)) | ((refine Seal.agg ?_); (conv => whnf)) | ((refine Seal.tup ?_); (conv => whnf)) | ((refine Seal.iref ?_); (conv => whnf)) | ((refine And.intro ?_ ?_) <;> (conv => whnf)) | exact Seal.le Seal.d SV.Le.nil | exact Seal.le (Seal.sl rfl rfl (by omega)) (SV.Le.sl fun i hi => by simp only [Nat.zero_add]))))); (focus ((conv => whnf); (repeat' (first | exact trivial | exact Seal.any | exact Seal.d | exact Seal.ptrL rfl | exact Seal.slL rfl | exact Seal.lt0 (SV.Lt.of rfl) | exact Seal.same (by assumption) (Nat.le_of_ble_eq_true rfl) (fun i hi => id5 hi) | exact Seal.le Seal.d (SV.Le.i (by omega)) | exact ⟨rfl, rfl, rfl⟩ | exact ⟨rfl, Nat.le_of_ble_eq_true rfl⟩ | exact dir_seal (by assumption) | exact dir_sealR (by assumption) (fun l hl => by rcases l with _ | _ | _ | _ | _ | l <;> first | rfl | omega) | exact fun i hi => DLes.refl _ | ((refine Seal.ptr rfl rfl ?_); (conv => whnf)) | ((refine Seal.fn ?_); (conv => whnf)) | ((refine Seal.agg ?_); (conv => whnf)) | ((refine Seal.tup ?_); (conv => whnf)) | ((refine Seal.iref ?_); (conv => whnf)) | ((refine And.intro ?_ ?_) <;> (conv => whnf)) | exact Seal.le Seal.d SV.Le.nil | exact Seal.le (Seal.sl rfl rfl (by omega)) (SV.Le.sl fun i hi => by simp only [Nat.zero_add])))))
  refine fun i hi => DLes.of ?_
  dsimp only
  rw [if_pos rfl]
  unfold Dir.upd
  split <;> rfl
theorem dir_NewF : Fun TC 15 0 [] [] 5 (.ptr 0 0) (dirH (fun _ => nilF) Dir.M0 (noteN 0) (noteF 0 (fun _ => []) (accD 0 2 1 0 1 true)) 0 1) := by
  refine Fun.mk' Tryz.func15 rfl rfl (Nat.le_of_ble_eq_true rfl) (by decide) ?_
  (repeat' (first
    | with_reducible refine Wp.seq ?_
    | with_reducible refine Wp.block ?_
    | ((with_reducible refine Wp.region ?_); conv => whnf)
    | ((with_reducible refine Wp.drawL TC_mixed ?_); conv => whnf)
    | ((with_reducible refine Wp.cond ?_); conv => whnf)
    | ((with_reducible refine Wp.ret ?_); conv => whnf)
    | ((with_reducible refine Wp.skip ?_); conv => whnf)
    | ((with_reducible refine Wp.exit ?_); conv => whnf)
    | ((with_reducible refine Go.mk ?_); conv => whnf)
    | ((with_reducible apply Eff1.of); conv => whnf)
    | with_reducible exact rfl
    | ((with_reducible refine Ov.ok (by first | exact IntWalk.i64_in _ (by omega) | exact IntWalk.u64_in _ (by omega) | exact IntWalk.u8_in _ (by omega) | exact IntWalk.u32_in _ (by omega) | exact IntWalk.i32_in _ (by omega) | exact IntWalk.u16_in _ (by omega)) ?_); conv => whnf)
    | (with_reducible refine Ov.sh1 (by with_unfolding_all exact rfl) ?_)
    | ((with_reducible refine Ov.quo (by omega) (by omega) (by omega) (fun _ _ => ?_)); conv => whnf)
    | ((with_reducible refine And.intro (show drawOK _ _ _ _ = true by kernel_rfl) ?_); conv => whnf)
    | ((with_reducible refine And.intro (by first | omega | exact Nat.le_of_ble_eq_true rfl) ?_); conv => whnf)
    | ((with_reducible refine And.intro ?hb ?_); (case hb => exact bytes_bd (Nat.le_of_ble_eq_true rfl) (by omega)); (conv => whnf))
    | ((refine DApp.a rfl rfl rfl rfl rfl rfl ?hb ?_); (case hb => first | exact bytes_bd (Nat.le_of_ble_eq_true rfl) (by omega) | omega); (conv => whnf))
    | ((refine DApp.b rfl rfl rfl rfl rfl rfl rfl rfl ?hb ?ho ?_); (case hb => first | exact bytes_bd (Nat.le_of_ble_eq_true rfl) (by omega) | omega); (case ho => omega); (conv => whnf))
    | ((refine DApp.c rfl rfl rfl rfl rfl ?hb ?_); (case hb => first | exact bytes_bd (Nat.le_of_ble_eq_true rfl) (by omega) | omega); (conv => whnf))
    | ((refine DApp.d rfl rfl rfl rfl rfl rfl ?hb ?ho ?_); (case hb => first | exact bytes_bd (Nat.le_of_ble_eq_true rfl) (by omega) | omega); (case ho => omega); (conv => whnf))
    | ((with_reducible refine nil_no (by omega) ?_); (conv => whnf))
    | ((with_reducible refine nil_any ?_ (fun hn0 => ?_)) <;> (conv => whnf))
    | ((refine CallStop.fn (lane_NewF) [] rfl rfl rfl rfl rfl ?ha ?hh ?_); (case ha => ((conv => whnf); repeat' (first | exact trivial | exact ArgLe.rfl rfl | exact ArgLe.ptr rfl | exact ArgLe.sl rfl | ((with_reducible refine ArgLe.fn ?_); (conv => whnf)) | ((refine ArgLe.iref ?_); (conv => whnf)) | exact ArgLe.free SV.Le.nil rfl | ((with_reducible refine And.intro ?_ ?_) <;> (conv => whnf)) | ((refine ArgLe.free ?_ rfl); (repeat' (first | exact SV.Le.rfl _ | exact SV.Le.nil | exact SV.Le.sl (fun i hi => by (rcases i with _ | _ | _ | _ | i) <;> first | rfl | (exfalso; omega)) | with_reducible refine SV.Le.agg ?_ | exact Les.nil | with_reducible refine Les.cons ?_ ?_)))))); (case hh => ((conv => whnf); repeat' (first | exact trivial | exact ArgLe.rfl rfl | exact ArgLe.ptr rfl | exact ArgLe.sl rfl | ((with_reducible refine ArgLe.fn ?_); (conv => whnf)) | ((refine ArgLe.iref ?_); (conv => whnf)) | exact ArgLe.free SV.Le.nil rfl | exact ⟨rfl, rfl, rfl⟩ | exact fun i hi => rfl | exact (fun i hi => by (rcases i with _ | i) <;> first | rfl | (exfalso; omega)) | ((with_reducible refine And.intro ?_ ?_) <;> (conv => whnf))))); (conv => whnf))
    | ((refine DCall.fn (lane_NewF) [] [] rfl rfl rfl rfl rfl ?ha ?hh ?hs ?_); (case ha => ((conv => whnf); repeat' (first | exact trivial | exact ArgLe.rfl rfl | exact ArgLe.ptr rfl | exact ArgLe.sl rfl | ((with_reducible refine ArgLe.fn ?_); (conv => whnf)) | ((refine ArgLe.iref ?_); (conv => whnf)) | exact ArgLe.free SV.Le.nil rfl | ((with_reducible refine And.intro ?_ ?_) <;> (conv => whnf)) | ((refine ArgLe.free ?_ rfl); (repeat' (first | exact SV.Le.rfl _ | exact SV.Le.nil | exact SV.Le.sl (fun i hi => by (rcases i with _ | _ | _ | _ | i) <;> first | rfl | (exfalso; omega)) | with_reducible refine SV.Le.agg ?_ | exact Les.nil | with_reducible refine Les.cons ?_ ?_)))))); (case hh => ((conv => whnf); repeat' (first | exact trivial | exact ArgLe.rfl rfl | exact ArgLe.ptr rfl | exact ArgLe.sl rfl | ((with_reducible refine ArgLe.fn ?_); (conv => whnf)) | ((refine ArgLe.iref ?_); (conv => whnf)) | exact ArgLe.free SV.Le.nil rfl | exact ⟨rfl, rfl, rfl⟩ | exact fun i hi => rfl | exact (fun i hi => by (rcases i with _ | i) <;> first | rfl | (exfalso; omega)) | ((with_reducible refine And.intro ?_ ?_) <;> (conv => whnf))))); (case hs => (conv => whnf); repeat' (first | exact trivial | ((refine And.intro rfl ?_); (conv => whnf)))); (conv => whnf)) | ((refine DCall.new (lane_NewF) [] [] rfl rfl rfl rfl rfl rfl ?ha ?hh ?hs ?_); (case ha => ((conv => whnf); repeat' (first | exact trivial | exact ArgLe.rfl rfl | exact ArgLe.ptr rfl | exact ArgLe.sl rfl | ((with_reducible refine ArgLe.fn ?_); (conv => whnf)) | ((refine ArgLe.iref ?_); (conv => whnf)) | exact ArgLe.free SV.Le.nil rfl | ((with_reducible refine And.intro ?_ ?_) <;> (conv => whnf)) | ((refine ArgLe.free ?_ rfl); (repeat' (first | exact SV.Le.rfl _ | exact SV.Le.nil | exact SV.Le.sl (fun i hi => by (rcases i with _ | _ | _ | _ | i) <;> first | rfl | (exfalso; omega)) | with_reducible refine SV.Le.agg ?_ | exact Les.nil | with_reducible refine Les.cons ?_ ?_)))))); (case hh => ((conv => whnf); repeat' (first | exact trivial | exact ArgLe.rfl rfl | exact ArgLe.ptr rfl | exact ArgLe.sl rfl | ((with_reducible refine ArgLe.fn ?_); (conv => whnf)) | ((refine ArgLe.iref ?_); (conv => whnf)) | exact ArgLe.free SV.Le.nil rfl | exact ⟨rfl, rfl, rfl⟩ | exact fun i hi => rfl | exact (fun i hi => by (rcases i with _ | i) <;> first | rfl | (exfalso; omega)) | ((with_reducible refine And.intro ?_ ?_) <;> (conv => whnf))))); (case hs => (conv => whnf); repeat' (first | exact trivial | ((refine And.intro rfl ?_); (conv => whnf)))); (conv => whnf))
    | ((refine ways (fun hc => ?_) (fun hc => ?_)) <;> (try simp only [decide_eq_true_eq, decide_eq_false_iff_not, Bool.and_eq_true, Bool.or_eq_true, Bool.and_eq_false_iff, Bool.or_eq_false_iff, Bool.not_eq_true', Bool.not_eq_false', beq_iff_eq, bne_iff_ne, ne_eq, beq_eq_false_iff_ne, bne_eq_false_iff_eq, Bool.not_eq_true, Bool.not_eq_false] at hc) <;> (try (exfalso; omega)) <;> (conv => whnf))))
  (refine FinLe.sealB [4,0,1,2,3] rfl rfl rfl ?_ ?_); (focus ((conv => whnf); (repeat' (first | exact trivial | exact Seal.any | exact Seal.d | exact Seal.ptrL rfl | exact Seal.slL rfl | exact Seal.lt0 (SV.Lt.of rfl) | exact Seal.same (by assumption) (Nat.le_of_ble_eq_true rfl) (fun i hi => id5 hi) | exact Seal.le Seal.d (SV.Le.i (by omega)) | exact ⟨rfl, rfl, rfl⟩ | exact ⟨rfl, Nat.le_of_ble_eq_true rfl⟩ | exact dir_seal (by assumption) | exact dir_sealR (by assumption) (fun l hl => by rcases l with _ | _ | _ | _ | _ | l <;> first | rfl | omega) | exact fun i hi => DLes.refl _ | ((refine Seal.ptr rfl rfl ?_); (conv => whnf)) | ((refine Seal.fn ?_); (conv => whnf)) | ((refine Seal.agg ?_); (conv => whnf)) | ((refine Seal.tup ?_); (conv => whnf)) | ((refine Seal.iref ?_); (conv => whnf)) | ((refine And.intro ?_ ?_) <;> (conv => whnf)) | exact Seal.le Seal.d SV.Le.nil | exact Seal.le (Seal.sl rfl rfl (by omega)) (SV.Le.sl fun i hi => by simp only [Nat.zero_add]))))); (focus ((conv => whnf); (repeat' (first | exact trivial | exact Seal.any | exact Seal.d | exact Seal.ptrL rfl | exact Seal.slL rfl | exact Seal.lt0 (SV.Lt.of rfl) | exact Seal.same (by assumption) (Nat.le_of_ble_eq_true rfl) (fun i hi => id5 hi) | exact Seal.le Seal.d (SV.Le.i (by omega)) | exact ⟨rfl, rfl, rfl⟩ | exact ⟨rfl, Nat.le_of_ble_eq_true rfl⟩ | exact dir_seal (by assumption) | exact dir_sealR (by assumption) (fun l hl => by rcases l with _ | _ | _ | _ | _ | l <;> first | rfl | omega) | exact fun i hi => DLes.refl _ | ((refine Seal.ptr rfl rfl ?_); (conv => whnf)) | ((refine Seal.fn ?_); (conv => whnf)) | ((refine Seal.agg ?_); (conv => whnf)) | ((refine Seal.tup ?_); (conv => whnf)) | ((refine Seal.iref ?_); (conv => whnf)) | ((refine And.intro ?_ ?_) <;> (conv => whnf)) | exact Seal.le Seal.d SV.Le.nil | exact Seal.le (Seal.sl rfl rfl (by omega)) (SV.Le.sl fun i hi => by simp only [Nat.zero_add])))))
  · exact Nat.le_of_ble_eq_true rfl
  · exact fun j _ => dirF_lt (fun _ => .of rfl) j
theorem dir_Level {g : Nat → SV} (q5 : ∀ j, SV.Lt 5 (g j)) (M : Dir.Mc) (nl : Nat) (f : Nat → List D) (clk cnt : Int) (h0 : 0 ≤ M.W 0) (h8 : M.W 0 ≤ 8) :
    Fun TC 24 5 [.ptr 0 0] (dirH g M nl f clk cnt) 5 (.tup [.i .i64 (M.W 0 / 2), .b (decide (M.W 0 % 2 = 1))]) (dirH g M nl f clk cnt) := by
  have qr : (M.W 0).tmod 2 = M.W 0 % 2 := Int.tmod_eq_emod_of_nonneg h0
  refine Fun.mk' Tryz.func24 rfl rfl (Nat.le_of_ble_eq_true rfl) (by decide) ?_
  (repeat' (first
    | with_reducible refine Wp.seq ?_
    | with_reducible refine Wp.block ?_
    | ((with_reducible refine Wp.region ?_); conv => whnf)
    | ((with_reducible refine Wp.drawL TC_mixed ?_); conv => whnf)
    | ((with_reducible refine Wp.cond ?_); conv => whnf)
    | ((with_reducible refine Wp.ret ?_); conv => whnf)
    | ((with_reducible refine Wp.skip ?_); conv => whnf)
    | ((with_reducible refine Wp.exit ?_); conv => whnf)
    | ((with_reducible refine Go.mk ?_); conv => whnf)
    | ((with_reducible apply Eff1.of); conv => whnf)
    | with_reducible exact rfl
    | ((with_reducible refine Ov.ok (by first | exact IntWalk.i64_in _ (by omega) | exact IntWalk.u64_in _ (by omega) | exact IntWalk.u8_in _ (by omega) | exact IntWalk.u32_in _ (by omega) | exact IntWalk.i32_in _ (by omega) | exact IntWalk.u16_in _ (by omega)) ?_); conv => whnf)
    | (with_reducible refine Ov.sh1 (by with_unfolding_all exact rfl) ?_)
    | ((with_reducible refine Ov.quo (by omega) (by omega) (by omega) (fun _ _ => ?_)); conv => whnf)
    | ((with_reducible refine And.intro (show drawOK _ _ _ _ = true by kernel_rfl) ?_); conv => whnf)
    | ((with_reducible refine And.intro (by first | omega | exact Nat.le_of_ble_eq_true rfl) ?_); conv => whnf)
    | ((with_reducible refine And.intro ?hb ?_); (case hb => exact bytes_bd (Nat.le_of_ble_eq_true rfl) (by omega)); (conv => whnf))
    | ((refine DApp.a rfl rfl rfl rfl rfl rfl ?hb ?_); (case hb => first | exact bytes_bd (Nat.le_of_ble_eq_true rfl) (by omega) | omega); (conv => whnf))
    | ((refine DApp.b rfl rfl rfl rfl rfl rfl rfl rfl ?hb ?ho ?_); (case hb => first | exact bytes_bd (Nat.le_of_ble_eq_true rfl) (by omega) | omega); (case ho => omega); (conv => whnf))
    | ((refine DApp.c rfl rfl rfl rfl rfl ?hb ?_); (case hb => first | exact bytes_bd (Nat.le_of_ble_eq_true rfl) (by omega) | omega); (conv => whnf))
    | ((refine DApp.d rfl rfl rfl rfl rfl rfl ?hb ?ho ?_); (case hb => first | exact bytes_bd (Nat.le_of_ble_eq_true rfl) (by omega) | omega); (case ho => omega); (conv => whnf))
    | ((with_reducible refine nil_no (by omega) ?_); (conv => whnf))
    | ((with_reducible refine nil_any ?_ (fun hn0 => ?_)) <;> (conv => whnf))
    | (with_reducible refine CallStop.inline Tryz.func61 rfl rfl rfl (Nat.le_of_ble_eq_true rfl) ?_)
    | ((with_reducible refine At.mk' 0 rfl ?_); conv => whnf)
    | ((refine CallStop.fn (board_Look nl M.W M.Hd f clk cnt 0 (by decide)) [1,2,3,4] rfl rfl rfl rfl rfl ?ha ?hh ?_); (case ha => ((conv => whnf); repeat' (first | exact trivial | exact ArgLe.rfl rfl | exact ArgLe.ptr rfl | exact ArgLe.sl rfl | ((with_reducible refine ArgLe.fn ?_); (conv => whnf)) | ((refine ArgLe.iref ?_); (conv => whnf)) | exact ArgLe.free SV.Le.nil rfl | ((with_reducible refine And.intro ?_ ?_) <;> (conv => whnf)) | ((refine ArgLe.free ?_ rfl); (repeat' (first | exact SV.Le.rfl _ | exact SV.Le.nil | exact SV.Le.sl (fun i hi => by (rcases i with _ | _ | _ | _ | i) <;> first | rfl | (exfalso; omega)) | with_reducible refine SV.Le.agg ?_ | exact Les.nil | with_reducible refine Les.cons ?_ ?_)))))); (case hh => ((conv => whnf); repeat' (first | exact trivial | exact ArgLe.rfl rfl | exact ArgLe.ptr rfl | exact ArgLe.sl rfl | ((with_reducible refine ArgLe.fn ?_); (conv => whnf)) | ((refine ArgLe.iref ?_); (conv => whnf)) | exact ArgLe.free SV.Le.nil rfl | exact ⟨rfl, rfl, rfl⟩ | exact fun i hi => rfl | exact (fun i hi => by (rcases i with _ | i) <;> first | rfl | (exfalso; omega)) | ((with_reducible refine And.intro ?_ ?_) <;> (conv => whnf))))); (conv => whnf))
    | ((refine DCall.fn (board_Look nl M.W M.Hd f clk cnt 0 (by decide)) [1,2,3,4] [1,2,3,4] rfl rfl rfl rfl rfl ?ha ?hh ?hs ?_); (case ha => ((conv => whnf); repeat' (first | exact trivial | exact ArgLe.rfl rfl | exact ArgLe.ptr rfl | exact ArgLe.sl rfl | ((with_reducible refine ArgLe.fn ?_); (conv => whnf)) | ((refine ArgLe.iref ?_); (conv => whnf)) | exact ArgLe.free SV.Le.nil rfl | ((with_reducible refine And.intro ?_ ?_) <;> (conv => whnf)) | ((refine ArgLe.free ?_ rfl); (repeat' (first | exact SV.Le.rfl _ | exact SV.Le.nil | exact SV.Le.sl (fun i hi => by (rcases i with _ | _ | _ | _ | i) <;> first | rfl | (exfalso; omega)) | with_reducible refine SV.Le.agg ?_ | exact Les.nil | with_reducible refine Les.cons ?_ ?_)))))); (case hh => ((conv => whnf); repeat' (first | exact trivial | exact ArgLe.rfl rfl | exact ArgLe.ptr rfl | exact ArgLe.sl rfl | ((with_reducible refine ArgLe.fn ?_); (conv => whnf)) | ((refine ArgLe.iref ?_); (conv => whnf)) | exact ArgLe.free SV.Le.nil rfl | exact ⟨rfl, rfl, rfl⟩ | exact fun i hi => rfl | exact (fun i hi => by (rcases i with _ | i) <;> first | rfl | (exfalso; omega)) | ((with_reducible refine And.intro ?_ ?_) <;> (conv => whnf))))); (case hs => (conv => whnf); repeat' (first | exact trivial | ((refine And.intro rfl ?_); (conv => whnf)))); (conv => whnf)) | ((refine DCall.new (board_Look nl M.W M.Hd f clk cnt 0 (by decide)) [1,2,3,4] [1,2,3,4] rfl rfl rfl rfl rfl rfl ?ha ?hh ?hs ?_); (case ha => ((conv => whnf); repeat' (first | exact trivial | exact ArgLe.rfl rfl | exact ArgLe.ptr rfl | exact ArgLe.sl rfl | ((with_reducible refine ArgLe.fn ?_); (conv => whnf)) | ((refine ArgLe.iref ?_); (conv => whnf)) | exact ArgLe.free SV.Le.nil rfl | ((with_reducible refine And.intro ?_ ?_) <;> (conv => whnf)) | ((refine ArgLe.free ?_ rfl); (repeat' (first | exact SV.Le.rfl _ | exact SV.Le.nil | exact SV.Le.sl (fun i hi => by (rcases i with _ | _ | _ | _ | i) <;> first | rfl | (exfalso; omega)) | with_reducible refine SV.Le.agg ?_ | exact Les.nil | with_reducible refine Les.cons ?_ ?_)))))); (case hh => ((conv => whnf); repeat' (first | exact trivial | exact ArgLe.rfl rfl | exact ArgLe.ptr rfl | exact ArgLe.sl rfl | ((with_reducible refine ArgLe.fn ?_); (conv => whnf)) | ((refine ArgLe.iref ?_); (conv => whnf)) | exact ArgLe.free SV.Le.nil rfl | exact ⟨rfl, rfl, rfl⟩ | exact fun i hi => rfl | exact (fun i hi => by (rcases i with _ | i) <;> first | rfl | (exfalso; omega)) | ((with_reducible refine And.intro ?_ ?_) <;> (conv => whnf))))); (case hs => (conv => whnf); repeat' (first | exact trivial | ((refine And.intro rfl ?_); (conv => whnf)))); (conv => whnf))
    | ((refine DCall.fn (board_Look nl M.W M.Hd f clk cnt 0 (by decide)) [1,2,3,4] [] rfl rfl rfl rfl rfl ?ha ?hh ?hs ?_); (case ha => ((conv => whnf); repeat' (first | exact trivial | exact ArgLe.rfl rfl | exact ArgLe.ptr rfl | exact ArgLe.sl rfl | ((with_reducible refine ArgLe.fn ?_); (conv => whnf)) | ((refine ArgLe.iref ?_); (conv => whnf)) | exact ArgLe.free SV.Le.nil rfl | ((with_reducible refine And.intro ?_ ?_) <;> (conv => whnf)) | ((refine ArgLe.free ?_ rfl); (repeat' (first | exact SV.Le.rfl _ | exact SV.Le.nil | exact SV.Le.sl (fun i hi => by (rcases i with _ | _ | _ | _ | i) <;> first | rfl | (exfalso; omega)) | with_reducible refine SV.Le.agg ?_ | exact Les.nil | with_reducible refine Les.cons ?_ ?_)))))); (case hh => ((conv => whnf); repeat' (first | exact trivial | exact ArgLe.rfl rfl | exact ArgLe.ptr rfl | exact ArgLe.sl rfl | ((with_reducible refine ArgLe.fn ?_); (conv => whnf)) | ((refine ArgLe.iref ?_); (conv => whnf)) | exact ArgLe.free SV.Le.nil rfl | exact ⟨rfl, rfl, rfl⟩ | exact fun i hi => rfl | exact (fun i hi => by (rcases i with _ | i) <;> first | rfl | (exfalso; omega)) | ((with_reducible refine And.intro ?_ ?_) <;> (conv => whnf))))); (case hs => (conv => whnf); repeat' (first | exact trivial | ((refine And.intro rfl ?_); (conv => whnf)))); (conv => whnf)) | ((refine DCall.new (board_Look nl M.W M.Hd f clk cnt 0 (by decide)) [1,2,3,4] [] rfl rfl rfl rfl rfl rfl ?ha ?hh ?hs ?_); (case ha => ((conv => whnf); repeat' (first | exact trivial | exact ArgLe.rfl rfl | exact ArgLe.ptr rfl | exact ArgLe.sl rfl | ((with_reducible refine ArgLe.fn ?_); (conv => whnf)) | ((refine ArgLe.iref ?_); (conv => whnf)) | exact ArgLe.free SV.Le.nil rfl | ((with_reducible refine And.intro ?_ ?_) <;> (conv => whnf)) | ((refine ArgLe.free ?_ rfl); (repeat' (first | exact SV.Le.rfl _ | exact SV.Le.nil | exact SV.Le.sl (fun i hi => by (rcases i with _ | _ | _ | _ | i) <;> first | rfl | (exfalso; omega)) | with_reducible refine SV.Le.agg ?_ | exact Les.nil | with_reducible refine Les.cons ?_ ?_)))))); (case hh => ((conv => whnf); repeat' (first | exact trivial | exact ArgLe.rfl rfl | exact ArgLe.ptr rfl | exact ArgLe.sl rfl | ((with_reducible refine ArgLe.fn ?_); (conv => whnf)) | ((refine ArgLe.iref ?_); (conv => whnf)) | exact ArgLe.free SV.Le.nil rfl | exact ⟨rfl, rfl, rfl⟩ | exact fun i hi => rfl | exact (fun i hi => by (rcases i with _ | i) <;> first | rfl | (exfalso; omega)) | ((with_reducible refine And.intro ?_ ?_) <;> (conv => whnf))))); (case hs => (conv => whnf); repeat' (first | exact trivial | ((refine And.intro rfl ?_); (conv => whnf)))); (conv => whnf))
    | (with_reducible refine Ov.tdivN (by omega) ?_)
    | ((refine ways (fun hc => ?_) (fun hc => ?_)) <;> (try simp only [decide_eq_true_eq, decide_eq_false_iff_not, Bool.and_eq_true, Bool.or_eq_true, Bool.and_eq_false_iff, Bool.or_eq_false_iff, Bool.not_eq_true', Bool.not_eq_false', beq_iff_eq, bne_iff_ne, ne_eq, beq_eq_false_iff_ne, bne_eq_false_iff_eq, Bool.not_eq_true, Bool.not_eq_false, qr] at hc) <;> (try (exfalso; omega)) <;> (conv => whnf))))
  rw [qr]
  (refine FinLe.sealB [0,1,2,3,4] rfl rfl rfl ?_ ?_); (focus ((conv => whnf); (repeat' (first | exact trivial | exact Seal.any | exact Seal.d | exact Seal.ptrL rfl | exact Seal.slL rfl | exact Seal.lt0 (SV.Lt.of rfl) | exact Seal.same (by assumption) (Nat.le_of_ble_eq_true rfl) (fun i hi => id5 hi) | exact Seal.le Seal.d (SV.Le.i (by omega)) | exact ⟨rfl, rfl, rfl⟩ | exact ⟨rfl, Nat.le_of_ble_eq_true rfl⟩ | exact dir_seal (by assumption) | exact dir_sealR (by assumption) (fun l hl => by rcases l with _ | _ | _ | _ | _ | l <;> first | rfl | omega) | exact fun i hi => DLes.refl _ | ((refine Seal.ptr rfl rfl ?_); (conv => whnf)) | ((refine Seal.fn ?_); (conv => whnf)) | ((refine Seal.agg ?_); (conv => whnf)) | ((refine Seal.tup ?_); (conv => whnf)) | ((refine Seal.iref ?_); (conv => whnf)) | ((refine And.intro ?_ ?_) <;> (conv => whnf)) | exact Seal.le Seal.d SV.Le.nil | exact Seal.le (Seal.sl rfl rfl (by omega)) (SV.Le.sl fun i hi => by simp only [Nat.zero_add]))))); (focus ((conv => whnf); (repeat' (first | exact trivial | exact Seal.any | exact Seal.d | exact Seal.ptrL rfl | exact Seal.slL rfl | exact Seal.lt0 (SV.Lt.of rfl) | exact Seal.same (by assumption) (Nat.le_of_ble_eq_true rfl) (fun i hi => id5 hi) | exact Seal.le Seal.d (SV.Le.i (by omega)) | exact ⟨rfl, rfl, rfl⟩ | exact ⟨rfl, Nat.le_of_ble_eq_true rfl⟩ | exact dir_seal (by assumption) | exact dir_sealR (by assumption) (fun l hl => by rcases l with _ | _ | _ | _ | _ | l <;> first | rfl | omega) | exact fun i hi => DLes.refl _ | ((refine Seal.ptr rfl rfl ?_); (conv => whnf)) | ((refine Seal.fn ?_); (conv => whnf)) | ((refine Seal.agg ?_); (conv => whnf)) | ((refine Seal.tup ?_); (conv => whnf)) | ((refine Seal.iref ?_); (conv => whnf)) | ((refine And.intro ?_ ?_) <;> (conv => whnf)) | exact Seal.le Seal.d SV.Le.nil | exact Seal.le (Seal.sl rfl rfl (by omega)) (SV.Le.sl fun i hi => by simp only [Nat.zero_add])))))
theorem dir_Steps {g : Nat → SV} (q5 : ∀ j, SV.Lt 5 (g j)) (M : Dir.Mc) (nl : Nat) (f : Nat → List D) (clk cnt : Int) (h0 : 0 ≤ cnt) (h8 : cnt ≤ 4611686018427387904) :
    Fun TC 28 5 [.ptr 0 0] (dirH g M nl f clk cnt) 5 (.i .i64 (cnt - 1)) (dirH g M nl f clk cnt) := by
  refine Fun.mk' Tryz.func28 rfl rfl (Nat.le_of_ble_eq_true rfl) (by decide) ?_
  (repeat' (first
    | with_reducible refine Wp.seq ?_
    | with_reducible refine Wp.block ?_
    | ((with_reducible refine Wp.region ?_); conv => whnf)
    | ((with_reducible refine Wp.drawL TC_mixed ?_); conv => whnf)
    | ((with_reducible refine Wp.cond ?_); conv => whnf)
    | ((with_reducible refine Wp.ret ?_); conv => whnf)
    | ((with_reducible refine Wp.skip ?_); conv => whnf)
    | ((with_reducible refine Wp.exit ?_); conv => whnf)
    | ((with_reducible refine Go.mk ?_); conv => whnf)
    | ((with_reducible apply Eff1.of); conv => whnf)
    | with_reducible exact rfl
    | ((with_reducible refine Ov.ok (by first | exact IntWalk.i64_in _ (by omega) | exact IntWalk.u64_in _ (by omega) | exact IntWalk.u8_in _ (by omega) | exact IntWalk.u32_in _ (by omega) | exact IntWalk.i32_in _ (by omega) | exact IntWalk.u16_in _ (by omega)) ?_); conv => whnf)
    | (with_reducible refine Ov.sh1 (by with_unfolding_all exact rfl) ?_)
    | ((with_reducible refine Ov.quo (by omega) (by omega) (by omega) (fun _ _ => ?_)); conv => whnf)
    | ((with_reducible refine And.intro (show drawOK _ _ _ _ = true by kernel_rfl) ?_); conv => whnf)
    | ((with_reducible refine And.intro (by first | omega | exact Nat.le_of_ble_eq_true rfl) ?_); conv => whnf)
    | ((with_reducible refine And.intro ?hb ?_); (case hb => exact bytes_bd (Nat.le_of_ble_eq_true rfl) (by omega)); (conv => whnf))
    | ((refine DApp.a rfl rfl rfl rfl rfl rfl ?hb ?_); (case hb => first | exact bytes_bd (Nat.le_of_ble_eq_true rfl) (by omega) | omega); (conv => whnf))
    | ((refine DApp.b rfl rfl rfl rfl rfl rfl rfl rfl ?hb ?ho ?_); (case hb => first | exact bytes_bd (Nat.le_of_ble_eq_true rfl) (by omega) | omega); (case ho => omega); (conv => whnf))
    | ((refine DApp.c rfl rfl rfl rfl rfl ?hb ?_); (case hb => first | exact bytes_bd (Nat.le_of_ble_eq_true rfl) (by omega) | omega); (conv => whnf))
    | ((refine DApp.d rfl rfl rfl rfl rfl rfl ?hb ?ho ?_); (case hb => first | exact bytes_bd (Nat.le_of_ble_eq_true rfl) (by omega) | omega); (case ho => omega); (conv => whnf))
    | ((with_reducible refine nil_no (by omega) ?_); (conv => whnf))
    | ((with_reducible refine nil_any ?_ (fun hn0 => ?_)) <;> (conv => whnf))
    | (with_reducible refine CallStop.inline Tryz.func62 rfl rfl rfl (Nat.le_of_ble_eq_true rfl) ?_)
    | ((with_reducible refine At.mk' 0 rfl ?_); conv => whnf)
    | ((refine ways (fun hc => ?_) (fun hc => ?_)) <;> (try simp only [decide_eq_true_eq, decide_eq_false_iff_not, Bool.and_eq_true, Bool.or_eq_true, Bool.and_eq_false_iff, Bool.or_eq_false_iff, Bool.not_eq_true', Bool.not_eq_false', beq_iff_eq, bne_iff_ne, ne_eq, beq_eq_false_iff_ne, bne_eq_false_iff_eq, Bool.not_eq_true, Bool.not_eq_false] at hc) <;> (try (exfalso; omega)) <;> (conv => whnf))))
  (refine FinLe.sealB [0,1,2,3,4] rfl rfl rfl ?_ ?_); (focus ((conv => whnf); (repeat' (first | exact trivial | exact Seal.any | exact Seal.d | exact Seal.ptrL rfl | exact Seal.slL rfl | exact Seal.lt0 (SV.Lt.of rfl) | exact Seal.same (by assumption) (Nat.le_of_ble_eq_true rfl) (fun i hi => id5 hi) | exact Seal.le Seal.d (SV.Le.i (by omega)) | exact ⟨rfl, rfl, rfl⟩ | exact ⟨rfl, Nat.le_of_ble_eq_true rfl⟩ | exact dir_seal (by assumption) | exact dir_sealR (by assumption) (fun l hl => by rcases l with _ | _ | _ | _ | _ | l <;> first | rfl | omega) | exact fun i hi => DLes.refl _ | ((refine Seal.ptr rfl rfl ?_); (conv => whnf)) | ((refine Seal.fn ?_); (conv => whnf)) | ((refine Seal.agg ?_); (conv => whnf)) | ((refine Seal.tup ?_); (conv => whnf)) | ((refine Seal.iref ?_); (conv => whnf)) | ((refine And.intro ?_ ?_) <;> (conv => whnf)) | exact Seal.le Seal.d SV.Le.nil | exact Seal.le (Seal.sl rfl rfl (by omega)) (SV.Le.sl fun i hi => by simp only [Nat.zero_add]))))); (focus ((conv => whnf); (repeat' (first | exact trivial | exact Seal.any | exact Seal.d | exact Seal.ptrL rfl | exact Seal.slL rfl | exact Seal.lt0 (SV.Lt.of rfl) | exact Seal.same (by assumption) (Nat.le_of_ble_eq_true rfl) (fun i hi => id5 hi) | exact Seal.le Seal.d (SV.Le.i (by omega)) | exact ⟨rfl, rfl, rfl⟩ | exact ⟨rfl, Nat.le_of_ble_eq_true rfl⟩ | exact dir_seal (by assumption) | exact dir_sealR (by assumption) (fun l hl => by rcases l with _ | _ | _ | _ | _ | l <;> first | rfl | omega) | exact fun i hi => DLes.refl _ | ((refine Seal.ptr rfl rfl ?_); (conv => whnf)) | ((refine Seal.fn ?_); (conv => whnf)) | ((refine Seal.agg ?_); (conv => whnf)) | ((refine Seal.tup ?_); (conv => whnf)) | ((refine Seal.iref ?_); (conv => whnf)) | ((refine And.intro ?_ ?_) <;> (conv => whnf)) | exact Seal.le Seal.d SV.Le.nil | exact Seal.le (Seal.sl rfl rfl (by omega)) (SV.Le.sl fun i hi => by simp only [Nat.zero_add])))))
end Go.Proofs.YtbdclkjelhlfbaaGreat

namespace Go.Proofs.YtbdclkjelhlfbaaGreat
open Go.RowKit
set_option maxRecDepth 100000
namespace Dir
def Hn (n : Nat) (h : List Ent) : Prop := h.length ≤ n ∧ ∀ e ∈ h, IsB e.key
theorem Hn.mono {n m : Nat} {h : List Ent} (x : Hn n h) (e : n ≤ m) : Hn m h := ⟨Nat.le_trans x.1 e, x.2⟩
theorem Hn.get {n : Nat} {h : List Ent} (x : Hn n h) (k : Nat) : IsB (h.getD k default).key := by
  rw [List.getD_eq_getElem?_getD]
  cases e : h[k]? with
  | none => intro y hy; exact absurd hy (by simp [default, instInhabitedEnt.default])
  | some z => exact x.2 z (List.mem_of_getElem? e)
theorem Hn.ok {n : Nat} {h : List Ent} (x : Hn n h) (hn : n ≤ 16000000) : HOK h := ⟨Nat.le_trans x.1 hn, x.get⟩
theorem Hn.cut {n : Nat} {h : List Ent} (x : Hn n h) (lv sh : Nat) : Hn n (cutL h lv sh) :=
  ⟨Nat.le_trans (List.length_filter_le _ _) x.1, fun e he => x.2 e (List.mem_filter.1 he).1⟩
theorem Hn.fnd {n : Nat} {c : Kc} {h m : List Ent} {k : Int} (x : Hn n h) (hc : IsB c.key) (e : fndE c h = .inr (m, k)) : Hn (n + 1) m := by
  unfold fndE at e
  have hp := posE_le h c.key
  split at e
  · cases e
  · split at e
    · cases e
    · split at e
      · cases e
        refine ⟨?_, fun y hy => ?_⟩
        · unfold delAt; simp; have := x.1; omega
        · unfold delAt at hy
          rcases List.mem_append.1 hy with hy | hy
          · exact x.2 y (List.mem_of_mem_take hy)
          · exact x.2 y (List.mem_of_mem_drop hy)
      · split at e
        · cases e
          refine ⟨by rw [List.length_set]; have := x.1; omega, fun y hy => ?_⟩
          rcases List.mem_or_eq_of_mem_set hy with hy | rfl
          · exact x.2 y hy
          · exact x.get _
        · cases e
          refine ⟨by rw [insAt_length _ _ _ hp]; have := x.1; omega, fun y hy => ?_⟩
          unfold insAt at hy
          rcases List.mem_append.1 hy with hy | hy
          · rcases List.mem_append.1 hy with hy | hy
            · exact x.2 y (List.mem_of_mem_take hy)
            · rw [List.mem_singleton] at hy; subst hy; exact hc
          · exact x.2 y (List.mem_of_mem_drop hy)
def okH (n : Nat) : CS → Prop
  | .k0 c => IsB c.key
  | .kE c _ => IsB c.key
  | .kF c _ _ => IsB c.key
  | .kG c _ _ v h => IsB c.key ∧ Hn n h ∧ 0 ≤ v
  | .kH c _ _ h => IsB c.key ∧ Hn n h
  | .kL c _ _ h => IsB c.key ∧ Hn n h
  | .kS c _ _ m _ => IsB c.key ∧ Hn n m
  | .sG _ _ v h => Hn n h ∧ 0 ≤ v
  | .sH _ _ _ h => Hn n h
  | .sL _ _ _ h => Hn n h
  | _ => True
theorem okH.mono {n m : Nat} (e : n ≤ m) {s : CS} (h : okH n s) : okH m s := by
  cases s <;> first | trivial | exact h | exact ⟨h.1, h.2.1.mono e, h.2.2⟩ | exact ⟨h.1, h.2.mono e⟩ | exact ⟨Hn.mono h.1 e, h.2⟩ | exact Hn.mono h e
theorem plc_bd {lv : Nat} (s : Int) : ∃ i, i < 2 ^ lv ∧ plc lv s = 2 ^ lv + i := by
  refine ⟨(s % 2 ^ lv).toNat, ?_, rfl⟩
  have e : ((2 ^ lv : Nat) : Int) = 2 ^ lv := by simp
  have h0 : (0 : Int) < 2 ^ lv := Int.pow_pos (by decide)
  have h1 := Int.emod_lt_of_pos s h0
  have h2 := Int.emod_nonneg s (Int.ne_of_gt h0)
  omega
theorem pow_32 {lv i : Nat} (h : lv ≤ 4) (hi : i < 2 ^ lv) : 2 ^ lv + i < 32 := by
  have : 2 ^ lv ≤ 2 ^ 4 := Nat.pow_le_pow_right (by omega) h
  omega
theorem found_H {n : Nat} {c : Kc} {w : Nat} {v : Int} {h : List Ent} (hh : Hn n h) (hc : IsB c.key) : okH (n + 1) (found dirOps c w v h).1 := by
  unfold found
  cases e : dirOps.fnd c h with
  | inl r => trivial
  | inr p => exact ⟨hc, hh.fnd hc (show fndE c h = .inr (p.1, p.2) from e)⟩
theorem entered_H {n : Nat} {c : Kc} {w : Nat} {v : Int} {h : List Ent} (hh : Hn n h) (hc : IsB c.key) : okH (n + 1) (entered dirOps c w v h).1 := by
  unfold entered
  split
  · exact hc
  · exact found_H hh hc
theorem on_H {n lv i : Nat} {up : Bool} {h : List Ent} (hh : Hn n h) : okH n (on lv i up h) := by
  unfold on move
  split
  · split <;> trivial
  · exact hh
theorem upd_H {n : Nat} {f : Nat → List Ent} (hf : ∀ w, Hn n (f w)) {w : Nat} {h : List Ent} (hh : Hn n h) : ∀ j, Hn n (upd f w h j) := fun j => by
  unfold upd; split
  · exact hh
  · exact hf j
theorem Iw.pos {W : Nat → Int} {B : Int} (h : Iw W B) {lv i : Nat} (hl : lv ≤ 4) (hi : i < 2 ^ lv) : 0 ≤ W (2 ^ lv + i) := (h.w lv i hl hi).1
theorem nilH {n : Nat} : Hn n [] := ⟨Nat.zero_le _, by simp⟩
theorem step_H {n : Nat} {M : Mc} {B : Int} (hI : Iw M.W B) (hM : ∀ w, Hn n (M.Hd w)) {s : CS} (hs : Cw dirOps M.W s) (h : okH n s) : (∀ w, Hn (n + 1) ((step dirOps M s).1.Hd w)) ∧ okH (n + 1) (step dirOps M s).2.1 := by
  have hM' : ∀ w, Hn (n + 1) (M.Hd w) := fun w => (hM w).mono (by omega)
  cases s with
  | none => exact ⟨hM', trivial⟩
  | k0 c => exact ⟨hM', by simp only [step]; split <;> exact h⟩
  | kE c w => exact ⟨hM', entered_H (hM w) h⟩
  | kF c lv w =>
    refine ⟨hM', ?_⟩
    obtain ⟨i, hi, e⟩ := plc_bd (lv := lv) (dirOps.sum c.key)
    have hw : 0 ≤ M.W w := by rw [hs.2.1, e]; exact hI.pos (by have := hs.1; omega) hi
    simp only [step]; split
    · exact ⟨h, hM' w⟩
    · exact ⟨h, hM' w, hw⟩
  | kG c lv w v l =>
    have hl := h.2.1.mono (Nat.le_succ n)
    simp only [step]; split
    · exact ⟨upd_H hM' hl, h.1, hl⟩
    · exact ⟨hM', h.1⟩
  | kH c lv w l =>
    simp only [step]; split
    · exact ⟨hM', h.1, h.2.mono (Nat.le_succ n)⟩
    · exact ⟨hM', entered_H (hM w) h.1⟩
  | kL c lv w l =>
    simp only [step]; split
    · exact ⟨upd_H hM' ((h.2.mono (Nat.le_succ n)).cut _ _), h.1⟩
    · exact ⟨hM', h.1⟩
  | kS c w v m k =>
    simp only [step]; split
    · exact ⟨upd_H hM' (h.2.mono (Nat.le_succ n)), trivial⟩
    · exact ⟨hM', h.1⟩
  | s0 => simp only [step]; split
          · exact ⟨hM', trivial⟩
          · split <;> exact ⟨hM', trivial⟩
  | sM lv => simp only [step]; split
             · exact ⟨upd_H hM' nilH, trivial⟩
             · exact ⟨hM', trivial⟩
  | sF lv i =>
    refine ⟨hM', ?_⟩
    have hw : 0 ≤ M.W (2 ^ lv + i) := hI.pos (by have := hs.1; omega) hs.2.1
    simp only [step]; split
    · exact hM' _
    · exact ⟨hM' _, hw⟩
  | sG lv i v l =>
    have hl := h.1.mono (Nat.le_succ n)
    simp only [step]; split
    · exact ⟨upd_H hM' hl, hl⟩
    · exact ⟨hM', trivial⟩
  | sH lv i up l =>
    have hl : Hn (n + 1) l := Hn.mono h (Nat.le_succ n)
    refine ⟨hM', ?_⟩
    simp only [step]; split
    · exact hl
    · exact on_H hl
  | sL lv i up l =>
    have hl : Hn (n + 1) l := Hn.mono h (Nat.le_succ n)
    refine ⟨?_, on_H hl⟩
    simp only [step]; split
    · exact upd_H hM' (hl.cut _ _)
    · exact hM'
  | sV lv =>
    refine ⟨?_, trivial⟩
    simp only [step]; split
    · exact upd_H hM' nilH
    · exact hM'
end Dir
open Dir in
theorem okC_of {n : Nat} {W : Nat → Int} {s : Dir.CS} (hs : Dir.Cw dirOps W s) (h : Dir.okH n s) (hn : n ≤ 16000000) : okC s := by
  cases s with
  | none => trivial
  | k0 c => trivial
  | kE c w => exact ⟨hs.2, h⟩
  | kF c lv w =>
    obtain ⟨i, hi, e⟩ := plc_bd (lv := lv) (dirOps.sum c.key)
    exact ⟨hs.1, by rw [hs.2.1, e]; exact pow_32 (by have := hs.1; omega) hi⟩
  | kG c lv w v l =>
    obtain ⟨i, hi, e⟩ := plc_bd (lv := lv) (dirOps.sum c.key)
    exact ⟨⟨hs.1, by rw [hs.2.1, e]; exact pow_32 (by have := hs.1; omega) hi⟩, h.2.2, hs.2.2.2⟩
  | kH c lv w l =>
    obtain ⟨i, hi, e⟩ := plc_bd (lv := lv) (dirOps.sum c.key)
    exact ⟨by rw [hs.2.2.1, e]; exact pow_32 hs.2.1 hi, h.1⟩
  | kL c lv w l =>
    obtain ⟨i, hi, e⟩ := plc_bd (lv := lv) (dirOps.sum c.key)
    exact ⟨⟨hs.2.1, by rw [hs.2.2.1, e]; omega, by rw [hs.2.2.1, e]; exact pow_32 hs.2.1 hi⟩, h.2.ok hn⟩
  | kS c w v m k => exact ⟨hs.2.1, Int.le_of_lt hs.2.2.1, hs.2.2.2⟩
  | s0 => trivial
  | sM lv => exact hs
  | sF lv i => exact ⟨hs.1, hs.2.1⟩
  | sG lv i v l => exact ⟨⟨hs.1, hs.2.1⟩, h.2, hs.2.2.2.2⟩
  | sH lv i up l => exact ⟨hs.1, hs.2.1⟩
  | sL lv i up l => exact ⟨⟨hs.1, hs.2.1⟩, Hn.ok h hn⟩
  | sV lv => exact hs.1
end Go.Proofs.YtbdclkjelhlfbaaGreat
