/- Parts of the proof, one behind the other: Dr4, Dr5, Dr6. Lemmas and contracts of functions; no condition of its own. -/
import Derived.Test.YtbdclkjelhlfbaaGreatM8
set_option linter.unusedVariables false
set_option linter.unusedSimpArgs false
namespace Go.Proofs.YtbdclkjelhlfbaaGreat
open Go.RowKit
set_option maxRecDepth 100000
def boardS (m h : Nat) : SV := .iref [.ptr m 0, .sl h 1 0 32] 0
def holdB (Hd : Nat → List Dir.Ent) : Blk := .row 80 1 32 fun i => [slOf 2 entD (Hd i)]
theorem ite_rowH {i q : Nat} {x : List Dir.Ent} {Hd : Nat → List Dir.Ent} : (if i = q then [slOf 2 entD x] else [slOf 2 entD (Hd i)]) = [slOf 2 entD (Dir.upd Hd q x i)] := by unfold Dir.upd; split <;> rfl
theorem board_Load (nl : Nat) (W : Nat → Int) (Hd : Nat → List Dir.Ent) (f : Nat → List D) (clk cnt who : Int) (word : Nat) (hl : nl ≤ 128) (hc0 : 0 ≤ cnt) (hc1 : cnt ≤ 4611686018427387903) (hw0 : 0 ≤ who) (hw1 : who < 64) (hw : word < 32) :
    Fun TC 86 4 [boardS 0 2, .i .i64 who, .i .i64 word] [(0, some (machB 1 3 32 nl clk cnt)), (1, some (wordB 32 W)), (2, some (holdB Hd)), (3, some (lastB nl f))]
      5 (.tup [.i .u64 (W word), .d (slOf 2 entD (Hd word))]) [(0, some (machB 1 4 32 (noteN nl) clk (cnt + 1))), (1, some (wordB 32 W)), (2, some (holdB Hd)), (3, none), (4, some (lastB (noteN nl) (noteF nl f (accD who 1 word (W word) 0 true))))] := by
  refine Fun.mk' Tryz.func86 rfl rfl (Nat.le_of_ble_eq_true rfl) (by decide) ?_
  (repeat' (first
    | with_reducible refine Wp.seq ?_
    | with_reducible refine Wp.block ?_
    | ((with_reducible refine Wp.region ?_); conv => whnf)
    | ((with_reducible refine Wp.drawL TC_mixed ?_); conv => whnf)
    | ((with_reducible refine Wp.cond ?_); conv => whnf)
    | ((with_reducible refine Wp.ret ?_); conv => whnf)
    | ((with_reducible refine Wp.skip ?_); conv => whnf)
    | ((with_reducible refine Wp.exit ?_); conv => whnf)
    | ((with_reducible refine Go.mk ?_); conv => whnf)
    | ((with_reducible apply Eff1.of); conv => whnf)
    | with_reducible exact rfl
    | ((with_reducible refine Ov.ok (by first | exact IntWalk.i64_in _ (by omega) | exact IntWalk.u64_in _ (by omega) | exact IntWalk.u8_in _ (by omega) | exact IntWalk.u32_in _ (by omega) | exact IntWalk.i32_in _ (by omega) | exact IntWalk.u16_in _ (by omega)) ?_); conv => whnf)
    | (with_reducible refine Ov.sh1 (by with_unfolding_all exact rfl) ?_)
    | ((with_reducible refine Ov.quo (by omega) (by omega) (by omega) (fun _ _ => ?_)); conv => whnf)
    | ((with_reducible refine And.intro (show drawOK _ _ _ _ = true by kernel_rfl) ?_); conv => whnf)
    | ((with_reducible refine And.intro (by first | omega | exact Nat.le_of_ble_eq_true rfl) ?_); conv => whnf)
    | ((with_reducible refine And.intro ?hb ?_); (case hb => exact bytes_bd (Nat.le_of_ble_eq_true rfl) (by omega)); (conv => whnf))
    | ((refine DApp.a rfl rfl rfl rfl rfl rfl ?hb ?_); (case hb => first | exact bytes_bd (Nat.le_of_ble_eq_true rfl) (by omega) | omega); (conv => whnf))
    | ((refine DApp.b rfl rfl rfl rfl rfl rfl rfl rfl ?hb ?ho ?_); (case hb => first | exact bytes_bd (Nat.le_of_ble_eq_true rfl) (by omega) | omega); (case ho => omega); (conv => whnf))
    | ((refine DApp.c rfl rfl rfl rfl rfl ?hb ?_); (case hb => first | exact bytes_bd (Nat.le_of_ble_eq_true rfl) (by omega) | omega); (conv => whnf))
    | ((refine DApp.d rfl rfl rfl rfl rfl rfl ?hb ?ho ?_); (case hb => first | exact bytes_bd (Nat.le_of_ble_eq_true rfl) (by omega) | omega); (case ho => omega); (conv => whnf))
    | ((with_reducible refine nil_no (by omega) ?_); (conv => whnf))
    | ((with_reducible refine nil_any ?_ (fun hn0 => ?_)) <;> (conv => whnf))
    | ((refine CallStop.fn (mach_Load 32 nl W f clk cnt who word hl hc0 hc1 hw0 hw1 hw) [0,1,3] rfl rfl rfl rfl rfl ?ha ?hh ?_); (case ha => ((conv => whnf); repeat' (first | exact trivial | exact ArgLe.rfl rfl | exact ArgLe.ptr rfl | exact ArgLe.sl rfl | ((with_reducible refine ArgLe.fn ?_); (conv => whnf)) | ((refine ArgLe.iref ?_); (conv => whnf)) | exact ArgLe.free SV.Le.nil rfl | ((with_reducible refine And.intro ?_ ?_) <;> (conv => whnf)) | ((refine ArgLe.free ?_ rfl); (repeat' (first | exact SV.Le.rfl _ | exact SV.Le.nil | exact SV.Le.sl (fun i hi => by (rcases i with _ | _ | _ | _ | i) <;> first | rfl | (exfalso; omega)) | with_reducible refine SV.Le.agg ?_ | exact Les.nil | with_reducible refine Les.cons ?_ ?_)))))); (case hh => ((conv => whnf); repeat' (first | exact trivial | exact ArgLe.rfl rfl | exact ArgLe.ptr rfl | exact ArgLe.sl rfl | ((with_reducible refine ArgLe.fn ?_); (conv => whnf)) | ((refine ArgLe.iref ?_); (conv => whnf)) | exact ArgLe.free SV.Le.nil rfl | exact ⟨rfl, rfl, rfl⟩ | exact fun i hi => rfl | exact (fun i hi => by (rcases i with _ | i) <;> first | rfl | (exfalso; omega)) | ((with_reducible refine And.intro ?_ ?_) <;> (conv => whnf))))); (conv => whnf))
    | ((refine DCall.fn (mach_Load 32 nl W f clk cnt who word hl hc0 hc1 hw0 hw1 hw) [0,1,3] [0,1,3] rfl rfl rfl rfl rfl ?ha ?hh ?hs ?_); (case ha => ((conv => whnf); repeat' (first | exact trivial | exact ArgLe.rfl rfl | exact ArgLe.ptr rfl | exact ArgLe.sl rfl | ((with_reducible refine ArgLe.fn ?_); (conv => whnf)) | ((refine ArgLe.iref ?_); (conv => whnf)) | exact ArgLe.free SV.Le.nil rfl | ((with_reducible refine And.intro ?_ ?_) <;> (conv => whnf)) | ((refine ArgLe.free ?_ rfl); (repeat' (first | exact SV.Le.rfl _ | exact SV.Le.nil | exact SV.Le.sl (fun i hi => by (rcases i with _ | _ | _ | _ | i) <;> first | rfl | (exfalso; omega)) | with_reducible refine SV.Le.agg ?_ | exact Les.nil | with_reducible refine Les.cons ?_ ?_)))))); (case hh => ((conv => whnf); repeat' (first | exact trivial | exact ArgLe.rfl rfl | exact ArgLe.ptr rfl | exact ArgLe.sl rfl | ((with_reducible refine ArgLe.fn ?_); (conv => whnf)) | ((refine ArgLe.iref ?_); (conv => whnf)) | exact ArgLe.free SV.Le.nil rfl | exact ⟨rfl, rfl, rfl⟩ | exact fun i hi => rfl | exact (fun i hi => by (rcases i with _ | i) <;> first | rfl | (exfalso; omega)) | ((with_reducible refine And.intro ?_ ?_) <;> (conv => whnf))))); (case hs => (conv => whnf); repeat' (first | exact trivial | ((refine And.intro rfl ?_); (conv => whnf)))); (conv => whnf)) | ((refine DCall.new (mach_Load 32 nl W f clk cnt who word hl hc0 hc1 hw0 hw1 hw) [0,1,3] [0,1,3] rfl rfl rfl rfl rfl rfl ?ha ?hh ?hs ?_); (case ha => ((conv => whnf); repeat' (first | exact trivial | exact ArgLe.rfl rfl | exact ArgLe.ptr rfl | exact ArgLe.sl rfl | ((with_reducible refine ArgLe.fn ?_); (conv => whnf)) | ((refine ArgLe.iref ?_); (conv => whnf)) | exact ArgLe.free SV.Le.nil rfl | ((with_reducible refine And.intro ?_ ?_) <;> (conv => whnf)) | ((refine ArgLe.free ?_ rfl); (repeat' (first | exact SV.Le.rfl _ | exact SV.Le.nil | exact SV.Le.sl (fun i hi => by (rcases i with _ | _ | _ | _ | i) <;> first | rfl | (exfalso; omega)) | with_reducible refine SV.Le.agg ?_ | exact Les.nil | with_reducible refine Les.cons ?_ ?_)))))); (case hh => ((conv => whnf); repeat' (first | exact trivial | exact ArgLe.rfl rfl | exact ArgLe.ptr rfl | exact ArgLe.sl rfl | ((with_reducible refine ArgLe.fn ?_); (conv => whnf)) | ((refine ArgLe.iref ?_); (conv => whnf)) | exact ArgLe.free SV.Le.nil rfl | exact ⟨rfl, rfl, rfl⟩ | exact fun i hi => rfl | exact (fun i hi => by (rcases i with _ | i) <;> first | rfl | (exfalso; omega)) | ((with_reducible refine And.intro ?_ ?_) <;> (conv => whnf))))); (case hs => (conv => whnf); repeat' (first | exact trivial | ((refine And.intro rfl ?_); (conv => whnf)))); (conv => whnf))
    | ((refine DCall.fn (mach_Load 32 nl W f clk cnt who word hl hc0 hc1 hw0 hw1 hw) [0,1,3] [] rfl rfl rfl rfl rfl ?ha ?hh ?hs ?_); (case ha => ((conv => whnf); repeat' (first | exact trivial | exact ArgLe.rfl rfl | exact ArgLe.ptr rfl | exact ArgLe.sl rfl | ((with_reducible refine ArgLe.fn ?_); (conv => whnf)) | ((refine ArgLe.iref ?_); (conv => whnf)) | exact ArgLe.free SV.Le.nil rfl | ((with_reducible refine And.intro ?_ ?_) <;> (conv => whnf)) | ((refine ArgLe.free ?_ rfl); (repeat' (first | exact SV.Le.rfl _ | exact SV.Le.nil | exact SV.Le.sl (fun i hi => by (rcases i with _ | _ | _ | _ | i) <;> first | rfl | (exfalso; omega)) | with_reducible refine SV.Le.agg ?_ | exact Les.nil | with_reducible refine Les.cons ?_ ?_)))))); (case hh => ((conv => whnf); repeat' (first | exact trivial | exact ArgLe.rfl rfl | exact ArgLe.ptr rfl | exact ArgLe.sl rfl | ((with_reducible refine ArgLe.fn ?_); (conv => whnf)) | ((refine ArgLe.iref ?_); (conv => whnf)) | exact ArgLe.free SV.Le.nil rfl | exact ⟨rfl, rfl, rfl⟩ | exact fun i hi => rfl | exact (fun i hi => by (rcases i with _ | i) <;> first | rfl | (exfalso; omega)) | ((with_reducible refine And.intro ?_ ?_) <;> (conv => whnf))))); (case hs => (conv => whnf); repeat' (first | exact trivial | ((refine And.intro rfl ?_); (conv => whnf)))); (conv => whnf)) | ((refine DCall.new (mach_Load 32 nl W f clk cnt who word hl hc0 hc1 hw0 hw1 hw) [0,1,3] [] rfl rfl rfl rfl rfl rfl ?ha ?hh ?hs ?_); (case ha => ((conv => whnf); repeat' (first | exact trivial | exact ArgLe.rfl rfl | exact ArgLe.ptr rfl | exact ArgLe.sl rfl | ((with_reducible refine ArgLe.fn ?_); (conv => whnf)) | ((refine ArgLe.iref ?_); (conv => whnf)) | exact ArgLe.free SV.Le.nil rfl | ((with_reducible refine And.intro ?_ ?_) <;> (conv => whnf)) | ((refine ArgLe.free ?_ rfl); (repeat' (first | exact SV.Le.rfl _ | exact SV.Le.nil | exact SV.Le.sl (fun i hi => by (rcases i with _ | _ | _ | _ | i) <;> first | rfl | (exfalso; omega)) | with_reducible refine SV.Le.agg ?_ | exact Les.nil | with_reducible refine Les.cons ?_ ?_)))))); (case hh => ((conv => whnf); repeat' (first | exact trivial | exact ArgLe.rfl rfl | exact ArgLe.ptr rfl | exact ArgLe.sl rfl | ((with_reducible refine ArgLe.fn ?_); (conv => whnf)) | ((refine ArgLe.iref ?_); (conv => whnf)) | exact ArgLe.free SV.Le.nil rfl | exact ⟨rfl, rfl, rfl⟩ | exact fun i hi => rfl | exact (fun i hi => by (rcases i with _ | i) <;> first | rfl | (exfalso; omega)) | ((with_reducible refine And.intro ?_ ?_) <;> (conv => whnf))))); (case hs => (conv => whnf); repeat' (first | exact trivial | ((refine And.intro rfl ?_); (conv => whnf)))); (conv => whnf))
    | ((refine ways (fun hc => ?_) (fun hc => ?_)) <;> (try simp only [decide_eq_true_eq, decide_eq_false_iff_not, Bool.and_eq_true, Bool.or_eq_true, Bool.and_eq_false_iff, Bool.or_eq_false_iff, Bool.not_eq_true', Bool.not_eq_false', beq_iff_eq, bne_iff_ne, ne_eq, beq_eq_false_iff_ne, bne_eq_false_iff_eq, Bool.not_eq_true, Bool.not_eq_false] at hc) <;> (try (exfalso; omega)) <;> (conv => whnf))))
  simp only [wat]
  (refine FinLe.sealB [0,1,2,3,4] rfl rfl rfl ?_ ?_); (focus ((conv => whnf); (repeat' (first | exact trivial | exact Seal.any | exact Seal.d | exact Seal.ptrL rfl | exact Seal.slL rfl | exact Seal.lt0 (SV.Lt.of rfl) | exact Seal.same (by assumption) (Nat.le_of_ble_eq_true rfl) (fun i hi => id5 hi) | exact Seal.le Seal.d (SV.Le.i (by omega)) | exact ⟨rfl, rfl, rfl⟩ | exact ⟨rfl, Nat.le_of_ble_eq_true rfl⟩ | exact dir_seal (by assumption) | exact dir_sealR (by assumption) (fun l hl => by rcases l with _ | _ | _ | _ | _ | l <;> first | rfl | omega) | exact fun i hi => DLes.refl _ | ((refine Seal.ptr rfl rfl ?_); (conv => whnf)) | ((refine Seal.fn ?_); (conv => whnf)) | ((refine Seal.agg ?_); (conv => whnf)) | ((refine Seal.tup ?_); (conv => whnf)) | ((refine Seal.iref ?_); (conv => whnf)) | ((refine And.intro ?_ ?_) <;> (conv => whnf)) | exact Seal.le Seal.d SV.Le.nil | exact Seal.le (Seal.sl rfl rfl (by omega)) (SV.Le.sl fun i hi => by simp only [Nat.zero_add]))))); (focus ((conv => whnf); (repeat' (first | exact trivial | exact Seal.any | exact Seal.d | exact Seal.ptrL rfl | exact Seal.slL rfl | exact Seal.lt0 (SV.Lt.of rfl) | exact Seal.same (by assumption) (Nat.le_of_ble_eq_true rfl) (fun i hi => id5 hi) | exact Seal.le Seal.d (SV.Le.i (by omega)) | exact ⟨rfl, rfl, rfl⟩ | exact ⟨rfl, Nat.le_of_ble_eq_true rfl⟩ | exact dir_seal (by assumption) | exact dir_sealR (by assumption) (fun l hl => by rcases l with _ | _ | _ | _ | _ | l <;> first | rfl | omega) | exact fun i hi => DLes.refl _ | ((refine Seal.ptr rfl rfl ?_); (conv => whnf)) | ((refine Seal.fn ?_); (conv => whnf)) | ((refine Seal.agg ?_); (conv => whnf)) | ((refine Seal.tup ?_); (conv => whnf)) | ((refine Seal.iref ?_); (conv => whnf)) | ((refine And.intro ?_ ?_) <;> (conv => whnf)) | exact Seal.le Seal.d SV.Le.nil | exact Seal.le (Seal.sl rfl rfl (by omega)) (SV.Le.sl fun i hi => by simp only [Nat.zero_add])))))
theorem board_Swap (nl : Nat) (W : Nat → Int) (Hd : Nat → List Dir.Ent) (f : Nat → List D) (clk cnt who old new : Int) (word : Nat) (h : List Dir.Ent) (hl : nl ≤ 128) (hc0 : 0 ≤ cnt) (hc1 : cnt ≤ 4611686018427387903) (hw0 : 0 ≤ who) (hw1 : who < 64) (hw : word < 32) :
    Fun TC 82 4 [boardS 0 2, .i .i64 who, .i .i64 word, .i .u64 old, .i .u64 new, .d (slOf 2 entD h)] [(0, some (machB 1 3 32 nl clk cnt)), (1, some (wordB 32 W)), (2, some (holdB Hd)), (3, some (lastB nl f))]
      5 (.b (decide (W word = old))) [(0, some (machB 1 4 32 (noteN nl) clk (cnt + 1))), (1, some (wordB 32 (if W word = old then Dir.upd W word new else W))), (2, some (holdB (if W word = old then Dir.upd Hd word h else Hd))), (3, none), (4, some (lastB (noteN nl) (noteF nl f (accD who 2 word old new (decide (W word = old))))))] := by
  refine Fun.mk' Tryz.func82 rfl rfl (Nat.le_of_ble_eq_true rfl) (by decide) ?_
  (repeat' (first
    | with_reducible refine Wp.seq ?_
    | with_reducible refine Wp.block ?_
    | ((with_reducible refine Wp.region ?_); conv => whnf)
    | ((with_reducible refine Wp.drawL TC_mixed ?_); conv => whnf)
    | ((with_reducible refine Wp.cond ?_); conv => whnf)
    | ((with_reducible refine Wp.ret ?_); conv => whnf)
    | ((with_reducible refine Wp.skip ?_); conv => whnf)
    | ((with_reducible refine Wp.exit ?_); conv => whnf)
    | ((with_reducible refine Go.mk ?_); conv => whnf)
    | ((with_reducible apply Eff1.of); conv => whnf)
    | with_reducible exact rfl
    | ((with_reducible refine Ov.ok (by first | exact IntWalk.i64_in _ (by omega) | exact IntWalk.u64_in _ (by omega) | exact IntWalk.u8_in _ (by omega) | exact IntWalk.u32_in _ (by omega) | exact IntWalk.i32_in _ (by omega) | exact IntWalk.u16_in _ (by omega)) ?_); conv => whnf)
    | (with_reducible refine Ov.sh1 (by with_unfolding_all exact rfl) ?_)
    | ((with_reducible refine Ov.quo (by omega) (by omega) (by omega) (fun _ _ => ?_)); conv => whnf)
    | ((with_reducible refine And.intro (show drawOK _ _ _ _ = true by kernel_rfl) ?_); conv => whnf)
    | ((with_reducible refine And.intro (by first | omega | exact Nat.le_of_ble_eq_true rfl) ?_); conv => whnf)
    | ((with_reducible refine And.intro ?hb ?_); (case hb => exact bytes_bd (Nat.le_of_ble_eq_true rfl) (by omega)); (conv => whnf))
    | ((refine DApp.a rfl rfl rfl rfl rfl rfl ?hb ?_); (case hb => first | exact bytes_bd (Nat.le_of_ble_eq_true rfl) (by omega) | omega); (conv => whnf))
    | ((refine DApp.b rfl rfl rfl rfl rfl rfl rfl rfl ?hb ?ho ?_); (case hb => first | exact bytes_bd (Nat.le_of_ble_eq_true rfl) (by omega) | omega); (case ho => omega); (conv => whnf))
    | ((refine DApp.c rfl rfl rfl rfl rfl ?hb ?_); (case hb => first | exact bytes_bd (Nat.le_of_ble_eq_true rfl) (by omega) | omega); (conv => whnf))
    | ((refine DApp.d rfl rfl rfl rfl rfl rfl ?hb ?ho ?_); (case hb => first | exact bytes_bd (Nat.le_of_ble_eq_true rfl) (by omega) | omega); (case ho => omega); (conv => whnf))
    | ((with_reducible refine nil_no (by omega) ?_); (conv => whnf))
    | ((with_reducible refine nil_any ?_ (fun hn0 => ?_)) <;> (conv => whnf))
    | ((refine CallStop.fn (mach_Swap 32 nl W f clk cnt who old new word hl hc0 hc1 hw0 hw1 hw) [0,1,3] rfl rfl rfl rfl rfl ?ha ?hh ?_); (case ha => ((conv => whnf); repeat' (first | exact trivial | exact ArgLe.rfl rfl | exact ArgLe.ptr rfl | exact ArgLe.sl rfl | ((with_reducible refine ArgLe.fn ?_); (conv => whnf)) | ((refine ArgLe.iref ?_); (conv => whnf)) | exact ArgLe.free SV.Le.nil rfl | ((with_reducible refine And.intro ?_ ?_) <;> (conv => whnf)) | ((refine ArgLe.free ?_ rfl); (repeat' (first | exact SV.Le.rfl _ | exact SV.Le.nil | exact SV.Le.sl (fun i hi => by (rcases i with _ | _ | _ | _ | i) <;> first | rfl | (exfalso; omega)) | with_reducible refine SV.Le.agg ?_ | exact Les.nil | with_reducible refine Les.cons ?_ ?_)))))); (case hh => ((conv => whnf); repeat' (first | exact trivial | exact ArgLe.rfl rfl | exact ArgLe.ptr rfl | exact ArgLe.sl rfl | ((with_reducible refine ArgLe.fn ?_); (conv => whnf)) | ((refine ArgLe.iref ?_); (conv => whnf)) | exact ArgLe.free SV.Le.nil rfl | exact ⟨rfl, rfl, rfl⟩ | exact fun i hi => rfl | exact (fun i hi => by (rcases i with _ | i) <;> first | rfl | (exfalso; omega)) | ((with_reducible refine And.intro ?_ ?_) <;> (conv => whnf))))); (conv => whnf))
    | ((refine DCall.fn (mach_Swap 32 nl W f clk cnt who old new word hl hc0 hc1 hw0 hw1 hw) [0,1,3] [0,1,3] rfl rfl rfl rfl rfl ?ha ?hh ?hs ?_); (case ha => ((conv => whnf); repeat' (first | exact trivial | exact ArgLe.rfl rfl | exact ArgLe.ptr rfl | exact ArgLe.sl rfl | ((with_reducible refine ArgLe.fn ?_); (conv => whnf)) | ((refine ArgLe.iref ?_); (conv => whnf)) | exact ArgLe.free SV.Le.nil rfl | ((with_reducible refine And.intro ?_ ?_) <;> (conv => whnf)) | ((refine ArgLe.free ?_ rfl); (repeat' (first | exact SV.Le.rfl _ | exact SV.Le.nil | exact SV.Le.sl (fun i hi => by (rcases i with _ | _ | _ | _ | i) <;> first | rfl | (exfalso; omega)) | with_reducible refine SV.Le.agg ?_ | exact Les.nil | with_reducible refine Les.cons ?_ ?_)))))); (case hh => ((conv => whnf); repeat' (first | exact trivial | exact ArgLe.rfl rfl | exact ArgLe.ptr rfl | exact ArgLe.sl rfl | ((with_reducible refine ArgLe.fn ?_); (conv => whnf)) | ((refine ArgLe.iref ?_); (conv => whnf)) | exact ArgLe.free SV.Le.nil rfl | exact ⟨rfl, rfl, rfl⟩ | exact fun i hi => rfl | exact (fun i hi => by (rcases i with _ | i) <;> first | rfl | (exfalso; omega)) | ((with_reducible refine And.intro ?_ ?_) <;> (conv => whnf))))); (case hs => (conv => whnf); repeat' (first | exact trivial | ((refine And.intro rfl ?_); (conv => whnf)))); (conv => whnf)) | ((refine DCall.new (mach_Swap 32 nl W f clk cnt who old new word hl hc0 hc1 hw0 hw1 hw) [0,1,3] [0,1,3] rfl rfl rfl rfl rfl rfl ?ha ?hh ?hs ?_); (case ha => ((conv => whnf); repeat' (first | exact trivial | exact ArgLe.rfl rfl | exact ArgLe.ptr rfl | exact ArgLe.sl rfl | ((with_reducible refine ArgLe.fn ?_); (conv => whnf)) | ((refine ArgLe.iref ?_); (conv => whnf)) | exact ArgLe.free SV.Le.nil rfl | ((with_reducible refine And.intro ?_ ?_) <;> (conv => whnf)) | ((refine ArgLe.free ?_ rfl); (repeat' (first | exact SV.Le.rfl _ | exact SV.Le.nil | exact SV.Le.sl (fun i hi => by (rcases i with _ | _ | _ | _ | i) <;> first | rfl | (exfalso; omega)) | with_reducible refine SV.Le.agg ?_ | exact Les.nil | with_reducible refine Les.cons ?_ ?_)))))); (case hh => ((conv => whnf); repeat' (first | exact trivial | exact ArgLe.rfl rfl | exact ArgLe.ptr rfl | exact ArgLe.sl rfl | ((with_reducible refine ArgLe.fn ?_); (conv => whnf)) | ((refine ArgLe.iref ?_); (conv => whnf)) | exact ArgLe.free SV.Le.nil rfl | exact ⟨rfl, rfl, rfl⟩ | exact fun i hi => rfl | exact (fun i hi => by (rcases i with _ | i) <;> first | rfl | (exfalso; omega)) | ((with_reducible refine And.intro ?_ ?_) <;> (conv => whnf))))); (case hs => (conv => whnf); repeat' (first | exact trivial | ((refine And.intro rfl ?_); (conv => whnf)))); (conv => whnf))
    | ((refine DCall.fn (mach_Swap 32 nl W f clk cnt who old new word hl hc0 hc1 hw0 hw1 hw) [0,1,3] [] rfl rfl rfl rfl rfl ?ha ?hh ?hs ?_); (case ha => ((conv => whnf); repeat' (first | exact trivial | exact ArgLe.rfl rfl | exact ArgLe.ptr rfl | exact ArgLe.sl rfl | ((with_reducible refine ArgLe.fn ?_); (conv => whnf)) | ((refine ArgLe.iref ?_); (conv => whnf)) | exact ArgLe.free SV.Le.nil rfl | ((with_reducible refine And.intro ?_ ?_) <;> (conv => whnf)) | ((refine ArgLe.free ?_ rfl); (repeat' (first | exact SV.Le.rfl _ | exact SV.Le.nil | exact SV.Le.sl (fun i hi => by (rcases i with _ | _ | _ | _ | i) <;> first | rfl | (exfalso; omega)) | with_reducible refine SV.Le.agg ?_ | exact Les.nil | with_reducible refine Les.cons ?_ ?_)))))); (case hh => ((conv => whnf); repeat' (first | exact trivial | exact ArgLe.rfl rfl | exact ArgLe.ptr rfl | exact ArgLe.sl rfl | ((with_reducible refine ArgLe.fn ?_); (conv => whnf)) | ((refine ArgLe.iref ?_); (conv => whnf)) | exact ArgLe.free SV.Le.nil rfl | exact ⟨rfl, rfl, rfl⟩ | exact fun i hi => rfl | exact (fun i hi => by (rcases i with _ | i) <;> first | rfl | (exfalso; omega)) | ((with_reducible refine And.intro ?_ ?_) <;> (conv => whnf))))); (case hs => (conv => whnf); repeat' (first | exact trivial | ((refine And.intro rfl ?_); (conv => whnf)))); (conv => whnf)) | ((refine DCall.new (mach_Swap 32 nl W f clk cnt who old new word hl hc0 hc1 hw0 hw1 hw) [0,1,3] [] rfl rfl rfl rfl rfl rfl ?ha ?hh ?hs ?_); (case ha => ((conv => whnf); repeat' (first | exact trivial | exact ArgLe.rfl rfl | exact ArgLe.ptr rfl | exact ArgLe.sl rfl | ((with_reducible refine ArgLe.fn ?_); (conv => whnf)) | ((refine ArgLe.iref ?_); (conv => whnf)) | exact ArgLe.free SV.Le.nil rfl | ((with_reducible refine And.intro ?_ ?_) <;> (conv => whnf)) | ((refine ArgLe.free ?_ rfl); (repeat' (first | exact SV.Le.rfl _ | exact SV.Le.nil | exact SV.Le.sl (fun i hi => by (rcases i with _ | _ | _ | _ | i) <;> first | rfl | (exfalso; omega)) | with_reducible refine SV.Le.agg ?_ | exact Les.nil | with_reducible refine Les.cons ?_ ?_)))))); (case hh => ((conv => whnf); repeat' (first | exact trivial | exact ArgLe.rfl rfl | exact ArgLe.ptr rfl | exact ArgLe.sl rfl | ((with_reducible refine ArgLe.fn ?_); (conv => whnf)) | ((refine ArgLe.iref ?_); (conv => whnf)) | exact ArgLe.free SV.Le.nil rfl | exact ⟨rfl, rfl, rfl⟩ | exact fun i hi => rfl | exact (fun i hi => by (rcases i with _ | i) <;> first | rfl | (exfalso; omega)) | ((with_reducible refine And.intro ?_ ?_) <;> (conv => whnf))))); (case hs => (conv => whnf); repeat' (first | exact trivial | ((refine And.intro rfl ?_); (conv => whnf)))); (conv => whnf))
    | ((refine ways (fun hc => ?_) (fun hc => ?_)) <;> (try simp only [decide_eq_true_eq, decide_eq_false_iff_not, Bool.and_eq_true, Bool.or_eq_true, Bool.and_eq_false_iff, Bool.or_eq_false_iff, Bool.not_eq_true', Bool.not_eq_false', beq_iff_eq, bne_iff_ne, ne_eq, beq_eq_false_iff_ne, bne_eq_false_iff_eq, Bool.not_eq_true, Bool.not_eq_false] at hc) <;> (try (exfalso; omega)) <;> (conv => whnf))))
  · try simp only [wat]
    rw [if_pos hc, if_pos hc]
    (refine FinLe.sealB [0,1,2,3,4] rfl rfl rfl ?_ ?_); (focus ((conv => whnf); (repeat' (first | exact trivial | exact Seal.any | exact Seal.d | exact Seal.ptrL rfl | exact Seal.slL rfl | exact Seal.lt0 (SV.Lt.of rfl) | exact Seal.same (by assumption) (Nat.le_of_ble_eq_true rfl) (fun i hi => id5 hi) | exact Seal.le Seal.d (SV.Le.i (by omega)) | exact ⟨rfl, rfl, rfl⟩ | exact ⟨rfl, Nat.le_of_ble_eq_true rfl⟩ | exact dir_seal (by assumption) | exact dir_sealR (by assumption) (fun l hl => by rcases l with _ | _ | _ | _ | _ | l <;> first | rfl | omega) | exact fun i hi => DLes.refl _ | ((refine Seal.ptr rfl rfl ?_); (conv => whnf)) | ((refine Seal.fn ?_); (conv => whnf)) | ((refine Seal.agg ?_); (conv => whnf)) | ((refine Seal.tup ?_); (conv => whnf)) | ((refine Seal.iref ?_); (conv => whnf)) | ((refine And.intro ?_ ?_) <;> (conv => whnf)) | exact Seal.le Seal.d SV.Le.nil | exact Seal.le (Seal.sl rfl rfl (by omega)) (SV.Le.sl fun i hi => by simp only [Nat.zero_add]))))); (focus ((conv => whnf); (repeat' (first | exact trivial | exact Seal.any | exact Seal.d | exact Seal.ptrL rfl | exact Seal.slL rfl | exact Seal.lt0 (SV.Lt.of rfl) | exact Seal.same (by assumption) (Nat.le_of_ble_eq_true rfl) (fun i hi => id5 hi) | exact Seal.le Seal.d (SV.Le.i (by omega)) | exact ⟨rfl, rfl, rfl⟩ | exact ⟨rfl, Nat.le_of_ble_eq_true rfl⟩ | exact dir_seal (by assumption) | exact dir_sealR (by assumption) (fun l hl => by rcases l with _ | _ | _ | _ | _ | l <;> first | rfl | omega) | exact fun i hi => DLes.refl _ | ((refine Seal.ptr rfl rfl ?_); (conv => whnf)) | ((refine Seal.fn ?_); (conv => whnf)) | ((refine Seal.agg ?_); (conv => whnf)) | ((refine Seal.tup ?_); (conv => whnf)) | ((refine Seal.iref ?_); (conv => whnf)) | ((refine And.intro ?_ ?_) <;> (conv => whnf)) | exact Seal.le Seal.d SV.Le.nil | exact Seal.le (Seal.sl rfl rfl (by omega)) (SV.Le.sl fun i hi => by simp only [Nat.zero_add])))))
    exact fun i hi => DLes.of ite_rowH
  · try simp only [wat]
    rw [if_neg hc, if_neg hc]
    (refine FinLe.sealB [0,1,2,3,4] rfl rfl rfl ?_ ?_); (focus ((conv => whnf); (repeat' (first | exact trivial | exact Seal.any | exact Seal.d | exact Seal.ptrL rfl | exact Seal.slL rfl | exact Seal.lt0 (SV.Lt.of rfl) | exact Seal.same (by assumption) (Nat.le_of_ble_eq_true rfl) (fun i hi => id5 hi) | exact Seal.le Seal.d (SV.Le.i (by omega)) | exact ⟨rfl, rfl, rfl⟩ | exact ⟨rfl, Nat.le_of_ble_eq_true rfl⟩ | exact dir_seal (by assumption) | exact dir_sealR (by assumption) (fun l hl => by rcases l with _ | _ | _ | _ | _ | l <;> first | rfl | omega) | exact fun i hi => DLes.refl _ | ((refine Seal.ptr rfl rfl ?_); (conv => whnf)) | ((refine Seal.fn ?_); (conv => whnf)) | ((refine Seal.agg ?_); (conv => whnf)) | ((refine Seal.tup ?_); (conv => whnf)) | ((refine Seal.iref ?_); (conv => whnf)) | ((refine And.intro ?_ ?_) <;> (conv => whnf)) | exact Seal.le Seal.d SV.Le.nil | exact Seal.le (Seal.sl rfl rfl (by omega)) (SV.Le.sl fun i hi => by simp only [Nat.zero_add]))))); (focus ((conv => whnf); (repeat' (first | exact trivial | exact Seal.any | exact Seal.d | exact Seal.ptrL rfl | exact Seal.slL rfl | exact Seal.lt0 (SV.Lt.of rfl) | exact Seal.same (by assumption) (Nat.le_of_ble_eq_true rfl) (fun i hi => id5 hi) | exact Seal.le Seal.d (SV.Le.i (by omega)) | exact ⟨rfl, rfl, rfl⟩ | exact ⟨rfl, Nat.le_of_ble_eq_true rfl⟩ | exact dir_seal (by assumption) | exact dir_sealR (by assumption) (fun l hl => by rcases l with _ | _ | _ | _ | _ | l <;> first | rfl | omega) | exact fun i hi => DLes.refl _ | ((refine Seal.ptr rfl rfl ?_); (conv => whnf)) | ((refine Seal.fn ?_); (conv => whnf)) | ((refine Seal.agg ?_); (conv => whnf)) | ((refine Seal.tup ?_); (conv => whnf)) | ((refine Seal.iref ?_); (conv => whnf)) | ((refine And.intro ?_ ?_) <;> (conv => whnf)) | exact Seal.le Seal.d SV.Le.nil | exact Seal.le (Seal.sl rfl rfl (by omega)) (SV.Le.sl fun i hi => by simp only [Nat.zero_add])))))
theorem board_Look (nl : Nat) (W : Nat → Int) (Hd : Nat → List Dir.Ent) (f : Nat → List D) (clk cnt : Int) (word : Nat) (hw : word < 32) :
    Fun TC 107 4 [boardS 0 2, .i .i64 word] [(0, some (machB 1 3 32 nl clk cnt)), (1, some (wordB 32 W)), (2, some (holdB Hd)), (3, some (lastB nl f))]
      4 (.tup [.i .u64 (W word), .d (slOf 2 entD (Hd word))]) [(0, some (machB 1 3 32 nl clk cnt)), (1, some (wordB 32 W)), (2, some (holdB Hd)), (3, some (lastB nl f))] := by
  refine Fun.mk' Tryz.func107 rfl rfl (Nat.le_of_ble_eq_true rfl) (by decide) ?_
  (repeat' (first
    | with_reducible refine Wp.seq ?_
    | with_reducible refine Wp.block ?_
    | ((with_reducible refine Wp.region ?_); conv => whnf)
    | ((with_reducible refine Wp.drawL TC_mixed ?_); conv => whnf)
    | ((with_reducible refine Wp.cond ?_); conv => whnf)
    | ((with_reducible refine Wp.ret ?_); conv => whnf)
    | ((with_reducible refine Wp.skip ?_); conv => whnf)
    | ((with_reducible refine Wp.exit ?_); conv => whnf)
    | ((with_reducible refine Go.mk ?_); conv => whnf)
    | ((with_reducible apply Eff1.of); conv => whnf)
    | with_reducible exact rfl
    | ((with_reducible refine Ov.ok (by first | exact IntWalk.i64_in _ (by omega) | exact IntWalk.u64_in _ (by omega) | exact IntWalk.u8_in _ (by omega) | exact IntWalk.u32_in _ (by omega) | exact IntWalk.i32_in _ (by omega) | exact IntWalk.u16_in _ (by omega)) ?_); conv => whnf)
    | (with_reducible refine Ov.sh1 (by with_unfolding_all exact rfl) ?_)
    | ((with_reducible refine Ov.quo (by omega) (by omega) (by omega) (fun _ _ => ?_)); conv => whnf)
    | ((with_reducible refine And.intro (show drawOK _ _ _ _ = true by kernel_rfl) ?_); conv => whnf)
    | ((with_reducible refine And.intro (by first | omega | exact Nat.le_of_ble_eq_true rfl) ?_); conv => whnf)
    | ((with_reducible refine And.intro ?hb ?_); (case hb => exact bytes_bd (Nat.le_of_ble_eq_true rfl) (by omega)); (conv => whnf))
    | ((refine DApp.a rfl rfl rfl rfl rfl rfl ?hb ?_); (case hb => first | exact bytes_bd (Nat.le_of_ble_eq_true rfl) (by omega) | omega); (conv => whnf))
    | ((refine DApp.b rfl rfl rfl rfl rfl rfl rfl rfl ?hb ?ho ?_); (case hb => first | exact bytes_bd (Nat.le_of_ble_eq_true rfl) (by omega) | omega); (case ho => omega); (conv => whnf))
    | ((refine DApp.c rfl rfl rfl rfl rfl ?hb ?_); (case hb => first | exact bytes_bd (Nat.le_of_ble_eq_true rfl) (by omega) | omega); (conv => whnf))
    | ((refine DApp.d rfl rfl rfl rfl rfl rfl ?hb ?ho ?_); (case hb => first | exact bytes_bd (Nat.le_of_ble_eq_true rfl) (by omega) | omega); (case ho => omega); (conv => whnf))
    | ((with_reducible refine nil_no (by omega) ?_); (conv => whnf))
    | ((with_reducible refine nil_any ?_ (fun hn0 => ?_)) <;> (conv => whnf))
    | (with_reducible refine CallStop.inline Tryz.func141 rfl rfl rfl (Nat.le_of_ble_eq_true rfl) ?_)
    | (with_reducible refine CallStop.inline Tryz.func176 rfl rfl rfl (Nat.le_of_ble_eq_true rfl) ?_)
    | ((with_reducible refine CallStop.pure (mach_worker _ _ _) rfl rfl ?_); conv => whnf) | ((with_reducible refine DCall.pure (mach_worker _ _ _) rfl rfl ?_); conv => whnf)
    | ((refine ways (fun hc => ?_) (fun hc => ?_)) <;> (try simp only [decide_eq_true_eq, decide_eq_false_iff_not, Bool.and_eq_true, Bool.or_eq_true, Bool.and_eq_false_iff, Bool.or_eq_false_iff, Bool.not_eq_true', Bool.not_eq_false', beq_iff_eq, bne_iff_ne, ne_eq, beq_eq_false_iff_ne, bne_eq_false_iff_eq, Bool.not_eq_true, Bool.not_eq_false] at hc) <;> (try (exfalso; omega)) <;> (conv => whnf))))
  simp only [wat]
  (refine FinLe.sealB [0,1,2,3] rfl rfl rfl ?_ ?_); (focus ((conv => whnf); (repeat' (first | exact trivial | exact Seal.any | exact Seal.d | exact Seal.ptrL rfl | exact Seal.slL rfl | exact Seal.lt0 (SV.Lt.of rfl) | exact Seal.same (by assumption) (Nat.le_of_ble_eq_true rfl) (fun i hi => id5 hi) | exact Seal.le Seal.d (SV.Le.i (by omega)) | exact ⟨rfl, rfl, rfl⟩ | exact ⟨rfl, Nat.le_of_ble_eq_true rfl⟩ | exact dir_seal (by assumption) | exact dir_sealR (by assumption) (fun l hl => by rcases l with _ | _ | _ | _ | _ | l <;> first | rfl | omega) | exact fun i hi => DLes.refl _ | ((refine Seal.ptr rfl rfl ?_); (conv => whnf)) | ((refine Seal.fn ?_); (conv => whnf)) | ((refine Seal.agg ?_); (conv => whnf)) | ((refine Seal.tup ?_); (conv => whnf)) | ((refine Seal.iref ?_); (conv => whnf)) | ((refine And.intro ?_ ?_) <;> (conv => whnf)) | exact Seal.le Seal.d SV.Le.nil | exact Seal.le (Seal.sl rfl rfl (by omega)) (SV.Le.sl fun i hi => by simp only [Nat.zero_add]))))); (focus ((conv => whnf); (repeat' (first | exact trivial | exact Seal.any | exact Seal.d | exact Seal.ptrL rfl | exact Seal.slL rfl | exact Seal.lt0 (SV.Lt.of rfl) | exact Seal.same (by assumption) (Nat.le_of_ble_eq_true rfl) (fun i hi => id5 hi) | exact Seal.le Seal.d (SV.Le.i (by omega)) | exact ⟨rfl, rfl, rfl⟩ | exact ⟨rfl, Nat.le_of_ble_eq_true rfl⟩ | exact dir_seal (by assumption) | exact dir_sealR (by assumption) (fun l hl => by rcases l with _ | _ | _ | _ | _ | l <;> first | rfl | omega) | exact fun i hi => DLes.refl _ | ((refine Seal.ptr rfl rfl ?_); (conv => whnf)) | ((refine Seal.fn ?_); (conv => whnf)) | ((refine Seal.agg ?_); (conv => whnf)) | ((refine Seal.tup ?_); (conv => whnf)) | ((refine Seal.iref ?_); (conv => whnf)) | ((refine And.intro ?_ ?_) <;> (conv => whnf)) | exact Seal.le Seal.d SV.Le.nil | exact Seal.le (Seal.sl rfl rfl (by omega)) (SV.Le.sl fun i hi => by simp only [Nat.zero_add])))))
end Go.Proofs.YtbdclkjelhlfbaaGreat

namespace Go.Proofs.YtbdclkjelhlfbaaGreat
open Go.RowKit
set_option maxRecDepth 100000
abbrev bx (x : SV) : SV := .iref [x] 0
def lanesS : SV := .iref [boardS 1 3, .d (.fn (.func 46) [])] 0
def res0 : SV := .iref [.b false, .i .i64 0, .i .i64 0] 0
def endS : SV := .d (.fn (.func 50) [])
def thnK (who : Int) (c : Dir.Kc) : SV := .fn (.func 91) [bx (.d (slOf 1 (encI .u8) c.key)), bx (.i .i64 c.val), bx (.i .u8 c.op), bx (.ptr 0 0), bx (.i .i64 who)]
def tfK (who : Int) (c : Dir.Kc) (lv : Nat) : SV := .fn (.func 132) [bx lanesS, bx (.i .i64 who), bx (.i .i64 lv), bx (.i .u64 (sumK c.key)), bx (thnK who c), res0]
def thK (who : Int) (c : Dir.Kc) : SV := .fn (.func 133) [bx lanesS, bx (.i .i64 who), bx (.i .u64 (sumK c.key)), bx (thnK who c), res0]
def tfS (who : Int) (lv i : Nat) : SV := .fn (.func 126) [bx lanesS, bx (.i .i64 who), bx (.i .i64 lv), bx (.i .i64 i), bx endS, res0]
def thS (who : Int) (lv i : Nat) (up : Bool) (h : List Dir.Ent) : SV :=
  if up then .fn (.func 129) [bx lanesS, bx (.i .i64 who), bx (.i .i64 lv), bx (.i .i64 i), bx endS, res0]
  else .fn (.func 128) [bx lanesS, bx (.i .i64 who), bx (.i .i64 lv), bx (.i .i64 i), bx (.d (slOf 2 entD h)), bx endS, res0]
def freezeS (who : Int) (w : Nat) (t : SV) : SV := .fn (.func 178) [bx lanesS, bx (.i .i64 who), bx (.i .i64 w), bx t]
def frozenS (who : Int) (w : Nat) (v : Int) (h : List Dir.Ent) (t : SV) : SV := .fn (.func 179) [bx lanesS, bx (.i .i64 who), bx (.i .i64 w), bx (.i .u64 v), bx (.d (slOf 2 entD h)), bx t, res0]
def halfS (who : Int) (lv w : Nat) (h : List Dir.Ent) (t : SV) : SV := .fn (.func 180) [bx lanesS, bx (.i .i64 who), bx (.i .i64 w), bx t, bx (.d (slOf 2 entD h)), bx (.i .i64 lv)]
def layS (who : Int) (lv w : Nat) (h : List Dir.Ent) (t : SV) : SV := .fn (.func 181) [bx lanesS, bx (.i .i64 who), bx (.i .i64 w), bx (.d (slOf 2 entD h)), bx (.i .i64 lv), bx t, bx .any]
def nilF : SV := .d (.val .nilFunc)
def cl (who : Int) : Dir.CS → SV
  | .none => nilF
  | .k0 c => .fn (.func 130) [bx lanesS, bx (.i .i64 who), bx (.i .u64 (sumK c.key)), bx (thnK who c)]
  | .kE c w => .fn (.func 182) [bx lanesS, bx (.i .i64 who), bx (.i .i64 w), bx (.i .u64 (sumK c.key)), bx (thnK who c)]
  | .kF c lv w => freezeS who w (tfK who c lv)
  | .kG c lv w v h => frozenS who w v h (tfK who c lv)
  | .kH c lv w h => halfS who lv w h (thK who c)
  | .kL c lv w h => layS who lv w h (thK who c)
  | .kS c w v m n => .fn (.func 96) [bx (.ptr 0 0), bx (.i .i64 who), bx (.i .i64 w), bx (.i .u64 v), bx (.d (slOf 2 entD m)), bx (.i .u8 c.op), bx (.d (slOf 1 (encI .u8) c.key)), bx (.i .i64 c.val), bx (.i .i64 n)]
  | .s0 => .fn (.func 85) [bx lanesS, bx (.i .i64 who), bx endS]
  | .sM lv => .fn (.func 88) [bx lanesS, bx (.i .i64 who), bx (.i .u64 (2 * lv)), bx endS, res0, bx (.i .i64 lv)]
  | .sF lv i => freezeS who (2 ^ lv + i) (tfS who lv i)
  | .sG lv i v h => frozenS who (2 ^ lv + i) v h (tfS who lv i)
  | .sH lv i up h => halfS who (lv + 1) (Dir.upW lv i up) h (thS who lv i up h)
  | .sL lv i up h => layS who (lv + 1) (Dir.upW lv i up) h (thS who lv i up h)
  | .sV lv => .fn (.func 124) [bx lanesS, bx (.i .i64 who), bx (.i .i64 lv), bx endS]
theorem cl_lt (who : Int) (s : Dir.CS) : SV.Lt 5 (cl who s) := by
  cases s with
  | sH lv i up h => cases up <;> exact .of rfl
  | sL lv i up h => cases up <;> exact .of rfl
  | _ => exact .of rfl
def fndE (c : Dir.Kc) (h : List Dir.Ent) : Dir.Res ⊕ (List Dir.Ent × Int) :=
  if c.op ≠ 2 ∧ hasE h c.key = false then .inl ⟨true, 7, 0⟩
  else if c.op = 1 then .inl ⟨true, 0, (h.getD (posE h c.key) default).val⟩
  else if c.op = 3 then .inr (delAt h (posE h c.key), (h.getD (posE h c.key) default).val)
  else if hasE h c.key then .inr (h.set (posE h c.key) ⟨(h.getD (posE h c.key) default).key, if c.op = 2 then c.val else (h.getD (posE h c.key) default).val⟩, if c.op = 2 then c.val else (h.getD (posE h c.key) default).val)
  else .inr (insAt h (posE h c.key) ⟨c.key, c.val⟩, c.val)
def dirOps : Dir.Ops := ⟨sumK, cutL, fndE⟩
theorem lane_place1 (lv : Nat) (hl : lv ≤ 3) (s : Int) : Pure TC 83 [.i .i64 ((lv : Int) + 1), .i .u64 s] (.i .i64 (Dir.plc (lv + 1) s)) := lane_place (lv + 1) (by omega) s
theorem plc_small {lv : Nat} {s : Int} (h0 : 0 ≤ s) (h1 : s < 2 ^ lv) : Dir.plc lv s = 2 ^ lv + s.toNat := by unfold Dir.plc; rw [Int.emod_eq_of_lt h0 h1]
theorem upW_plc {lv i : Nat} (hi : i < 2 ^ lv) (up : Bool) : Dir.plc (lv + 1) (if up then (i : Int) + 2 ^ lv else i) = Dir.upW lv i up := by
  have e : ((2 ^ lv : Nat) : Int) = 2 ^ lv := by simp
  have e2 : (2 : Int) ^ (lv + 1) = 2 ^ lv * 2 := Int.pow_succ 2 lv
  have h : (i : Int) < 2 ^ lv := by omega
  unfold Dir.upW
  cases up
  · rw [if_neg (by decide), if_neg (by decide), plc_small (by omega) (by omega), Int.toNat_natCast]
  · rw [if_pos rfl, if_pos rfl, plc_small (by omega) (by omega)]
    congr 1
def findS (who s : Int) (t : SV) : SV := .fn (.func 130) [bx lanesS, bx (.i .i64 who), bx (.i .u64 s), bx t]
def enterS (who s : Int) (w : Nat) (t : SV) : SV := .fn (.func 182) [bx lanesS, bx (.i .i64 who), bx (.i .i64 w), bx (.i .u64 s), bx t]
theorem find_any (who s : Int) (F : Fn) (cs : List SV) (hF : SV.Lt 120 (.fn F cs)) : Fun TC 89 120 [lanesS, .i .i64 who, .i .u64 s, .fn F cs] [] 120 (findS who s (.fn F cs)) [] := by
  refine Fun.mk' Tryz.func89 rfl rfl (Nat.le_of_ble_eq_true rfl) (by decide) ?_
  (repeat' (first
    | with_reducible refine Wp.seq ?_
    | with_reducible refine Wp.block ?_
    | ((with_reducible refine Wp.region ?_); conv => whnf)
    | ((with_reducible refine Wp.drawL TC_mixed ?_); conv => whnf)
    | ((with_reducible refine Wp.cond ?_); conv => whnf)
    | ((with_reducible refine Wp.ret ?_); conv => whnf)
    | ((with_reducible refine Wp.skip ?_); conv => whnf)
    | ((with_reducible refine Wp.exit ?_); conv => whnf)
    | ((with_reducible refine Go.mk ?_); conv => whnf)
    | ((with_reducible apply Eff1.of); conv => whnf)
    | with_reducible exact rfl
    | ((with_reducible refine Ov.ok (by first | exact IntWalk.i64_in _ (by omega) | exact IntWalk.u64_in _ (by omega) | exact IntWalk.u8_in _ (by omega) | exact IntWalk.u32_in _ (by omega) | exact IntWalk.i32_in _ (by omega) | exact IntWalk.u16_in _ (by omega)) ?_); conv => whnf)
    | (with_reducible refine Ov.sh1 (by with_unfolding_all exact rfl) ?_)
    | ((with_reducible refine Ov.quo (by omega) (by omega) (by omega) (fun _ _ => ?_)); conv => whnf)
    | ((with_reducible refine And.intro (show drawOK _ _ _ _ = true by kernel_rfl) ?_); conv => whnf)
    | ((with_reducible refine And.intro (by first | omega | exact Nat.le_of_ble_eq_true rfl) ?_); conv => whnf)
    | ((with_reducible refine And.intro ?hb ?_); (case hb => exact bytes_bd (Nat.le_of_ble_eq_true rfl) (by omega)); (conv => whnf))
    | ((refine DApp.a rfl rfl rfl rfl rfl rfl ?hb ?_); (case hb => first | exact bytes_bd (Nat.le_of_ble_eq_true rfl) (by omega) | omega); (conv => whnf))
    | ((refine DApp.b rfl rfl rfl rfl rfl rfl rfl rfl ?hb ?ho ?_); (case hb => first | exact bytes_bd (Nat.le_of_ble_eq_true rfl) (by omega) | omega); (case ho => omega); (conv => whnf))
    | ((refine DApp.c rfl rfl rfl rfl rfl ?hb ?_); (case hb => first | exact bytes_bd (Nat.le_of_ble_eq_true rfl) (by omega) | omega); (conv => whnf))
    | ((refine DApp.d rfl rfl rfl rfl rfl rfl ?hb ?ho ?_); (case hb => first | exact bytes_bd (Nat.le_of_ble_eq_true rfl) (by omega) | omega); (case ho => omega); (conv => whnf))
    | ((with_reducible refine nil_no (by omega) ?_); (conv => whnf))
    | ((with_reducible refine nil_any ?_ (fun hn0 => ?_)) <;> (conv => whnf))
    
    | ((refine ways (fun hc => ?_) (fun hc => ?_)) <;> (try simp only [decide_eq_true_eq, decide_eq_false_iff_not, Bool.and_eq_true, Bool.or_eq_true, Bool.and_eq_false_iff, Bool.or_eq_false_iff, Bool.not_eq_true', Bool.not_eq_false', beq_iff_eq, bne_iff_ne, ne_eq, beq_eq_false_iff_ne, bne_eq_false_iff_eq, Bool.not_eq_true, Bool.not_eq_false] at hc) <;> (try (exfalso; omega)) <;> (conv => whnf))))
  (refine FinLe.sealM ?_); (conv => whnf); (repeat' (first | exact trivial | exact Seal.any | exact Seal.d | exact Seal.ptrM rfl | exact Seal.slM rfl | exact Seal.sameM (by assumption) | exact Seal.lt0 (SV.Lt.of rfl) | exact Seal.sameM (SV.Lt.of rfl) | ((refine Seal.ptrN rfl rfl ?_); (conv => whnf)) | (refine Seal.le (Seal.sl (idxK_range_ge (Nat.le_of_ble_eq_true rfl)) rfl (by first | omega | simp)) ?_) | ((refine Seal.fn ?_); (conv => whnf)) | ((refine Seal.agg ?_); (conv => whnf)) | ((refine Seal.tup ?_); (conv => whnf)) | ((refine Seal.iref ?_); (conv => whnf)) | ((refine And.intro ?_ ?_) <;> (conv => whnf)) | exact Seal.le Seal.d SV.Le.nil))
theorem enter_any (who s : Int) (w : Nat) (F : Fn) (cs : List SV) (hF : SV.Lt 120 (.fn F cs)) : Fun TC 131 120 [lanesS, .i .i64 who, .i .u64 s, .i .i64 w, .fn F cs] [] 120 (enterS who s w (.fn F cs)) [] := by
  refine Fun.mk' Tryz.func131 rfl rfl (Nat.le_of_ble_eq_true rfl) (by decide) ?_
  (repeat' (first
    | with_reducible refine Wp.seq ?_
    | with_reducible refine Wp.block ?_
    | ((with_reducible refine Wp.region ?_); conv => whnf)
    | ((with_reducible refine Wp.drawL TC_mixed ?_); conv => whnf)
    | ((with_reducible refine Wp.cond ?_); conv => whnf)
    | ((with_reducible refine Wp.ret ?_); conv => whnf)
    | ((with_reducible refine Wp.skip ?_); conv => whnf)
    | ((with_reducible refine Wp.exit ?_); conv => whnf)
    | ((with_reducible refine Go.mk ?_); conv => whnf)
    | ((with_reducible apply Eff1.of); conv => whnf)
    | with_reducible exact rfl
    | ((with_reducible refine Ov.ok (by first | exact IntWalk.i64_in _ (by omega) | exact IntWalk.u64_in _ (by omega) | exact IntWalk.u8_in _ (by omega) | exact IntWalk.u32_in _ (by omega) | exact IntWalk.i32_in _ (by omega) | exact IntWalk.u16_in _ (by omega)) ?_); conv => whnf)
    | (with_reducible refine Ov.sh1 (by with_unfolding_all exact rfl) ?_)
    | ((with_reducible refine Ov.quo (by omega) (by omega) (by omega) (fun _ _ => ?_)); conv => whnf)
    | ((with_reducible refine And.intro (show drawOK _ _ _ _ = true by kernel_rfl) ?_); conv => whnf)
    | ((with_reducible refine And.intro (by first | omega | exact Nat.le_of_ble_eq_true rfl) ?_); conv => whnf)
    | ((with_reducible refine And.intro ?hb ?_); (case hb => exact bytes_bd (Nat.le_of_ble_eq_true rfl) (by omega)); (conv => whnf))
    | ((refine DApp.a rfl rfl rfl rfl rfl rfl ?hb ?_); (case hb => first | exact bytes_bd (Nat.le_of_ble_eq_true rfl) (by omega) | omega); (conv => whnf))
    | ((refine DApp.b rfl rfl rfl rfl rfl rfl rfl rfl ?hb ?ho ?_); (case hb => first | exact bytes_bd (Nat.le_of_ble_eq_true rfl) (by omega) | omega); (case ho => omega); (conv => whnf))
    | ((refine DApp.c rfl rfl rfl rfl rfl ?hb ?_); (case hb => first | exact bytes_bd (Nat.le_of_ble_eq_true rfl) (by omega) | omega); (conv => whnf))
    | ((refine DApp.d rfl rfl rfl rfl rfl rfl ?hb ?ho ?_); (case hb => first | exact bytes_bd (Nat.le_of_ble_eq_true rfl) (by omega) | omega); (case ho => omega); (conv => whnf))
    | ((with_reducible refine nil_no (by omega) ?_); (conv => whnf))
    | ((with_reducible refine nil_any ?_ (fun hn0 => ?_)) <;> (conv => whnf))
    
    | ((refine ways (fun hc => ?_) (fun hc => ?_)) <;> (try simp only [decide_eq_true_eq, decide_eq_false_iff_not, Bool.and_eq_true, Bool.or_eq_true, Bool.and_eq_false_iff, Bool.or_eq_false_iff, Bool.not_eq_true', Bool.not_eq_false', beq_iff_eq, bne_iff_ne, ne_eq, beq_eq_false_iff_ne, bne_eq_false_iff_eq, Bool.not_eq_true, Bool.not_eq_false] at hc) <;> (try (exfalso; omega)) <;> (conv => whnf))))
  (refine FinLe.sealM ?_); (conv => whnf); (repeat' (first | exact trivial | exact Seal.any | exact Seal.d | exact Seal.ptrM rfl | exact Seal.slM rfl | exact Seal.sameM (by assumption) | exact Seal.lt0 (SV.Lt.of rfl) | exact Seal.sameM (SV.Lt.of rfl) | ((refine Seal.ptrN rfl rfl ?_); (conv => whnf)) | (refine Seal.le (Seal.sl (idxK_range_ge (Nat.le_of_ble_eq_true rfl)) rfl (by first | omega | simp)) ?_) | ((refine Seal.fn ?_); (conv => whnf)) | ((refine Seal.agg ?_); (conv => whnf)) | ((refine Seal.tup ?_); (conv => whnf)) | ((refine Seal.iref ?_); (conv => whnf)) | ((refine And.intro ?_ ?_) <;> (conv => whnf)) | exact Seal.le Seal.d SV.Le.nil))
theorem freeze_any (who : Int) (w : Nat) (F : Fn) (cs : List SV) (hF : SV.Lt 120 (.fn F cs)) : Fun TC 125 120 [lanesS, .i .i64 who, .i .i64 w, .fn F cs] [] 120 (freezeS who w (.fn F cs)) [] := by
  refine Fun.mk' Tryz.func125 rfl rfl (Nat.le_of_ble_eq_true rfl) (by decide) ?_
  (repeat' (first
    | with_reducible refine Wp.seq ?_
    | with_reducible refine Wp.block ?_
    | ((with_reducible refine Wp.region ?_); conv => whnf)
    | ((with_reducible refine Wp.drawL TC_mixed ?_); conv => whnf)
    | ((with_reducible refine Wp.cond ?_); conv => whnf)
    | ((with_reducible refine Wp.ret ?_); conv => whnf)
    | ((with_reducible refine Wp.skip ?_); conv => whnf)
    | ((with_reducible refine Wp.exit ?_); conv => whnf)
    | ((with_reducible refine Go.mk ?_); conv => whnf)
    | ((with_reducible apply Eff1.of); conv => whnf)
    | with_reducible exact rfl
    | ((with_reducible refine Ov.ok (by first | exact IntWalk.i64_in _ (by omega) | exact IntWalk.u64_in _ (by omega) | exact IntWalk.u8_in _ (by omega) | exact IntWalk.u32_in _ (by omega) | exact IntWalk.i32_in _ (by omega) | exact IntWalk.u16_in _ (by omega)) ?_); conv => whnf)
    | (with_reducible refine Ov.sh1 (by with_unfolding_all exact rfl) ?_)
    | ((with_reducible refine Ov.quo (by omega) (by omega) (by omega) (fun _ _ => ?_)); conv => whnf)
    | ((with_reducible refine And.intro (show drawOK _ _ _ _ = true by kernel_rfl) ?_); conv => whnf)
    | ((with_reducible refine And.intro (by first | omega | exact Nat.le_of_ble_eq_true rfl) ?_); conv => whnf)
    | ((with_reducible refine And.intro ?hb ?_); (case hb => exact bytes_bd (Nat.le_of_ble_eq_true rfl) (by omega)); (conv => whnf))
    | ((refine DApp.a rfl rfl rfl rfl rfl rfl ?hb ?_); (case hb => first | exact bytes_bd (Nat.le_of_ble_eq_true rfl) (by omega) | omega); (conv => whnf))
    | ((refine DApp.b rfl rfl rfl rfl rfl rfl rfl rfl ?hb ?ho ?_); (case hb => first | exact bytes_bd (Nat.le_of_ble_eq_true rfl) (by omega) | omega); (case ho => omega); (conv => whnf))
    | ((refine DApp.c rfl rfl rfl rfl rfl ?hb ?_); (case hb => first | exact bytes_bd (Nat.le_of_ble_eq_true rfl) (by omega) | omega); (conv => whnf))
    | ((refine DApp.d rfl rfl rfl rfl rfl rfl ?hb ?ho ?_); (case hb => first | exact bytes_bd (Nat.le_of_ble_eq_true rfl) (by omega) | omega); (case ho => omega); (conv => whnf))
    | ((with_reducible refine nil_no (by omega) ?_); (conv => whnf))
    | ((with_reducible refine nil_any ?_ (fun hn0 => ?_)) <;> (conv => whnf))
    
    | ((refine ways (fun hc => ?_) (fun hc => ?_)) <;> (try simp only [decide_eq_true_eq, decide_eq_false_iff_not, Bool.and_eq_true, Bool.or_eq_true, Bool.and_eq_false_iff, Bool.or_eq_false_iff, Bool.not_eq_true', Bool.not_eq_false', beq_iff_eq, bne_iff_ne, ne_eq, beq_eq_false_iff_ne, bne_eq_false_iff_eq, Bool.not_eq_true, Bool.not_eq_false] at hc) <;> (try (exfalso; omega)) <;> (conv => whnf))))
  (refine FinLe.sealM ?_); (conv => whnf); (repeat' (first | exact trivial | exact Seal.any | exact Seal.d | exact Seal.ptrM rfl | exact Seal.slM rfl | exact Seal.sameM (by assumption) | exact Seal.lt0 (SV.Lt.of rfl) | exact Seal.sameM (SV.Lt.of rfl) | ((refine Seal.ptrN rfl rfl ?_); (conv => whnf)) | (refine Seal.le (Seal.sl (idxK_range_ge (Nat.le_of_ble_eq_true rfl)) rfl (by first | omega | simp)) ?_) | ((refine Seal.fn ?_); (conv => whnf)) | ((refine Seal.agg ?_); (conv => whnf)) | ((refine Seal.tup ?_); (conv => whnf)) | ((refine Seal.iref ?_); (conv => whnf)) | ((refine And.intro ?_ ?_) <;> (conv => whnf)) | exact Seal.le Seal.d SV.Le.nil))
theorem half_any (who : Int) (lv : Nat) (hl : lv ≤ 3) (s : Int) (h : List Dir.Ent) (F : Fn) (cs : List SV) (hF : SV.Lt 120 (.fn F cs)) : Fun TC 127 120 [lanesS, .i .i64 who, .i .i64 ((lv : Int) + 1), .i .u64 s, .d (slOf 2 entD h), .fn F cs] [] 120 (halfS who (lv + 1) (Dir.plc (lv + 1) s) h (.fn F cs)) [] := by
  refine Fun.mk' Tryz.func127 rfl rfl (Nat.le_of_ble_eq_true rfl) (by decide) ?_
  (repeat' (first
    | with_reducible refine Wp.seq ?_
    | with_reducible refine Wp.block ?_
    | ((with_reducible refine Wp.region ?_); conv => whnf)
    | ((with_reducible refine Wp.drawL TC_mixed ?_); conv => whnf)
    | ((with_reducible refine Wp.cond ?_); conv => whnf)
    | ((with_reducible refine Wp.ret ?_); conv => whnf)
    | ((with_reducible refine Wp.skip ?_); conv => whnf)
    | ((with_reducible refine Wp.exit ?_); conv => whnf)
    | ((with_reducible refine Go.mk ?_); conv => whnf)
    | ((with_reducible apply Eff1.of); conv => whnf)
    | with_reducible exact rfl
    | ((with_reducible refine Ov.ok (by first | exact IntWalk.i64_in _ (by omega) | exact IntWalk.u64_in _ (by omega) | exact IntWalk.u8_in _ (by omega) | exact IntWalk.u32_in _ (by omega) | exact IntWalk.i32_in _ (by omega) | exact IntWalk.u16_in _ (by omega)) ?_); conv => whnf)
    | (with_reducible refine Ov.sh1 (by with_unfolding_all exact rfl) ?_)
    | ((with_reducible refine Ov.quo (by omega) (by omega) (by omega) (fun _ _ => ?_)); conv => whnf)
    | ((with_reducible refine And.intro (show drawOK _ _ _ _ = true by kernel_rfl) ?_); conv => whnf)
    | ((with_reducible refine And.intro (by first | omega | exact Nat.le_of_ble_eq_true rfl) ?_); conv => whnf)
    | ((with_reducible refine And.intro ?hb ?_); (case hb => exact bytes_bd (Nat.le_of_ble_eq_true rfl) (by omega)); (conv => whnf))
    | ((refine DApp.a rfl rfl rfl rfl rfl rfl ?hb ?_); (case hb => first | exact bytes_bd (Nat.le_of_ble_eq_true rfl) (by omega) | omega); (conv => whnf))
    | ((refine DApp.b rfl rfl rfl rfl rfl rfl rfl rfl ?hb ?ho ?_); (case hb => first | exact bytes_bd (Nat.le_of_ble_eq_true rfl) (by omega) | omega); (case ho => omega); (conv => whnf))
    | ((refine DApp.c rfl rfl rfl rfl rfl ?hb ?_); (case hb => first | exact bytes_bd (Nat.le_of_ble_eq_true rfl) (by omega) | omega); (conv => whnf))
    | ((refine DApp.d rfl rfl rfl rfl rfl rfl ?hb ?ho ?_); (case hb => first | exact bytes_bd (Nat.le_of_ble_eq_true rfl) (by omega) | omega); (case ho => omega); (conv => whnf))
    | ((with_reducible refine nil_no (by omega) ?_); (conv => whnf))
    | ((with_reducible refine nil_any ?_ (fun hn0 => ?_)) <;> (conv => whnf))
    | ((with_reducible refine CallStop.pure (lane_place1 lv hl _) rfl rfl ?_); conv => whnf) | ((with_reducible refine DCall.pure (lane_place1 lv hl _) rfl rfl ?_); conv => whnf)
    | ((refine ways (fun hc => ?_) (fun hc => ?_)) <;> (try simp only [decide_eq_true_eq, decide_eq_false_iff_not, Bool.and_eq_true, Bool.or_eq_true, Bool.and_eq_false_iff, Bool.or_eq_false_iff, Bool.not_eq_true', Bool.not_eq_false', beq_iff_eq, bne_iff_ne, ne_eq, beq_eq_false_iff_ne, bne_eq_false_iff_eq, Bool.not_eq_true, Bool.not_eq_false] at hc) <;> (try (exfalso; omega)) <;> (conv => whnf))))
  (refine FinLe.sealM ?_); (conv => whnf); (repeat' (first | exact trivial | exact Seal.any | exact Seal.d | exact Seal.ptrM rfl | exact Seal.slM rfl | exact Seal.sameM (by assumption) | exact Seal.lt0 (SV.Lt.of rfl) | exact Seal.sameM (SV.Lt.of rfl) | ((refine Seal.ptrN rfl rfl ?_); (conv => whnf)) | (refine Seal.le (Seal.sl (idxK_range_ge (Nat.le_of_ble_eq_true rfl)) rfl (by first | omega | simp)) ?_) | ((refine Seal.fn ?_); (conv => whnf)) | ((refine Seal.agg ?_); (conv => whnf)) | ((refine Seal.tup ?_); (conv => whnf)) | ((refine Seal.iref ?_); (conv => whnf)) | ((refine And.intro ?_ ?_) <;> (conv => whnf)) | exact Seal.le Seal.d SV.Le.nil))
theorem split_c (who : Int) : Fun TC 49 120 [lanesS, .i .i64 who, endS] [] 120 (cl who .s0) [] := by
  refine Fun.mk' Tryz.func49 rfl rfl (Nat.le_of_ble_eq_true rfl) (by decide) ?_
  (repeat' (first
    | with_reducible refine Wp.seq ?_
    | with_reducible refine Wp.block ?_
    | ((with_reducible refine Wp.region ?_); conv => whnf)
    | ((with_reducible refine Wp.drawL TC_mixed ?_); conv => whnf)
    | ((with_reducible refine Wp.cond ?_); conv => whnf)
    | ((with_reducible refine Wp.ret ?_); conv => whnf)
    | ((with_reducible refine Wp.skip ?_); conv => whnf)
    | ((with_reducible refine Wp.exit ?_); conv => whnf)
    | ((with_reducible refine Go.mk ?_); conv => whnf)
    | ((with_reducible apply Eff1.of); conv => whnf)
    | with_reducible exact rfl
    | ((with_reducible refine Ov.ok (by first | exact IntWalk.i64_in _ (by omega) | exact IntWalk.u64_in _ (by omega) | exact IntWalk.u8_in _ (by omega) | exact IntWalk.u32_in _ (by omega) | exact IntWalk.i32_in _ (by omega) | exact IntWalk.u16_in _ (by omega)) ?_); conv => whnf)
    | (with_reducible refine Ov.sh1 (by with_unfolding_all exact rfl) ?_)
    | ((with_reducible refine Ov.quo (by omega) (by omega) (by omega) (fun _ _ => ?_)); conv => whnf)
    | ((with_reducible refine And.intro (show drawOK _ _ _ _ = true by kernel_rfl) ?_); conv => whnf)
    | ((with_reducible refine And.intro (by first | omega | exact Nat.le_of_ble_eq_true rfl) ?_); conv => whnf)
    | ((with_reducible refine And.intro ?hb ?_); (case hb => exact bytes_bd (Nat.le_of_ble_eq_true rfl) (by omega)); (conv => whnf))
    | ((refine DApp.a rfl rfl rfl rfl rfl rfl ?hb ?_); (case hb => first | exact bytes_bd (Nat.le_of_ble_eq_true rfl) (by omega) | omega); (conv => whnf))
    | ((refine DApp.b rfl rfl rfl rfl rfl rfl rfl rfl ?hb ?ho ?_); (case hb => first | exact bytes_bd (Nat.le_of_ble_eq_true rfl) (by omega) | omega); (case ho => omega); (conv => whnf))
    | ((refine DApp.c rfl rfl rfl rfl rfl ?hb ?_); (case hb => first | exact bytes_bd (Nat.le_of_ble_eq_true rfl) (by omega) | omega); (conv => whnf))
    | ((refine DApp.d rfl rfl rfl rfl rfl rfl ?hb ?ho ?_); (case hb => first | exact bytes_bd (Nat.le_of_ble_eq_true rfl) (by omega) | omega); (case ho => omega); (conv => whnf))
    | ((with_reducible refine nil_no (by omega) ?_); (conv => whnf))
    | ((with_reducible refine nil_any ?_ (fun hn0 => ?_)) <;> (conv => whnf))
    
    | ((refine ways (fun hc => ?_) (fun hc => ?_)) <;> (try simp only [decide_eq_true_eq, decide_eq_false_iff_not, Bool.and_eq_true, Bool.or_eq_true, Bool.and_eq_false_iff, Bool.or_eq_false_iff, Bool.not_eq_true', Bool.not_eq_false', beq_iff_eq, bne_iff_ne, ne_eq, beq_eq_false_iff_ne, bne_eq_false_iff_eq, Bool.not_eq_true, Bool.not_eq_false] at hc) <;> (try (exfalso; omega)) <;> (conv => whnf))))
  (refine FinLe.sealM ?_); (conv => whnf); (repeat' (first | exact trivial | exact Seal.any | exact Seal.d | exact Seal.ptrM rfl | exact Seal.slM rfl | exact Seal.sameM (by assumption) | exact Seal.lt0 (SV.Lt.of rfl) | exact Seal.sameM (SV.Lt.of rfl) | ((refine Seal.ptrN rfl rfl ?_); (conv => whnf)) | (refine Seal.le (Seal.sl (idxK_range_ge (Nat.le_of_ble_eq_true rfl)) rfl (by first | omega | simp)) ?_) | ((refine Seal.fn ?_); (conv => whnf)) | ((refine Seal.agg ?_); (conv => whnf)) | ((refine Seal.tup ?_); (conv => whnf)) | ((refine Seal.iref ?_); (conv => whnf)) | ((refine And.intro ?_ ?_) <;> (conv => whnf)) | exact Seal.le Seal.d SV.Le.nil))
theorem shl_lv {lv : Nat} (hl : lv ≤ 4) : IntKind.i64.wrap (1 * 2 ^ min ((lv : Nat) : Int).toNat IntKind.i64.bits) = 2 ^ lv := by
  have hlv : lv = 0 ∨ lv = 1 ∨ lv = 2 ∨ lv = 3 ∨ lv = 4 := by omega
  rcases hlv with rfl | rfl | rfl | rfl | rfl <;> decide
theorem move_c (who : Int) (lv i : Nat) (hl : lv ≤ 3) (hi : i ≤ 2 ^ lv) : Fun TC 87 60 [lanesS, .i .i64 who, .i .i64 lv, .i .i64 i, endS] [] 60 (cl who (Dir.move lv i)) [] := by
  have e1 := shl_lv (show lv ≤ 4 by omega)
  have e2 : ((2 ^ lv : Nat) : Int) = 2 ^ lv := by simp
  have hb : (2 : Nat) ^ lv ≤ 2 ^ 3 := Nat.pow_le_pow_right (by omega) hl
  refine Fun.mk' Tryz.func87 rfl rfl (Nat.le_of_ble_eq_true rfl) (by decide) ?_
  (repeat' (first
    | with_reducible refine Wp.seq ?_
    | with_reducible refine Wp.block ?_
    | ((with_reducible refine Wp.region ?_); conv => whnf)
    | ((with_reducible refine Wp.drawL TC_mixed ?_); conv => whnf)
    | ((with_reducible refine Wp.cond ?_); conv => whnf)
    | ((with_reducible refine Wp.ret ?_); conv => whnf)
    | ((with_reducible refine Wp.skip ?_); conv => whnf)
    | ((with_reducible refine Wp.exit ?_); conv => whnf)
    | ((with_reducible refine Go.mk ?_); conv => whnf)
    | ((with_reducible apply Eff1.of); conv => whnf)
    | with_reducible exact rfl
    | ((with_reducible refine Ov.ok (by first | exact IntWalk.i64_in _ (by omega) | exact IntWalk.u64_in _ (by omega) | exact IntWalk.u8_in _ (by omega) | exact IntWalk.u32_in _ (by omega) | exact IntWalk.i32_in _ (by omega) | exact IntWalk.u16_in _ (by omega)) ?_); conv => whnf)
    | (with_reducible refine Ov.sh1 (by with_unfolding_all exact rfl) ?_)
    | ((with_reducible refine Ov.quo (by omega) (by omega) (by omega) (fun _ _ => ?_)); conv => whnf)
    | ((with_reducible refine And.intro (show drawOK _ _ _ _ = true by kernel_rfl) ?_); conv => whnf)
    | ((with_reducible refine And.intro (by first | omega | exact Nat.le_of_ble_eq_true rfl) ?_); conv => whnf)
    | ((with_reducible refine And.intro ?hb ?_); (case hb => exact bytes_bd (Nat.le_of_ble_eq_true rfl) (by omega)); (conv => whnf))
    | ((refine DApp.a rfl rfl rfl rfl rfl rfl ?hb ?_); (case hb => first | exact bytes_bd (Nat.le_of_ble_eq_true rfl) (by omega) | omega); (conv => whnf))
    | ((refine DApp.b rfl rfl rfl rfl rfl rfl rfl rfl ?hb ?ho ?_); (case hb => first | exact bytes_bd (Nat.le_of_ble_eq_true rfl) (by omega) | omega); (case ho => omega); (conv => whnf))
    | ((refine DApp.c rfl rfl rfl rfl rfl ?hb ?_); (case hb => first | exact bytes_bd (Nat.le_of_ble_eq_true rfl) (by omega) | omega); (conv => whnf))
    | ((refine DApp.d rfl rfl rfl rfl rfl rfl ?hb ?ho ?_); (case hb => first | exact bytes_bd (Nat.le_of_ble_eq_true rfl) (by omega) | omega); (case ho => omega); (conv => whnf))
    | ((with_reducible refine nil_no (by omega) ?_); (conv => whnf))
    | ((with_reducible refine nil_any ?_ (fun hn0 => ?_)) <;> (conv => whnf))
    | ((with_reducible refine CallStop.pure (lane_place lv (by omega) _) rfl rfl ?_); conv => whnf) | ((with_reducible refine DCall.pure (lane_place lv (by omega) _) rfl rfl ?_); conv => whnf)
    | ((with_reducible refine DCall.funM (find_any _ _ _ _ (by exact SV.Lt.of rfl)) rfl rfl ?_); conv => whnf) | ((with_reducible refine DCall.funM (enter_any _ _ _ _ _ (by exact SV.Lt.of rfl)) rfl rfl ?_); conv => whnf) | ((with_reducible refine DCall.funM (freeze_any _ _ _ _ (by exact SV.Lt.of rfl)) rfl rfl ?_); conv => whnf) | ((with_reducible refine DCall.funM (half_any _ _ (by omega) _ _ _ _ (by exact SV.Lt.of rfl)) rfl rfl ?_); conv => whnf) | ((with_reducible refine DCall.funM (split_c _) rfl rfl ?_); conv => whnf) | ((with_reducible refine CallStop.funM (find_any _ _ _ _ (by exact SV.Lt.of rfl)) rfl rfl ?_); conv => whnf) | ((with_reducible refine CallStop.funM (enter_any _ _ _ _ _ (by exact SV.Lt.of rfl)) rfl rfl ?_); conv => whnf) | ((with_reducible refine CallStop.funM (freeze_any _ _ _ _ (by exact SV.Lt.of rfl)) rfl rfl ?_); conv => whnf) | ((with_reducible refine CallStop.funM (half_any _ _ (by omega) _ _ _ _ (by exact SV.Lt.of rfl)) rfl rfl ?_); conv => whnf) | ((with_reducible refine CallStop.funM (split_c _) rfl rfl ?_); conv => whnf)
    | ((with_reducible refine Ov.mk ?_); conv => whnf)
    | ((refine ways (fun hc => ?_) (fun hc => ?_)) <;> (try simp only [decide_eq_true_eq, decide_eq_false_iff_not, Bool.and_eq_true, Bool.or_eq_true, Bool.and_eq_false_iff, Bool.or_eq_false_iff, Bool.not_eq_true', Bool.not_eq_false', beq_iff_eq, bne_iff_ne, ne_eq, beq_eq_false_iff_ne, bne_eq_false_iff_eq, Bool.not_eq_true, Bool.not_eq_false, e1] at hc) <;> (try (exfalso; omega)) <;> (conv => whnf))))
  · rw [show Dir.move lv i = .sV lv by unfold Dir.move; rw [if_pos (by omega)]]
    (refine FinLe.sealM ?_); (conv => whnf); (repeat' (first | exact trivial | exact Seal.any | exact Seal.d | exact Seal.ptrM rfl | exact Seal.slM rfl | exact Seal.sameM (by assumption) | exact Seal.lt0 (SV.Lt.of rfl) | exact Seal.sameM (SV.Lt.of rfl) | ((refine Seal.ptrN rfl rfl ?_); (conv => whnf)) | (refine Seal.le (Seal.sl (idxK_range_ge (Nat.le_of_ble_eq_true rfl)) rfl (by first | omega | simp)) ?_) | ((refine Seal.fn ?_); (conv => whnf)) | ((refine Seal.agg ?_); (conv => whnf)) | ((refine Seal.tup ?_); (conv => whnf)) | ((refine Seal.iref ?_); (conv => whnf)) | ((refine And.intro ?_ ?_) <;> (conv => whnf)) | exact Seal.le Seal.d SV.Le.nil))
  · rw [show Dir.move lv i = .sF lv i by unfold Dir.move; rw [if_neg (by omega)]]
    rw [show Dir.plc lv (i : Int) = 2 ^ lv + i by rw [plc_small (by omega) (by omega)]; rfl]
    (refine FinLe.sealM ?_); (conv => whnf); (repeat' (first | exact trivial | exact Seal.any | exact Seal.d | exact Seal.ptrM rfl | exact Seal.slM rfl | exact Seal.sameM (by assumption) | exact Seal.lt0 (SV.Lt.of rfl) | exact Seal.sameM (SV.Lt.of rfl) | ((refine Seal.ptrN rfl rfl ?_); (conv => whnf)) | (refine Seal.le (Seal.sl (idxK_range_ge (Nat.le_of_ble_eq_true rfl)) rfl (by first | omega | simp)) ?_) | ((refine Seal.fn ?_); (conv => whnf)) | ((refine Seal.agg ?_); (conv => whnf)) | ((refine Seal.tup ?_); (conv => whnf)) | ((refine Seal.iref ?_); (conv => whnf)) | ((refine And.intro ?_ ?_) <;> (conv => whnf)) | exact Seal.le Seal.d SV.Le.nil))
end Go.Proofs.YtbdclkjelhlfbaaGreat

namespace Go.Proofs.YtbdclkjelhlfbaaGreat
open Go.RowKit
set_option maxRecDepth 100000
def rslS (r : Dir.Res) : SV := .agg [.b r.done, .i .i64 r.e, .i .i64 r.n]
theorem posE_le (xs : List Dir.Ent) (key : List Int) : posE xs key ≤ xs.length := by
  have h : ∀ (lt : Nat → Bool) (q i j : Nat), i ≤ j → i ≤ bsF lt q i j ∧ bsF lt q i j ≤ j := by
    intro lt q
    induction q with
    | zero => intro i j h; simp [bsF]; exact h
    | succ q ih =>
      intro i j h
      unfold bsF
      by_cases h1 : i < j
      · rw [if_pos h1]
        split
        · have := ih ((i + j) / 2 + 1) j (by omega); omega
        · have := ih i ((i + j) / 2) (by omega); omega
      · rw [if_neg h1]; omega
  exact (h _ _ 0 _ (Nat.zero_le _)).2
theorem le_setE {h : List Dir.Ent} {p : Nat} {e : Dir.Ent} {X : List D} (hX : X = entD e) : SV.Le (.d (.sl 2 h.length fun i => if 0 + i = 0 + ((p : Nat) : Int).toNat then X else (fun i => entD (h.getD i default)) (0 + i))) (.d (slOf 2 entD (h.set p e))) := by
  have hl : h.length = (h.set p e).length := by simp
  have key : ∀ n, n = (h.set p e).length → SV.Le (.d (.sl 2 n fun i => if 0 + i = 0 + ((p : Nat) : Int).toNat then X else (fun i => entD (h.getD i default)) (0 + i))) (.d (slOf 2 entD (h.set p e))) := by
    rintro n rfl
    refine SV.Le.sl fun i hi => ?_
    rw [List.length_set] at hi
    simp only [Nat.zero_add, Int.toNat_natCast]
    rw [List.getD_eq_getElem?_getD, List.getD_eq_getElem?_getD, List.getElem?_set]
    by_cases h1 : i = p
    · subst h1; rw [if_pos rfl, if_pos rfl, if_pos hi]; exact hX
    · rw [if_neg h1, if_neg (fun e => h1 e.symm)]
  exact key _ hl
theorem hasE_lt {xs : List Dir.Ent} {key : List Int} (h : hasE xs key = true) : posE xs key < xs.length := by simp [hasE] at h; exact h.1
theorem found_c (who : Int) (c : Dir.Kc) (w : Nat) (v : Int) (h : List Dir.Ent) (hl : h.length ≤ 16000000) (hb : ∀ k, IsB (h.getD k default).key) (hk : IsB c.key) :
    Fun TC 91 60 [.i .i64 w, .i .u64 v, .d (slOf 2 entD h), bx (.d (slOf 1 (encI .u8) c.key)), bx (.i .i64 c.val), bx (.i .u8 c.op), bx (.ptr 0 0), bx (.i .i64 who)] []
      60 (.tup [cl who (Dir.found dirOps c w v h).1, rslS (Dir.found dirOps c w v h).2]) [] := by
  have hp := posE_le h c.key
  have hh := fun e => hasE_lt (xs := h) (key := c.key) e
  have hf := dir_find h c.key (by omega) hb hk
  cases hz : hasE h c.key with
  | false =>
    rw [hz] at hf
    refine Fun.mk' Tryz.func91 rfl rfl (Nat.le_of_ble_eq_true rfl) (by decide) ?_
    (repeat' (first
    | with_reducible refine Wp.seq ?_
    | with_reducible refine Wp.block ?_
    | ((with_reducible refine Wp.region ?_); conv => whnf)
    | ((with_reducible refine Wp.drawL TC_mixed ?_); conv => whnf)
    | ((with_reducible refine Wp.cond ?_); conv => whnf)
    | ((with_reducible refine Wp.ret ?_); conv => whnf)
    | ((with_reducible refine Wp.skip ?_); conv => whnf)
    | ((with_reducible refine Wp.exit ?_); conv => whnf)
    | ((with_reducible refine Go.mk ?_); conv => whnf)
    | ((with_reducible apply Eff1.of); conv => whnf)
    | with_reducible exact rfl
    | ((with_reducible refine Ov.ok (by first | exact IntWalk.i64_in _ (by omega) | exact IntWalk.u64_in _ (by omega) | exact IntWalk.u8_in _ (by omega) | exact IntWalk.u32_in _ (by omega) | exact IntWalk.i32_in _ (by omega) | exact IntWalk.u16_in _ (by omega)) ?_); conv => whnf)
    | (with_reducible refine Ov.sh1 (by with_unfolding_all exact rfl) ?_)
    | ((with_reducible refine Ov.quo (by omega) (by omega) (by omega) (fun _ _ => ?_)); conv => whnf)
    | ((with_reducible refine And.intro (show drawOK _ _ _ _ = true by kernel_rfl) ?_); conv => whnf)
    | ((with_reducible refine And.intro (by first | omega | exact Nat.le_of_ble_eq_true rfl) ?_); conv => whnf)
    | ((with_reducible refine And.intro ?hb ?_); (case hb => exact bytes_bd (Nat.le_of_ble_eq_true rfl) (by omega)); (conv => whnf))
    | ((refine DApp.a rfl rfl rfl rfl rfl rfl ?hb ?_); (case hb => first | exact bytes_bd (Nat.le_of_ble_eq_true rfl) (by omega) | omega); (conv => whnf))
    | ((refine DApp.b rfl rfl rfl rfl rfl rfl rfl rfl ?hb ?ho ?_); (case hb => first | exact bytes_bd (Nat.le_of_ble_eq_true rfl) (by omega) | omega); (case ho => omega); (conv => whnf))
    | ((refine DApp.c rfl rfl rfl rfl rfl ?hb ?_); (case hb => first | exact bytes_bd (Nat.le_of_ble_eq_true rfl) (by omega) | omega); (conv => whnf))
    | ((refine DApp.d rfl rfl rfl rfl rfl rfl ?hb ?ho ?_); (case hb => first | exact bytes_bd (Nat.le_of_ble_eq_true rfl) (by omega) | omega); (case ho => omega); (conv => whnf))
    | ((with_reducible refine nil_no (by omega) ?_); (conv => whnf))
    | ((with_reducible refine nil_any ?_ (fun hn0 => ?_)) <;> (conv => whnf))
    | ((with_reducible refine CallStop.pure (hf) rfl rfl ?_); conv => whnf) | ((with_reducible refine DCall.pure (hf) rfl rfl ?_); conv => whnf)
    | ((refine CallStop.fn (ent_Clone h (by omega)) [] rfl rfl rfl rfl rfl ?ha ?hh ?_); (case ha => ((conv => whnf); repeat' (first | exact trivial | exact ArgLe.rfl rfl | exact ArgLe.ptr rfl | exact ArgLe.sl rfl | ((with_reducible refine ArgLe.fn ?_); (conv => whnf)) | ((refine ArgLe.iref ?_); (conv => whnf)) | exact ArgLe.free SV.Le.nil rfl | ((with_reducible refine And.intro ?_ ?_) <;> (conv => whnf)) | ((refine ArgLe.free ?_ rfl); (repeat' (first | exact SV.Le.rfl _ | exact SV.Le.nil | exact SV.Le.sl (fun i hi => by (rcases i with _ | _ | _ | _ | i) <;> first | rfl | (exfalso; omega)) | with_reducible refine SV.Le.agg ?_ | exact Les.nil | with_reducible refine Les.cons ?_ ?_)))))); (case hh => ((conv => whnf); repeat' (first | exact trivial | exact ArgLe.rfl rfl | exact ArgLe.ptr rfl | exact ArgLe.sl rfl | ((with_reducible refine ArgLe.fn ?_); (conv => whnf)) | ((refine ArgLe.iref ?_); (conv => whnf)) | exact ArgLe.free SV.Le.nil rfl | exact ⟨rfl, rfl, rfl⟩ | exact fun i hi => rfl | exact (fun i hi => by (rcases i with _ | i) <;> first | rfl | (exfalso; omega)) | ((with_reducible refine And.intro ?_ ?_) <;> (conv => whnf))))); (conv => whnf))
    | ((refine DCall.fn (ent_Clone h (by omega)) [] [] rfl rfl rfl rfl rfl ?ha ?hh ?hs ?_); (case ha => ((conv => whnf); repeat' (first | exact trivial | exact ArgLe.rfl rfl | exact ArgLe.ptr rfl | exact ArgLe.sl rfl | ((with_reducible refine ArgLe.fn ?_); (conv => whnf)) | ((refine ArgLe.iref ?_); (conv => whnf)) | exact ArgLe.free SV.Le.nil rfl | ((with_reducible refine And.intro ?_ ?_) <;> (conv => whnf)) | ((refine ArgLe.free ?_ rfl); (repeat' (first | exact SV.Le.rfl _ | exact SV.Le.nil | exact SV.Le.sl (fun i hi => by (rcases i with _ | _ | _ | _ | i) <;> first | rfl | (exfalso; omega)) | with_reducible refine SV.Le.agg ?_ | exact Les.nil | with_reducible refine Les.cons ?_ ?_)))))); (case hh => ((conv => whnf); repeat' (first | exact trivial | exact ArgLe.rfl rfl | exact ArgLe.ptr rfl | exact ArgLe.sl rfl | ((with_reducible refine ArgLe.fn ?_); (conv => whnf)) | ((refine ArgLe.iref ?_); (conv => whnf)) | exact ArgLe.free SV.Le.nil rfl | exact ⟨rfl, rfl, rfl⟩ | exact fun i hi => rfl | exact (fun i hi => by (rcases i with _ | i) <;> first | rfl | (exfalso; omega)) | ((with_reducible refine And.intro ?_ ?_) <;> (conv => whnf))))); (case hs => (conv => whnf); repeat' (first | exact trivial | ((refine And.intro rfl ?_); (conv => whnf)))); (conv => whnf)) | ((refine DCall.new (ent_Clone h (by omega)) [] [] rfl rfl rfl rfl rfl rfl ?ha ?hh ?hs ?_); (case ha => ((conv => whnf); repeat' (first | exact trivial | exact ArgLe.rfl rfl | exact ArgLe.ptr rfl | exact ArgLe.sl rfl | ((with_reducible refine ArgLe.fn ?_); (conv => whnf)) | ((refine ArgLe.iref ?_); (conv => whnf)) | exact ArgLe.free SV.Le.nil rfl | ((with_reducible refine And.intro ?_ ?_) <;> (conv => whnf)) | ((refine ArgLe.free ?_ rfl); (repeat' (first | exact SV.Le.rfl _ | exact SV.Le.nil | exact SV.Le.sl (fun i hi => by (rcases i with _ | _ | _ | _ | i) <;> first | rfl | (exfalso; omega)) | with_reducible refine SV.Le.agg ?_ | exact Les.nil | with_reducible refine Les.cons ?_ ?_)))))); (case hh => ((conv => whnf); repeat' (first | exact trivial | exact ArgLe.rfl rfl | exact ArgLe.ptr rfl | exact ArgLe.sl rfl | ((with_reducible refine ArgLe.fn ?_); (conv => whnf)) | ((refine ArgLe.iref ?_); (conv => whnf)) | exact ArgLe.free SV.Le.nil rfl | exact ⟨rfl, rfl, rfl⟩ | exact fun i hi => rfl | exact (fun i hi => by (rcases i with _ | i) <;> first | rfl | (exfalso; omega)) | ((with_reducible refine And.intro ?_ ?_) <;> (conv => whnf))))); (case hs => (conv => whnf); repeat' (first | exact trivial | ((refine And.intro rfl ?_); (conv => whnf)))); (conv => whnf))
    | ((refine CallStop.fn (ent_Insert h (posE h c.key) ⟨c.key, c.val⟩ hp (by omega)) [64,66] rfl rfl rfl rfl rfl ?ha ?hh ?_); (case ha => ((conv => whnf); repeat' (first | exact trivial | exact ArgLe.rfl rfl | exact ArgLe.ptr rfl | exact ArgLe.sl rfl | ((with_reducible refine ArgLe.fn ?_); (conv => whnf)) | ((refine ArgLe.iref ?_); (conv => whnf)) | exact ArgLe.free SV.Le.nil rfl | ((with_reducible refine And.intro ?_ ?_) <;> (conv => whnf)) | ((refine ArgLe.free ?_ rfl); (repeat' (first | exact SV.Le.rfl _ | exact SV.Le.nil | exact SV.Le.sl (fun i hi => by (rcases i with _ | _ | _ | _ | i) <;> first | rfl | (exfalso; omega)) | with_reducible refine SV.Le.agg ?_ | exact Les.nil | with_reducible refine Les.cons ?_ ?_)))))); (case hh => ((conv => whnf); repeat' (first | exact trivial | exact ArgLe.rfl rfl | exact ArgLe.ptr rfl | exact ArgLe.sl rfl | ((with_reducible refine ArgLe.fn ?_); (conv => whnf)) | ((refine ArgLe.iref ?_); (conv => whnf)) | exact ArgLe.free SV.Le.nil rfl | exact ⟨rfl, rfl, rfl⟩ | exact fun i hi => rfl | exact (fun i hi => by (rcases i with _ | i) <;> first | rfl | (exfalso; omega)) | ((with_reducible refine And.intro ?_ ?_) <;> (conv => whnf))))); (conv => whnf))
    | ((refine DCall.fn (ent_Insert h (posE h c.key) ⟨c.key, c.val⟩ hp (by omega)) [64,66] [64,66] rfl rfl rfl rfl rfl ?ha ?hh ?hs ?_); (case ha => ((conv => whnf); repeat' (first | exact trivial | exact ArgLe.rfl rfl | exact ArgLe.ptr rfl | exact ArgLe.sl rfl | ((with_reducible refine ArgLe.fn ?_); (conv => whnf)) | ((refine ArgLe.iref ?_); (conv => whnf)) | exact ArgLe.free SV.Le.nil rfl | ((with_reducible refine And.intro ?_ ?_) <;> (conv => whnf)) | ((refine ArgLe.free ?_ rfl); (repeat' (first | exact SV.Le.rfl _ | exact SV.Le.nil | exact SV.Le.sl (fun i hi => by (rcases i with _ | _ | _ | _ | i) <;> first | rfl | (exfalso; omega)) | with_reducible refine SV.Le.agg ?_ | exact Les.nil | with_reducible refine Les.cons ?_ ?_)))))); (case hh => ((conv => whnf); repeat' (first | exact trivial | exact ArgLe.rfl rfl | exact ArgLe.ptr rfl | exact ArgLe.sl rfl | ((with_reducible refine ArgLe.fn ?_); (conv => whnf)) | ((refine ArgLe.iref ?_); (conv => whnf)) | exact ArgLe.free SV.Le.nil rfl | exact ⟨rfl, rfl, rfl⟩ | exact fun i hi => rfl | exact (fun i hi => by (rcases i with _ | i) <;> first | rfl | (exfalso; omega)) | ((with_reducible refine And.intro ?_ ?_) <;> (conv => whnf))))); (case hs => (conv => whnf); repeat' (first | exact trivial | ((refine And.intro rfl ?_); (conv => whnf)))); (conv => whnf)) | ((refine DCall.new (ent_Insert h (posE h c.key) ⟨c.key, c.val⟩ hp (by omega)) [64,66] [64,66] rfl rfl rfl rfl rfl rfl ?ha ?hh ?hs ?_); (case ha => ((conv => whnf); repeat' (first | exact trivial | exact ArgLe.rfl rfl | exact ArgLe.ptr rfl | exact ArgLe.sl rfl | ((with_reducible refine ArgLe.fn ?_); (conv => whnf)) | ((refine ArgLe.iref ?_); (conv => whnf)) | exact ArgLe.free SV.Le.nil rfl | ((with_reducible refine And.intro ?_ ?_) <;> (conv => whnf)) | ((refine ArgLe.free ?_ rfl); (repeat' (first | exact SV.Le.rfl _ | exact SV.Le.nil | exact SV.Le.sl (fun i hi => by (rcases i with _ | _ | _ | _ | i) <;> first | rfl | (exfalso; omega)) | with_reducible refine SV.Le.agg ?_ | exact Les.nil | with_reducible refine Les.cons ?_ ?_)))))); (case hh => ((conv => whnf); repeat' (first | exact trivial | exact ArgLe.rfl rfl | exact ArgLe.ptr rfl | exact ArgLe.sl rfl | ((with_reducible refine ArgLe.fn ?_); (conv => whnf)) | ((refine ArgLe.iref ?_); (conv => whnf)) | exact ArgLe.free SV.Le.nil rfl | exact ⟨rfl, rfl, rfl⟩ | exact fun i hi => rfl | exact (fun i hi => by (rcases i with _ | i) <;> first | rfl | (exfalso; omega)) | ((with_reducible refine And.intro ?_ ?_) <;> (conv => whnf))))); (case hs => (conv => whnf); repeat' (first | exact trivial | ((refine And.intro rfl ?_); (conv => whnf)))); (conv => whnf))
    | ((refine DCall.fn (ent_Insert h (posE h c.key) ⟨c.key, c.val⟩ hp (by omega)) [64,66] [] rfl rfl rfl rfl rfl ?ha ?hh ?hs ?_); (case ha => ((conv => whnf); repeat' (first | exact trivial | exact ArgLe.rfl rfl | exact ArgLe.ptr rfl | exact ArgLe.sl rfl | ((with_reducible refine ArgLe.fn ?_); (conv => whnf)) | ((refine ArgLe.iref ?_); (conv => whnf)) | exact ArgLe.free SV.Le.nil rfl | ((with_reducible refine And.intro ?_ ?_) <;> (conv => whnf)) | ((refine ArgLe.free ?_ rfl); (repeat' (first | exact SV.Le.rfl _ | exact SV.Le.nil | exact SV.Le.sl (fun i hi => by (rcases i with _ | _ | _ | _ | i) <;> first | rfl | (exfalso; omega)) | with_reducible refine SV.Le.agg ?_ | exact Les.nil | with_reducible refine Les.cons ?_ ?_)))))); (case hh => ((conv => whnf); repeat' (first | exact trivial | exact ArgLe.rfl rfl | exact ArgLe.ptr rfl | exact ArgLe.sl rfl | ((with_reducible refine ArgLe.fn ?_); (conv => whnf)) | ((refine ArgLe.iref ?_); (conv => whnf)) | exact ArgLe.free SV.Le.nil rfl | exact ⟨rfl, rfl, rfl⟩ | exact fun i hi => rfl | exact (fun i hi => by (rcases i with _ | i) <;> first | rfl | (exfalso; omega)) | ((with_reducible refine And.intro ?_ ?_) <;> (conv => whnf))))); (case hs => (conv => whnf); repeat' (first | exact trivial | ((refine And.intro rfl ?_); (conv => whnf)))); (conv => whnf)) | ((refine DCall.new (ent_Insert h (posE h c.key) ⟨c.key, c.val⟩ hp (by omega)) [64,66] [] rfl rfl rfl rfl rfl rfl ?ha ?hh ?hs ?_); (case ha => ((conv => whnf); repeat' (first | exact trivial | exact ArgLe.rfl rfl | exact ArgLe.ptr rfl | exact ArgLe.sl rfl | ((with_reducible refine ArgLe.fn ?_); (conv => whnf)) | ((refine ArgLe.iref ?_); (conv => whnf)) | exact ArgLe.free SV.Le.nil rfl | ((with_reducible refine And.intro ?_ ?_) <;> (conv => whnf)) | ((refine ArgLe.free ?_ rfl); (repeat' (first | exact SV.Le.rfl _ | exact SV.Le.nil | exact SV.Le.sl (fun i hi => by (rcases i with _ | _ | _ | _ | i) <;> first | rfl | (exfalso; omega)) | with_reducible refine SV.Le.agg ?_ | exact Les.nil | with_reducible refine Les.cons ?_ ?_)))))); (case hh => ((conv => whnf); repeat' (first | exact trivial | exact ArgLe.rfl rfl | exact ArgLe.ptr rfl | exact ArgLe.sl rfl | ((with_reducible refine ArgLe.fn ?_); (conv => whnf)) | ((refine ArgLe.iref ?_); (conv => whnf)) | exact ArgLe.free SV.Le.nil rfl | exact ⟨rfl, rfl, rfl⟩ | exact fun i hi => rfl | exact (fun i hi => by (rcases i with _ | i) <;> first | rfl | (exfalso; omega)) | ((with_reducible refine And.intro ?_ ?_) <;> (conv => whnf))))); (case hs => (conv => whnf); repeat' (first | exact trivial | ((refine And.intro rfl ?_); (conv => whnf)))); (conv => whnf))
    | ((refine ways (fun hc => ?_) (fun hc => ?_)) <;> (try simp only [decide_eq_true_eq, decide_eq_false_iff_not, Bool.and_eq_true, Bool.or_eq_true, Bool.and_eq_false_iff, Bool.or_eq_false_iff, Bool.not_eq_true', Bool.not_eq_false', beq_iff_eq, bne_iff_ne, ne_eq, beq_eq_false_iff_ne, bne_eq_false_iff_eq, Bool.not_eq_true, Bool.not_eq_false] at hc) <;> (try (exfalso; omega)) <;> (conv => whnf))))
    · rw [show Dir.found dirOps c w v h = (.none, ⟨true, 7, 0⟩) by simp [Dir.found, dirOps, fndE, *]]
      (refine FinLe.sealM ?_); (conv => whnf); (repeat' (first | exact trivial | exact Seal.any | exact Seal.d | exact Seal.ptrM rfl | exact Seal.slM rfl | exact Seal.sameM (by assumption) | exact Seal.lt0 (SV.Lt.of rfl) | exact Seal.sameM (SV.Lt.of rfl) | ((refine Seal.ptrN rfl rfl ?_); (conv => whnf)) | (refine Seal.le (Seal.sl (idxK_range_ge (Nat.le_of_ble_eq_true rfl)) rfl (by first | omega | simp)) ?_) | ((refine Seal.fn ?_); (conv => whnf)) | ((refine Seal.agg ?_); (conv => whnf)) | ((refine Seal.tup ?_); (conv => whnf)) | ((refine Seal.iref ?_); (conv => whnf)) | ((refine And.intro ?_ ?_) <;> (conv => whnf)) | exact Seal.le Seal.d SV.Le.nil))
    · rw [show Dir.found dirOps c w v h = (.kS c w v (insAt h (posE h c.key) ⟨c.key, c.val⟩) c.val, Dir.r0) by simp [Dir.found, dirOps, fndE, *]]
      (refine FinLe.sealM ?_); (conv => whnf); (repeat' (first | exact trivial | exact Seal.any | exact Seal.d | exact Seal.ptrM rfl | exact Seal.slM rfl | exact Seal.sameM (by assumption) | exact Seal.lt0 (SV.Lt.of rfl) | exact Seal.sameM (SV.Lt.of rfl) | ((refine Seal.ptrN rfl rfl ?_); (conv => whnf)) | (refine Seal.le (Seal.sl (idxK_range_ge (Nat.le_of_ble_eq_true rfl)) rfl (by first | omega | simp)) ?_) | ((refine Seal.fn ?_); (conv => whnf)) | ((refine Seal.agg ?_); (conv => whnf)) | ((refine Seal.tup ?_); (conv => whnf)) | ((refine Seal.iref ?_); (conv => whnf)) | ((refine And.intro ?_ ?_) <;> (conv => whnf)) | exact Seal.le Seal.d SV.Le.nil))
      all_goals first | exact SV.Le.sl fun i hi => by rw [Nat.zero_add] | exact le_setE (by rw [wat, Int.toNat_natCast]; rfl) | exact le_setE (by rw [wat]; rfl)
  | true =>
    have hh := hh hz
    rw [hz] at hf
    refine Fun.mk' Tryz.func91 rfl rfl (Nat.le_of_ble_eq_true rfl) (by decide) ?_
    (repeat' (first
    | with_reducible refine Wp.seq ?_
    | with_reducible refine Wp.block ?_
    | ((with_reducible refine Wp.region ?_); conv => whnf)
    | ((with_reducible refine Wp.drawL TC_mixed ?_); conv => whnf)
    | ((with_reducible refine Wp.cond ?_); conv => whnf)
    | ((with_reducible refine Wp.ret ?_); conv => whnf)
    | ((with_reducible refine Wp.skip ?_); conv => whnf)
    | ((with_reducible refine Wp.exit ?_); conv => whnf)
    | ((with_reducible refine Go.mk ?_); conv => whnf)
    | ((with_reducible apply Eff1.of); conv => whnf)
    | with_reducible exact rfl
    | ((with_reducible refine Ov.ok (by first | exact IntWalk.i64_in _ (by omega) | exact IntWalk.u64_in _ (by omega) | exact IntWalk.u8_in _ (by omega) | exact IntWalk.u32_in _ (by omega) | exact IntWalk.i32_in _ (by omega) | exact IntWalk.u16_in _ (by omega)) ?_); conv => whnf)
    | (with_reducible refine Ov.sh1 (by with_unfolding_all exact rfl) ?_)
    | ((with_reducible refine Ov.quo (by omega) (by omega) (by omega) (fun _ _ => ?_)); conv => whnf)
    | ((with_reducible refine And.intro (show drawOK _ _ _ _ = true by kernel_rfl) ?_); conv => whnf)
    | ((with_reducible refine And.intro (by first | omega | exact Nat.le_of_ble_eq_true rfl) ?_); conv => whnf)
    | ((with_reducible refine And.intro ?hb ?_); (case hb => exact bytes_bd (Nat.le_of_ble_eq_true rfl) (by omega)); (conv => whnf))
    | ((refine DApp.a rfl rfl rfl rfl rfl rfl ?hb ?_); (case hb => first | exact bytes_bd (Nat.le_of_ble_eq_true rfl) (by omega) | omega); (conv => whnf))
    | ((refine DApp.b rfl rfl rfl rfl rfl rfl rfl rfl ?hb ?ho ?_); (case hb => first | exact bytes_bd (Nat.le_of_ble_eq_true rfl) (by omega) | omega); (case ho => omega); (conv => whnf))
    | ((refine DApp.c rfl rfl rfl rfl rfl ?hb ?_); (case hb => first | exact bytes_bd (Nat.le_of_ble_eq_true rfl) (by omega) | omega); (conv => whnf))
    | ((refine DApp.d rfl rfl rfl rfl rfl rfl ?hb ?ho ?_); (case hb => first | exact bytes_bd (Nat.le_of_ble_eq_true rfl) (by omega) | omega); (case ho => omega); (conv => whnf))
    | ((with_reducible refine nil_no (by omega) ?_); (conv => whnf))
    | ((with_reducible refine nil_any ?_ (fun hn0 => ?_)) <;> (conv => whnf))
    | ((with_reducible refine CallStop.pure (hf) rfl rfl ?_); conv => whnf) | ((with_reducible refine DCall.pure (hf) rfl rfl ?_); conv => whnf)
    | ((refine CallStop.fn (ent_Clone h (by omega)) [] rfl rfl rfl rfl rfl ?ha ?hh ?_); (case ha => ((conv => whnf); repeat' (first | exact trivial | exact ArgLe.rfl rfl | exact ArgLe.ptr rfl | exact ArgLe.sl rfl | ((with_reducible refine ArgLe.fn ?_); (conv => whnf)) | ((refine ArgLe.iref ?_); (conv => whnf)) | exact ArgLe.free SV.Le.nil rfl | ((with_reducible refine And.intro ?_ ?_) <;> (conv => whnf)) | ((refine ArgLe.free ?_ rfl); (repeat' (first | exact SV.Le.rfl _ | exact SV.Le.nil | exact SV.Le.sl (fun i hi => by (rcases i with _ | _ | _ | _ | i) <;> first | rfl | (exfalso; omega)) | with_reducible refine SV.Le.agg ?_ | exact Les.nil | with_reducible refine Les.cons ?_ ?_)))))); (case hh => ((conv => whnf); repeat' (first | exact trivial | exact ArgLe.rfl rfl | exact ArgLe.ptr rfl | exact ArgLe.sl rfl | ((with_reducible refine ArgLe.fn ?_); (conv => whnf)) | ((refine ArgLe.iref ?_); (conv => whnf)) | exact ArgLe.free SV.Le.nil rfl | exact ⟨rfl, rfl, rfl⟩ | exact fun i hi => rfl | exact (fun i hi => by (rcases i with _ | i) <;> first | rfl | (exfalso; omega)) | ((with_reducible refine And.intro ?_ ?_) <;> (conv => whnf))))); (conv => whnf))
    | ((refine DCall.fn (ent_Clone h (by omega)) [] [] rfl rfl rfl rfl rfl ?ha ?hh ?hs ?_); (case ha => ((conv => whnf); repeat' (first | exact trivial | exact ArgLe.rfl rfl | exact ArgLe.ptr rfl | exact ArgLe.sl rfl | ((with_reducible refine ArgLe.fn ?_); (conv => whnf)) | ((refine ArgLe.iref ?_); (conv => whnf)) | exact ArgLe.free SV.Le.nil rfl | ((with_reducible refine And.intro ?_ ?_) <;> (conv => whnf)) | ((refine ArgLe.free ?_ rfl); (repeat' (first | exact SV.Le.rfl _ | exact SV.Le.nil | exact SV.Le.sl (fun i hi => by (rcases i with _ | _ | _ | _ | i) <;> first | rfl | (exfalso; omega)) | with_reducible refine SV.Le.agg ?_ | exact Les.nil | with_reducible refine Les.cons ?_ ?_)))))); (case hh => ((conv => whnf); repeat' (first | exact trivial | exact ArgLe.rfl rfl | exact ArgLe.ptr rfl | exact ArgLe.sl rfl | ((with_reducible refine ArgLe.fn ?_); (conv => whnf)) | ((refine ArgLe.iref ?_); (conv => whnf)) | exact ArgLe.free SV.Le.nil rfl | exact ⟨rfl, rfl, rfl⟩ | exact fun i hi => rfl | exact (fun i hi => by (rcases i with _ | i) <;> first | rfl | (exfalso; omega)) | ((with_reducible refine And.intro ?_ ?_) <;> (conv => whnf))))); (case hs => (conv => whnf); repeat' (first | exact trivial | ((refine And.intro rfl ?_); (conv => whnf)))); (conv => whnf)) | ((refine DCall.new (ent_Clone h (by omega)) [] [] rfl rfl rfl rfl rfl rfl ?ha ?hh ?hs ?_); (case ha => ((conv => whnf); repeat' (first | exact trivial | exact ArgLe.rfl rfl | exact ArgLe.ptr rfl | exact ArgLe.sl rfl | ((with_reducible refine ArgLe.fn ?_); (conv => whnf)) | ((refine ArgLe.iref ?_); (conv => whnf)) | exact ArgLe.free SV.Le.nil rfl | ((with_reducible refine And.intro ?_ ?_) <;> (conv => whnf)) | ((refine ArgLe.free ?_ rfl); (repeat' (first | exact SV.Le.rfl _ | exact SV.Le.nil | exact SV.Le.sl (fun i hi => by (rcases i with _ | _ | _ | _ | i) <;> first | rfl | (exfalso; omega)) | with_reducible refine SV.Le.agg ?_ | exact Les.nil | with_reducible refine Les.cons ?_ ?_)))))); (case hh => ((conv => whnf); repeat' (first | exact trivial | exact ArgLe.rfl rfl | exact ArgLe.ptr rfl | exact ArgLe.sl rfl | ((with_reducible refine ArgLe.fn ?_); (conv => whnf)) | ((refine ArgLe.iref ?_); (conv => whnf)) | exact ArgLe.free SV.Le.nil rfl | exact ⟨rfl, rfl, rfl⟩ | exact fun i hi => rfl | exact (fun i hi => by (rcases i with _ | i) <;> first | rfl | (exfalso; omega)) | ((with_reducible refine And.intro ?_ ?_) <;> (conv => whnf))))); (case hs => (conv => whnf); repeat' (first | exact trivial | ((refine And.intro rfl ?_); (conv => whnf)))); (conv => whnf))
    | ((refine CallStop.fn (ent_Delete h (posE h c.key) hh (by omega)) [64] rfl rfl rfl rfl rfl ?ha ?hh ?_); (case ha => ((conv => whnf); repeat' (first | exact trivial | exact ArgLe.rfl rfl | exact ArgLe.ptr rfl | exact ArgLe.sl rfl | ((with_reducible refine ArgLe.fn ?_); (conv => whnf)) | ((refine ArgLe.iref ?_); (conv => whnf)) | exact ArgLe.free SV.Le.nil rfl | ((with_reducible refine And.intro ?_ ?_) <;> (conv => whnf)) | ((refine ArgLe.free ?_ rfl); (repeat' (first | exact SV.Le.rfl _ | exact SV.Le.nil | exact SV.Le.sl (fun i hi => by (rcases i with _ | _ | _ | _ | i) <;> first | rfl | (exfalso; omega)) | with_reducible refine SV.Le.agg ?_ | exact Les.nil | with_reducible refine Les.cons ?_ ?_)))))); (case hh => ((conv => whnf); repeat' (first | exact trivial | exact ArgLe.rfl rfl | exact ArgLe.ptr rfl | exact ArgLe.sl rfl | ((with_reducible refine ArgLe.fn ?_); (conv => whnf)) | ((refine ArgLe.iref ?_); (conv => whnf)) | exact ArgLe.free SV.Le.nil rfl | exact ⟨rfl, rfl, rfl⟩ | exact fun i hi => rfl | exact (fun i hi => by (rcases i with _ | i) <;> first | rfl | (exfalso; omega)) | ((with_reducible refine And.intro ?_ ?_) <;> (conv => whnf))))); (conv => whnf))
    | ((refine DCall.fn (ent_Delete h (posE h c.key) hh (by omega)) [64] [64] rfl rfl rfl rfl rfl ?ha ?hh ?hs ?_); (case ha => ((conv => whnf); repeat' (first | exact trivial | exact ArgLe.rfl rfl | exact ArgLe.ptr rfl | exact ArgLe.sl rfl | ((with_reducible refine ArgLe.fn ?_); (conv => whnf)) | ((refine ArgLe.iref ?_); (conv => whnf)) | exact ArgLe.free SV.Le.nil rfl | ((with_reducible refine And.intro ?_ ?_) <;> (conv => whnf)) | ((refine ArgLe.free ?_ rfl); (repeat' (first | exact SV.Le.rfl _ | exact SV.Le.nil | exact SV.Le.sl (fun i hi => by (rcases i with _ | _ | _ | _ | i) <;> first | rfl | (exfalso; omega)) | with_reducible refine SV.Le.agg ?_ | exact Les.nil | with_reducible refine Les.cons ?_ ?_)))))); (case hh => ((conv => whnf); repeat' (first | exact trivial | exact ArgLe.rfl rfl | exact ArgLe.ptr rfl | exact ArgLe.sl rfl | ((with_reducible refine ArgLe.fn ?_); (conv => whnf)) | ((refine ArgLe.iref ?_); (conv => whnf)) | exact ArgLe.free SV.Le.nil rfl | exact ⟨rfl, rfl, rfl⟩ | exact fun i hi => rfl | exact (fun i hi => by (rcases i with _ | i) <;> first | rfl | (exfalso; omega)) | ((with_reducible refine And.intro ?_ ?_) <;> (conv => whnf))))); (case hs => (conv => whnf); repeat' (first | exact trivial | ((refine And.intro rfl ?_); (conv => whnf)))); (conv => whnf)) | ((refine DCall.new (ent_Delete h (posE h c.key) hh (by omega)) [64] [64] rfl rfl rfl rfl rfl rfl ?ha ?hh ?hs ?_); (case ha => ((conv => whnf); repeat' (first | exact trivial | exact ArgLe.rfl rfl | exact ArgLe.ptr rfl | exact ArgLe.sl rfl | ((with_reducible refine ArgLe.fn ?_); (conv => whnf)) | ((refine ArgLe.iref ?_); (conv => whnf)) | exact ArgLe.free SV.Le.nil rfl | ((with_reducible refine And.intro ?_ ?_) <;> (conv => whnf)) | ((refine ArgLe.free ?_ rfl); (repeat' (first | exact SV.Le.rfl _ | exact SV.Le.nil | exact SV.Le.sl (fun i hi => by (rcases i with _ | _ | _ | _ | i) <;> first | rfl | (exfalso; omega)) | with_reducible refine SV.Le.agg ?_ | exact Les.nil | with_reducible refine Les.cons ?_ ?_)))))); (case hh => ((conv => whnf); repeat' (first | exact trivial | exact ArgLe.rfl rfl | exact ArgLe.ptr rfl | exact ArgLe.sl rfl | ((with_reducible refine ArgLe.fn ?_); (conv => whnf)) | ((refine ArgLe.iref ?_); (conv => whnf)) | exact ArgLe.free SV.Le.nil rfl | exact ⟨rfl, rfl, rfl⟩ | exact fun i hi => rfl | exact (fun i hi => by (rcases i with _ | i) <;> first | rfl | (exfalso; omega)) | ((with_reducible refine And.intro ?_ ?_) <;> (conv => whnf))))); (case hs => (conv => whnf); repeat' (first | exact trivial | ((refine And.intro rfl ?_); (conv => whnf)))); (conv => whnf))
    | ((refine DCall.fn (ent_Delete h (posE h c.key) hh (by omega)) [64] [] rfl rfl rfl rfl rfl ?ha ?hh ?hs ?_); (case ha => ((conv => whnf); repeat' (first | exact trivial | exact ArgLe.rfl rfl | exact ArgLe.ptr rfl | exact ArgLe.sl rfl | ((with_reducible refine ArgLe.fn ?_); (conv => whnf)) | ((refine ArgLe.iref ?_); (conv => whnf)) | exact ArgLe.free SV.Le.nil rfl | ((with_reducible refine And.intro ?_ ?_) <;> (conv => whnf)) | ((refine ArgLe.free ?_ rfl); (repeat' (first | exact SV.Le.rfl _ | exact SV.Le.nil | exact SV.Le.sl (fun i hi => by (rcases i with _ | _ | _ | _ | i) <;> first | rfl | (exfalso; omega)) | with_reducible refine SV.Le.agg ?_ | exact Les.nil | with_reducible refine Les.cons ?_ ?_)))))); (case hh => ((conv => whnf); repeat' (first | exact trivial | exact ArgLe.rfl rfl | exact ArgLe.ptr rfl | exact ArgLe.sl rfl | ((with_reducible refine ArgLe.fn ?_); (conv => whnf)) | ((refine ArgLe.iref ?_); (conv => whnf)) | exact ArgLe.free SV.Le.nil rfl | exact ⟨rfl, rfl, rfl⟩ | exact fun i hi => rfl | exact (fun i hi => by (rcases i with _ | i) <;> first | rfl | (exfalso; omega)) | ((with_reducible refine And.intro ?_ ?_) <;> (conv => whnf))))); (case hs => (conv => whnf); repeat' (first | exact trivial | ((refine And.intro rfl ?_); (conv => whnf)))); (conv => whnf)) | ((refine DCall.new (ent_Delete h (posE h c.key) hh (by omega)) [64] [] rfl rfl rfl rfl rfl rfl ?ha ?hh ?hs ?_); (case ha => ((conv => whnf); repeat' (first | exact trivial | exact ArgLe.rfl rfl | exact ArgLe.ptr rfl | exact ArgLe.sl rfl | ((with_reducible refine ArgLe.fn ?_); (conv => whnf)) | ((refine ArgLe.iref ?_); (conv => whnf)) | exact ArgLe.free SV.Le.nil rfl | ((with_reducible refine And.intro ?_ ?_) <;> (conv => whnf)) | ((refine ArgLe.free ?_ rfl); (repeat' (first | exact SV.Le.rfl _ | exact SV.Le.nil | exact SV.Le.sl (fun i hi => by (rcases i with _ | _ | _ | _ | i) <;> first | rfl | (exfalso; omega)) | with_reducible refine SV.Le.agg ?_ | exact Les.nil | with_reducible refine Les.cons ?_ ?_)))))); (case hh => ((conv => whnf); repeat' (first | exact trivial | exact ArgLe.rfl rfl | exact ArgLe.ptr rfl | exact ArgLe.sl rfl | ((with_reducible refine ArgLe.fn ?_); (conv => whnf)) | ((refine ArgLe.iref ?_); (conv => whnf)) | exact ArgLe.free SV.Le.nil rfl | exact ⟨rfl, rfl, rfl⟩ | exact fun i hi => rfl | exact (fun i hi => by (rcases i with _ | i) <;> first | rfl | (exfalso; omega)) | ((with_reducible refine And.intro ?_ ?_) <;> (conv => whnf))))); (case hs => (conv => whnf); repeat' (first | exact trivial | ((refine And.intro rfl ?_); (conv => whnf)))); (conv => whnf))
    | ((refine ways (fun hc => ?_) (fun hc => ?_)) <;> (try simp only [decide_eq_true_eq, decide_eq_false_iff_not, Bool.and_eq_true, Bool.or_eq_true, Bool.and_eq_false_iff, Bool.or_eq_false_iff, Bool.not_eq_true', Bool.not_eq_false', beq_iff_eq, bne_iff_ne, ne_eq, beq_eq_false_iff_ne, bne_eq_false_iff_eq, Bool.not_eq_true, Bool.not_eq_false] at hc) <;> (try (exfalso; omega)) <;> (conv => whnf))))
    · rename_i hc0
      rw [show Dir.found dirOps c w v h = (.none, ⟨true, 0, (h.getD (posE h c.key) default).val⟩) by simp [Dir.found, dirOps, fndE, *]]
      (refine FinLe.sealM ?_); (conv => whnf); (repeat' (first | exact trivial | exact Seal.any | exact Seal.d | exact Seal.ptrM rfl | exact Seal.slM rfl | exact Seal.sameM (by assumption) | exact Seal.lt0 (SV.Lt.of rfl) | exact Seal.sameM (SV.Lt.of rfl) | ((refine Seal.ptrN rfl rfl ?_); (conv => whnf)) | (refine Seal.le (Seal.sl (idxK_range_ge (Nat.le_of_ble_eq_true rfl)) rfl (by first | omega | simp)) ?_) | ((refine Seal.fn ?_); (conv => whnf)) | ((refine Seal.agg ?_); (conv => whnf)) | ((refine Seal.tup ?_); (conv => whnf)) | ((refine Seal.iref ?_); (conv => whnf)) | ((refine And.intro ?_ ?_) <;> (conv => whnf)) | exact Seal.le Seal.d SV.Le.nil))
      try exact SV.Le.of_eq (by rw [Int.toNat_natCast])
    · rename_i hc0 hc1
      rw [show Dir.found dirOps c w v h = (.kS c w v (delAt h (posE h c.key)) (h.getD (posE h c.key) default).val, Dir.r0) by simp [Dir.found, dirOps, fndE, *]]
      (refine FinLe.sealM ?_); (conv => whnf); (repeat' (first | exact trivial | exact Seal.any | exact Seal.d | exact Seal.ptrM rfl | exact Seal.slM rfl | exact Seal.sameM (by assumption) | exact Seal.lt0 (SV.Lt.of rfl) | exact Seal.sameM (SV.Lt.of rfl) | ((refine Seal.ptrN rfl rfl ?_); (conv => whnf)) | (refine Seal.le (Seal.sl (idxK_range_ge (Nat.le_of_ble_eq_true rfl)) rfl (by first | omega | simp)) ?_) | ((refine Seal.fn ?_); (conv => whnf)) | ((refine Seal.agg ?_); (conv => whnf)) | ((refine Seal.tup ?_); (conv => whnf)) | ((refine Seal.iref ?_); (conv => whnf)) | ((refine And.intro ?_ ?_) <;> (conv => whnf)) | exact Seal.le Seal.d SV.Le.nil))
      all_goals first | exact SV.Le.sl fun i hi => by rw [Nat.zero_add] | exact le_setE (by rw [wat, Int.toNat_natCast]; rfl) | exact le_setE (by rw [wat]; rfl)
    · rename_i hc0 hc1
      rw [show Dir.found dirOps c w v h = (.kS c w v (h.set (posE h c.key) ⟨(h.getD (posE h c.key) default).key, (h.getD (posE h c.key) default).val⟩) (h.getD (posE h c.key) default).val, Dir.r0) by simp [Dir.found, dirOps, fndE, *]]
      (refine FinLe.sealM ?_); (conv => whnf); (repeat' (first | exact trivial | exact Seal.any | exact Seal.d | exact Seal.ptrM rfl | exact Seal.slM rfl | exact Seal.sameM (by assumption) | exact Seal.lt0 (SV.Lt.of rfl) | exact Seal.sameM (SV.Lt.of rfl) | ((refine Seal.ptrN rfl rfl ?_); (conv => whnf)) | (refine Seal.le (Seal.sl (idxK_range_ge (Nat.le_of_ble_eq_true rfl)) rfl (by first | omega | simp)) ?_) | ((refine Seal.fn ?_); (conv => whnf)) | ((refine Seal.agg ?_); (conv => whnf)) | ((refine Seal.tup ?_); (conv => whnf)) | ((refine Seal.iref ?_); (conv => whnf)) | ((refine And.intro ?_ ?_) <;> (conv => whnf)) | exact Seal.le Seal.d SV.Le.nil))
      all_goals first | exact SV.Le.sl fun i hi => by rw [Nat.zero_add] | exact le_setE (by rw [wat, Int.toNat_natCast]; rfl) | exact le_setE (by rw [wat]; rfl)
    · rw [show Dir.found dirOps c w v h = (.kS c w v (h.set (posE h c.key) ⟨(h.getD (posE h c.key) default).key, c.val⟩) c.val, Dir.r0) by simp [Dir.found, dirOps, fndE, *]]
      (refine FinLe.sealM ?_); (conv => whnf); (repeat' (first | exact trivial | exact Seal.any | exact Seal.d | exact Seal.ptrM rfl | exact Seal.slM rfl | exact Seal.sameM (by assumption) | exact Seal.lt0 (SV.Lt.of rfl) | exact Seal.sameM (SV.Lt.of rfl) | ((refine Seal.ptrN rfl rfl ?_); (conv => whnf)) | (refine Seal.le (Seal.sl (idxK_range_ge (Nat.le_of_ble_eq_true rfl)) rfl (by first | omega | simp)) ?_) | ((refine Seal.fn ?_); (conv => whnf)) | ((refine Seal.agg ?_); (conv => whnf)) | ((refine Seal.tup ?_); (conv => whnf)) | ((refine Seal.iref ?_); (conv => whnf)) | ((refine And.intro ?_ ?_) <;> (conv => whnf)) | exact Seal.le Seal.d SV.Le.nil))
      all_goals first | exact SV.Le.sl fun i hi => by rw [Nat.zero_add] | exact le_setE (by rw [wat, Int.toNat_natCast]; rfl) | exact le_setE (by rw [wat]; rfl)
end Go.Proofs.YtbdclkjelhlfbaaGreat
