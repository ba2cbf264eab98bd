/- Parts of the proof, one behind the other: Dq4, Dr23, Sx26, Sort, Dr24, Rd1, Dq5, Dr25. Lemmas and contracts of functions; no condition of its own. -/
import Derived.Test.YtbdclkjelhlfbaaGreatM11
import Derived.Shelf.SlSortCmp.WholeK
import Derived.Shelf.SlSortCmp.NoneTotal
import Derived.Ground.SlsfProg
import Derived.Test.YtbdclkjelhlfbaaGreatProg
import Derived.Test.YtbdclkjelhlfbaaGreatRows
import Derived.WalkKit
import Derived.WalkSpells
import Derived.WalkLawsBesides
import Derived.IntWalk
import Derived.BigQuiet
import Derived.Deep.QuietTactic
import Derived.StillTailTactics
import Derived.Deep.RegionWith
import Derived.Deep.RegionHeld3
import Derived.Lib.Hide
set_option linter.unusedVariables false
set_option linter.unusedSimpArgs false
set_option maxHeartbeats 1000000
namespace Go.Proofs.YtbdclkjelhlfbaaGreat
open Go.RowKit
namespace Dir
def lvl (M : Mc) : Nat := (M.W 0 / 2).toNat
def nxt (M : Mc) (i j : Nat) : List Ent := if M.W (2 ^ (lvl M + 1) + j) = 0 then cutL (M.Hd (2 ^ lvl M + i)) (lvl M + 1) j else M.Hd (2 ^ (lvl M + 1) + j)
def partL (M : Mc) (i : Nat) : List (List Ent) := if M.W 0 % 2 = 0 ∨ M.W (2 ^ lvl M + i) < FZ then [M.Hd (2 ^ lvl M + i)] else [nxt M i i, nxt M i (i + 2 ^ lvl M)]
def allL (M : Mc) : List (List Ent) := (List.range (2 ^ lvl M)).flatMap (partL M)
def allE (M : Mc) : List Ent := (List.range (2 ^ lvl M)).flatMap fun i => (partL M i).flatten
theorem allE_eq (M : Mc) : (allL M).flatten = allE M := by
  unfold allL allE
  rw [List.flatMap_def, List.flatMap_def, List.flatten_flatten, List.map_map]; rfl
theorem mod_up {lv : Nat} {s : Int} {j : Nat} (h : s % 2 ^ (lv + 1) = j) : s % 2 ^ lv = ((j % 2 ^ lv : Nat) : Int) := by
  have h1 := low_plc (plc_mod.2 h)
  exact plc_mod.1 h1.symm
theorem mod_of_up {lv : Nat} {s : Int} {i : Nat} (hi : i < 2 ^ lv) (h : s % 2 ^ lv = i) : s % 2 ^ (lv + 1) = i ∨ s % 2 ^ (lv + 1) = ((i + 2 ^ lv : Nat) : Int) := by
  obtain ⟨j, h1, h2⟩ := plc_sh (lv + 1) s
  have h3 := plc_mod.1 h2
  have h4 := mod_up h3
  rw [h] at h4
  have h5 : j < 2 ^ lv * 2 := by rw [← Nat.pow_succ]; exact h1
  have h6 : i = j % 2 ^ lv := by omega
  rw [h3]
  by_cases h7 : j < 2 ^ lv
  · rw [Nat.mod_eq_of_lt h7] at h6; left; omega
  · have h8 : j % 2 ^ lv = j - 2 ^ lv := by rw [Nat.mod_eq_sub_mod (by omega), Nat.mod_eq_of_lt (by omega)]
    right; omega
theorem nxt_ok {M : Mc} {B : Int} (h : Iw M.W B) (hI : Ih M) {i j : Nat} (hl : lvl M ≤ 3) (hi : i < 2 ^ lvl M) (hj : j < 2 ^ (lvl M + 1)) (hij : j % 2 ^ lvl M = i) (hf : ¬ (M.W 0 % 2 = 0 ∨ M.W (2 ^ lvl M + i) < FZ)) :
    srt (nxt M i j) ∧ (∀ e ∈ nxt M i j, sumK e.key % 2 ^ (lvl M + 1) = j) ∧ ∀ k, sumK k % 2 ^ (lvl M + 1) = j → own M k = lk (nxt M i j) k := by
  have h0 := hI (lvl M) i (by omega) hi
  have h1 := hI (lvl M + 1) j (by omega) hj
  have hp : ∀ s : Int, s % 2 ^ (lvl M + 1) = j → plc (lvl M) s = 2 ^ lvl M + i ∧ plc (lvl M + 1) s = 2 ^ (lvl M + 1) + j := fun s hs => ⟨plc_mod.2 (by rw [mod_up hs, hij]), plc_mod.2 hs⟩
  unfold nxt
  by_cases e : M.W (2 ^ (lvl M + 1) + j) = 0
  · rw [if_pos e]
    obtain ⟨c1, c2, c3⟩ := cut_ok h0.1 (lvl M + 1) j
    refine ⟨c1, c2, fun k hk => ?_⟩
    rw [c3 k hk]
    obtain ⟨p1, p2⟩ := hp _ hk
    unfold own home
    show lk (M.Hd (if M.W 0 % 2 = 0 ∨ M.W (plc (lvl M) (sumK k)) < FZ ∨ M.W (plc (lvl M + 1) (sumK k)) = 0 then plc (lvl M) (sumK k) else plc (lvl M + 1) (sumK k))) k = _
    rw [p1, p2, if_pos (.inr (.inr e))]
  · rw [if_neg e]
    refine ⟨h1.1, h1.2, fun k hk => ?_⟩
    obtain ⟨p1, p2⟩ := hp _ hk
    unfold own home
    show lk (M.Hd (if M.W 0 % 2 = 0 ∨ M.W (plc (lvl M) (sumK k)) < FZ ∨ M.W (plc (lvl M + 1) (sumK k)) = 0 then plc (lvl M) (sumK k) else plc (lvl M + 1) (sumK k))) k = _
    rw [p1, p2, if_neg (by omega)]
theorem part_ok {M : Mc} {B : Int} (h : Iw M.W B) (hI : Ih M) {i : Nat} (hi : i < 2 ^ lvl M) :
    (partL M i).flatten.Pairwise (fun a b => a.key ≠ b.key) ∧ (∀ e ∈ (partL M i).flatten, sumK e.key % 2 ^ lvl M = i) ∧ ∀ e : Ent, sumK e.key % 2 ^ lvl M = i → (e ∈ (partL M i).flatten ↔ own M e.key = some e.val) := by
  have hd := h.d
  have hlv : lvl M ≤ 4 := by unfold lvl; omega
  have h0 := hI (lvl M) i hlv hi
  have pw : ∀ {l : List Ent}, srt l → l.Pairwise (fun a b => a.key ≠ b.key) := fun s => List.Pairwise.imp (fun {a b} hab e => by rw [e, cmpS] at hab; omega) s
  unfold partL
  by_cases e : M.W 0 % 2 = 0 ∨ M.W (2 ^ lvl M + i) < FZ
  · rw [if_pos e]
    rw [show [M.Hd (2 ^ lvl M + i)].flatten = M.Hd (2 ^ lvl M + i) by simp]
    refine ⟨pw h0.1, h0.2, fun x hx => ?_⟩
    have hp : plc (lvl M) (sumK x.key) = 2 ^ lvl M + i := plc_mod.2 hx
    unfold own home
    show _ ↔ lk (M.Hd (if M.W 0 % 2 = 0 ∨ M.W (plc (lvl M) (sumK x.key)) < FZ ∨ M.W (plc (lvl M + 1) (sumK x.key)) = 0 then plc (lvl M) (sumK x.key) else plc (lvl M + 1) (sumK x.key))) x.key = _
    rw [hp, if_pos (by rcases e with e | e <;> simp [e]), lk_iff h0.1]
  · rw [if_neg e]
    have hl3 : lvl M ≤ 3 := by unfold lvl; omega
    have hpw : 2 ^ (lvl M + 1) = 2 ^ lvl M * 2 := Nat.pow_succ 2 _
    obtain ⟨a1, a2, a3⟩ := nxt_ok h hI hl3 hi (j := i) (by omega) (Nat.mod_eq_of_lt hi) e
    obtain ⟨b1, b2, b3⟩ := nxt_ok h hI hl3 hi (j := i + 2 ^ lvl M) (by omega) (by rw [Nat.add_mod_right, Nat.mod_eq_of_lt hi]) e
    rw [show [nxt M i i, nxt M i (i + 2 ^ lvl M)].flatten = nxt M i i ++ nxt M i (i + 2 ^ lvl M) by simp]
    refine ⟨?_, ?_, ?_⟩
    · rw [List.pairwise_append]
      refine ⟨pw a1, pw b1, fun x hx y hy e2 => ?_⟩
      have g1 := a2 x hx
      have g2 := b2 y hy
      rw [e2, g2] at g1
      have := pow_pos2 (lvl M)
      omega
    · intro x hx
      rcases List.mem_append.1 hx with hx | hx
      · rw [mod_up (a2 x hx), Nat.mod_eq_of_lt hi]
      · rw [mod_up (b2 x hx), Nat.add_mod_right, Nat.mod_eq_of_lt hi]
    · intro x hx
      rw [List.mem_append]
      have hpp := pow_pos2 (lvl M)
      rcases mod_of_up hi hx with g | g
      · rw [a3 _ g, lk_iff a1]
        refine ⟨fun hh => hh.resolve_right fun hh2 => ?_, .inl⟩
        have := b2 x hh2
        rw [g] at this; omega
      · rw [b3 _ g, lk_iff b1]
        refine ⟨fun hh => hh.resolve_left fun hh2 => ?_, .inr⟩
        have := a2 x hh2
        rw [g] at this; omega
theorem all_ok {M : Mc} {B : Int} (h : Iw M.W B) (hI : Ih M) : (allE M).Pairwise (fun a b => a.key ≠ b.key) ∧ ∀ e : Ent, e ∈ allE M ↔ own M e.key = some e.val := by
  unfold allE
  refine ⟨?_, fun e => ?_⟩
  · rw [List.pairwise_flatMap]
    refine ⟨fun i hi => (part_ok h hI (List.mem_range.1 hi)).1, ?_⟩
    refine List.Pairwise.imp_of_mem ?_ (List.pairwise_lt_range (n := 2 ^ lvl M))
    intro i j hi hj hij x hx y hy e
    have g1 := (part_ok h hI (List.mem_range.1 hi)).2.1 x hx
    have g2 := (part_ok h hI (List.mem_range.1 hj)).2.1 y hy
    rw [e, g2] at g1
    omega
  · rw [List.mem_flatMap]
    obtain ⟨i, h1, h2⟩ := plc_sh (lvl M) (sumK e.key)
    have h3 := plc_mod.1 h2
    rw [← (part_ok h hI h1).2.2 e h3]
    constructor
    · rintro ⟨j, hj, hm⟩
      have := (part_ok h hI (List.mem_range.1 hj)).2.1 e hm
      rw [h3] at this
      have : j = i := by omega
      subst this; exact hm
    · exact fun hm => ⟨i, List.mem_range.2 h1, hm⟩
end Dir
end Go.Proofs.YtbdclkjelhlfbaaGreat

namespace Go.Proofs.YtbdclkjelhlfbaaGreat
open Go.RowKit
set_option maxRecDepth 100000
def lstD (h : List Dir.Ent) : List D := [slOf 2 entD h]
theorem app_rowL (zs : List (List Dir.Ent)) (c : List Dir.Ent) : ∀ k, k < zs.length + 1 → catF zs.length (fun i => lstD (zs.getD i default)) (fun i => chunkD (lstD c) 1 (0 + i)) k = lstD ((zs ++ [c]).getD k default) := fun k hk => by
  simp only [catF]
  by_cases e : k < zs.length
  · rw [if_pos e, List.getD_eq_getElem?_getD, List.getD_eq_getElem?_getD, List.getElem?_append_left e]
  · rw [if_neg e]
    obtain rfl : k = zs.length := by omega
    have : (zs ++ [c]).getD zs.length default = c := by simp
    rw [Nat.sub_self, this]; rfl
theorem lane_Level {g : Nat → SV} (q5 : ∀ j, SV.Lt 5 (g j)) (M : Dir.Mc) (nl : Nat) (f : Nat → List D) (clk cnt : Int) (h0 : 0 ≤ M.W 0) (h8 : M.W 0 ≤ 8) :
    Fun TC 61 5 [lanesS] (dirH g M nl f clk cnt) 5 (.tup [.i .i64 (Dir.lvl M), .b (decide (M.W 0 % 2 = 1))]) (dirH g M nl f clk cnt) := by
  have qr : (M.W 0).tmod 2 = M.W 0 % 2 := Int.tmod_eq_emod_of_nonneg h0
  have ql : M.W 0 / 2 = (Dir.lvl M : Int) := by unfold Dir.lvl; omega
  refine Fun.mk' Tryz.func61 rfl rfl (Nat.le_of_ble_eq_true rfl) (by decide) ?_
  (repeat' (first
    | with_reducible refine Wp.seq ?_
    | with_reducible refine Wp.block ?_
    | ((with_reducible first | refine Wp.region ?_ | refine Wp.drawL TC_mixed ?_ | refine Wp.cond ?_ | refine Wp.ret ?_ | refine Wp.skip ?_ | refine Wp.exit ?_ | refine Go.mk ?_ | apply Eff1.of); conv => whnf)
    | with_reducible exact rfl
    | ((with_reducible refine Ov.ok zO ?_); conv => whnf)
    | (with_reducible refine Ov.sh1 (by with_unfolding_all exact rfl) ?_)
    | ((with_reducible refine Ov.quo (by omega) (by omega) (by omega) (fun _ _ => ?_)); conv => whnf)
    | ((with_reducible refine And.intro (show drawOK _ _ _ _ = true by kernel_rfl) ?_); conv => whnf)
    | ((with_reducible refine And.intro zC ?_); conv => whnf)
    | ((with_reducible refine And.intro ?hb ?_); (case hb => exact bytes_bd (Nat.le_of_ble_eq_true rfl) (by omega)); (conv => whnf))
    | ((refine DApp.a rfl rfl rfl rfl rfl rfl ?hb ?_); (case hb => exact zB); (conv => whnf))
    | ((refine DApp.b rfl rfl rfl rfl rfl rfl rfl rfl ?hb ?ho ?_); (case hb => exact zB); (case ho => omega); (conv => whnf))
    | ((refine DApp.c rfl rfl rfl rfl rfl ?hb ?_); (case hb => exact zB); (conv => whnf))
    | ((refine DApp.d rfl rfl rfl rfl rfl rfl ?hb ?ho ?_); (case hb => exact zB); (case ho => omega); (conv => whnf))
    | ((with_reducible refine nil_no (by omega) ?_); (conv => whnf))
    | ((with_reducible refine nil_any ?_ (fun hn0 => ?_)) <;> (conv => whnf))
    | ((refine CallStop.fn (board_Look nl M.W M.Hd f clk cnt 0 (by decide)) [1,2,3,4] rfl rfl rfl rfl rfl ?ha ?hh ?_); (case ha => exact zA); (case hh => exact zH); (conv => whnf))
    | ((refine DCall.fn (board_Look nl M.W M.Hd f clk cnt 0 (by decide)) [1,2,3,4] [1,2,3,4] rfl rfl rfl rfl rfl ?ha ?hh ?hs ?_); (case ha => exact zA); (case hh => exact zH); (case hs => exact zK); (conv => whnf)) | ((refine DCall.new (board_Look nl M.W M.Hd f clk cnt 0 (by decide)) [1,2,3,4] [1,2,3,4] rfl rfl rfl rfl rfl rfl ?ha ?hh ?hs ?_); (case ha => exact zA); (case hh => exact zH); (case hs => exact zK); (conv => whnf))
    | ((refine DCall.fn (board_Look nl M.W M.Hd f clk cnt 0 (by decide)) [1,2,3,4] [] rfl rfl rfl rfl rfl ?ha ?hh ?hs ?_); (case ha => exact zA); (case hh => exact zH); (case hs => exact zK); (conv => whnf)) | ((refine DCall.new (board_Look nl M.W M.Hd f clk cnt 0 (by decide)) [1,2,3,4] [] rfl rfl rfl rfl rfl rfl ?ha ?hh ?hs ?_); (case ha => exact zA); (case hh => exact zH); (case hs => exact zK); (conv => whnf))
    | (with_reducible refine Ov.tdivN (by omega) ?_)
    | ((refine ways (fun hc => ?_) (fun hc => ?_)) <;> (try simp only [decide_eq_true_eq, decide_eq_false_iff_not, Bool.and_eq_true, Bool.or_eq_true, Bool.and_eq_false_iff, Bool.or_eq_false_iff, Bool.not_eq_true', Bool.not_eq_false', beq_iff_eq, bne_iff_ne, ne_eq, beq_eq_false_iff_ne, bne_eq_false_iff_eq, Bool.not_eq_true, Bool.not_eq_false, qr] at hc) <;> (try (exfalso; omega)) <;> (conv => whnf))))
  rw [qr, ql]
  (refine FinLe.sealB [0,1,2,3,4] rfl rfl rfl ?_ ?_); (focus ((conv => whnf); (repeat' (first | exact zE | ((refine Seal.ptr rfl rfl ?_); (conv => whnf)) | ((refine Seal.fn ?_); (conv => whnf)) | ((refine Seal.agg ?_); (conv => whnf)) | ((refine Seal.tup ?_); (conv => whnf)) | ((refine Seal.iref ?_); (conv => whnf)) | ((refine And.intro ?_ ?_) <;> (conv => whnf)))))); (focus ((conv => whnf); (repeat' (first | exact zE | ((refine Seal.ptr rfl rfl ?_); (conv => whnf)) | ((refine Seal.fn ?_); (conv => whnf)) | ((refine Seal.agg ?_); (conv => whnf)) | ((refine Seal.tup ?_); (conv => whnf)) | ((refine Seal.iref ?_); (conv => whnf)) | ((refine And.intro ?_ ?_) <;> (conv => whnf))))))
theorem lanes_arg {L : List Nat} : ArgLe (0 :: 1 :: 2 :: 3 :: 4 :: L) lanesS lanesS := .same (m := 5) (.of rfl) (by simp) fun i hi => id5 hi
theorem parts_succ (M : Dir.Mc) (i : Nat) : (List.range (i + 1)).flatMap (Dir.partL M) = (List.range i).flatMap (Dir.partL M) ++ Dir.partL M i := by
  rw [List.range_succ, List.flatMap_append]; simp
theorem parts_len (M : Dir.Mc) : ∀ i, ((List.range i).flatMap (Dir.partL M)).length ≤ 2 * i
  | 0 => by simp
  | i + 1 => by
    rw [parts_succ, List.length_append]
    have := parts_len M i
    have : (Dir.partL M i).length ≤ 2 := by unfold Dir.partL; split <;> simp
    omega
theorem lane_All0 {g : Nat → SV} (q5 : ∀ j, SV.Lt 5 (g j)) (M : Dir.Mc) (nl : Nat) (f : Nat → List D) (clk cnt : Int) (h0 : 0 ≤ M.W 0) (h8 : M.W 0 ≤ 8) (he : M.W 0 % 2 = 0) :
    Fun TC 63 5 [lanesS] (dirH g M nl f clk cnt) 5 (.d (slOf 1 lstD (Dir.allL M))) (dirH g M nl f clk cnt) := by
  have hL := lane_Level q5 M nl f clk cnt h0 h8
  rw [decide_eq_false (by omega)] at hL
  have hlv : Dir.lvl M ≤ 4 := by unfold Dir.lvl; omega
  have hp4 : 2 ^ Dir.lvl M ≤ 2 ^ 4 := Nat.pow_le_pow_right (by omega) hlv
  have hsh := shl_lv hlv
  have e2 : ((2 ^ Dir.lvl M : Nat) : Int) = 2 ^ Dir.lvl M := by simp
  refine Fun.mk' Tryz.func63 rfl rfl (Nat.le_of_ble_eq_true rfl) (by decide) ?_
  (repeat' (first
    | with_reducible refine Wp.seq ?_
    | with_reducible refine Wp.block ?_
    | ((with_reducible first | refine Wp.region ?_ | refine Wp.drawL TC_mixed ?_ | refine Wp.cond ?_ | refine Wp.ret ?_ | refine Wp.skip ?_ | refine Wp.exit ?_ | refine Go.mk ?_ | apply Eff1.of); conv => whnf)
    | with_reducible exact rfl
    | ((with_reducible refine Ov.ok zO ?_); conv => whnf)
    | (with_reducible refine Ov.sh1 (by with_unfolding_all exact rfl) ?_)
    | ((with_reducible refine Ov.quo (by omega) (by omega) (by omega) (fun _ _ => ?_)); conv => whnf)
    | ((with_reducible refine And.intro (show drawOK _ _ _ _ = true by kernel_rfl) ?_); conv => whnf)
    | ((with_reducible refine And.intro zC ?_); conv => whnf)
    | ((with_reducible refine And.intro ?hb ?_); (case hb => exact bytes_bd (Nat.le_of_ble_eq_true rfl) (by omega)); (conv => whnf))
    | ((refine DApp.a rfl rfl rfl rfl rfl rfl ?hb ?_); (case hb => exact zB); (conv => whnf))
    | ((refine DApp.b rfl rfl rfl rfl rfl rfl rfl rfl ?hb ?ho ?_); (case hb => exact zB); (case ho => omega); (conv => whnf))
    | ((refine DApp.c rfl rfl rfl rfl rfl ?hb ?_); (case hb => exact zB); (conv => whnf))
    | ((refine DApp.d rfl rfl rfl rfl rfl rfl ?hb ?ho ?_); (case hb => exact zB); (case ho => omega); (conv => whnf))
    | ((with_reducible refine nil_no (by omega) ?_); (conv => whnf))
    | ((with_reducible refine nil_any ?_ (fun hn0 => ?_)) <;> (conv => whnf))
    | ((refine CallStop.fn (hL) [0,1,2,3,4] rfl rfl rfl rfl rfl ?ha ?hh ?_); (case ha => exact zA); (case hh => exact zD); (conv => whnf))
    | ((refine DCall.fn (hL) [0,1,2,3,4] [0,1,2,3,4] rfl rfl rfl rfl rfl ?ha ?hh ?hs ?_); (case ha => exact zA); (case hh => exact zD); (case hs => exact zK); (conv => whnf)) | ((refine DCall.new (hL) [0,1,2,3,4] [0,1,2,3,4] rfl rfl rfl rfl rfl rfl ?ha ?hh ?hs ?_); (case ha => exact zA); (case hh => exact zD); (case hs => exact zK); (conv => whnf))
    | ((refine DCall.fn (hL) [0,1,2,3,4] [] rfl rfl rfl rfl rfl ?ha ?hh ?hs ?_); (case ha => exact zA); (case hh => exact zD); (case hs => exact zK); (conv => whnf)) | ((refine DCall.new (hL) [0,1,2,3,4] [] rfl rfl rfl rfl rfl rfl ?ha ?hh ?hs ?_); (case ha => exact zA); (case hh => exact zD); (case hs => exact zK); (conv => whnf))
    | ((with_reducible refine Ov.mk ?_); (rw [hsh]); conv => whnf)
    | ((refine ways (fun hc => ?_) (fun hc => ?_)) <;> (try simp only [decide_eq_true_eq, decide_eq_false_iff_not, Bool.and_eq_true, Bool.or_eq_true, Bool.and_eq_false_iff, Bool.or_eq_false_iff, Bool.not_eq_true', Bool.not_eq_false', beq_iff_eq, bne_iff_ne, ne_eq, beq_eq_false_iff_ne, bne_eq_false_iff_eq, Bool.not_eq_true, Bool.not_eq_false] at hc) <;> (try (exfalso; omega)) <;> (conv => whnf))))
  refine Wp.le (Le.virt 3 80 1 (fun i => lstD (([] : List (List Dir.Ent)).getD i default)) (by decide) rfl) ?_
  refine Wp.loopP (ι := Nat) (fun i => i ≤ 2 ^ Dir.lvl M) (fun i => ⟨⟨Tryz.f63.ntmps, 5⟩, 6, [(0, lanesS), (3, .sl 5 1 0 ((List.range i).flatMap (Dir.partL M)).length), (4, .i .i64 (Dir.lvl M)), (5, .b false), (19, .i .i64 (2 ^ Dir.lvl M)), (20, .i .i64 i)],
    dirH g M nl f clk cnt ++ [(5, some (rowOf 80 1 lstD ((List.range i).flatMap (Dir.partL M))))]⟩) (fun i => 2 ^ Dir.lvl M - i) 0 (Nat.zero_le _) ?_ ?_
  · (refine Le.by [0,1,2,3,4,5] rfl rfl rfl rfl ?_ ?_ <;> (conv => whnf) <;> (repeat' (first | exact trivial | exact ArgLe.rfl rfl | exact ArgLe.ptr rfl | exact lanes_arg | exact ArgLe.sl rfl | exact dir_arg (by assumption) | exact dir_argR (by assumption) (fun l hl => by rcases l with _ | _ | _ | _ | _ | l <;> first | rfl | omega) | exact ⟨rfl, rfl, rfl⟩ | exact ⟨rfl, Nat.le_of_ble_eq_true rfl⟩ | exact fun i hi => rfl | ((with_reducible refine And.intro ?_ ?_) <;> (conv => whnf)))))
    rw [hsh]; exact ArgLe.rfl rfl
  · rintro i h1
    have hpl := Dir.plc_32 hlv (i : Int)
    have hfl := parts_len M i
    (repeat' (first
    | with_reducible refine Wp.seq ?_
    | with_reducible refine Wp.block ?_
    | ((with_reducible first | refine Wp.region ?_ | refine Wp.drawL TC_mixed ?_ | refine Wp.cond ?_ | refine Wp.ret ?_ | refine Wp.skip ?_ | refine Wp.exit ?_ | refine Go.mk ?_ | apply Eff1.of); conv => whnf)
    | with_reducible exact rfl
    | ((with_reducible refine Ov.ok zO ?_); conv => whnf)
    | (with_reducible refine Ov.sh1 (by with_unfolding_all exact rfl) ?_)
    | ((with_reducible refine Ov.quo (by omega) (by omega) (by omega) (fun _ _ => ?_)); conv => whnf)
    | ((with_reducible refine And.intro (show drawOK _ _ _ _ = true by kernel_rfl) ?_); conv => whnf)
    | ((with_reducible refine And.intro zC ?_); conv => whnf)
    | ((with_reducible refine And.intro ?hb ?_); (case hb => exact bytes_bd (Nat.le_of_ble_eq_true rfl) (by omega)); (conv => whnf))
    | ((refine DApp.a rfl rfl rfl rfl rfl rfl ?hb ?_); (case hb => exact zB); (conv => whnf))
    | ((refine DApp.b rfl rfl rfl rfl rfl rfl rfl rfl ?hb ?ho ?_); (case hb => exact zB); (case ho => omega); (conv => whnf))
    | ((refine DApp.c rfl rfl rfl rfl rfl ?hb ?_); (case hb => exact zB); (conv => whnf))
    | ((refine DApp.d rfl rfl rfl rfl rfl rfl ?hb ?ho ?_); (case hb => exact zB); (case ho => omega); (conv => whnf))
    | ((with_reducible refine nil_no (by omega) ?_); (conv => whnf))
    | ((with_reducible refine nil_any ?_ (fun hn0 => ?_)) <;> (conv => whnf))
    | ((with_reducible refine CallStop.pure (lane_place _ hlv _) rfl rfl ?_); conv => whnf) | ((with_reducible refine DCall.pure (lane_place _ hlv _) rfl rfl ?_); conv => whnf)
    | ((refine CallStop.fn (board_Look nl M.W M.Hd f clk cnt (Dir.plc (Dir.lvl M) (i : Int)) hpl.2) [1,2,3,4] rfl rfl rfl rfl rfl ?ha ?hh ?_); (case ha => exact zA); (case hh => exact zH); (conv => whnf))
    | ((refine DCall.fn (board_Look nl M.W M.Hd f clk cnt (Dir.plc (Dir.lvl M) (i : Int)) hpl.2) [1,2,3,4] [1,2,3,4] rfl rfl rfl rfl rfl ?ha ?hh ?hs ?_); (case ha => exact zA); (case hh => exact zH); (case hs => exact zK); (conv => whnf)) | ((refine DCall.new (board_Look nl M.W M.Hd f clk cnt (Dir.plc (Dir.lvl M) (i : Int)) hpl.2) [1,2,3,4] [1,2,3,4] rfl rfl rfl rfl rfl rfl ?ha ?hh ?hs ?_); (case ha => exact zA); (case hh => exact zH); (case hs => exact zK); (conv => whnf))
    | ((refine DCall.fn (board_Look nl M.W M.Hd f clk cnt (Dir.plc (Dir.lvl M) (i : Int)) hpl.2) [1,2,3,4] [] rfl rfl rfl rfl rfl ?ha ?hh ?hs ?_); (case ha => exact zA); (case hh => exact zH); (case hs => exact zK); (conv => whnf)) | ((refine DCall.new (board_Look nl M.W M.Hd f clk cnt (Dir.plc (Dir.lvl M) (i : Int)) hpl.2) [1,2,3,4] [] rfl rfl rfl rfl rfl rfl ?ha ?hh ?hs ?_); (case ha => exact zA); (case hh => exact zH); (case hs => exact zK); (conv => whnf))
    | ((refine ways (fun hc => ?_) (fun hc => ?_)) <;> (try simp only [decide_eq_true_eq, decide_eq_false_iff_not, Bool.and_eq_true, Bool.or_eq_true, Bool.and_eq_false_iff, Bool.or_eq_false_iff, Bool.not_eq_true', Bool.not_eq_false', beq_iff_eq, bne_iff_ne, ne_eq, beq_eq_false_iff_ne, bne_eq_false_iff_eq, Bool.not_eq_true, Bool.not_eq_false] at hc) <;> (try (exfalso; omega)) <;> (conv => whnf))))
    · have hi : i < 2 ^ Dir.lvl M := by omega
      have hw : Dir.plc (Dir.lvl M) (i : Int) = 2 ^ Dir.lvl M + i := by rw [plc_small (by omega) (by omega)]; rfl
      have hpt : Dir.partL M i = [M.Hd (Dir.plc (Dir.lvl M) (i : Int))] := by unfold Dir.partL; rw [if_pos (.inl he), hw]
      refine ⟨i + 1, by dsimp only; omega, by dsimp only; omega, ?_⟩
      dsimp only
      rw [parts_succ, hpt]
      (refine Le.by [0,1,2,3,4,21] rfl rfl rfl rfl ?_ ?_ <;> (conv => whnf) <;> (repeat' (first | exact trivial | exact ArgLe.rfl rfl | exact ArgLe.ptr rfl | exact lanes_arg | exact ArgLe.sl rfl | exact dir_arg (by assumption) | exact dir_argR (by assumption) (fun l hl => by rcases l with _ | _ | _ | _ | _ | l <;> first | rfl | omega) | exact ⟨rfl, rfl, rfl⟩ | exact ⟨rfl, Nat.le_of_ble_eq_true rfl⟩ | exact fun i hi => rfl | ((with_reducible refine And.intro ?_ ?_) <;> (conv => whnf)))))
      · rw [List.length_append]; exact ArgLe.sl rfl
      · rfl
      · simp
      · exact app_rowL _ _
    · obtain rfl : i = 2 ^ Dir.lvl M := by omega
      rw [show Dir.allL M = (List.range (2 ^ Dir.lvl M)).flatMap (Dir.partL M) from rfl]
      (refine FinLe.sealB [0,1,2,3,4] rfl rfl rfl ?_ ?_); (focus ((conv => whnf); (repeat' (first | exact zE | ((refine Seal.ptr rfl rfl ?_); (conv => whnf)) | ((refine Seal.fn ?_); (conv => whnf)) | ((refine Seal.agg ?_); (conv => whnf)) | ((refine Seal.tup ?_); (conv => whnf)) | ((refine Seal.iref ?_); (conv => whnf)) | ((refine And.intro ?_ ?_) <;> (conv => whnf)))))); (focus ((conv => whnf); (repeat' (first | exact zE | ((refine Seal.ptr rfl rfl ?_); (conv => whnf)) | ((refine Seal.fn ?_); (conv => whnf)) | ((refine Seal.agg ?_); (conv => whnf)) | ((refine Seal.tup ?_); (conv => whnf)) | ((refine Seal.iref ?_); (conv => whnf)) | ((refine And.intro ?_ ?_) <;> (conv => whnf))))))
theorem app_rowL2 (zs : List (List Dir.Ent)) (a b : List Dir.Ent) : ∀ k, k < zs.length + 1 + 1 → catF (zs.length + 1) (catF zs.length (fun i => lstD (zs.getD i default)) (fun i => chunkD (lstD a) 1 (0 + i))) (fun i => chunkD (lstD b) 1 (0 + i)) k = lstD ((zs ++ [a, b]).getD k default) := fun k hk => by
  by_cases e : k < zs.length + 1
  · rw [catF, if_pos e, app_rowL _ _ _ e]
    congr 1
    rw [show zs ++ [a, b] = (zs ++ [a]) ++ [b] by simp, List.getD_eq_getElem?_getD, List.getD_eq_getElem?_getD, List.getElem?_append_left (l₁ := zs ++ [a]) (by simpa using e)]
  · rw [catF, if_neg e]
    obtain rfl : k = zs.length + 1 := by omega
    have : (zs ++ [a, b]).getD (zs.length + 1) default = b := by simp [List.getD]
    rw [Nat.sub_self, this]; rfl
set_option maxHeartbeats 1600000 in
theorem lane_All1 {g : Nat → SV} (q5 : ∀ j, SV.Lt 5 (g j)) (M : Dir.Mc) (nl : Nat) (f : Nat → List D) (clk cnt : Int) (h0 : 0 ≤ M.W 0) (h8 : M.W 0 ≤ 8) (hH : ∀ w, (M.Hd w).length ≤ 16777216) (he : M.W 0 % 2 = 1) :
    Fun TC 63 5 [lanesS] (dirH g M nl f clk cnt) 5 (.d (slOf 1 lstD (Dir.allL M))) (dirH g M nl f clk cnt) := by
  have hL := lane_Level q5 M nl f clk cnt h0 h8
  rw [decide_eq_true he] at hL
  have hlv : Dir.lvl M ≤ 3 := by unfold Dir.lvl; omega
  have hp4 : 2 ^ Dir.lvl M ≤ 2 ^ 3 := Nat.pow_le_pow_right (by omega) hlv
  have hsh := shl_lv (lv := Dir.lvl M) (by omega)
  have e2 : ((2 ^ Dir.lvl M : Nat) : Int) = 2 ^ Dir.lvl M := by simp
  refine Fun.mk' Tryz.func63 rfl rfl (Nat.le_of_ble_eq_true rfl) (by decide) ?_
  (repeat' (first
    | with_reducible refine Wp.seq ?_
    | with_reducible refine Wp.block ?_
    | ((with_reducible first | refine Wp.region ?_ | refine Wp.drawL TC_mixed ?_ | refine Wp.cond ?_ | refine Wp.ret ?_ | refine Wp.skip ?_ | refine Wp.exit ?_ | refine Go.mk ?_ | apply Eff1.of); conv => whnf)
    | with_reducible exact rfl
    | ((with_reducible refine Ov.ok zO ?_); conv => whnf)
    | (with_reducible refine Ov.sh1 (by with_unfolding_all exact rfl) ?_)
    | ((with_reducible refine Ov.quo (by omega) (by omega) (by omega) (fun _ _ => ?_)); conv => whnf)
    | ((with_reducible refine And.intro (show drawOK _ _ _ _ = true by kernel_rfl) ?_); conv => whnf)
    | ((with_reducible refine And.intro zC ?_); conv => whnf)
    | ((with_reducible refine And.intro ?hb ?_); (case hb => exact bytes_bd (Nat.le_of_ble_eq_true rfl) (by omega)); (conv => whnf))
    | ((refine DApp.a rfl rfl rfl rfl rfl rfl ?hb ?_); (case hb => exact zB); (conv => whnf))
    | ((refine DApp.b rfl rfl rfl rfl rfl rfl rfl rfl ?hb ?ho ?_); (case hb => exact zB); (case ho => omega); (conv => whnf))
    | ((refine DApp.c rfl rfl rfl rfl rfl ?hb ?_); (case hb => exact zB); (conv => whnf))
    | ((refine DApp.d rfl rfl rfl rfl rfl rfl ?hb ?ho ?_); (case hb => exact zB); (case ho => omega); (conv => whnf))
    | ((with_reducible refine nil_no (by omega) ?_); (conv => whnf))
    | ((with_reducible refine nil_any ?_ (fun hn0 => ?_)) <;> (conv => whnf))
    | ((refine CallStop.fn (hL) [0,1,2,3,4] rfl rfl rfl rfl rfl ?ha ?hh ?_); (case ha => exact zA); (case hh => exact zD); (conv => whnf))
    | ((refine DCall.fn (hL) [0,1,2,3,4] [0,1,2,3,4] rfl rfl rfl rfl rfl ?ha ?hh ?hs ?_); (case ha => exact zA); (case hh => exact zD); (case hs => exact zK); (conv => whnf)) | ((refine DCall.new (hL) [0,1,2,3,4] [0,1,2,3,4] rfl rfl rfl rfl rfl rfl ?ha ?hh ?hs ?_); (case ha => exact zA); (case hh => exact zD); (case hs => exact zK); (conv => whnf))
    | ((refine DCall.fn (hL) [0,1,2,3,4] [] rfl rfl rfl rfl rfl ?ha ?hh ?hs ?_); (case ha => exact zA); (case hh => exact zD); (case hs => exact zK); (conv => whnf)) | ((refine DCall.new (hL) [0,1,2,3,4] [] rfl rfl rfl rfl rfl rfl ?ha ?hh ?hs ?_); (case ha => exact zA); (case hh => exact zD); (case hs => exact zK); (conv => whnf))
    | ((with_reducible refine Ov.mk ?_); (rw [hsh]); conv => whnf)
    | ((refine ways (fun hc => ?_) (fun hc => ?_)) <;> (try simp only [decide_eq_true_eq, decide_eq_false_iff_not, Bool.and_eq_true, Bool.or_eq_true, Bool.and_eq_false_iff, Bool.or_eq_false_iff, Bool.not_eq_true', Bool.not_eq_false', beq_iff_eq, bne_iff_ne, ne_eq, beq_eq_false_iff_ne, bne_eq_false_iff_eq, Bool.not_eq_true, Bool.not_eq_false] at hc) <;> (try (exfalso; omega)) <;> (conv => whnf))))
  refine Wp.le (Le.virt 3 80 1 (fun i => lstD (([] : List (List Dir.Ent)).getD i default)) (by decide) rfl) ?_
  refine Wp.loopP (ι := Nat) (fun i => i ≤ 2 ^ Dir.lvl M) (fun i => ⟨⟨Tryz.f63.ntmps, 5⟩, 6, [(0, lanesS), (3, .sl 5 1 0 ((List.range i).flatMap (Dir.partL M)).length), (4, .i .i64 (Dir.lvl M)), (5, .b true), (19, .i .i64 (2 ^ Dir.lvl M)), (20, .i .i64 i)],
    dirH g M nl f clk cnt ++ [(5, some (rowOf 80 1 lstD ((List.range i).flatMap (Dir.partL M))))]⟩) (fun i => 2 ^ Dir.lvl M - i) 0 (Nat.zero_le _) ?_ ?_
  · (refine Le.by [0,1,2,3,4,5] rfl rfl rfl rfl ?_ ?_ <;> (conv => whnf) <;> (repeat' (first | exact trivial | exact ArgLe.rfl rfl | exact ArgLe.ptr rfl | exact lanes_arg | exact ArgLe.sl rfl | exact dir_arg (by assumption) | exact dir_argR (by assumption) (fun l hl => by rcases l with _ | _ | _ | _ | _ | l <;> first | rfl | omega) | exact ⟨rfl, rfl, rfl⟩ | exact ⟨rfl, Nat.le_of_ble_eq_true rfl⟩ | exact fun i hi => rfl | ((with_reducible refine And.intro ?_ ?_) <;> (conv => whnf)))))
    rw [hsh]; exact ArgLe.rfl rfl
  · rintro i h1
    have hpl := Dir.plc_32 (by omega : Dir.lvl M ≤ 4) (i : Int)
    have hq1 := Dir.plc_32 (by omega : Dir.lvl M + 1 ≤ 4) (i : Int)
    have hq2 := Dir.plc_32 (by omega : Dir.lvl M + 1 ≤ 4) ((i : Int) + IntKind.i64.wrap (1 * 2 ^ min ((Dir.lvl M : Nat) : Int).toNat IntKind.i64.bits))
    have hfl := parts_len M i
    have hHp := hH (Dir.plc (Dir.lvl M) (i : Int))
    have hcut : Pure TC 46 [.d (slOf 2 entD (M.Hd (Dir.plc (Dir.lvl M) (i : Int)))), .i .i64 ((Dir.lvl M : Int) + 1), .i .i64 (i : Int)] (.d (slOf 2 entD (cutL (M.Hd (Dir.plc (Dir.lvl M) (i : Int))) (Dir.lvl M + 1) i))) := dir_cut _ (Dir.lvl M + 1) i (by omega) hHp
    have hcut2 : Pure TC 46 [.d (slOf 2 entD (M.Hd (Dir.plc (Dir.lvl M) (i : Int)))), .i .i64 ((Dir.lvl M : Int) + 1), .i .i64 ((i : Int) + IntKind.i64.wrap (1 * 2 ^ min ((Dir.lvl M : Nat) : Int).toNat IntKind.i64.bits))] (.d (slOf 2 entD (cutL (M.Hd (Dir.plc (Dir.lvl M) (i : Int))) (Dir.lvl M + 1) (i + 2 ^ Dir.lvl M)))) := by
      have := dir_cut (M.Hd (Dir.plc (Dir.lvl M) (i : Int))) (Dir.lvl M + 1) (i + 2 ^ Dir.lvl M) (by omega) hHp
      rw [hsh]
      rwa [show (((i + 2 ^ Dir.lvl M : Nat) : Nat) : Int) = (i : Int) + 2 ^ Dir.lvl M by rw [Int.natCast_add, e2]] at this
    (repeat' (first
    | with_reducible refine Wp.seq ?_
    | with_reducible refine Wp.block ?_
    | ((with_reducible first | refine Wp.region ?_ | refine Wp.drawL TC_mixed ?_ | refine Wp.cond ?_ | refine Wp.ret ?_ | refine Wp.skip ?_ | refine Wp.exit ?_ | refine Go.mk ?_ | apply Eff1.of); conv => whnf)
    | with_reducible exact rfl
    | ((with_reducible refine Ov.ok zO ?_); conv => whnf)
    | (with_reducible refine Ov.sh1 (by with_unfolding_all exact rfl) ?_)
    | ((with_reducible refine Ov.quo (by omega) (by omega) (by omega) (fun _ _ => ?_)); conv => whnf)
    | ((with_reducible refine And.intro (show drawOK _ _ _ _ = true by kernel_rfl) ?_); conv => whnf)
    | ((with_reducible refine And.intro zC ?_); conv => whnf)
    | ((with_reducible refine And.intro ?hb ?_); (case hb => exact bytes_bd (Nat.le_of_ble_eq_true rfl) (by omega)); (conv => whnf))
    | ((refine DApp.a rfl rfl rfl rfl rfl rfl ?hb ?_); (case hb => exact zB); (conv => whnf))
    | ((refine DApp.b rfl rfl rfl rfl rfl rfl rfl rfl ?hb ?ho ?_); (case hb => exact zB); (case ho => omega); (conv => whnf))
    | ((refine DApp.c rfl rfl rfl rfl rfl ?hb ?_); (case hb => exact zB); (conv => whnf))
    | ((refine DApp.d rfl rfl rfl rfl rfl rfl ?hb ?ho ?_); (case hb => exact zB); (case ho => omega); (conv => whnf))
    | ((with_reducible refine nil_no (by omega) ?_); (conv => whnf))
    | ((with_reducible refine nil_any ?_ (fun hn0 => ?_)) <;> (conv => whnf))
    | ((with_reducible refine CallStop.pure (lane_place _ (by omega : Dir.lvl M ≤ 4) _) rfl rfl ?_); conv => whnf) | ((with_reducible refine DCall.pure (lane_place _ (by omega : Dir.lvl M ≤ 4) _) rfl rfl ?_); conv => whnf)
    | ((with_reducible refine CallStop.pure (lane_place1 _ hlv _) rfl rfl ?_); conv => whnf) | ((with_reducible refine DCall.pure (lane_place1 _ hlv _) rfl rfl ?_); conv => whnf)
    | ((with_reducible refine CallStop.pure (hcut) rfl rfl ?_); conv => whnf) | ((with_reducible refine DCall.pure (hcut) rfl rfl ?_); conv => whnf)
    | ((with_reducible refine CallStop.pure (hcut2) rfl rfl ?_); conv => whnf) | ((with_reducible refine DCall.pure (hcut2) rfl rfl ?_); conv => whnf)
    | ((refine CallStop.fn (board_Look nl M.W M.Hd f clk cnt (Dir.plc (Dir.lvl M) (i : Int)) hpl.2) [1,2,3,4] rfl rfl rfl rfl rfl ?ha ?hh ?_); (case ha => exact zA); (case hh => exact zH); (conv => whnf))
    | ((refine DCall.fn (board_Look nl M.W M.Hd f clk cnt (Dir.plc (Dir.lvl M) (i : Int)) hpl.2) [1,2,3,4] [1,2,3,4] rfl rfl rfl rfl rfl ?ha ?hh ?hs ?_); (case ha => exact zA); (case hh => exact zH); (case hs => exact zK); (conv => whnf)) | ((refine DCall.new (board_Look nl M.W M.Hd f clk cnt (Dir.plc (Dir.lvl M) (i : Int)) hpl.2) [1,2,3,4] [1,2,3,4] rfl rfl rfl rfl rfl rfl ?ha ?hh ?hs ?_); (case ha => exact zA); (case hh => exact zH); (case hs => exact zK); (conv => whnf))
    | ((refine DCall.fn (board_Look nl M.W M.Hd f clk cnt (Dir.plc (Dir.lvl M) (i : Int)) hpl.2) [1,2,3,4] [] rfl rfl rfl rfl rfl ?ha ?hh ?hs ?_); (case ha => exact zA); (case hh => exact zH); (case hs => exact zK); (conv => whnf)) | ((refine DCall.new (board_Look nl M.W M.Hd f clk cnt (Dir.plc (Dir.lvl M) (i : Int)) hpl.2) [1,2,3,4] [] rfl rfl rfl rfl rfl rfl ?ha ?hh ?hs ?_); (case ha => exact zA); (case hh => exact zH); (case hs => exact zK); (conv => whnf))
    | ((refine CallStop.fn (board_Look nl M.W M.Hd f clk cnt (Dir.plc (Dir.lvl M + 1) (i : Int)) hq1.2) [1,2,3,4] rfl rfl rfl rfl rfl ?ha ?hh ?_); (case ha => exact zA); (case hh => exact zH); (conv => whnf))
    | ((refine DCall.fn (board_Look nl M.W M.Hd f clk cnt (Dir.plc (Dir.lvl M + 1) (i : Int)) hq1.2) [1,2,3,4] [1,2,3,4] rfl rfl rfl rfl rfl ?ha ?hh ?hs ?_); (case ha => exact zA); (case hh => exact zH); (case hs => exact zK); (conv => whnf)) | ((refine DCall.new (board_Look nl M.W M.Hd f clk cnt (Dir.plc (Dir.lvl M + 1) (i : Int)) hq1.2) [1,2,3,4] [1,2,3,4] rfl rfl rfl rfl rfl rfl ?ha ?hh ?hs ?_); (case ha => exact zA); (case hh => exact zH); (case hs => exact zK); (conv => whnf))
    | ((refine DCall.fn (board_Look nl M.W M.Hd f clk cnt (Dir.plc (Dir.lvl M + 1) (i : Int)) hq1.2) [1,2,3,4] [] rfl rfl rfl rfl rfl ?ha ?hh ?hs ?_); (case ha => exact zA); (case hh => exact zH); (case hs => exact zK); (conv => whnf)) | ((refine DCall.new (board_Look nl M.W M.Hd f clk cnt (Dir.plc (Dir.lvl M + 1) (i : Int)) hq1.2) [1,2,3,4] [] rfl rfl rfl rfl rfl rfl ?ha ?hh ?hs ?_); (case ha => exact zA); (case hh => exact zH); (case hs => exact zK); (conv => whnf))
    | ((refine CallStop.fn (board_Look nl M.W M.Hd f clk cnt (Dir.plc (Dir.lvl M + 1) ((i : Int) + IntKind.i64.wrap (1 * 2 ^ min ((Dir.lvl M : Nat) : Int).toNat IntKind.i64.bits))) hq2.2) [1,2,3,4] rfl rfl rfl rfl rfl ?ha ?hh ?_); (case ha => exact zA); (case hh => exact zH); (conv => whnf))
    | ((refine DCall.fn (board_Look nl M.W M.Hd f clk cnt (Dir.plc (Dir.lvl M + 1) ((i : Int) + IntKind.i64.wrap (1 * 2 ^ min ((Dir.lvl M : Nat) : Int).toNat IntKind.i64.bits))) hq2.2) [1,2,3,4] [1,2,3,4] rfl rfl rfl rfl rfl ?ha ?hh ?hs ?_); (case ha => exact zA); (case hh => exact zH); (case hs => exact zK); (conv => whnf)) | ((refine DCall.new (board_Look nl M.W M.Hd f clk cnt (Dir.plc (Dir.lvl M + 1) ((i : Int) + IntKind.i64.wrap (1 * 2 ^ min ((Dir.lvl M : Nat) : Int).toNat IntKind.i64.bits))) hq2.2) [1,2,3,4] [1,2,3,4] rfl rfl rfl rfl rfl rfl ?ha ?hh ?hs ?_); (case ha => exact zA); (case hh => exact zH); (case hs => exact zK); (conv => whnf))
    | ((refine DCall.fn (board_Look nl M.W M.Hd f clk cnt (Dir.plc (Dir.lvl M + 1) ((i : Int) + IntKind.i64.wrap (1 * 2 ^ min ((Dir.lvl M : Nat) : Int).toNat IntKind.i64.bits))) hq2.2) [1,2,3,4] [] rfl rfl rfl rfl rfl ?ha ?hh ?hs ?_); (case ha => exact zA); (case hh => exact zH); (case hs => exact zK); (conv => whnf)) | ((refine DCall.new (board_Look nl M.W M.Hd f clk cnt (Dir.plc (Dir.lvl M + 1) ((i : Int) + IntKind.i64.wrap (1 * 2 ^ min ((Dir.lvl M : Nat) : Int).toNat IntKind.i64.bits))) hq2.2) [1,2,3,4] [] rfl rfl rfl rfl rfl rfl ?ha ?hh ?hs ?_); (case ha => exact zA); (case hh => exact zH); (case hs => exact zK); (conv => whnf))
    | ((with_reducible refine Wp.loopN 4 ?_); conv => whnf)
    | ((refine ways (fun hc => ?_) (fun hc => ?_)) <;> (try simp only [decide_eq_true_eq, decide_eq_false_iff_not, Bool.and_eq_true, Bool.or_eq_true, Bool.and_eq_false_iff, Bool.or_eq_false_iff, Bool.not_eq_true', Bool.not_eq_false', beq_iff_eq, bne_iff_ne, ne_eq, beq_eq_false_iff_ne, bne_eq_false_iff_eq, Bool.not_eq_true, Bool.not_eq_false] at hc) <;> (try (exfalso; omega)) <;> (conv => whnf))))
    rotate_right
    · obtain rfl : i = 2 ^ Dir.lvl M := by omega
      rw [show Dir.allL M = (List.range (2 ^ Dir.lvl M)).flatMap (Dir.partL M) from rfl]
      (refine FinLe.sealB [0,1,2,3,4] rfl rfl rfl ?_ ?_); (focus ((conv => whnf); (repeat' (first | exact zE | ((refine Seal.ptr rfl rfl ?_); (conv => whnf)) | ((refine Seal.fn ?_); (conv => whnf)) | ((refine Seal.agg ?_); (conv => whnf)) | ((refine Seal.tup ?_); (conv => whnf)) | ((refine Seal.iref ?_); (conv => whnf)) | ((refine And.intro ?_ ?_) <;> (conv => whnf)))))); (focus ((conv => whnf); (repeat' (first | exact zE | ((refine Seal.ptr rfl rfl ?_); (conv => whnf)) | ((refine Seal.fn ?_); (conv => whnf)) | ((refine Seal.agg ?_); (conv => whnf)) | ((refine Seal.tup ?_); (conv => whnf)) | ((refine Seal.iref ?_); (conv => whnf)) | ((refine And.intro ?_ ?_) <;> (conv => whnf))))))
    all_goals
      have hi : i < 2 ^ Dir.lvl M := by omega
      have hpp : 2 ^ (Dir.lvl M + 1) = 2 ^ Dir.lvl M * 2 := Nat.pow_succ 2 _
      have hpi : (2 : Int) ^ (Dir.lvl M + 1) = 2 ^ Dir.lvl M * 2 := Int.pow_succ 2 _
      have hw : Dir.plc (Dir.lvl M) (i : Int) = 2 ^ Dir.lvl M + i := by rw [plc_small (by omega) (by omega)]; rfl
      have hw1 : Dir.plc (Dir.lvl M + 1) (i : Int) = 2 ^ (Dir.lvl M + 1) + i := by rw [plc_small (by omega) (by omega)]; rfl
      have hw2 : Dir.plc (Dir.lvl M + 1) ((i : Int) + IntKind.i64.wrap (1 * 2 ^ min ((Dir.lvl M : Nat) : Int).toNat IntKind.i64.bits)) = 2 ^ (Dir.lvl M + 1) + (i + 2 ^ Dir.lvl M) := by rw [hsh, plc_small (by omega) (by omega)]; omega
      have hpt : Dir.partL M i = if M.W (Dir.plc (Dir.lvl M) (i : Int)) < 4611686018427387904 then [M.Hd (Dir.plc (Dir.lvl M) (i : Int))] else [if M.W (Dir.plc (Dir.lvl M + 1) (i : Int)) = 0 then cutL (M.Hd (Dir.plc (Dir.lvl M) (i : Int))) (Dir.lvl M + 1) i else M.Hd (Dir.plc (Dir.lvl M + 1) (i : Int)),
        if M.W (Dir.plc (Dir.lvl M + 1) ((i : Int) + IntKind.i64.wrap (1 * 2 ^ min ((Dir.lvl M : Nat) : Int).toNat IntKind.i64.bits))) = 0 then cutL (M.Hd (Dir.plc (Dir.lvl M) (i : Int))) (Dir.lvl M + 1) (i + 2 ^ Dir.lvl M) else M.Hd (Dir.plc (Dir.lvl M + 1) ((i : Int) + IntKind.i64.wrap (1 * 2 ^ min ((Dir.lvl M : Nat) : Int).toNat IntKind.i64.bits)))] := by
        unfold Dir.partL Dir.nxt
        rw [hw, hw1, hw2]
        by_cases hq : M.W (2 ^ Dir.lvl M + i) < 4611686018427387904
        · rw [if_pos hq, if_pos (.inr hq)]
        · rw [if_neg hq, if_neg (by intro h; rcases h with h | h; omega; exact hq h)]
      refine ⟨i + 1, by dsimp only; omega, by dsimp only; omega, ?_⟩
      dsimp only
      rw [parts_succ, hpt]
    · rw [if_pos (by assumption)]
      (refine Le.by [0,1,2,3,4,21] rfl rfl rfl rfl ?_ ?_ <;> (conv => whnf) <;> (repeat' (first | exact trivial | exact ArgLe.rfl rfl | exact ArgLe.ptr rfl | exact lanes_arg | exact ArgLe.sl rfl | exact dir_arg (by assumption) | exact dir_argR (by assumption) (fun l hl => by rcases l with _ | _ | _ | _ | _ | l <;> first | rfl | omega) | exact ⟨rfl, rfl, rfl⟩ | exact ⟨rfl, Nat.le_of_ble_eq_true rfl⟩ | exact fun i hi => rfl | ((with_reducible refine And.intro ?_ ?_) <;> (conv => whnf)))))
      · rw [List.length_append]; exact ArgLe.sl rfl
      · rfl
      · simp
      · exact app_rowL _ _
    all_goals
      rw [if_neg (by assumption)]
      first
        | rw [if_pos (by assumption), if_pos (by assumption)]
        | rw [if_pos (by assumption), if_neg (by assumption)]
        | rw [if_neg (by assumption), if_pos (by assumption)]
        | rw [if_neg (by assumption), if_neg (by assumption)]
      (refine Le.by [0,1,2,3,4,54] rfl rfl rfl rfl ?_ ?_ <;> (conv => whnf) <;> (repeat' (first | exact trivial | exact ArgLe.rfl rfl | exact ArgLe.ptr rfl | exact lanes_arg | exact ArgLe.sl rfl | exact dir_arg (by assumption) | exact dir_argR (by assumption) (fun l hl => by rcases l with _ | _ | _ | _ | _ | l <;> first | rfl | omega) | exact ⟨rfl, rfl, rfl⟩ | exact ⟨rfl, Nat.le_of_ble_eq_true rfl⟩ | exact fun i hi => rfl | ((with_reducible refine And.intro ?_ ?_) <;> (conv => whnf)))))
      · rw [List.length_append]; exact ArgLe.sl rfl
      · rfl
      · simp
      · exact app_rowL2 _ _ _
end Go.Proofs.YtbdclkjelhlfbaaGreat

namespace Go.Proofs.YtbdclkjelhlfbaaGreat
open Go.RowKit Go.Shelf Go.Sort
def Tl (w : World) (Im : Nat → Prop) (ds : List D) (vs : List Value) : Prop :=
  vs.length = ds.length ∧ (∀ u ∈ vs, u.oneCell' = true) ∧ ∀ j (hj : j < ds.length), ∃ u, vs[j]? = some u ∧ RD w Im ds[j] u
theorem Tl.mono {w w' : World} {Im : Nat → Prop} {ds : List D} {vs : List Value} (h : Tl w Im ds vs) (hw : ∀ b, Im b → w'.heap[b]? = w.heap[b]?) : Tl w' Im ds vs :=
  ⟨h.1, h.2.1, fun j hj => let ⟨u, h1, h2⟩ := h.2.2 j hj; ⟨u, h1, h2.mono (fun _ h => h) hw⟩⟩
section
variable {α : Type} [Inhabited α] (enc : α → List Value) (k : Nat) (w : World) (blk m : Nat) (d : Array α) (os : Array Obj)
theorem sortW_old (b : Nat) (hb : b ≠ blk) (hlt : b < w.heap.size) : (sortWorldK enc k w blk 0 m d os).heap[b]? = w.heap[b]? := by
  show ((w.heap.modify blk _) ++ os)[b]? = _
  rw [Array.getElem?_append_left (by simpa using hlt), Array.getElem?_modify, if_neg (fun e => hb e.symm)]
theorem sortW_new {cur : Array Value} {e : TypeId} (hg : w.heap[blk]? = some (.cells cur e (0, 0))) : (sortWorldK enc k w blk 0 m d os).heap[blk]? = some (.cells (putCells id 0 (flatK enc k d) cur) e (0, 0)) := by
  have hlt := (Array.getElem?_eq_some_iff.1 hg).1
  show ((w.heap.modify blk _) ++ os)[blk]? = _
  rw [Array.getElem?_append_left (by simpa using hlt), Array.getElem?_modify, if_pos rfl, hg]; rfl
theorem sortW_size : w.heap.size ≤ (sortWorldK enc k w blk 0 m d os).heap.size := by
  show _ ≤ ((w.heap.modify blk _) ++ os).size
  simp
end
theorem put_at (F cur : Array Value) (j : Nat) (hj : j < F.size) (hc : F.size ≤ cur.size) : (putCells id 0 F cur).getD j undef = F[j]! := by
  have h1 : j < (putCells id 0 F cur).size := by simp [putCells]; omega
  rw [Array.getD_eq_getD_getElem?, Array.getElem?_eq_getElem h1, Option.getD_some]
  simp [putCells, hj]
theorem sortFun {C : Cx} {g gc e z : Nat} {α : Type} [Inhabited α] {enc : α → List D} (hz : 0 < z) (ent : Enters C.P g) (henc : ∀ x, (enc x).length = z) (p : α → Prop) (ord : α → α → Int) (dflt : α) (hdp : p dflt) (dv : List Value) (hdv : ∀ w Im, Tl w Im (enc dflt) dv)
    (irr : ∀ a, ¬ ord a a < 0) (tr : ∀ a b c, ord a b < 0 → ord b c < 0 → ord a c < 0) (ntr : ∀ a b c, ¬ ord a b < 0 → ¬ ord b c < 0 → ¬ ord a c < 0)
    (hcmp : ∀ (W : World) (Im : Nat → Prop) (x y : α) (vx vy : List Value), (∀ b, Im b → b < W.heap.size) → p x → p y → Tl W Im (enc x) vx → Tl W Im (enc y) vy → Calls C.P gc #[.agg vx.toArray, .agg vy.toArray] W fun e' w' => e' = .returned (.int .i64 (ord x y)) ∧ ∃ q os, w' = grow (W.drewN q) os)
    (hsort : ∀ (T : Type) [Inhabited T] (en : T → List Value) (_ : ∀ x, (en x).length = z) (_ : ∀ x, ∀ v ∈ en x, v.oneCell' = true) (cf : T → T → Int) (_ : SWO (ltOf cf)) (blk cap : Nat) (d : Array T) (w : World), CmpLays C.P gc #[] en z cf blk 0 d.size w → HoldsK en z w blk 0 d → blk < w.heap.size → d.size < 4611686018427387904 →
      Calls C.P g #[.slice (some ⟨blk, 0, none⟩) d.size cap, .func (.func gc) #[] #[]] w fun e' w' => e' = .returned (.tuple #[]) ∧ ∃ d' n os, PermIn 0 d.size d d' ∧ SortedIn (ltOf cf) 0 d.size d' ∧ w' = sortWorldK en z w blk 0 n d' os)
    (xs zs : List α) (hp : ∀ x ∈ xs, p x) (hx0 : 0 < xs.length) (hx1 : xs.length < 4611686018427387904) (hlz : zs.length = xs.length)
    (huniq : ∀ ys : List α, ys.Perm xs → ys.Pairwise (fun a b => ¬ ord b a < 0) → ys = zs) :
    Fun C g 1 [.sl 0 z 0 xs.length, .d (.fn (.func gc) [])] [(0, some (rowOf e z enc xs))] 1 (.tup []) [(0, some (rowOf e z enc zs))] := by
  refine ⟨ent, Nat.le_refl _, fun E w vs hS hsz hargs => ?_⟩
  have a0 := hargs 0 (by simp)
  have a1 := hargs 1 (by simp)
  have hvs : vs = #[vs.getD 0 undef, vs.getD 1 undef] := vs_args (n := 2) (by simpa using hsz)
  obtain ⟨cap, cur, e0, hc0, hκ, g1, g2, g3, g4, g5, g6, g7⟩ := hS.toOwn (l := 0) rfl a0 hx0
  have e1 : vs.getD 1 undef = .func (.func gc) #[] #[] := by
    generalize vs.getD 1 undef = x at a1
    cases a1 with
    | d _ _ h => cases h with | fn _ _ us hs hg => simp at hs; simp [hs]
  rw [e0, e1] at hvs
  subst hvs
  have hrl : Blk.real (E.κ 0) (rowOf e z enc xs) := show 0 < E.κ 0 by omega
  have hIm : ∀ b, E.Im b → b ≠ E.ρ 0 ∧ b < w.heap.size := fun b hb => ⟨fun e => (hS.im b hb).2 0 _ rfl hrl e.symm, (hS.im b hb).1⟩
  have hblk := (Array.getElem?_eq_some_iff.1 g1).1
  have hmul : xs.length * z ≤ cap * z := Nat.mul_le_mul_right _ g2
  let G := cur.toList.take (xs.length * z)
  have hchunk : ∀ i, i < xs.length → Tl w E.Im (enc (xs.getD i default)) ((G.drop (i * z)).take z) := fun i hi => by
    have hiz : (i + 1) * z ≤ xs.length * z := Nat.mul_le_mul_right _ hi
    rw [Nat.add_mul] at hiz
    refine ⟨?_, fun u hu => g6 u (List.mem_of_mem_drop (List.mem_of_mem_take hu)), fun j hj => ?_⟩
    · rw [List.length_take, List.length_drop, henc]
      have : G.length = xs.length * z := g5
      omega
    · have hjz : j < z := by rw [← henc (xs.getD i default)]; exact hj
      obtain ⟨u, h1, h2⟩ := g7 i j hi hj
      exact ⟨u, by rw [List.getElem?_take, if_pos hjz, List.getElem?_drop]; exact h1, h2⟩
  let T := {q : α × List Value // p q.1 ∧ Tl w E.Im (enc q.1) q.2}
  let iT : Inhabited T := ⟨⟨(dflt, dv), hdp, hdv _ _⟩⟩
  have hxp : ∀ i, i < xs.length → p (xs.getD i default) := fun i hi => by
    rw [List.getD_eq_getElem?_getD, List.getElem?_eq_getElem hi]; exact hp _ (List.getElem_mem hi)
  let d : Array T := Array.ofFn fun i : Fin xs.length => ⟨(xs.getD i default, (G.drop (i * z)).take z), hxp i i.2, hchunk i i.2⟩
  have hds : d.size = xs.length := by simp [d]
  have hdg : ∀ i (hi : i < xs.length), d[i]! = ⟨(xs.getD i default, (G.drop (i * z)).take z), hxp i hi, hchunk i hi⟩ := fun i hi => by
    rw [getElem!_pos d i (by omega)]
    show (Array.ofFn _)[i] = _
    rw [Array.getElem_ofFn]
  let en : T → List Value := fun q => q.1.2
  have hk : ∀ x : T, (en x).length = z := fun x => by rw [x.2.2.1, henc]
  have hH : HoldsK en z w (E.ρ 0) 0 d := fun j hj => by
    have hj : j < xs.length * z := by simpa [hds] using hj
    have hq : j / z < xs.length := Nat.div_lt_of_lt_mul (by rw [Nat.mul_comm]; exact hj)
    have hr : j % z < z := Nat.mod_lt _ hz
    have hdm : j / z * z + j % z = j := by rw [Nat.mul_comm]; exact Nat.div_add_mod j z
    have hv : (flatK en z d)[j]! = cur.getD j undef := by
      rw [get_flatK en z d j (by rw [hds]; exact hj), hdg _ hq]
      show ((G.drop (j / z * z)).take z)[j % z]! = _
      have h1 : ((G.drop (j / z * z)).take z)[j % z]? = some (cur.getD j undef) := by
        rw [List.getElem?_take, if_pos hr, List.getElem?_drop, hdm]
        show (cur.toList.take _)[j]? = _
        rw [List.getElem?_take, if_pos hj, Array.getElem?_toList, Array.getD_eq_getD_getElem?, Array.getElem?_eq_getElem (by omega : j < cur.size)]; rfl
      rw [List.getElem!_eq_getElem?_getD, h1]; rfl
    rw [hv, Nat.zero_add]
    refine ⟨?_, ?_⟩
    · simp only [World.cell?, g1]
      rw [Array.getD_eq_getD_getElem?, Array.getElem?_eq_getElem (by omega : j < cur.size)]
      rfl
    · simp only [World.frozen?, g1]
      simp
  have hcl : CmpLays C.P gc #[] en z (fun x y : T => ord x.1.1 y.1.1) (E.ρ 0) 0 d.size w := fun m os dk _ x y => by
    have hw : ∀ b, E.Im b → (sortWorldK en z w (E.ρ 0) 0 m dk os).heap[b]? = w.heap[b]? := fun b hb => sortW_old en z w _ m dk os b (hIm b hb).1 (hIm b hb).2
    exact hcmp _ E.Im _ _ _ _ (fun b hb => Nat.lt_of_lt_of_le (hIm b hb).2 (sortW_size en z w _ m dk os)) x.2.1 y.2.1 (x.2.2.mono hw) (y.2.2.mono hw)
  have hO : SWO (ltOf fun x y : T => ord x.1.1 y.1.1) :=
    ⟨fun x => by simp only [ltOf, decide_eq_false_iff_not]; exact irr _, fun x y q h1 h2 => by simp only [ltOf, decide_eq_true_eq] at h1 h2 ⊢; exact tr _ _ _ h1 h2,
      fun x y q h1 h2 => by simp only [ltOf, decide_eq_false_iff_not] at h1 h2 ⊢; exact ntr _ _ _ h1 h2⟩
  have hcon := hsort T en hk (fun x => x.2.2.2.1) _ hO (E.ρ 0) cap d w hcl hH hblk (by omega)
  rw [hds] at hcon
  refine hcon.mono ?_
  rintro e' w' ⟨rfl, d', n, os, ⟨q1, _, q3⟩, q4, rfl⟩
  have hd's : d'.size = xs.length := by omega
  have hall : ∀ a : Array T, a.size = xs.length → a.extract 0 xs.length = a := fun a ha => by rw [← ha]; simp
  rw [hall d' hd's, hall d hds] at q3
  have hdx : d.toList.map (fun q => q.1.1) = xs := by
    apply List.ext_getElem (by simpa using hds)
    intro i h1 h2
    simp [d]
  have hys := huniq (d'.toList.map fun q => q.1.1) (by have := q3.map (fun q : T => q.1.1); rwa [hdx] at this) (by
    rw [List.pairwise_map]
    refine List.pairwise_iff_getElem.2 fun i j hi hj hij => ?_
    have hj' : j < d'.size := by simpa using hj
    have h9 := q4 i j (Nat.zero_le _) hij (by omega)
    rw [getElem!_pos d' i (by omega), getElem!_pos d' j hj'] at h9
    simpa [ltOf] using h9)
  have hzi : ∀ i, i < xs.length → zs.getD i default = (d'[i]!).1.1 := fun i hi => by
    rw [← hys, getElem!_pos d' i (by omega), List.getD_eq_getElem?_getD, List.getElem?_eq_getElem (by simpa using (by omega : i < d'.size))]
    simp
  have hW := sortW_new en z w (E.ρ 0) n d' os g1
  have hwi : ∀ b, E.Im b → (sortWorldK en z w (E.ρ 0) 0 n d' os).heap[b]? = w.heap[b]? := fun b hb => sortW_old en z w _ n d' os b (hIm b hb).1 (hIm b hb).2
  have hFs : (flatK en z d').size = xs.length * z := by simp [hd's]
  have hFc : (flatK en z d').size ≤ cur.size := by omega
  have hB0 : HB E [(0, some (rowOf e z enc xs))] (E.ρ 0) := ⟨0, _, rfl, hrl, rfl⟩
  have hlk : ∀ l b, lkh [(0, some (rowOf e z enc zs))] l = some b → l = 0 ∧ b = rowOf e z enc zs := fun l b hl => by
    rw [lkh_cons] at hl
    split at hl
    · cases hl; exact ⟨by omega, rfl⟩
    · cases hl
  refine ⟨_, E, rfl, ⟨rfl, rfl, rfl, sortW_size en z w _ n d' os, fun b hb hn => sortW_old en z w _ n d' os b (fun e => hn (e ▸ hB0)) hb⟩, fun _ _ => ⟨rfl, rfl⟩, ⟨?_, ?_, ?_, ?_⟩, ?_, fun b hb => Or.inl hb, fun b hb => hb, .tup _ _ rfl (fun j hj => by simp at hj)⟩
  · intro l b hl
    obtain ⟨rfl, rfl⟩ := hlk l b hl
    refine ⟨by rw [hlz, ← hκ]; exact g2, by rw [← hκ]; exact g3, hz, fun i _ => henc _, fun _ => ⟨_, hW, by rw [← hκ]; simpa [putCells] using g4, fun j hj => ?_, fun i j hi hj => ?_⟩⟩
    · rw [hlz] at hj
      rw [put_at (flatK en z d') cur j (by omega) hFc, get_flatK en z d' j (by rw [hd's]; exact hj)]
      have hr : j % z < (en (d'[j / z]!)).length := by rw [hk]; exact Nat.mod_lt _ hz
      rw [getElem!_pos (en (d'[j / z]!)) (j % z) hr]
      exact (d'[j / z]!).2.2.2.1 _ (List.getElem_mem hr)
    · rw [hlz] at hi
      have hjz : j < z := by rw [← henc (zs.getD i default)]; exact hj
      have hlt : (i + 1) * z ≤ xs.length * z := Nat.mul_le_mul_right _ hi
      rw [Nat.add_mul] at hlt
      rw [put_at (flatK en z d') cur (i * z + j) (by omega) hFc, get_flatK en z d' (i * z + j) (by rw [hd's]; omega), Nat.mul_comm i z, Nat.mul_add_div hz, Nat.mul_add_mod, Nat.div_eq_of_lt hjz, Nat.mod_eq_of_lt hjz, Nat.add_zero]
      have hq := (d'[i]!).2.2.mono hwi
      have hr : j < (en (d'[i]!)).length := by rw [hk]; exact hjz
      rw [getElem!_pos (en (d'[i]!)) j hr]
      have hz2 := hzi i hi
      obtain ⟨u, h1, h2⟩ := hq.2.2 j (by rw [henc]; exact hjz)
      have h3 : (en (d'[i]!))[j] = u := by
        have : (en (d'[i]!))[j]? = some u := h1
        rw [List.getElem?_eq_getElem hr] at this
        exact Option.some.inj this
      rw [h3]
      have h4 : (enc (zs.getD i default))[j] = (enc (d'[i]!).1.1)[j]'(by rw [henc]; exact hjz) := by simp only [hz2]
      show RD _ _ (enc (zs.getD i default))[j] u
      rw [h4]; exact h2
  · intro l b hl; obtain ⟨rfl, _⟩ := hlk l b hl; omega
  · intro l l' b b' hl hl' _ _ hne; exact absurd ((hlk l b hl).1.trans (hlk l' b' hl').1.symm) hne
  · intro b hb
    refine ⟨Nat.lt_of_lt_of_le (hIm b hb).2 (sortW_size en z w _ n d' os), fun l x hl _ => ?_⟩
    obtain ⟨rfl, _⟩ := hlk l x hl
    exact fun e => (hIm b hb).1 e.symm
  · rintro b ⟨l, x, hl, hr, rfl⟩
    obtain ⟨rfl, _⟩ := hlk l x hl
    exact Or.inl hB0
theorem sortFun0 {C : Cx} {g gc e z : Nat} {f : Nat → List D} (ent : Enters C.P g)
    (hnone : ∀ (p : Option Addr) (cap : Nat) (w : World), Calls C.P g #[.slice p 0 cap, .func (.func gc) #[] #[]] w fun e' w' => e' = .returned (.tuple #[]) ∧ w' = w) :
    Fun C g 1 [.sl 0 z 0 0, .d (.fn (.func gc) [])] [(0, some (.row e z 0 f))] 1 (.tup []) [(0, some (.row e z 0 f))] := by
  refine ⟨ent, Nat.le_refl _, fun E w vs hS hsz hargs => ?_⟩
  have a0 := hargs 0 (by simp)
  have a1 := hargs 1 (by simp)
  have hvs : vs = #[vs.getD 0 undef, vs.getD 1 undef] := vs_args (n := 2) (by simpa using hsz)
  have e0 : ∃ a cap, vs.getD 0 undef = .slice a 0 cap := by
    generalize vs.getD 0 undef = x at a0
    cases a0 with
    | sl _ _ _ _ a cap _ _ _ _ _ => exact ⟨a, cap, rfl⟩
  obtain ⟨a, cap, e0⟩ := e0
  have e1 : vs.getD 1 undef = .func (.func gc) #[] #[] := by
    generalize vs.getD 1 undef = x at a1
    cases a1 with
    | d _ _ h => cases h with | fn _ _ us hs hg => simp at hs; simp [hs]
  rw [e0, e1] at hvs
  subst hvs
  refine (hnone a cap w).mono ?_
  rintro e' w' ⟨rfl, rfl⟩
  exact ⟨_, E, rfl, Kq.refl _ _, fun _ _ => ⟨rfl, rfl⟩, hS, fun _ h => Or.inl h, fun _ h => Or.inl h, fun _ h => h, .tup _ _ rfl (fun j hj => by simp at hj)⟩
end Go.Proofs.YtbdclkjelhlfbaaGreat

namespace Go.Proofs
open Go.Shelf
def Tryz.sort64_ren : Go.Shelf.Ren := ⟨fun | 6 => 64 | 15 => 109 | 14 => 108 | 28 => 150 | 29 => 151 | 20 => 142 | 21 => 143 | 22 => 144 | 23 => 145 | 24 => 146 | 25 => 147 | 26 => 148 | 27 => 149 | 46 => 184 | 47 => 185 | 48 => 186 | 49 => 187 | 50 => 188 | 57 => 203 | n => n, fun | 22 => 80 | 24 => 86 | 25 => 159 | 3 => 3 | 39 => 162 | 0 => 0 | 53 => 242 | 55 => 67 | 4 => 4 | 46 => 236 | 45 => 235 | 50 => 61 | 5 => 5 | 9 => 9 | 66 => 276 | 70 => 280 | 76 => 301 | 77 => 302 | n => n, fun | n => n⟩
theorem Tryz.sort64 : Go.Proofs.SlLaysF0.n6 Tryz.prog Tryz.sort64_ren := {
  mixed := by kernel_rfl
  f6 := ⟨Tryz.f64.name, by decide, Tryz.func64.trans (congrArg some (by kernel_rfl))⟩
  f14 := ⟨Tryz.f108.name, by decide, Tryz.func108.trans (congrArg some (by kernel_rfl))⟩
  f15 := Tryz.func109.trans (congrArg some (by kernel_rfl))
  f20 := ⟨Tryz.f142.name, by decide, Tryz.func142.trans (congrArg some (by kernel_rfl))⟩
  f21 := ⟨Tryz.f143.name, by decide, Tryz.func143.trans (congrArg some (by kernel_rfl))⟩
  f22 := ⟨Tryz.f144.name, by decide, Tryz.func144.trans (congrArg some (by kernel_rfl))⟩
  f23 := ⟨Tryz.f145.name, by decide, Tryz.func145.trans (congrArg some (by kernel_rfl))⟩
  f24 := ⟨Tryz.f146.name, by decide, Tryz.func146.trans (congrArg some (by kernel_rfl))⟩
  f25 := ⟨Tryz.f147.name, by decide, Tryz.func147.trans (congrArg some (by kernel_rfl))⟩
  f26 := ⟨Tryz.f148.name, by decide, Tryz.func148.trans (congrArg some (by kernel_rfl))⟩
  f27 := ⟨Tryz.f149.name, by decide, Tryz.func149.trans (congrArg some (by kernel_rfl))⟩
  f28 := Tryz.func150.trans (congrArg some (by kernel_rfl))
  f29 := Tryz.func151.trans (congrArg some (by kernel_rfl))
  f46 := ⟨Tryz.f184.name, by decide, Tryz.func184.trans (congrArg some (by kernel_rfl))⟩
  f47 := Tryz.func185.trans (congrArg some (by kernel_rfl))
  f48 := Tryz.func186.trans (congrArg some (by kernel_rfl))
  f49 := ⟨Tryz.f187.name, by decide, Tryz.func187.trans (congrArg some (by kernel_rfl))⟩
  f50 := ⟨Tryz.f188.name, by decide, Tryz.func188.trans (congrArg some (by kernel_rfl))⟩
  f57 := ⟨Tryz.f203.name, by decide, Tryz.func203.trans (congrArg some (by kernel_rfl))⟩
  t0 := Tryz.underlying0
  a0 := Tryz.isAgg0
  z0 := Tryz.sizeOf0
  v0 := Tryz.zeroValue0
  t3 := Tryz.underlying3
  a3 := Tryz.isAgg3
  z3 := Tryz.sizeOf3
  v3 := Tryz.zeroValue3
  t4 := Tryz.underlying4
  a4 := Tryz.isAgg4
  z4 := Tryz.sizeOf4
  v4 := Tryz.zeroValue4
  t5 := Tryz.underlying5
  a5 := Tryz.isAgg5
  z5 := Tryz.sizeOf5
  v5 := Tryz.zeroValue5
  t9 := Tryz.underlying9
  a9 := Tryz.isAgg9
  z9 := Tryz.sizeOf9
  v9 := Tryz.zeroValue9
  t22 := Tryz.underlying80
  a22 := Tryz.isAgg80
  z22 := Tryz.sizeOf80
  v22 := Tryz.zeroValue80
  t25 := Tryz.underlying159
  a25 := Tryz.isAgg159
  z25 := Tryz.sizeOf159
  v25 := Tryz.zeroValue159
  t39 := Tryz.underlying162
  a39 := Tryz.isAgg162
  z39 := Tryz.sizeOf162
  v39 := Tryz.zeroValue162
  t45 := Tryz.underlying235
  a45 := Tryz.isAgg235
  z45 := Tryz.sizeOf235
  v45 := Tryz.zeroValue235
  t46 := Tryz.underlying236
  a46 := Tryz.isAgg236
  z46 := Tryz.sizeOf236
  v46 := Tryz.zeroValue236
  t50 := Tryz.underlying61
  a50 := Tryz.isAgg61
  z50 := Tryz.sizeOf61
  v50 := Tryz.zeroValue61
  t53 := Tryz.underlying242
  a53 := Tryz.isAgg242
  z53 := Tryz.sizeOf242
  v53 := Tryz.zeroValue242
  t55 := Tryz.underlying67
  a55 := Tryz.isAgg67
  z55 := Tryz.sizeOf67
  v55 := Tryz.zeroValue67
  t66 := Tryz.underlying276
  a66 := Tryz.isAgg276
  z66 := Tryz.sizeOf276
  v66 := Tryz.zeroValue276
  t70 := Tryz.underlying280
  a70 := Tryz.isAgg280
  z70 := Tryz.sizeOf280
  v70 := Tryz.zeroValue280
  t76 := Tryz.underlying301
  a76 := Tryz.isAgg301
  z76 := Tryz.sizeOf301
  v76 := Tryz.zeroValue301
  t77 := Tryz.underlying302
  a77 := Tryz.isAgg302
  z77 := Tryz.sizeOf302
  v77 := Tryz.zeroValue302 }
end Go.Proofs

namespace Go.Proofs.YtbdclkjelhlfbaaGreat
open Go.RowKit Go.Shelf Go.Sort
set_option maxRecDepth 100000
namespace Dir
def insE (e : Ent) : List Ent → List Ent
  | [] => [e]
  | x :: r => if cmpI e.key x.key < 0 then e :: x :: r else x :: insE e r
def sortE (l : List Ent) : List Ent := l.foldr insE []
theorem insE_perm (e : Ent) : ∀ l, (insE e l).Perm (e :: l)
  | [] => .refl _
  | x :: r => by
    unfold insE; split
    · exact .refl _
    · exact ((insE_perm e r).cons x).trans (.swap e x r)
theorem sortE_perm : ∀ l, (sortE l).Perm l
  | [] => .refl _
  | x :: r => (insE_perm x _).trans ((sortE_perm r).cons x)
theorem insE_srt {e : Ent} : ∀ {l : List Ent}, srt l → (∀ x ∈ l, x.key ≠ e.key) → srt (insE e l)
  | [], _, _ => List.pairwise_singleton _ _
  | x :: r, h, hk => by
    obtain ⟨h1, h2⟩ := List.pairwise_cons.1 h
    unfold insE; split
    · rename_i hlt
      refine List.pairwise_cons.2 ⟨fun y hy => ?_, h⟩
      rcases List.mem_cons.1 hy with rfl | hy
      · exact hlt
      · exact cmpTr hlt (h1 y hy)
    · rename_i hlt
      refine List.pairwise_cons.2 ⟨fun y hy => ?_, insE_srt h2 fun z hz => hk z (by simp [hz])⟩
      rcases List.mem_cons.1 ((insE_perm e r).mem_iff.1 hy) with rfl | hy
      · have h3 : cmpI y.key x.key ≠ 0 := fun e0 => hk x (by simp) (cmpEq e0).symm
        rw [cmpSw]; omega
      · exact h1 y hy
theorem sortE_srt : ∀ {l : List Ent}, l.Pairwise (fun a b => a.key ≠ b.key) → srt (sortE l)
  | [], _ => .nil
  | x :: r, h => by
    obtain ⟨h1, h2⟩ := List.pairwise_cons.1 h
    exact insE_srt (sortE_srt h2) fun y hy => (h1 y ((sortE_perm r).mem_iff.1 hy)).symm
theorem strict_of {ys xs : List Ent} (hp : ys.Perm xs) (hd : xs.Pairwise (fun a b => a.key ≠ b.key)) (hs : ys.Pairwise fun a b => ¬ cmpI b.key a.key < 0) : srt ys := by
  have h3 : ys.Pairwise (fun a b => a.key ≠ b.key) := hp.symm.pairwise hd fun {a b} hab e => hab e.symm
  refine List.Pairwise.imp₂ (fun a b ha hb => ?_) hs h3
  have h4 : cmpI a.key b.key ≠ 0 := fun e => hb (cmpEq e)
  rw [cmpSw] at ha; omega
theorem sort_uniq {ys xs : List Ent} (hp : ys.Perm xs) (hd : xs.Pairwise (fun a b => a.key ≠ b.key)) (hs : ys.Pairwise fun a b => ¬ cmpI b.key a.key < 0) : ys = sortE xs := by
  have s1 := strict_of hp hd hs
  have s2 := sortE_srt hd
  refine srt_ext s1 s2 fun k => opt_ext fun v => ?_
  rw [lk_iff s1, lk_iff s2, hp.mem_iff, (sortE_perm xs).mem_iff]
theorem cmp_ntr : ∀ {a b c : List Int}, ¬ cmpI a b < 0 → ¬ cmpI b c < 0 → ¬ cmpI a c < 0 := fun {a b c} h1 h2 h3 => by
  rw [cmpSw] at h3
  by_cases e : cmpI a b = 0
  · rw [cmpEq e] at h3; rw [cmpSw] at h2; omega
  · have h4 : cmpI b a < 0 := by rw [cmpSw]; omega
    have h5 : cmpI a c < 0 := by rw [cmpSw]; omega
    exact h2 (cmpTr h4 h5)
def ents (M : Mc) : List Ent := sortE (allE M)
theorem ents_ok {M : Mc} {B : Int} (h : Iw M.W B) (hI : Ih M) : srt (ents M) ∧ ∀ k, lk (ents M) k = own M k := by
  obtain ⟨h1, h2⟩ := all_ok h hI
  have s := sortE_srt h1
  refine ⟨s, fun k => opt_ext fun v => ?_⟩
  show lk (sortE (allE M)) k = some v ↔ _
  rw [lk_iff s, (sortE_perm _).mem_iff]
  exact h2 ⟨k, v⟩
end Dir
set_option maxHeartbeats 400000 in
set_option maxRecDepth 100000 in
theorem compare_C {W : World} {Im : Nat → Prop} (a b : List Int) (ba : IsB a) (bb : IsB b) {va vb : Value} (ha : RD W Im (slOf 1 (encI .u8) a) va) (hb : RD W Im (slOf 1 (encI .u8) b) vb) :
    Calls Tryz.prog 110 #[va, vb] W fun e w' => e = .returned (.int .i64 (cmpI a b)) ∧ W = w' := by
  obtain ⟨⟨a1, c1, rfl⟩, h1⟩ := run_bytesOf (P := Tryz.prog) ha
  obtain ⟨⟨a2, c2, rfl⟩, h2⟩ := run_bytesOf (P := Tryz.prog) hb
  have hr : (callFunc 152 #[.slice a1 a.length c1, .slice a2 b.length c2]).run Tryz.prog W = .ok (.value (.int .i64 (cmpI a b))) W := by
    rw [run_callFunc_extern Tryz.func152 (by kernel_rfl) (by kernel_rfl) (by kernel_rfl) (e := Extern.BytealgCompare.compare) (by kernel_rfl)]
    have h3 : (Extern.BytealgCompare.compare #[.slice a1 a.length c1, .slice a2 b.length c2]).run Tryz.prog W = .ok (.int .i64 (cmpI a b)) W := by
      change Sem.run Tryz.prog (do pure (goInt (Extern.BytealgCompare.cmp (← Extern.Bytes.bytesOf (.slice a1 a.length c1)) (← Extern.Bytes.bytesOf (.slice a2 b.length c2))))) W = _
      simp only [Sem.run_bind, h1, h2, Result.andThen_ok, Sem.run_pure, Lib.cmp_eq]
      rw [cmpI_bytes a b ba bb]
      rfl
    rw [h3]; rfl
  clear ha hb ba bb h1 h2
  go_enter Tryz.func110, Tryz.ntmps110
  go_wp2_with (rw [hr])
  go_ret
  exact ⟨rfl, rfl⟩
set_option maxHeartbeats 400000 in
set_option maxRecDepth 100000 in
theorem order_C {W : World} {Im : Nat → Prop} (a b : List Int) (ba : IsB a) (bb : IsB b) {va vb : Value} (ha : RD W Im (slOf 1 (encI .u8) a) va) (hb : RD W Im (slOf 1 (encI .u8) b) vb) :
    Calls Tryz.prog 66 #[va, vb] W fun e w' => e = .returned (.int .i64 (cmpI a b)) ∧ W = w' := by
  have hcon := compare_C a b ba bb ha hb
  clear ha hb ba bb
  generalize cmpI a b = r at hcon ⊢
  go_enter Tryz.func66, Tryz.ntmps66
  go_wp2_with (go_at_call 110; refine hcon.mono ?_; rintro e w' ⟨rfl, rfl⟩)
  go_ret
  exact ⟨rfl, rfl⟩
set_option maxHeartbeats 400000 in
set_option maxRecDepth 100000 in
theorem entries_C (W : World) (Im : Nat → Prop) (x y : Dir.Ent) (vx vy : List Value) (hIm : ∀ b, Im b → b < W.heap.size) (bx : IsB x.key) (by' : IsB y.key) (hx : Tl W Im (entD x) vx) (hy : Tl W Im (entD y) vy) :
    Calls Tryz.prog 65 #[.agg vx.toArray, .agg vy.toArray] W fun e' w' => e' = .returned (.int .i64 (cmpI x.key y.key)) ∧ ∃ q os, w' = grow (W.drewN q) os := by
  obtain ⟨x1, x2, x3⟩ := hx
  obtain ⟨y1, y2, y3⟩ := hy
  obtain ⟨u, hu, ru⟩ := x3 0 (by simp [entD])
  obtain ⟨t, ht, rt⟩ := y3 0 (by simp [entD])
  obtain ⟨u2, rfl⟩ : ∃ u2, vx = [u, u2] := by
    match vx, x1, hu with
    | [a, b], _, hu => simp at hu; subst hu; exact ⟨b, rfl⟩
    | [], h, _ => simp [entD] at h
    | [_], h, _ => simp [entD] at h
    | _ :: _ :: _ :: _, h, _ => simp [entD] at h
  obtain ⟨t2, rfl⟩ : ∃ u2, vy = [t, u2] := by
    match vy, y1, ht with
    | [a, b], _, hu => simp at hu; subst hu; exact ⟨b, rfl⟩
    | [], h, _ => simp [entD] at h
    | [_], h, _ => simp [entD] at h
    | _ :: _ :: _ :: _, h, _ => simp [entD] at h
  have hcon : ∀ w' : World, (∀ b, Im b → w'.heap[b]? = W.heap[b]?) → Calls Tryz.prog 66 #[u, t] w' fun e w'' => e = .returned (.int .i64 (cmpI x.key y.key)) ∧ w' = w'' := fun w' hw =>
    order_C x.key y.key bx by' (ru.mono (fun _ h => h) hw) (rt.mono (fun _ h => h) hw)
  have h2 : ∃ n, u2 = .int .i64 n := by
    obtain ⟨q, hq, rq⟩ := x3 1 (by simp [entD])
    simp at hq; subst hq
    exact ⟨x.val, by cases rq; rfl⟩
  have h3 : ∃ n, t2 = .int .i64 n := by
    obtain ⟨q, hq, rq⟩ := y3 1 (by simp [entD])
    simp at hq; subst hq
    exact ⟨y.val, by cases rq; rfl⟩
  obtain ⟨n2, rfl⟩ := h2
  obtain ⟨m2, rfl⟩ := h3
  have hu' : ∃ a c, u = .slice a x.key.length c := (run_bytesOf (P := Tryz.prog) (show RD W Im (slOf 1 (encI .u8) x.key) u from ru)).1
  have ht' : ∃ a c, t = .slice a y.key.length c := (run_bytesOf (P := Tryz.prog) (show RD W Im (slOf 1 (encI .u8) y.key) t from rt)).1
  obtain ⟨a1, c1, rfl⟩ := hu'
  obtain ⟨a2, c2, rfl⟩ := ht'
  have hcon2 := hcon ((W.alloc (.cells #[.slice a1 x.key.length c1, .int .i64 n2] 86)).alloc (.cells #[.slice a2 y.key.length c2, .int .i64 m2] 86)) fun b hb => by
    have hlt := hIm b hb
    rw [Below.heap_alloc _ _ _ (by simp only [World.size_alloc]; omega), Below.heap_alloc _ _ _ hlt]
  clear hcon ru rt x1 x2 x3 y1 y2 y3 hu ht bx by' hIm
  generalize cmpI x.key y.key = r at hcon2 ⊢
  generalize x.key.length = l1 at hcon2 ⊢
  generalize y.key.length = l2 at hcon2 ⊢
  go_enter Tryz.func65, Tryz.ntmps65
  go_wp2_with (go_at_call 66; refine hcon2.mono ?_; rintro e w' ⟨rfl, rfl⟩)
  go_ret
  exact ⟨rfl, 0, _, by rw [alloc_eq_grow, alloc_eq_grow, grow_grow]; rfl⟩
theorem ent_Sort (xs : List Dir.Ent) (hB : ∀ e ∈ xs, IsB e.key) (hd : xs.Pairwise (fun a b => a.key ≠ b.key)) (hx1 : xs.length < 4611686018427387904) :
    Fun TC 64 1 [.sl 0 2 0 xs.length, .d (.fn (.func 65) [])] [(0, some (rowOf 86 2 entD xs))] 1 (.tup []) [(0, some (rowOf 86 2 entD (Dir.sortE xs)))] := by
  have ent : Enters TC.P 64 := .mk Tryz.func64 rfl rfl
  have hpl := (Dir.sortE_perm xs).length_eq
  rcases Nat.eq_zero_or_pos xs.length with h0 | h0
  · obtain rfl := List.eq_nil_of_length_eq_zero h0
    exact sortFun0 ent fun p cap w => AnyF.slices_SortFunc_none Tryz.sort64 p cap _ w
  · have eg : ∀ args w, (callFunc 65 args).run Tryz.prog w = .ok (.enter 65 args) w := enters_of Tryz.func65 (by kernel_rfl) rfl
    refine sortFun (C := TC) (α := Dir.Ent) (enc := entD) (gc := 65) (e := 86) (z := 2) (by decide) ent (fun _ => rfl) (fun e => IsB e.key) (fun a b => cmpI a.key b.key) ⟨[], 0⟩ (fun x hx => by cases hx) [.slice none 0 0, .int .i64 0] (fun w Im => ⟨rfl, fun u hu => by simp at hu; rcases hu with rfl | rfl <;> rfl, fun j hj => ?_⟩)
      (fun a => by rw [Dir.cmpS]; omega) (fun a b c => Dir.cmpTr) (fun a b c => Dir.cmp_ntr) (fun W Im x y vx vy hIm bx by' hx hy => entries_C W Im x y vx vy hIm bx by' hx hy)
      (fun T _ en hk h1 cf hO blk cap d w hcl hH hblk hsz => ?_) xs (Dir.sortE xs) hB h0 hx1 hpl (fun ys hp hs => Dir.sort_uniq hp hd hs)
    · have : j = 0 ∨ j = 1 := by simp [entD] at hj; omega
      rcases this with rfl | rfl
      · exact ⟨_, rfl, .sl 1 0 _ none 0 (fun _ _ => undef) (Nat.le_refl _) (Nat.zero_le _) (fun i hi => absurd hi (Nat.not_lt_zero _)) (fun h => absurd h (Nat.not_lt_zero _)) (fun i j hi => absurd hi (Nat.not_lt_zero _))⟩
      · exact ⟨_, rfl, .val _ rfl⟩
    · have hcon := AnyQ.slices_SortFunc Tryz.sort64 2 Tryz.isAgg86 Tryz.sizeOf86 en hk h1 cf hO 65 #[] blk 0 cap d w eg hcl hH hblk hsz
      exact hcon
end Go.Proofs.YtbdclkjelhlfbaaGreat

namespace Go.Proofs.YtbdclkjelhlfbaaGreat
open Go.RowKit
set_option maxRecDepth 100000
theorem dropE {α : Type} [Inhabited α] {xs : List α} {k : Nat} (h : k < xs.length) : xs.drop k = xs.getD k default :: xs.drop (k + 1) := by
  rw [List.drop_eq_getElem_cons h, List.getD_eq_getElem?_getD, List.getElem?_eq_getElem h]; rfl
theorem r2_Order (a b : List Int) : Pure TC 106 [.d (slOf 1 (encI .u8) a), .d (slOf 1 (encI .u8) b)] (.i .i64 (cmpI a b)) := by
  refine Pure.lens (.mk Tryz.func106 rfl rfl) fun hlen => ?_
  have ha := hlen a.length (by simp [lensOf, slOf])
  have hb := hlen b.length (by simp [lensOf, slOf])
  clear hlen
  refine Pure.mk' Tryz.func106 rfl rfl (Nat.le_of_ble_eq_true rfl) ?_
  (repeat' (first
    | with_reducible refine Wp.seq ?_
    | with_reducible refine Wp.block ?_
    | ((with_reducible first | refine Wp.region ?_ | refine Wp.drawL TC_mixed ?_ | refine Wp.cond ?_ | refine Wp.ret ?_ | refine Wp.skip ?_ | refine Wp.exit ?_ | refine Go.mk ?_ | apply Eff1.of); conv => whnf)
    | with_reducible exact rfl
    | ((with_reducible refine Ov.ok zO ?_); conv => whnf)
    | (with_reducible refine Ov.sh1 (by with_unfolding_all exact rfl) ?_)
    | ((with_reducible refine Ov.quo (by omega) (by omega) (by omega) (fun _ _ => ?_)); conv => whnf)
    | ((with_reducible refine And.intro (show drawOK _ _ _ _ = true by kernel_rfl) ?_); conv => whnf)
    | ((with_reducible refine And.intro zC ?_); conv => whnf)
    | ((with_reducible refine And.intro ?hb ?_); (case hb => exact bytes_bd (Nat.le_of_ble_eq_true rfl) (by omega)); (conv => whnf))
    | ((refine DApp.a rfl rfl rfl rfl rfl rfl ?hb ?_); (case hb => exact zB); (conv => whnf))
    | ((refine DApp.b rfl rfl rfl rfl rfl rfl rfl rfl ?hb ?ho ?_); (case hb => exact zB); (case ho => omega); (conv => whnf))
    | ((refine DApp.c rfl rfl rfl rfl rfl ?hb ?_); (case hb => exact zB); (conv => whnf))
    | ((refine DApp.d rfl rfl rfl rfl rfl rfl ?hb ?ho ?_); (case hb => exact zB); (case ho => omega); (conv => whnf))
    | ((with_reducible refine nil_no (by omega) ?_); (conv => whnf))
    | ((with_reducible refine nil_any ?_ (fun hn0 => ?_)) <;> (conv => whnf))
    
    | ((refine ways (fun hc => ?_) (fun hc => ?_)) <;> (try simp only [decide_eq_true_eq, decide_eq_false_iff_not, Bool.and_eq_true, Bool.or_eq_true, Bool.and_eq_false_iff, Bool.or_eq_false_iff, Bool.not_eq_true', Bool.not_eq_false', beq_iff_eq, bne_iff_ne, ne_eq, beq_eq_false_iff_ne, bne_eq_false_iff_eq, Bool.not_eq_true, Bool.not_eq_false] at hc) <;> (try (exfalso; omega)) <;> (conv => whnf))))
  refine Wp.loopP (ι := Nat) (fun i => i ≤ a.length ∧ i ≤ b.length ∧ cmpI (a.drop i) (b.drop i) = cmpI a b) (fun i => ⟨⟨Tryz.f106.ntmps, 0⟩, 0, [(0, .d (slOf 1 (encI .u8) a)), (1, .d (slOf 1 (encI .u8) b)), (5, .i .i64 i)], []⟩) (fun i => a.length - i) 0 ⟨Nat.zero_le _, Nat.zero_le _, rfl⟩ ?_ ?_
  · (refine Le.by [] rfl rfl rfl rfl ?_ ?_ <;> (conv => whnf) <;> (repeat' (first | exact trivial | exact ArgLe.rfl rfl | exact ArgLe.ptr rfl | exact ArgLe.sl rfl | ((with_reducible refine ArgLe.fn ?_); (conv => whnf)) | ((refine ArgLe.iref ?_); (conv => whnf)) | exact ⟨rfl, rfl, rfl⟩ | exact fun i hi => rfl | ((with_reducible refine And.intro ?_ ?_) <;> (conv => whnf)))))
  · rintro i ⟨h1, h2, h3⟩
    have hs : i < a.length → i < b.length → cmpI a b = if a.getD (i : Int).toNat default < b.getD (i : Int).toNat default then -1 else if b.getD (i : Int).toNat default < a.getD (i : Int).toNat default then 1 else cmpI (a.drop (i + 1)) (b.drop (i + 1)) := fun g1 g2 => by
      rw [← h3, dropE g1, dropE g2, Int.toNat_natCast]; rfl
    have hA : i = a.length → cmpI a b = if a.length < b.length then -1 else 0 := fun g1 => by
      subst g1
      rw [← h3, List.drop_length]
      split
      · rename_i g; rw [dropE g]; rfl
      · rw [List.drop_eq_nil_of_le (by omega)]; rfl
    have hB : i = b.length → cmpI a b = if b.length < a.length then 1 else 0 := fun g1 => by
      subst g1
      rw [← h3, List.drop_length]
      split
      · rename_i g; rw [dropE g]; rfl
      · rw [List.drop_eq_nil_of_le (by omega)]; rfl
    (repeat' (first
    | with_reducible refine Wp.seq ?_
    | with_reducible refine Wp.block ?_
    | ((with_reducible first | refine Wp.region ?_ | refine Wp.drawL TC_mixed ?_ | refine Wp.cond ?_ | refine Wp.ret ?_ | refine Wp.skip ?_ | refine Wp.exit ?_ | refine Go.mk ?_ | apply Eff1.of); conv => whnf)
    | with_reducible exact rfl
    | ((with_reducible refine Ov.ok zO ?_); conv => whnf)
    | (with_reducible refine Ov.sh1 (by with_unfolding_all exact rfl) ?_)
    | ((with_reducible refine Ov.quo (by omega) (by omega) (by omega) (fun _ _ => ?_)); conv => whnf)
    | ((with_reducible refine And.intro (show drawOK _ _ _ _ = true by kernel_rfl) ?_); conv => whnf)
    | ((with_reducible refine And.intro zC ?_); conv => whnf)
    | ((with_reducible refine And.intro ?hb ?_); (case hb => exact bytes_bd (Nat.le_of_ble_eq_true rfl) (by omega)); (conv => whnf))
    | ((refine DApp.a rfl rfl rfl rfl rfl rfl ?hb ?_); (case hb => exact zB); (conv => whnf))
    | ((refine DApp.b rfl rfl rfl rfl rfl rfl rfl rfl ?hb ?ho ?_); (case hb => exact zB); (case ho => omega); (conv => whnf))
    | ((refine DApp.c rfl rfl rfl rfl rfl ?hb ?_); (case hb => exact zB); (conv => whnf))
    | ((refine DApp.d rfl rfl rfl rfl rfl rfl ?hb ?ho ?_); (case hb => exact zB); (case ho => omega); (conv => whnf))
    | ((with_reducible refine nil_no (by omega) ?_); (conv => whnf))
    | ((with_reducible refine nil_any ?_ (fun hn0 => ?_)) <;> (conv => whnf))
    
    | ((refine ways (fun hc => ?_) (fun hc => ?_)) <;> (try simp only [decide_eq_true_eq, decide_eq_false_iff_not, Bool.and_eq_true, Bool.or_eq_true, Bool.and_eq_false_iff, Bool.or_eq_false_iff, Bool.not_eq_true', Bool.not_eq_false', beq_iff_eq, bne_iff_ne, ne_eq, beq_eq_false_iff_ne, bne_eq_false_iff_eq, Bool.not_eq_true, Bool.not_eq_false] at hc) <;> (try (exfalso; omega)) <;> (conv => whnf))))
    all_goals first
      | exact .i (by rw [hs (by omega) (by omega), if_pos (by omega)])
      | exact .i (by rw [hs (by omega) (by omega), if_neg (by omega), if_pos (by omega)])
      | exact .i (by rw [hA (by omega), if_pos (by omega)])
      | exact .i (by rw [hA (by omega), if_neg (by omega)])
      | exact .i (by rw [hB (by omega), if_pos (by omega)])
      | exact .i (by rw [hB (by omega), if_neg (by omega)])
      | (refine ⟨i + 1, ⟨by omega, by omega, (by rw [hs (by omega) (by omega), if_neg (by omega), if_neg (by omega)])⟩, by dsimp only; omega, ?_⟩; (refine Le.by [] rfl rfl rfl rfl ?_ ?_ <;> (conv => whnf) <;> (repeat' (first | exact trivial | exact ArgLe.rfl rfl | exact ArgLe.ptr rfl | exact ArgLe.sl rfl | ((with_reducible refine ArgLe.fn ?_); (conv => whnf)) | ((refine ArgLe.iref ?_); (conv => whnf)) | exact ⟨rfl, rfl, rfl⟩ | exact fun i hi => rfl | ((with_reducible refine And.intro ?_ ?_) <;> (conv => whnf))))))
end Go.Proofs.YtbdclkjelhlfbaaGreat

namespace Go.Proofs.YtbdclkjelhlfbaaGreat
open Go.RowKit
namespace Dir
def Kl (h : List Ent) : Prop := ∀ e ∈ h, e.key.length ≤ 256
def Kh (M : Mc) : Prop := ∀ w, Kl (M.Hd w)
def Ks (s : CS) : Prop := ∀ c, callOf s = some c → c.key.length ≤ 256
theorem Kl.cut {h : List Ent} (x : Kl h) (lv i : Nat) : Kl (cutL h lv i) := fun e he => x e (List.mem_filter.1 he).1
theorem Kl.nil : Kl [] := fun e he => by cases he
theorem Kh.set {M : Mc} (h : Kh M) {w : Nat} {x : Int} {m : List Ent} (hm : Kl m) : Kh (M.set w x m) := fun j => by
  show Kl (upd M.Hd w m j)
  unfold upd; split
  · exact hm
  · exact h j
theorem step_kh {M : Mc} {B : Int} (h : Iw M.W B) {s : CS} (hs : Cw dirOps M.W s) (hI : Ih M) (hc : Ch M s) (hk : Ks s) (hM : Kh M) : Kh (step dirOps M s).1 := by
  cases s with
  | none => exact hM
  | k0 c => exact hM
  | kE c w => exact hM
  | kF c lv w => exact hM
  | kG c lv w v m =>
    simp only [step]; split
    · rename_i e
      refine hM.set ?_
      rw [← hc.2.2 e]; exact hM w
    · exact hM
  | kH c lv w m => simp only [step]; split <;> exact hM
  | kL c lv w m =>
    simp only [step]; split
    · refine hM.set (Kl.cut ?_ _ _)
      rw [← hc.2]; exact hM _
    · exact hM
  | kS c w v m n =>
    simp only [step]; split
    · rename_i e
      refine hM.set fun x hx => ?_
      have hsrt : srt (M.Hd w) := hI.word ⟨hs.1, hs.2.1⟩
      rcases fnd_key hsrt hc.1 (hc.2.2.2 e) hx with e1 | ⟨y, hy, e1⟩
      · rw [e1]; exact hk c rfl
      · rw [← e1]; exact hM w y hy
    · exact hM
  | s0 => simp only [step]; split
          · exact hM
          · split <;> exact hM
  | sM lv => simp only [step]; split
             · exact hM.set .nil
             · exact hM
  | sF lv i => exact hM
  | sG lv i v m =>
    simp only [step]; split
    · rename_i e
      refine hM.set ?_
      rw [← hc.2 e]; exact hM _
    · exact hM
  | sH lv i up m => exact hM
  | sL lv i up m =>
    simp only [step]; split
    · refine hM.set (Kl.cut ?_ _ _)
      have : M.Hd (2 ^ lv + i) = m := hc
      rw [← this]; exact hM _
    · exact hM
  | sV lv =>
    simp only [step]; split
    · exact hM.set .nil
    · exact hM
end Dir
structure LawE (k : Nat) (M : Dir.Mc) (cs : Nat → Dir.CS) (nl : Nat) (cnt : Int) : Prop where
  s : LawS k M cs nl cnt
  ih : Dir.Ih M
  ch : ∀ j, Dir.Ch M (cs j)
  kh : Dir.Kh M
  kc : ∀ j, Dir.Ks (cs j)
theorem LawE.zero : LawE 0 Dir.M0 (fun _ => .none) (noteN 0) 1 := ⟨.zero, .zero, fun _ => trivial, fun _ e he => (by cases he), fun _ c hc => (by cases hc)⟩
theorem LawE.eff {k : Nat} {M : Dir.Mc} {cs : Nat → Dir.CS} {nl : Nat} {cnt : Int} (h : LawE k M cs nl cnt) (hk : k ≤ 1000000) {i : Nat} (hn : cs i ≠ .none) :
    Dir.Eff M (cs i) (Dir.step dirOps M (cs i)).1 (Dir.step dirOps M (cs i)).2.1 (Dir.step dirOps M (cs i)).2.2 :=
  Dir.step_eff h.s.inv.iw ⟨h.s.inv.b, by unfold Dir.FZ; omega⟩ (h.s.inv.cw i) h.ih (h.ch i) hn
theorem LawE.step {k : Nat} {M : Dir.Mc} {cs : Nat → Dir.CS} {nl : Nat} {cnt : Int} (h : LawE k M cs nl cnt) (hk : k ≤ 1000000) {i : Nat} (hn : cs i ≠ .none) :
    LawE (k + 1) (Dir.step dirOps M (cs i)).1 (Dir.upd cs i (Dir.step dirOps M (cs i)).2.1) (noteN nl) (cnt + 1) := by
  have E := h.eff hk hn
  refine ⟨h.s.step hk i, E.ih, fun j => ?_, Dir.step_kh h.s.inv.iw (h.s.inv.cw i) h.ih (h.ch i) (h.kc i) h.kh, fun j => ?_⟩
  · unfold Dir.upd; split
    · exact E.ch
    · exact E.mono.ch (h.s.inv.cw j) (h.ch j)
  · unfold Dir.upd; split
    · cases e : (Dir.step dirOps M (cs i)).2.2.done with
      | true => rw [(E.yes e).1]; intro c hc; cases hc
      | false => intro c hc; rw [(E.no e).2.2.1] at hc; exact h.kc i c hc
    · exact h.kc j
theorem LawE.start {k : Nat} {M : Dir.Mc} {cs : Nat → Dir.CS} {nl : Nat} {cnt : Int} (h : LawE k M cs nl cnt) (i : Nat) (op : Int) (key : List Int) (v : Int) (hk : IsB key) (ho : 1 ≤ op ∧ op ≤ 4) (hl : key.length ≤ 256) :
    LawE k M (Dir.upd cs i (startS op key v)) nl cnt := by
  refine ⟨h.s.start i op key v hk, h.ih, fun j => ?_, h.kh, fun j => ?_⟩
  · unfold Dir.upd; split
    · unfold startS; split
      · trivial
      · exact ⟨ho.1, by show op ≤ 3; omega⟩
    · exact h.ch j
  · unfold Dir.upd; split
    · unfold startS; split
      · intro c hc; cases hc
      · intro c hc; cases hc; exact hl
    · exact h.kc j
end Go.Proofs.YtbdclkjelhlfbaaGreat

namespace Go.Proofs.YtbdclkjelhlfbaaGreat
open Go.RowKit
set_option maxRecDepth 100000
theorem take_at {α : Type} [Inhabited α] {xs : List α} {k : Nat} (h : k < xs.length) : xs.take (k + 1) = xs.take k ++ [xs.getD (k : Int).toNat default] := by
  rw [List.take_succ_eq_append_getElem h, Int.toNat_natCast, List.getD_eq_getElem?_getD, List.getElem?_eq_getElem h]; rfl
theorem flat_len {α : Type} {c : Nat} : ∀ {L : List (List α)}, (∀ l ∈ L, l.length ≤ c) → L.flatten.length ≤ L.length * c
  | [], _ => by simp
  | l :: r, h => by
    have h1 := flat_len (L := r) fun x hx => h x (by simp [hx])
    have h2 := h l (by simp)
    rw [List.flatten_cons, List.length_append, List.length_cons, Nat.add_mul, Nat.one_mul]; omega
theorem part_mem {M : Dir.Mc} {i : Nat} {l : List Dir.Ent} (h : l ∈ Dir.partL M i) : ∃ w, ∀ e ∈ l, e ∈ M.Hd w := by
  unfold Dir.partL Dir.nxt at h
  split at h
  · simp at h; exact ⟨_, fun e he => by rw [h] at he; exact he⟩
  · simp at h
    rcases h with h | h
    all_goals
      split at h
      · exact ⟨_, fun e he => by rw [h] at he; exact (List.mem_filter.1 he).1⟩
      · exact ⟨_, fun e he => by rw [h] at he; exact he⟩
theorem part_short {M : Dir.Mc} {n i : Nat} (hH : ∀ w, (M.Hd w).length ≤ n) {l : List Dir.Ent} (h : l ∈ Dir.partL M i) : l.length ≤ n := by
  unfold Dir.partL Dir.nxt at h
  split at h
  · simp at h; rw [h]; exact hH _
  · simp at h
    rcases h with h | h
    all_goals
      split at h
      · rw [h]; exact Nat.le_trans (List.length_filter_le _ _) (hH _)
      · rw [h]; exact hH _
theorem dir_Entries {g : Nat → SV} (q5 : ∀ j, SV.Lt 5 (g j)) (M : Dir.Mc) (nl : Nat) (f : Nat → List D) (clk cnt : Int) (h0 : 0 ≤ M.W 0) (h8 : M.W 0 ≤ 8) (hH : ∀ w, Dir.Hn 100000 (M.Hd w)) {B : Int} (hI : Dir.Iw M.W B) (hIh : Dir.Ih M) (hK : Dir.Kh M) :
    Fun TC 29 5 [.ptr 0 0] (dirH g M nl f clk cnt) 5 (.d (slOf 2 entD (Dir.ents M))) (dirH g M nl f clk cnt) := by
  have hA : Fun TC 63 5 [lanesS] (dirH g M nl f clk cnt) 5 (.d (slOf 1 lstD (Dir.allL M))) (dirH g M nl f clk cnt) := by
    by_cases he : M.W 0 % 2 = 0
    · exact lane_All0 q5 M nl f clk cnt h0 h8 he
    · exact lane_All1 q5 M nl f clk cnt h0 h8 (fun w => by have := (hH w).1; omega) (by omega)
  have hLl : (Dir.allL M).length ≤ 32 := by
    have h1 := parts_len M (2 ^ Dir.lvl M)
    have h2 : 2 ^ Dir.lvl M ≤ 2 ^ 4 := Nat.pow_le_pow_right (by omega) (by unfold Dir.lvl; omega)
    show ((List.range (2 ^ Dir.lvl M)).flatMap (Dir.partL M)).length ≤ 32
    omega
  have hmem : ∀ l ∈ Dir.allL M, l.length ≤ 100000 ∧ Dir.Kl l ∧ ∀ e ∈ l, IsB e.key := fun l hl => by
    obtain ⟨i, _, hi⟩ := List.mem_flatMap.1 hl
    obtain ⟨w, hw⟩ := part_mem hi
    exact ⟨part_short (fun w => (hH w).1) hi, fun e he => hK w e (hw e he), fun e he => (hH w).2 e (hw e he)⟩
  have hE := Dir.allE_eq M
  have hents : Dir.ents M = Dir.sortE (Dir.allL M).flatten := by unfold Dir.ents; rw [hE]
  have hdist : (Dir.allL M).flatten.Pairwise (fun a b => a.key ≠ b.key) := by rw [hE]; exact (Dir.all_ok hI hIh).1
  rw [hents]
  clear hents hE
  generalize Dir.allL M = L at hA hLl hmem hdist ⊢
  have hfl : L.flatten.length ≤ 3200000 := by have := flat_len fun l hl => (hmem l hl).1; omega
  have hpre : ∀ j, (L.take j).flatten.length ≤ 3200000 := fun j => by
    have := flat_len (L := L.take j) fun l hl => (hmem l (List.mem_of_mem_take hl)).1
    rw [List.length_take] at this
    have h3 : min j L.length * 100000 ≤ 32 * 100000 := Nat.mul_le_mul_right _ (by omega)
    omega
  have hSort := ent_Sort L.flatten (fun e he => by obtain ⟨l, h1, h2⟩ := List.mem_flatten.1 he; exact (hmem l h1).2.2 e h2) hdist (by omega)
  have hpl := (Dir.sortE_perm L.flatten).length_eq
  refine Fun.mk' Tryz.func29 rfl rfl (Nat.le_of_ble_eq_true rfl) (by decide) ?_
  (repeat' (first
    | with_reducible refine Wp.seq ?_
    | with_reducible refine Wp.block ?_
    | ((with_reducible first | refine Wp.region ?_ | refine Wp.drawL TC_mixed ?_ | refine Wp.cond ?_ | refine Wp.ret ?_ | refine Wp.skip ?_ | refine Wp.exit ?_ | refine Go.mk ?_ | apply Eff1.of); conv => whnf)
    | with_reducible exact rfl
    | ((with_reducible refine Ov.ok zO ?_); conv => whnf)
    | (with_reducible refine Ov.sh1 (by with_unfolding_all exact rfl) ?_)
    | ((with_reducible refine Ov.quo (by omega) (by omega) (by omega) (fun _ _ => ?_)); conv => whnf)
    | ((with_reducible refine And.intro (show drawOK _ _ _ _ = true by kernel_rfl) ?_); conv => whnf)
    | ((with_reducible refine And.intro zC ?_); conv => whnf)
    | ((with_reducible refine And.intro ?hb ?_); (case hb => exact bytes_bd (Nat.le_of_ble_eq_true rfl) (by omega)); (conv => whnf))
    | ((refine DApp.a rfl rfl rfl rfl rfl rfl ?hb ?_); (case hb => exact zB); (conv => whnf))
    | ((refine DApp.b rfl rfl rfl rfl rfl rfl rfl rfl ?hb ?ho ?_); (case hb => exact zB); (case ho => omega); (conv => whnf))
    | ((refine DApp.c rfl rfl rfl rfl rfl ?hb ?_); (case hb => exact zB); (conv => whnf))
    | ((refine DApp.d rfl rfl rfl rfl rfl rfl ?hb ?ho ?_); (case hb => exact zB); (case ho => omega); (conv => whnf))
    | ((with_reducible refine nil_no (by omega) ?_); (conv => whnf))
    | ((with_reducible refine nil_any ?_ (fun hn0 => ?_)) <;> (conv => whnf))
    | ((refine CallStop.fn (hA) [0,1,2,3,4] rfl rfl rfl rfl rfl ?ha ?hh ?_); (case ha => exact zA); (case hh => exact zD); (conv => whnf))
    | ((refine DCall.fn (hA) [0,1,2,3,4] [0,1,2,3,4] rfl rfl rfl rfl rfl ?ha ?hh ?hs ?_); (case ha => exact zA); (case hh => exact zD); (case hs => exact zK); (conv => whnf)) | ((refine DCall.new (hA) [0,1,2,3,4] [0,1,2,3,4] rfl rfl rfl rfl rfl rfl ?ha ?hh ?hs ?_); (case ha => exact zA); (case hh => exact zD); (case hs => exact zK); (conv => whnf))
    | ((refine DCall.fn (hA) [0,1,2,3,4] [] rfl rfl rfl rfl rfl ?ha ?hh ?hs ?_); (case ha => exact zA); (case hh => exact zD); (case hs => exact zK); (conv => whnf)) | ((refine DCall.new (hA) [0,1,2,3,4] [] rfl rfl rfl rfl rfl rfl ?ha ?hh ?hs ?_); (case ha => exact zA); (case hh => exact zD); (case hs => exact zK); (conv => whnf))
    | ((with_reducible refine At.mk' 0 rfl ?_); conv => whnf)
    | ((refine ways (fun hc => ?_) (fun hc => ?_)) <;> (try simp only [decide_eq_true_eq, decide_eq_false_iff_not, Bool.and_eq_true, Bool.or_eq_true, Bool.and_eq_false_iff, Bool.or_eq_false_iff, Bool.not_eq_true', Bool.not_eq_false', beq_iff_eq, bne_iff_ne, ne_eq, beq_eq_false_iff_ne, bne_eq_false_iff_eq, Bool.not_eq_true, Bool.not_eq_false] at hc) <;> (try (exfalso; omega)) <;> (conv => whnf))))
  refine Wp.le (Le.virt 3 86 2 (fun i => entD (([] : List Dir.Ent).getD i default)) (by decide) rfl) ?_
  refine Wp.loopP (ι := Nat) (fun j => j ≤ L.length) (fun j => ⟨⟨Tryz.f29.ntmps, 5⟩, 6, [(3, .sl 5 2 0 (L.take j).flatten.length), (14, .d (slOf 1 lstD L)), (15, .i .i64 L.length), (16, .i .i64 j)],
    dirH g M nl f clk cnt ++ [(5, some (rowOf 86 2 entD (L.take j).flatten))]⟩) (fun j => L.length - j) 0 (Nat.zero_le _) ?_ ?_
  · (refine Le.by [0,1,2,3,4,5] rfl rfl rfl rfl ?_ ?_ <;> (conv => whnf) <;> (repeat' (first | exact trivial | exact ArgLe.rfl rfl | exact ArgLe.ptr rfl | exact lanes_arg | exact ArgLe.sl rfl | exact dir_arg (by assumption) | exact dir_argR (by assumption) (fun l hl => by rcases l with _ | _ | _ | _ | _ | l <;> first | rfl | omega) | exact ⟨rfl, rfl, rfl⟩ | exact ⟨rfl, Nat.le_of_ble_eq_true rfl⟩ | exact fun i hi => rfl | ((with_reducible refine And.intro ?_ ?_) <;> (conv => whnf)))))
  · rintro j h1
    have hpj := hpre j
    (repeat' (first
    | with_reducible refine Wp.seq ?_
    | with_reducible refine Wp.block ?_
    | ((with_reducible first | refine Wp.region ?_ | refine Wp.drawL TC_mixed ?_ | refine Wp.cond ?_ | refine Wp.ret ?_ | refine Wp.skip ?_ | refine Wp.exit ?_ | refine Go.mk ?_ | apply Eff1.of); conv => whnf)
    | with_reducible exact rfl
    | ((with_reducible refine Ov.ok zO ?_); conv => whnf)
    | (with_reducible refine Ov.sh1 (by with_unfolding_all exact rfl) ?_)
    | ((with_reducible refine Ov.quo (by omega) (by omega) (by omega) (fun _ _ => ?_)); conv => whnf)
    | ((with_reducible refine And.intro (show drawOK _ _ _ _ = true by kernel_rfl) ?_); conv => whnf)
    | ((with_reducible refine And.intro zC ?_); conv => whnf)
    | ((with_reducible refine And.intro ?hb ?_); (case hb => exact bytes_bd (Nat.le_of_ble_eq_true rfl) (by omega)); (conv => whnf))
    | ((refine DApp.a rfl rfl rfl rfl rfl rfl ?hb ?_); (case hb => exact zB); (conv => whnf))
    | ((refine DApp.b rfl rfl rfl rfl rfl rfl rfl rfl ?hb ?ho ?_); (case hb => exact zB); (case ho => omega); (conv => whnf))
    | ((refine DApp.c rfl rfl rfl rfl rfl ?hb ?_); (case hb => exact zB); (conv => whnf))
    | ((refine DApp.d rfl rfl rfl rfl rfl rfl ?hb ?ho ?_); (case hb => exact zB); (case ho => omega); (conv => whnf))
    | ((with_reducible refine nil_no (by omega) ?_); (conv => whnf))
    | ((with_reducible refine nil_any ?_ (fun hn0 => ?_)) <;> (conv => whnf))
    
    | ((refine ways (fun hc => ?_) (fun hc => ?_)) <;> (try simp only [decide_eq_true_eq, decide_eq_false_iff_not, Bool.and_eq_true, Bool.or_eq_true, Bool.and_eq_false_iff, Bool.or_eq_false_iff, Bool.not_eq_true', Bool.not_eq_false', beq_iff_eq, bne_iff_ne, ne_eq, beq_eq_false_iff_ne, bne_eq_false_iff_eq, Bool.not_eq_true, Bool.not_eq_false] at hc) <;> (try (exfalso; omega)) <;> (conv => whnf))))
    · have hj : j < L.length := by omega
      have hta := take_at hj
      have hlm : L.getD (j : Int).toNat default ∈ L := by rw [Int.toNat_natCast, List.getD_eq_getElem?_getD, List.getElem?_eq_getElem hj]; exact List.getElem_mem hj
      obtain ⟨m1, m2, m3⟩ := hmem _ hlm
      generalize L.getD (j : Int).toNat default = l at hta hlm m1 m2 m3 ⊢
      refine Wp.loopP (ι := Nat) (fun i => i ≤ l.length) (fun i => ⟨⟨Tryz.f29.ntmps, 5⟩, 6, [(3, .sl 5 2 0 ((L.take j).flatten ++ l.take i).length), (14, .d (slOf 1 lstD L)), (15, .i .i64 L.length), (16, .i .i64 j), (20, .d (slOf 2 entD l)), (21, .i .i64 l.length), (22, .i .i64 i)],
        dirH g M nl f clk cnt ++ [(5, some (rowOf 86 2 entD ((L.take j).flatten ++ l.take i)))]⟩) (fun i => l.length - i) 0 (Nat.zero_le _) ?_ ?_
      · rw [List.take_zero, List.append_nil]
        (refine Le.by [0,1,2,3,4,5] rfl rfl rfl rfl ?_ ?_ <;> (conv => whnf) <;> (repeat' (first | exact trivial | exact ArgLe.rfl rfl | exact ArgLe.ptr rfl | exact lanes_arg | exact ArgLe.sl rfl | exact dir_arg (by assumption) | exact dir_argR (by assumption) (fun l hl => by rcases l with _ | _ | _ | _ | _ | l <;> first | rfl | omega) | exact ⟨rfl, rfl, rfl⟩ | exact ⟨rfl, Nat.le_of_ble_eq_true rfl⟩ | exact fun i hi => rfl | ((with_reducible refine And.intro ?_ ?_) <;> (conv => whnf)))))
      · rintro i h2
        have hlen : ((L.take j).flatten ++ l.take i).length ≤ 3300000 := by rw [List.length_append, List.length_take]; omega
        have hkl : i < l.length → (l.getD (i : Int).toNat default).key.length ≤ 16777216 := fun hi => by
          rw [Int.toNat_natCast, List.getD_eq_getElem?_getD, List.getElem?_eq_getElem hi]
          have := m2 _ (List.getElem_mem hi); exact Nat.le_trans this (by decide)
        (repeat' (first
    | with_reducible refine Wp.seq ?_
    | with_reducible refine Wp.block ?_
    | ((with_reducible first | refine Wp.region ?_ | refine Wp.drawL TC_mixed ?_ | refine Wp.cond ?_ | refine Wp.ret ?_ | refine Wp.skip ?_ | refine Wp.exit ?_ | refine Go.mk ?_ | apply Eff1.of); conv => whnf)
    | with_reducible exact rfl
    | ((with_reducible refine Ov.ok zO ?_); conv => whnf)
    | (with_reducible refine Ov.sh1 (by with_unfolding_all exact rfl) ?_)
    | ((with_reducible refine Ov.quo (by omega) (by omega) (by omega) (fun _ _ => ?_)); conv => whnf)
    | ((with_reducible refine And.intro (show drawOK _ _ _ _ = true by kernel_rfl) ?_); conv => whnf)
    | ((with_reducible refine And.intro zC ?_); conv => whnf)
    | ((with_reducible refine And.intro ?hb ?_); (case hb => exact bytes_bd (Nat.le_of_ble_eq_true rfl) (by omega)); (conv => whnf))
    | ((refine DApp.a rfl rfl rfl rfl rfl rfl ?hb ?_); (case hb => exact zB); (conv => whnf))
    | ((refine DApp.b rfl rfl rfl rfl rfl rfl rfl rfl ?hb ?ho ?_); (case hb => exact zB); (case ho => omega); (conv => whnf))
    | ((refine DApp.c rfl rfl rfl rfl rfl ?hb ?_); (case hb => exact zB); (conv => whnf))
    | ((refine DApp.d rfl rfl rfl rfl rfl rfl ?hb ?ho ?_); (case hb => exact zB); (case ho => omega); (conv => whnf))
    | ((with_reducible refine nil_no (by omega) ?_); (conv => whnf))
    | ((with_reducible refine nil_any ?_ (fun hn0 => ?_)) <;> (conv => whnf))
    | ((with_reducible refine DCall.funM (bytes_CloneD _ (hkl (by omega))) rfl rfl ?_); conv => whnf)
    | ((refine ways (fun hc => ?_) (fun hc => ?_)) <;> (try simp only [decide_eq_true_eq, decide_eq_false_iff_not, Bool.and_eq_true, Bool.or_eq_true, Bool.and_eq_false_iff, Bool.or_eq_false_iff, Bool.not_eq_true', Bool.not_eq_false', beq_iff_eq, bne_iff_ne, ne_eq, beq_eq_false_iff_ne, bne_eq_false_iff_eq, Bool.not_eq_true, Bool.not_eq_false] at hc) <;> (try (exfalso; omega)) <;> (conv => whnf))))
        · refine ⟨i + 1, by dsimp only; omega, by dsimp only; omega, ?_⟩
          dsimp only
          rw [take_at (by omega : i < l.length), ← List.append_assoc]
          generalize (L.take j).flatten ++ l.take i = Z at hlen ⊢
          (refine Le.by [0,1,2,3,4,15] rfl rfl rfl rfl ?_ ?_ <;> (conv => whnf) <;> (repeat' (first | exact trivial | exact ArgLe.rfl rfl | exact ArgLe.ptr rfl | exact lanes_arg | exact ArgLe.sl rfl | exact dir_arg (by assumption) | exact dir_argR (by assumption) (fun l hl => by rcases l with _ | _ | _ | _ | _ | l <;> first | rfl | omega) | exact ⟨rfl, rfl, rfl⟩ | exact ⟨rfl, Nat.le_of_ble_eq_true rfl⟩ | exact fun i hi => rfl | ((with_reducible refine And.intro ?_ ?_) <;> (conv => whnf)))))
          · rw [List.length_append]; exact ArgLe.sl rfl
          · simp
          · exact app_rowE _ _
        · obtain rfl : i = l.length := by omega
          refine ⟨j + 1, by dsimp only; omega, by dsimp only; omega, ?_⟩
          dsimp only
          rw [hta, List.take_length, List.flatten_append, show [l].flatten = l by simp]
          (refine Le.by [0,1,2,3,4,5] rfl rfl rfl rfl ?_ ?_ <;> (conv => whnf) <;> (repeat' (first | exact trivial | exact ArgLe.rfl rfl | exact ArgLe.ptr rfl | exact lanes_arg | exact ArgLe.sl rfl | exact dir_arg (by assumption) | exact dir_argR (by assumption) (fun l hl => by rcases l with _ | _ | _ | _ | _ | l <;> first | rfl | omega) | exact ⟨rfl, rfl, rfl⟩ | exact ⟨rfl, Nat.le_of_ble_eq_true rfl⟩ | exact fun i hi => rfl | ((with_reducible refine And.intro ?_ ?_) <;> (conv => whnf)))))
    · obtain rfl : j = L.length := by omega
      rw [List.take_length]
      (repeat' (first
    | with_reducible refine Wp.seq ?_
    | with_reducible refine Wp.block ?_
    | ((with_reducible first | refine Wp.region ?_ | refine Wp.drawL TC_mixed ?_ | refine Wp.cond ?_ | refine Wp.ret ?_ | refine Wp.skip ?_ | refine Wp.exit ?_ | refine Go.mk ?_ | apply Eff1.of); conv => whnf)
    | with_reducible exact rfl
    | ((with_reducible refine Ov.ok zO ?_); conv => whnf)
    | (with_reducible refine Ov.sh1 (by with_unfolding_all exact rfl) ?_)
    | ((with_reducible refine Ov.quo (by omega) (by omega) (by omega) (fun _ _ => ?_)); conv => whnf)
    | ((with_reducible refine And.intro (show drawOK _ _ _ _ = true by kernel_rfl) ?_); conv => whnf)
    | ((with_reducible refine And.intro zC ?_); conv => whnf)
    | ((with_reducible refine And.intro ?hb ?_); (case hb => exact bytes_bd (Nat.le_of_ble_eq_true rfl) (by omega)); (conv => whnf))
    | ((refine DApp.a rfl rfl rfl rfl rfl rfl ?hb ?_); (case hb => exact zB); (conv => whnf))
    | ((refine DApp.b rfl rfl rfl rfl rfl rfl rfl rfl ?hb ?ho ?_); (case hb => exact zB); (case ho => omega); (conv => whnf))
    | ((refine DApp.c rfl rfl rfl rfl rfl ?hb ?_); (case hb => exact zB); (conv => whnf))
    | ((refine DApp.d rfl rfl rfl rfl rfl rfl ?hb ?ho ?_); (case hb => exact zB); (case ho => omega); (conv => whnf))
    | ((with_reducible refine nil_no (by omega) ?_); (conv => whnf))
    | ((with_reducible refine nil_any ?_ (fun hn0 => ?_)) <;> (conv => whnf))
    | ((refine CallStop.fn (hSort) [5] rfl rfl rfl rfl rfl ?ha ?hh ?_); (case ha => exact zA); (case hh => exact zH); (conv => whnf))
    | ((refine DCall.fn (hSort) [5] [5] rfl rfl rfl rfl rfl ?ha ?hh ?hs ?_); (case ha => exact zA); (case hh => exact zH); (case hs => exact zK); (conv => whnf)) | ((refine DCall.new (hSort) [5] [5] rfl rfl rfl rfl rfl rfl ?ha ?hh ?hs ?_); (case ha => exact zA); (case hh => exact zH); (case hs => exact zK); (conv => whnf))
    | ((refine DCall.fn (hSort) [5] [] rfl rfl rfl rfl rfl ?ha ?hh ?hs ?_); (case ha => exact zA); (case hh => exact zH); (case hs => exact zK); (conv => whnf)) | ((refine DCall.new (hSort) [5] [] rfl rfl rfl rfl rfl rfl ?ha ?hh ?hs ?_); (case ha => exact zA); (case hh => exact zH); (case hs => exact zK); (conv => whnf))
    | ((with_reducible refine At.mk' 0 rfl ?_); conv => whnf)
    | ((refine ways (fun hc => ?_) (fun hc => ?_)) <;> (try simp only [decide_eq_true_eq, decide_eq_false_iff_not, Bool.and_eq_true, Bool.or_eq_true, Bool.and_eq_false_iff, Bool.or_eq_false_iff, Bool.not_eq_true', Bool.not_eq_false', beq_iff_eq, bne_iff_ne, ne_eq, beq_eq_false_iff_ne, bne_eq_false_iff_eq, Bool.not_eq_true, Bool.not_eq_false] at hc) <;> (try (exfalso; omega)) <;> (conv => whnf))))
      refine FinLe.sealB [0, 1, 2, 3, 4] rfl rfl rfl ?_ ?_
      · exact Seal.le (Seal.sl rfl rfl (by omega)) (SV.Le.sl' hpl.symm fun i hi => by simp only [Nat.zero_add])
      · (conv => whnf); (repeat' (first | exact zE | ((refine Seal.ptr rfl rfl ?_); (conv => whnf)) | ((refine Seal.fn ?_); (conv => whnf)) | ((refine Seal.agg ?_); (conv => whnf)) | ((refine Seal.tup ?_); (conv => whnf)) | ((refine Seal.iref ?_); (conv => whnf)) | ((refine And.intro ?_ ?_) <;> (conv => whnf))))
end Go.Proofs.YtbdclkjelhlfbaaGreat
