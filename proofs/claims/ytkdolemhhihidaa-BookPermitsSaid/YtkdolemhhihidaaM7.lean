/- Parts of the proof, one behind the other: Bk6, Bk7, Bk8, Bk9, Bk10, SlLibI64, SlLibCell. Lemmas and contracts of functions; no condition of its own. -/
import Derived.Test.YtkdolemhhihidaaM6
import Derived.Lib.BytesEntry
import Derived.Laws.Externs
import Derived.Test.YtkdolemhhihidaaRows
import Derived.WalkKit
import Derived.WalkSpells
import Derived.WalkLawsBesides
import Derived.IntWalk
import Derived.BigQuiet
import Derived.Deep.QuietTactic
import Derived.StillTailTactics
import Derived.Deep.RegionWith
import Derived.Deep.RegionHeld3
import Derived.Lib.Hide
set_option linter.unusedVariables false
set_option linter.unusedSimpArgs false
namespace Go.Proofs.Ytkdolemhhihidaa
open Go.RowKit
set_option maxRecDepth 100000

def identE (p : Int) (key : List Int) : Int := if p < 0 ∨ 32 ≤ p then 1 else if 255 < key.length then 2 else 0
def identL (p : Int) (key : List Int) : List Int := if identE p key = 0 then p :: key else []
theorem hash_Ident (p : Int) (key : List Int) : Pure TC 63 [.i .i64 p, .d (slOf 1 (encI .u8) key)] (.tup [.d (slOf 1 (encI .u8) (identL p key)), .i .i64 (identE p key)]) := by
  refine Pure.mk' Try.func63 rfl rfl (Nat.le_of_ble_eq_true rfl) ?_
  (repeat' (first
    | with_reducible refine Wp.seq ?_
    | with_reducible refine Wp.block ?_
    | ((with_reducible refine Wp.region ?_); conv => whnf)
    | ((with_reducible refine Wp.drawL TC_mixed ?_); conv => whnf)
    | ((with_reducible refine Wp.cond ?_); conv => whnf)
    | ((with_reducible refine Wp.ret ?_); conv => whnf)
    | ((with_reducible refine Wp.skip ?_); conv => whnf)
    | ((with_reducible refine Wp.exit ?_); conv => whnf)
    | ((with_reducible refine Go.mk ?_); conv => whnf)
    | ((with_reducible apply Eff1.of); conv => whnf)
    | with_reducible exact rfl
    | ((with_reducible refine Ov.ok (by first | exact IntWalk.i64_in _ (by omega) | exact IntWalk.u64_in _ (by omega) | exact IntWalk.u8_in _ (by omega) | exact IntWalk.u32_in _ (by omega) | exact IntWalk.i32_in _ (by omega) | exact IntWalk.u16_in _ (by omega)) ?_); conv => whnf)
    | (with_reducible refine Ov.sh1 (by with_unfolding_all exact rfl) ?_)
    | ((with_reducible refine Ov.quo (by omega) (by omega) (by omega) (fun _ _ => ?_)); conv => whnf)
    | ((with_reducible refine And.intro (show drawOK _ _ _ _ = true by kernel_rfl) ?_); conv => whnf)
    | ((with_reducible refine And.intro (by first | omega | exact Nat.le_of_ble_eq_true rfl) ?_); conv => whnf)
    | ((with_reducible refine And.intro ?hb ?_); (case hb => exact bytes_bd (Nat.le_of_ble_eq_true rfl) (by omega)); (conv => whnf))
    | ((refine DApp.a rfl rfl rfl rfl rfl rfl ?hb ?_); (case hb => first | exact bytes_bd (Nat.le_of_ble_eq_true rfl) (by omega) | omega); (conv => whnf))
    | ((refine DApp.b rfl rfl rfl rfl rfl rfl rfl rfl ?hb ?ho ?_); (case hb => first | exact bytes_bd (Nat.le_of_ble_eq_true rfl) (by omega) | omega); (case ho => omega); (conv => whnf))
    | ((refine DApp.c rfl rfl rfl rfl rfl ?hb ?_); (case hb => first | exact bytes_bd (Nat.le_of_ble_eq_true rfl) (by omega) | omega); (conv => whnf))
    | ((refine DApp.d rfl rfl rfl rfl rfl rfl ?hb ?ho ?_); (case hb => first | exact bytes_bd (Nat.le_of_ble_eq_true rfl) (by omega) | omega); (case ho => omega); (conv => whnf))
    | ((with_reducible refine nil_no (by omega) ?_); (conv => whnf))
    | ((with_reducible refine nil_any ?_ (fun hn0 => ?_)) <;> (conv => whnf))
    
    | ((refine ways (fun hc => ?_) (fun hc => ?_)) <;> (try simp only [decide_eq_true_eq, decide_eq_false_iff_not, Bool.and_eq_true, Bool.or_eq_true, Bool.and_eq_false_iff, Bool.or_eq_false_iff, Bool.not_eq_true', Bool.not_eq_false', beq_iff_eq, bne_iff_ne, ne_eq, beq_eq_false_iff_ne, bne_eq_false_iff_eq, Bool.not_eq_true, Bool.not_eq_false] at hc) <;> (try (exfalso; omega)) <;> (conv => whnf))))
  · have hE : identE p key = 1 := by rw [identE, if_pos (by omega)]
    rw [identL, hE]; exact .tup (.cons .nil (.cons (.rfl _) .nil))
  · have hE : identE p key = 1 := by rw [identE, if_pos (by omega)]
    rw [identL, hE]; exact .tup (.cons .nil (.cons (.rfl _) .nil))
  · have hE : identE p key = 2 := by rw [identE, if_neg (by omega), if_pos (by omega)]
    rw [identL, hE]; exact .tup (.cons .nil (.cons (.rfl _) .nil))
  · have hE : identE p key = 0 := by rw [identE, if_neg (by omega), if_neg (by omega)]
    rw [identL, hE, Nat.add_comm 1]
    refine .tup (.cons (SV.Le.sl fun i hi => ?_) (.cons (.rfl _) .nil))
    rcases i with _ | i
    · rfl
    · simp [catF]
def idleB (ps : List Pol) (c : Cel) (now : Int) : Bool := if (ps.getD c.pol.toNat default).kind = 2 then (c.held.length : Int) == 0 else decide (c.tat ≤ now)
@[reducible] def Cel.S (c : Cel) : SV := .agg [.i .i64 c.pol, .d (slOf 1 (encI .u8) c.key), .i .i64 c.tat, .d (slOf 1 (encI .i64) c.held)]
theorem book_Idle (ps : List Pol) (c : Cel) (now : Int) (h0 : 0 ≤ c.pol) (h1 : c.pol < ps.length) : Pure TC 36 [.d (slOf 4 Pol.D ps), c.S, .i .i64 now] (.b (idleB ps c now)) := by
  refine Pure.mk' Try.func36 rfl rfl (Nat.le_of_ble_eq_true rfl) ?_
  (repeat' (first
    | with_reducible refine Wp.seq ?_
    | with_reducible refine Wp.block ?_
    | ((with_reducible refine Wp.region ?_); conv => whnf)
    | ((with_reducible refine Wp.drawL TC_mixed ?_); conv => whnf)
    | ((with_reducible refine Wp.cond ?_); conv => whnf)
    | ((with_reducible refine Wp.ret ?_); conv => whnf)
    | ((with_reducible refine Wp.skip ?_); conv => whnf)
    | ((with_reducible refine Wp.exit ?_); conv => whnf)
    | ((with_reducible refine Go.mk ?_); conv => whnf)
    | ((with_reducible apply Eff1.of); conv => whnf)
    | with_reducible exact rfl
    | ((with_reducible refine Ov.ok (by first | exact IntWalk.i64_in _ (by omega) | exact IntWalk.u64_in _ (by omega) | exact IntWalk.u8_in _ (by omega) | exact IntWalk.u32_in _ (by omega) | exact IntWalk.i32_in _ (by omega) | exact IntWalk.u16_in _ (by omega)) ?_); conv => whnf)
    | (with_reducible refine Ov.sh1 (by with_unfolding_all exact rfl) ?_)
    | ((with_reducible refine Ov.quo (by omega) (by omega) (by omega) (fun _ _ => ?_)); conv => whnf)
    | ((with_reducible refine And.intro (show drawOK _ _ _ _ = true by kernel_rfl) ?_); conv => whnf)
    | ((with_reducible refine And.intro (by first | omega | exact Nat.le_of_ble_eq_true rfl) ?_); conv => whnf)
    | ((with_reducible refine And.intro ?hb ?_); (case hb => exact bytes_bd (Nat.le_of_ble_eq_true rfl) (by omega)); (conv => whnf))
    | ((refine DApp.a rfl rfl rfl rfl rfl rfl ?hb ?_); (case hb => first | exact bytes_bd (Nat.le_of_ble_eq_true rfl) (by omega) | omega); (conv => whnf))
    | ((refine DApp.b rfl rfl rfl rfl rfl rfl rfl rfl ?hb ?ho ?_); (case hb => first | exact bytes_bd (Nat.le_of_ble_eq_true rfl) (by omega) | omega); (case ho => omega); (conv => whnf))
    | ((refine DApp.c rfl rfl rfl rfl rfl ?hb ?_); (case hb => first | exact bytes_bd (Nat.le_of_ble_eq_true rfl) (by omega) | omega); (conv => whnf))
    | ((refine DApp.d rfl rfl rfl rfl rfl rfl ?hb ?ho ?_); (case hb => first | exact bytes_bd (Nat.le_of_ble_eq_true rfl) (by omega) | omega); (case ho => omega); (conv => whnf))
    | ((with_reducible refine nil_no (by omega) ?_); (conv => whnf))
    | ((with_reducible refine nil_any ?_ (fun hn0 => ?_)) <;> (conv => whnf))
    
    | ((refine ways (fun hc => ?_) (fun hc => ?_)) <;> (try simp only [decide_eq_true_eq, decide_eq_false_iff_not, Bool.and_eq_true, Bool.or_eq_true, Bool.and_eq_false_iff, Bool.or_eq_false_iff, Bool.not_eq_true', Bool.not_eq_false', beq_iff_eq, bne_iff_ne, ne_eq, beq_eq_false_iff_ne, bne_eq_false_iff_eq, Bool.not_eq_true, Bool.not_eq_false] at hc) <;> (try (exfalso; omega)) <;> (conv => whnf))))
  · exact .b (by rw [idleB, if_pos hc])
  · exact .b (by rw [idleB, if_neg hc])
structure Rpl where
  e : Int
  g : Bool
  left : Int
  wait : Int
  serial : Int
  now : Int
  deriving Inhabited
@[reducible] def Rpl.S (r : Rpl) : SV := .agg [.i .i64 r.e, .b r.g, .i .i64 r.left, .i .i64 r.wait, .i .i64 r.serial, .i .i64 r.now]
@[reducible] def Pol.S (p : Pol) : SV := .agg [.i .u8 p.kind, .i .i64 p.T, .i .i64 p.tau, .i .i64 p.permits]
def allowR (p : Pol) (c : Cel) (now n : Int) : Rpl := let a := decA p.T p.tau c.tat now n; ⟨0, a.g, a.left, a.wait, 0, now⟩
def allowC (p : Pol) (c : Cel) (now n : Int) : Cel := ⟨c.pol, c.key, (decA p.T p.tau c.tat now n).tat, c.held⟩
theorem book_Allow (p : Pol) (c : Cel) (now n : Int) : Pure TC 39 [p.S, c.S, .i .i64 now, .i .i64 n] (.tup [(allowR p c now n).S, (allowC p c now n).S]) := by
  refine Pure.mk' Try.func39 rfl rfl (Nat.le_of_ble_eq_true rfl) ?_
  (repeat' (first
    | with_reducible refine Wp.seq ?_
    | with_reducible refine Wp.block ?_
    | ((with_reducible refine Wp.region ?_); conv => whnf)
    | ((with_reducible refine Wp.drawL TC_mixed ?_); conv => whnf)
    | ((with_reducible refine Wp.cond ?_); conv => whnf)
    | ((with_reducible refine Wp.ret ?_); conv => whnf)
    | ((with_reducible refine Wp.skip ?_); conv => whnf)
    | ((with_reducible refine Wp.exit ?_); conv => whnf)
    | ((with_reducible refine Go.mk ?_); conv => whnf)
    | ((with_reducible apply Eff1.of); conv => whnf)
    | with_reducible exact rfl
    | ((with_reducible refine Ov.ok (by first | exact IntWalk.i64_in _ (by omega) | exact IntWalk.u64_in _ (by omega) | exact IntWalk.u8_in _ (by omega) | exact IntWalk.u32_in _ (by omega) | exact IntWalk.i32_in _ (by omega) | exact IntWalk.u16_in _ (by omega)) ?_); conv => whnf)
    | (with_reducible refine Ov.sh1 (by with_unfolding_all exact rfl) ?_)
    | ((with_reducible refine Ov.quo (by omega) (by omega) (by omega) (fun _ _ => ?_)); conv => whnf)
    | ((with_reducible refine And.intro (show drawOK _ _ _ _ = true by kernel_rfl) ?_); conv => whnf)
    | ((with_reducible refine And.intro (by first | omega | exact Nat.le_of_ble_eq_true rfl) ?_); conv => whnf)
    | ((with_reducible refine And.intro ?hb ?_); (case hb => exact bytes_bd (Nat.le_of_ble_eq_true rfl) (by omega)); (conv => whnf))
    | ((refine DApp.a rfl rfl rfl rfl rfl rfl ?hb ?_); (case hb => first | exact bytes_bd (Nat.le_of_ble_eq_true rfl) (by omega) | omega); (conv => whnf))
    | ((refine DApp.b rfl rfl rfl rfl rfl rfl rfl rfl ?hb ?ho ?_); (case hb => first | exact bytes_bd (Nat.le_of_ble_eq_true rfl) (by omega) | omega); (case ho => omega); (conv => whnf))
    | ((refine DApp.c rfl rfl rfl rfl rfl ?hb ?_); (case hb => first | exact bytes_bd (Nat.le_of_ble_eq_true rfl) (by omega) | omega); (conv => whnf))
    | ((refine DApp.d rfl rfl rfl rfl rfl rfl ?hb ?ho ?_); (case hb => first | exact bytes_bd (Nat.le_of_ble_eq_true rfl) (by omega) | omega); (case ho => omega); (conv => whnf))
    | ((with_reducible refine nil_no (by omega) ?_); (conv => whnf))
    | ((with_reducible refine nil_any ?_ (fun hn0 => ?_)) <;> (conv => whnf))
    | ((with_reducible refine CallStop.pure (gcra_Decide _ _ _ _ _) rfl rfl ?_); conv => whnf) | ((with_reducible refine DCall.pure (gcra_Decide _ _ _ _ _) rfl rfl ?_); conv => whnf)
    | ((refine ways (fun hc => ?_) (fun hc => ?_)) <;> (try simp only [decide_eq_true_eq, decide_eq_false_iff_not, Bool.and_eq_true, Bool.or_eq_true, Bool.and_eq_false_iff, Bool.or_eq_false_iff, Bool.not_eq_true', Bool.not_eq_false', beq_iff_eq, bne_iff_ne, ne_eq, beq_eq_false_iff_ne, bne_eq_false_iff_eq, Bool.not_eq_true, Bool.not_eq_false] at hc) <;> (try (exfalso; omega)) <;> (conv => whnf))))
  exact .of_eq rfl
def peekR (p : Pol) (c : Cel) (now : Int) : Rpl := if p.kind = 2 then ⟨0, false, p.permits - c.held.length, 0, 0, 0⟩ else ⟨0, false, if chkL p.T p.tau [c.tat, now] = 0 then leftI p.T p.tau c.tat now else 0, tkSub c.tat now, 0, now⟩
theorem book_Peek (p : Pol) (c : Cel) (now : Int) (h1 : p.kind = 2 → -4611686018427387904 ≤ p.permits ∧ p.permits ≤ 4611686018427387903) (h3 : c.held.length ≤ 4611686018427387903) : Pure TC 38 [p.S, c.S, .i .i64 now] (peekR p c now).S := by
  refine Pure.mk' Try.func38 rfl rfl (Nat.le_of_ble_eq_true rfl) ?_
  (repeat' (first
    | with_reducible refine Wp.seq ?_
    | with_reducible refine Wp.block ?_
    | ((with_reducible refine Wp.region ?_); conv => whnf)
    | ((with_reducible refine Wp.drawL TC_mixed ?_); conv => whnf)
    | ((with_reducible refine Wp.cond ?_); conv => whnf)
    | ((with_reducible refine Wp.ret ?_); conv => whnf)
    | ((with_reducible refine Wp.skip ?_); conv => whnf)
    | ((with_reducible refine Wp.exit ?_); conv => whnf)
    | ((with_reducible refine Go.mk ?_); conv => whnf)
    | ((with_reducible apply Eff1.of); conv => whnf)
    | with_reducible exact rfl
    | ((with_reducible refine Ov.ok (by first | exact IntWalk.i64_in _ (by omega) | exact IntWalk.u64_in _ (by omega) | exact IntWalk.u8_in _ (by omega) | exact IntWalk.u32_in _ (by omega) | exact IntWalk.i32_in _ (by omega) | exact IntWalk.u16_in _ (by omega)) ?_); conv => whnf)
    | (with_reducible refine Ov.sh1 (by with_unfolding_all exact rfl) ?_)
    | ((with_reducible refine Ov.quo (by omega) (by omega) (by omega) (fun _ _ => ?_)); conv => whnf)
    | ((with_reducible refine And.intro (show drawOK _ _ _ _ = true by kernel_rfl) ?_); conv => whnf)
    | ((with_reducible refine And.intro (by first | omega | exact Nat.le_of_ble_eq_true rfl) ?_); conv => whnf)
    | ((with_reducible refine And.intro ?hb ?_); (case hb => exact bytes_bd (Nat.le_of_ble_eq_true rfl) (by omega)); (conv => whnf))
    | ((refine DApp.a rfl rfl rfl rfl rfl rfl ?hb ?_); (case hb => first | exact bytes_bd (Nat.le_of_ble_eq_true rfl) (by omega) | omega); (conv => whnf))
    | ((refine DApp.b rfl rfl rfl rfl rfl rfl rfl rfl ?hb ?ho ?_); (case hb => first | exact bytes_bd (Nat.le_of_ble_eq_true rfl) (by omega) | omega); (case ho => omega); (conv => whnf))
    | ((refine DApp.c rfl rfl rfl rfl rfl ?hb ?_); (case hb => first | exact bytes_bd (Nat.le_of_ble_eq_true rfl) (by omega) | omega); (conv => whnf))
    | ((refine DApp.d rfl rfl rfl rfl rfl rfl ?hb ?ho ?_); (case hb => first | exact bytes_bd (Nat.le_of_ble_eq_true rfl) (by omega) | omega); (case ho => omega); (conv => whnf))
    | ((with_reducible refine nil_no (by omega) ?_); (conv => whnf))
    | ((with_reducible refine nil_any ?_ (fun hn0 => ?_)) <;> (conv => whnf))
    | ((with_reducible refine CallStop.pure (gcra_Left _ _ _ _) rfl rfl ?_); conv => whnf) | ((with_reducible refine DCall.pure (gcra_Left _ _ _ _) rfl rfl ?_); conv => whnf)
    | ((with_reducible refine CallStop.pure (tick_Sub _ _) rfl rfl ?_); conv => whnf) | ((with_reducible refine DCall.pure (tick_Sub _ _) rfl rfl ?_); conv => whnf)
    | ((refine ways (fun hc => ?_) (fun hc => ?_)) <;> (try simp only [decide_eq_true_eq, decide_eq_false_iff_not, Bool.and_eq_true, Bool.or_eq_true, Bool.and_eq_false_iff, Bool.or_eq_false_iff, Bool.not_eq_true', Bool.not_eq_false', beq_iff_eq, bne_iff_ne, ne_eq, beq_eq_false_iff_ne, bne_eq_false_iff_eq, Bool.not_eq_true, Bool.not_eq_false] at hc) <;> (try (exfalso; omega)) <;> (conv => whnf))))
  · exact .of_eq (by rw [peekR, if_pos hc])
  · exact .of_eq (by rw [peekR, if_neg hc])
end Go.Proofs.Ytkdolemhhihidaa

namespace Go.Proofs.Ytkdolemhhihidaa
open Go.RowKit
set_option maxRecDepth 100000

def IsB (xs : List Int) : Prop := ∀ x ∈ xs, 0 ≤ x ∧ x ≤ 255
theorem IsB.cons {x : Int} {xs : List Int} (h : IsB (x :: xs)) : (0 ≤ x ∧ x ≤ 255) ∧ IsB xs := ⟨h x (by simp), fun y hy => h y (by simp [hy])⟩
def cmpI : List Int → List Int → Int
  | [], [] => 0
  | [], _ :: _ => -1
  | _ :: _, [] => 1
  | a :: r, b :: s => if a < b then -1 else if b < a then 1 else cmpI r s
theorem cmpI_bytes : ∀ (a b : List Int), IsB a → IsB b → Lib.compareBytes (Lib.bytesOf a) (Lib.bytesOf b) = cmpI a b
  | [], [], _, _ => rfl
  | [], _ :: _, _, _ => rfl
  | _ :: _, [], _, _ => rfl
  | x :: a, y :: b, ha, hb => by
    obtain ⟨hx, ha'⟩ := ha.cons
    obtain ⟨hy, hb'⟩ := hb.cons
    have ih := cmpI_bytes a b ha' hb'
    have e1 : (x.toNat.toUInt8 < y.toNat.toUInt8) ↔ x < y := by
      rw [UInt8.lt_iff_toNat_lt]; simp only [Nat.toUInt8, UInt8.toNat_ofNat']; omega
    have e2 : (y.toNat.toUInt8 < x.toNat.toUInt8) ↔ y < x := by
      rw [UInt8.lt_iff_toNat_lt]; simp only [Nat.toUInt8, UInt8.toNat_ofNat']; omega
    show Lib.compareBytes (x.toNat.toUInt8 :: Lib.bytesOf a) (y.toNat.toUInt8 :: Lib.bytesOf b) = _
    simp only [Lib.compareBytes, cmpI, e1, e2, ih]
theorem run_bytesOf {P : Program} {Im : Nat → Prop} {w : World} {v : Value} {xs : List Int} (h : RD w Im (slOf 1 (encI .u8) xs) v) : (∃ a cap, v = .slice a xs.length cap) ∧ (Extern.Bytes.bytesOf v).run P w = .ok ⟨(Lib.bytesOf xs).toArray⟩ w := by
  cases h with
  | sl _ _ _ a cap g hc hm hl ha hg =>
    refine ⟨⟨a, cap, rfl⟩, ?_⟩
    cases a with
    | none =>
      cases xs with
      | nil => simp [Extern.Bytes.bytesOf, Lib.bytesOf]; rfl
      | cons x r => obtain ⟨b, o, e, _⟩ := ha (by simp); cases e
    | some ad =>
      have := Lib.run_loadBytesX (P := P) w xs ad .empty (fun j x hj => by
        have hjl := (List.getElem?_eq_some_iff.1 hj).1
        obtain ⟨b, o, e, _, hcell⟩ := ha (by omega)
        cases e
        have h1 := hcell j 0 hjl (by omega)
        have h2 := hg j 0 hjl (by simp [encI])
        have h3 : (encI .u8 (xs.getD j default))[0]'(by simp [encI]) = .val (.int .u8 x) := by
          simp [encI, List.getD, hj]
        rw [h3] at h2
        have h4 : g j 0 = .int .u8 x := by generalize g j 0 = y at h2; cases h2; rfl
        rw [h4] at h1
        rw [Addr.add_lit]
        simpa using h1)
      simp only [Extern.Bytes.bytesOf, this]
      simp
set_option maxHeartbeats 400000 in
set_option maxRecDepth 100000 in
theorem bytes_Compare (a b : List Int) (ba : IsB a) (bb : IsB b) : Pure TC 77 [.d (slOf 1 (encI .u8) a), .d (slOf 1 (encI .u8) b)] (.i .i64 (cmpI a b)) := by
  refine ⟨.mk Try.func77 rfl rfl, fun E w vs hIm hsz hargs => ?_⟩
  obtain ⟨va, vb, rfl⟩ : ∃ va vb, vs = #[va, vb] := ⟨vs[0]'(by simp at hsz; omega), vs[1]'(by simp at hsz; omega), by
    apply Array.ext (by simpa using hsz)
    intro i h1 h2
    have : i = 0 ∨ i = 1 := by simp at h2; omega
    rcases this with rfl | rfl <;> rfl⟩
  have ha : RD w E.Im (slOf 1 (encI .u8) a) va := by
    have := hargs 0 (by simp)
    cases this with | d _ _ h => exact h
  have hb : RD w E.Im (slOf 1 (encI .u8) b) vb := by
    have := hargs 1 (by simp)
    cases this with | d _ _ h => exact h
  obtain ⟨⟨a1, c1, rfl⟩, h1⟩ := run_bytesOf (P := Try.prog) ha
  obtain ⟨⟨a2, c2, rfl⟩, h2⟩ := run_bytesOf (P := Try.prog) hb
  have hr : (callFunc 84 #[.slice a1 a.length c1, .slice a2 b.length c2]).run Try.prog w = .ok (.value (.int .i64 (cmpI a b))) w := by
    rw [run_callFunc_extern Try.func84 (by kernel_rfl) (by kernel_rfl) (by kernel_rfl) (e := Extern.BytealgCompare.compare) (by kernel_rfl)]
    have h3 : (Extern.BytealgCompare.compare #[.slice a1 a.length c1, .slice a2 b.length c2]).run Try.prog w = .ok (.int .i64 (cmpI a b)) w := by
      change Sem.run Try.prog (do pure (goInt (Extern.BytealgCompare.cmp (← Extern.Bytes.bytesOf (.slice a1 a.length c1)) (← Extern.Bytes.bytesOf (.slice a2 b.length c2))))) w = _
      simp only [Sem.run_bind, h1, h2, Result.andThen_ok, Sem.run_pure, Lib.cmp_eq]
      rw [cmpI_bytes a b ba bb]
      rfl
    rw [h3]; rfl
  have hc : Calls Try.prog 77 #[.slice a1 a.length c1, .slice a2 b.length c2] w fun e w' => e = .returned (.int .i64 (cmpI a b)) ∧ w = w' := by
    clear ha hb ba bb h1 h2 hargs hIm hsz
    go_enter Try.func77, Try.ntmps77
    go_wp2_with (rw [hr])
    go_ret
    exact ⟨rfl, rfl⟩
  refine hc.mono ?_
  rintro e w' ⟨rfl, rfl⟩
  exact ⟨_, rfl, Kp.refl _, .d _ _ (.val _ rfl)⟩
theorem hash_Order (a b : List Int) (ba : IsB a) (bb : IsB b) : Pure TC 64 [.d (slOf 1 (encI .u8) a), .d (slOf 1 (encI .u8) b)] (.i .i64 (cmpI a b)) := by
  refine Pure.mk' Try.func64 rfl rfl (Nat.le_of_ble_eq_true rfl) ?_
  (repeat' (first
    | with_reducible refine Wp.seq ?_
    | with_reducible refine Wp.block ?_
    | ((with_reducible refine Wp.region ?_); conv => whnf)
    | ((with_reducible refine Wp.drawL TC_mixed ?_); conv => whnf)
    | ((with_reducible refine Wp.cond ?_); conv => whnf)
    | ((with_reducible refine Wp.ret ?_); conv => whnf)
    | ((with_reducible refine Wp.skip ?_); conv => whnf)
    | ((with_reducible refine Wp.exit ?_); conv => whnf)
    | ((with_reducible refine Go.mk ?_); conv => whnf)
    | ((with_reducible apply Eff1.of); conv => whnf)
    | with_reducible exact rfl
    | ((with_reducible refine Ov.ok (by first | exact IntWalk.i64_in _ (by omega) | exact IntWalk.u64_in _ (by omega) | exact IntWalk.u8_in _ (by omega) | exact IntWalk.u32_in _ (by omega) | exact IntWalk.i32_in _ (by omega) | exact IntWalk.u16_in _ (by omega)) ?_); conv => whnf)
    | (with_reducible refine Ov.sh1 (by with_unfolding_all exact rfl) ?_)
    | ((with_reducible refine Ov.quo (by omega) (by omega) (by omega) (fun _ _ => ?_)); conv => whnf)
    | ((with_reducible refine And.intro (show drawOK _ _ _ _ = true by kernel_rfl) ?_); conv => whnf)
    | ((with_reducible refine And.intro (by first | omega | exact Nat.le_of_ble_eq_true rfl) ?_); conv => whnf)
    | ((with_reducible refine And.intro ?hb ?_); (case hb => exact bytes_bd (Nat.le_of_ble_eq_true rfl) (by omega)); (conv => whnf))
    | ((refine DApp.a rfl rfl rfl rfl rfl rfl ?hb ?_); (case hb => first | exact bytes_bd (Nat.le_of_ble_eq_true rfl) (by omega) | omega); (conv => whnf))
    | ((refine DApp.b rfl rfl rfl rfl rfl rfl rfl rfl ?hb ?ho ?_); (case hb => first | exact bytes_bd (Nat.le_of_ble_eq_true rfl) (by omega) | omega); (case ho => omega); (conv => whnf))
    | ((refine DApp.c rfl rfl rfl rfl rfl ?hb ?_); (case hb => first | exact bytes_bd (Nat.le_of_ble_eq_true rfl) (by omega) | omega); (conv => whnf))
    | ((refine DApp.d rfl rfl rfl rfl rfl rfl ?hb ?ho ?_); (case hb => first | exact bytes_bd (Nat.le_of_ble_eq_true rfl) (by omega) | omega); (case ho => omega); (conv => whnf))
    | ((with_reducible refine nil_no (by omega) ?_); (conv => whnf))
    | ((with_reducible refine nil_any ?_ (fun hn0 => ?_)) <;> (conv => whnf))
    | ((with_reducible refine CallStop.pure (bytes_Compare a b ba bb) rfl rfl ?_); conv => whnf) | ((with_reducible refine DCall.pure (bytes_Compare a b ba bb) rfl rfl ?_); conv => whnf)
    | ((refine ways (fun hc => ?_) (fun hc => ?_)) <;> (try simp only [decide_eq_true_eq, decide_eq_false_iff_not, Bool.and_eq_true, Bool.or_eq_true, Bool.and_eq_false_iff, Bool.or_eq_false_iff, Bool.not_eq_true', Bool.not_eq_false', beq_iff_eq, bne_iff_ne, ne_eq, beq_eq_false_iff_ne, bne_eq_false_iff_eq, Bool.not_eq_true, Bool.not_eq_false] at hc) <;> (try (exfalso; omega)) <;> (conv => whnf))))
  exact .i rfl
theorem identL_B {p : Int} {key : List Int} (h : IsB key) : IsB (identL p key) := by
  by_cases h0 : identE p key = 0
  · rw [identL, if_pos h0]
    unfold identE at h0
    intro x hx
    rcases List.mem_cons.1 hx with rfl | hx
    · split at h0 <;> omega
    · exact h x hx
  · rw [identL, if_neg h0]; intro x hx; simp at hx
def ordC (a b : Cel) : Int := cmpI (identL a.pol a.key) (identL b.pol b.key)
theorem book_Order (a b : Cel) (ha : IsB a.key) (hb : IsB b.key) : Pure TC 51 [a.S, b.S] (.i .i64 (ordC a b)) := by
  refine Pure.mk' Try.func51 rfl rfl (Nat.le_of_ble_eq_true rfl) ?_
  (repeat' (first
    | with_reducible refine Wp.seq ?_
    | with_reducible refine Wp.block ?_
    | ((with_reducible refine Wp.region ?_); conv => whnf)
    | ((with_reducible refine Wp.drawL TC_mixed ?_); conv => whnf)
    | ((with_reducible refine Wp.cond ?_); conv => whnf)
    | ((with_reducible refine Wp.ret ?_); conv => whnf)
    | ((with_reducible refine Wp.skip ?_); conv => whnf)
    | ((with_reducible refine Wp.exit ?_); conv => whnf)
    | ((with_reducible refine Go.mk ?_); conv => whnf)
    | ((with_reducible apply Eff1.of); conv => whnf)
    | with_reducible exact rfl
    | ((with_reducible refine Ov.ok (by first | exact IntWalk.i64_in _ (by omega) | exact IntWalk.u64_in _ (by omega) | exact IntWalk.u8_in _ (by omega) | exact IntWalk.u32_in _ (by omega) | exact IntWalk.i32_in _ (by omega) | exact IntWalk.u16_in _ (by omega)) ?_); conv => whnf)
    | (with_reducible refine Ov.sh1 (by with_unfolding_all exact rfl) ?_)
    | ((with_reducible refine Ov.quo (by omega) (by omega) (by omega) (fun _ _ => ?_)); conv => whnf)
    | ((with_reducible refine And.intro (show drawOK _ _ _ _ = true by kernel_rfl) ?_); conv => whnf)
    | ((with_reducible refine And.intro (by first | omega | exact Nat.le_of_ble_eq_true rfl) ?_); conv => whnf)
    | ((with_reducible refine And.intro ?hb ?_); (case hb => exact bytes_bd (Nat.le_of_ble_eq_true rfl) (by omega)); (conv => whnf))
    | ((refine DApp.a rfl rfl rfl rfl rfl rfl ?hb ?_); (case hb => first | exact bytes_bd (Nat.le_of_ble_eq_true rfl) (by omega) | omega); (conv => whnf))
    | ((refine DApp.b rfl rfl rfl rfl rfl rfl rfl rfl ?hb ?ho ?_); (case hb => first | exact bytes_bd (Nat.le_of_ble_eq_true rfl) (by omega) | omega); (case ho => omega); (conv => whnf))
    | ((refine DApp.c rfl rfl rfl rfl rfl ?hb ?_); (case hb => first | exact bytes_bd (Nat.le_of_ble_eq_true rfl) (by omega) | omega); (conv => whnf))
    | ((refine DApp.d rfl rfl rfl rfl rfl rfl ?hb ?ho ?_); (case hb => first | exact bytes_bd (Nat.le_of_ble_eq_true rfl) (by omega) | omega); (case ho => omega); (conv => whnf))
    | ((with_reducible refine nil_no (by omega) ?_); (conv => whnf))
    | ((with_reducible refine nil_any ?_ (fun hn0 => ?_)) <;> (conv => whnf))
    | ((with_reducible refine CallStop.pure (hash_Ident _ _) rfl rfl ?_); conv => whnf) | ((with_reducible refine DCall.pure (hash_Ident _ _) rfl rfl ?_); conv => whnf)
    | ((with_reducible refine CallStop.pure (hash_Order _ _ (identL_B ha) (identL_B hb)) rfl rfl ?_); conv => whnf) | ((with_reducible refine DCall.pure (hash_Order _ _ (identL_B ha) (identL_B hb)) rfl rfl ?_); conv => whnf)
    | ((refine ways (fun hc => ?_) (fun hc => ?_)) <;> (try simp only [decide_eq_true_eq, decide_eq_false_iff_not, Bool.and_eq_true, Bool.or_eq_true, Bool.and_eq_false_iff, Bool.or_eq_false_iff, Bool.not_eq_true', Bool.not_eq_false', beq_iff_eq, bne_iff_ne, ne_eq, beq_eq_false_iff_ne, bne_eq_false_iff_eq, Bool.not_eq_true, Bool.not_eq_false] at hc) <;> (try (exfalso; omega)) <;> (conv => whnf))))
  exact .i rfl
def posC (xs : List Cel) (t : Cel) : Nat := bs (fun k => decide (ordC (xs.getD k default) t < 0)) xs.length
def hasC (xs : List Cel) (t : Cel) : Bool := decide (posC xs t < xs.length) && decide (ordC (xs.getD (posC xs t) default) t = 0)
theorem search_cel (xs : List Cel) (t : Cel) (hlen : xs.length ≤ 4611686018427387903) (hx : ∀ k, IsB (xs.getD k default).key) (ht : IsB t.key) :
    Fun TC 50 1 [.sl 0 4 0 xs.length, t.S, .d (.fn (.func 51) [])] [(0, some (rowOf 73 4 Cel.D xs))] 1 (.tup [.i .i64 (posC xs t), .b (hasC xs t)]) [(0, some (rowOf 73 4 Cel.D xs))] := by
  refine Fun.mk' Try.func50 rfl rfl (Nat.le_of_ble_eq_true rfl) (by decide) ?_
  (repeat' (first
    | with_reducible refine Wp.seq ?_
    | with_reducible refine Wp.block ?_
    | ((with_reducible refine Wp.region ?_); conv => whnf)
    | ((with_reducible refine Wp.drawL TC_mixed ?_); conv => whnf)
    | ((with_reducible refine Wp.cond ?_); conv => whnf)
    | ((with_reducible refine Wp.ret ?_); conv => whnf)
    | ((with_reducible refine Wp.skip ?_); conv => whnf)
    | ((with_reducible refine Wp.exit ?_); conv => whnf)
    | ((with_reducible refine Go.mk ?_); conv => whnf)
    | ((with_reducible apply Eff1.of); conv => whnf)
    | with_reducible exact rfl
    | ((with_reducible refine Ov.ok (by first | exact IntWalk.i64_in _ (by omega) | exact IntWalk.u64_in _ (by omega) | exact IntWalk.u8_in _ (by omega) | exact IntWalk.u32_in _ (by omega) | exact IntWalk.i32_in _ (by omega) | exact IntWalk.u16_in _ (by omega)) ?_); conv => whnf)
    | (with_reducible refine Ov.sh1 (by with_unfolding_all exact rfl) ?_)
    | ((with_reducible refine Ov.quo (by omega) (by omega) (by omega) (fun _ _ => ?_)); conv => whnf)
    | ((with_reducible refine And.intro (show drawOK _ _ _ _ = true by kernel_rfl) ?_); conv => whnf)
    | ((with_reducible refine And.intro (by first | omega | exact Nat.le_of_ble_eq_true rfl) ?_); conv => whnf)
    | ((with_reducible refine And.intro ?hb ?_); (case hb => exact bytes_bd (Nat.le_of_ble_eq_true rfl) (by omega)); (conv => whnf))
    | ((refine DApp.a rfl rfl rfl rfl rfl rfl ?hb ?_); (case hb => first | exact bytes_bd (Nat.le_of_ble_eq_true rfl) (by omega) | omega); (conv => whnf))
    | ((refine DApp.b rfl rfl rfl rfl rfl rfl rfl rfl ?hb ?ho ?_); (case hb => first | exact bytes_bd (Nat.le_of_ble_eq_true rfl) (by omega) | omega); (case ho => omega); (conv => whnf))
    | ((refine DApp.c rfl rfl rfl rfl rfl ?hb ?_); (case hb => first | exact bytes_bd (Nat.le_of_ble_eq_true rfl) (by omega) | omega); (conv => whnf))
    | ((refine DApp.d rfl rfl rfl rfl rfl rfl ?hb ?ho ?_); (case hb => first | exact bytes_bd (Nat.le_of_ble_eq_true rfl) (by omega) | omega); (case ho => omega); (conv => whnf))
    | ((with_reducible refine nil_no (by omega) ?_); (conv => whnf))
    | ((with_reducible refine nil_any ?_ (fun hn0 => ?_)) <;> (conv => whnf))
    
    | ((refine ways (fun hc => ?_) (fun hc => ?_)) <;> (try simp only [decide_eq_true_eq, decide_eq_false_iff_not, Bool.and_eq_true, Bool.or_eq_true, Bool.and_eq_false_iff, Bool.or_eq_false_iff, Bool.not_eq_true', Bool.not_eq_false', beq_iff_eq, bne_iff_ne, ne_eq, beq_eq_false_iff_ne, bne_eq_false_iff_eq, Bool.not_eq_true, Bool.not_eq_false] at hc) <;> (try (exfalso; omega)) <;> (conv => whnf))))
  refine Wp.loopP (ι := Nat × Nat × Nat) (fun k => k.1 ≤ k.2.1 ∧ k.2.1 ≤ xs.length ∧ k.2.1 - k.1 < k.2.2 ∧ bsF (fun k => decide (ordC (xs.getD k default) t < 0)) k.2.2 k.1 k.2.1 = posC xs t) (fun k => ⟨⟨Try.f50.ntmps, 1⟩, 2, [(0, .sl 0 4 0 xs.length), (2, .d (.fn (.func 51) [])), (4, .ptr 1 0), (8, .i .i64 xs.length), (9, .i .i64 k.1), (10, .i .i64 k.2.1)], [(0, some (rowOf 73 4 Cel.D xs)), (1, some (.cells [.i .i64 t.pol, .d (slOf 1 (encI .u8) t.key), .i .i64 t.tat, .d (slOf 1 (encI .i64) t.held)]))]⟩) (fun k => k.2.1 - k.1) (0, xs.length, xs.length + 1) ⟨by simp, by simp, by simp, rfl⟩ ?_ ?_
  · (refine Le.by [0,1] rfl rfl rfl rfl ?_ ?_ <;> (conv => whnf) <;> (repeat' (first | exact trivial | exact ArgLe.rfl rfl | exact ArgLe.ptr rfl | exact ArgLe.sl rfl | ((with_reducible refine ArgLe.fn ?_); (conv => whnf)) | exact ⟨rfl, rfl, rfl⟩ | exact fun i hi => rfl | ((with_reducible refine And.intro ?_ ?_) <;> (conv => whnf)))))
  · rintro ⟨i, j, q⟩ ⟨h1, h2, h3, h4⟩
    dsimp only at h1 h2 h3 h4 ⊢
    (repeat' (first
    | with_reducible refine Wp.seq ?_
    | with_reducible refine Wp.block ?_
    | ((with_reducible refine Wp.region ?_); conv => whnf)
    | ((with_reducible refine Wp.drawL TC_mixed ?_); conv => whnf)
    | ((with_reducible refine Wp.cond ?_); conv => whnf)
    | ((with_reducible refine Wp.ret ?_); conv => whnf)
    | ((with_reducible refine Wp.skip ?_); conv => whnf)
    | ((with_reducible refine Wp.exit ?_); conv => whnf)
    | ((with_reducible refine Go.mk ?_); conv => whnf)
    | ((with_reducible apply Eff1.of); conv => whnf)
    | with_reducible exact rfl
    | ((with_reducible refine Ov.ok (by first | exact IntWalk.i64_in _ (by omega) | exact IntWalk.u64_in _ (by omega) | exact IntWalk.u8_in _ (by omega) | exact IntWalk.u32_in _ (by omega) | exact IntWalk.i32_in _ (by omega) | exact IntWalk.u16_in _ (by omega)) ?_); conv => whnf)
    | (with_reducible refine Ov.sh1 (by with_unfolding_all exact rfl) ?_)
    | ((with_reducible refine Ov.quo (by omega) (by omega) (by omega) (fun _ _ => ?_)); conv => whnf)
    | ((with_reducible refine And.intro (show drawOK _ _ _ _ = true by kernel_rfl) ?_); conv => whnf)
    | ((with_reducible refine And.intro (by first | omega | exact Nat.le_of_ble_eq_true rfl) ?_); conv => whnf)
    | ((with_reducible refine And.intro ?hb ?_); (case hb => exact bytes_bd (Nat.le_of_ble_eq_true rfl) (by omega)); (conv => whnf))
    | ((refine DApp.a rfl rfl rfl rfl rfl rfl ?hb ?_); (case hb => first | exact bytes_bd (Nat.le_of_ble_eq_true rfl) (by omega) | omega); (conv => whnf))
    | ((refine DApp.b rfl rfl rfl rfl rfl rfl rfl rfl ?hb ?ho ?_); (case hb => first | exact bytes_bd (Nat.le_of_ble_eq_true rfl) (by omega) | omega); (case ho => omega); (conv => whnf))
    | ((refine DApp.c rfl rfl rfl rfl rfl ?hb ?_); (case hb => first | exact bytes_bd (Nat.le_of_ble_eq_true rfl) (by omega) | omega); (conv => whnf))
    | ((refine DApp.d rfl rfl rfl rfl rfl rfl ?hb ?ho ?_); (case hb => first | exact bytes_bd (Nat.le_of_ble_eq_true rfl) (by omega) | omega); (case ho => omega); (conv => whnf))
    | ((with_reducible refine nil_no (by omega) ?_); (conv => whnf))
    | ((with_reducible refine nil_any ?_ (fun hn0 => ?_)) <;> (conv => whnf))
    | ((with_reducible refine CallStop.pure (book_Order (xs.getD _ default) t (hx _) ht) rfl rfl ?_); conv => whnf) | ((with_reducible refine DCall.pure (book_Order (xs.getD _ default) t (hx _) ht) rfl rfl ?_); conv => whnf)
    | ((refine ways (fun hc => ?_) (fun hc => ?_)) <;> (try simp only [decide_eq_true_eq, decide_eq_false_iff_not, Bool.and_eq_true, Bool.or_eq_true, Bool.and_eq_false_iff, Bool.or_eq_false_iff, Bool.not_eq_true', Bool.not_eq_false', beq_iff_eq, bne_iff_ne, ne_eq, beq_eq_false_iff_ne, bne_eq_false_iff_eq, Bool.not_eq_true, Bool.not_eq_false] at hc) <;> (try (exfalso; omega)) <;> (conv => whnf))))
    · rw [show 0 + (((i : Int) + j) / 2).toNat = (i + j) / 2 by omega] at hc
      have hh : decide (ordC (xs.getD ((i + j) / 2) default) t < 0) = true := by simpa using hc
      refine ⟨((i + j) / 2 + 1, j, q - 1), ⟨by dsimp only; omega, h2, by dsimp only; omega, ?_⟩, by dsimp only; omega, ?_⟩
      · rw [← h4]
        obtain ⟨q, rfl⟩ : ∃ r, q = r + 1 := ⟨q - 1, by omega⟩
        rw [bsF, if_pos (by omega), if_pos hh]; rfl
      · (refine Le.by [0,1] rfl rfl rfl rfl ?_ ?_ <;> (conv => whnf) <;> (repeat' (first | exact trivial | exact ArgLe.rfl rfl | exact ArgLe.ptr rfl | exact ArgLe.sl rfl | ((with_reducible refine ArgLe.fn ?_); (conv => whnf)) | exact ⟨rfl, rfl, rfl⟩ | exact fun i hi => rfl | ((with_reducible refine And.intro ?_ ?_) <;> (conv => whnf)))))
    · rw [show 0 + (((i : Int) + j) / 2).toNat = (i + j) / 2 by omega] at hc
      have hh : ¬ decide (ordC (xs.getD ((i + j) / 2) default) t < 0) = true := by simpa using hc
      refine ⟨(i, (i + j) / 2, q - 1), ⟨by dsimp only; omega, by dsimp only; omega, by dsimp only; omega, ?_⟩, by dsimp only; omega, ?_⟩
      · rw [← h4]
        obtain ⟨q, rfl⟩ : ∃ r, q = r + 1 := ⟨q - 1, by omega⟩
        rw [bsF, if_pos (by omega), if_neg hh]; rfl
      · (refine Le.by [0,1] rfl rfl rfl rfl ?_ ?_ <;> (conv => whnf) <;> (repeat' (first | exact trivial | exact ArgLe.rfl rfl | exact ArgLe.ptr rfl | exact ArgLe.sl rfl | ((with_reducible refine ArgLe.fn ?_); (conv => whnf)) | exact ⟨rfl, rfl, rfl⟩ | exact fun i hi => rfl | ((with_reducible refine And.intro ?_ ?_) <;> (conv => whnf)))))
    all_goals rw [bsF_end (by omega)] at h4
    all_goals subst h4
    all_goals refine FinLe.of [0] rfl (fun i hi => by have : i = 0 := (by omega); subst this; rfl) rfl ?_ ⟨⟨⟨rfl, rfl, rfl⟩, fun i hi => rfl⟩, trivial⟩
    all_goals (conv => whnf)
    · rw [show 0 + ((posC xs t : Nat) : Int).toNat = posC xs t by omega]
      exact .of_eq (by rw [show hasC xs t = (ordC (xs.getD (posC xs t) default) t == 0) by
        unfold hasC; rw [decide_eq_true (by omega), Bool.true_and]; rfl])
    · exact .of_eq (by rw [show hasC xs t = false by unfold hasC; rw [decide_eq_false (by omega), Bool.false_and]])
end Go.Proofs.Ytkdolemhhihidaa

namespace Go.Proofs.Ytkdolemhhihidaa
open Go.RowKit
set_option maxRecDepth 100000

def newC (pol : Int) (key : List Int) : Cel := ⟨pol, key, 0, []⟩
def findC (xs : List Cel) (pol : Int) (key : List Int) : Cel := if hasC xs (newC pol key) = true then xs.getD (posC xs (newC pol key)) default else newC pol key
theorem hasC_t (xs : List Cel) (t : Cel) : hasC xs t = true ↔ posC xs t < xs.length ∧ ordC (xs.getD (posC xs t) default) t = 0 := by simp [hasC]
theorem hasC_f (xs : List Cel) (t : Cel) : hasC xs t = false ↔ ¬ (posC xs t < xs.length ∧ ordC (xs.getD (posC xs t) default) t = 0) := by rw [← hasC_t]; simp
theorem book_Find (xs : List Cel) (pol : Int) (key : List Int) (hlen : xs.length ≤ 4611686018427387903) (hx : ∀ k, IsB (xs.getD k default).key) (ht : IsB key) :
    Fun TC 37 1 [.sl 0 4 0 xs.length, .i .i64 pol, .d (slOf 1 (encI .u8) key)] [(0, some (rowOf 73 4 Cel.D xs))] 1
      (.tup [.i .i64 (posC xs (newC pol key)), .b (hasC xs (newC pol key)), (findC xs pol key).S]) [(0, some (rowOf 73 4 Cel.D xs))] := by
  refine Fun.mk' Try.func37 rfl rfl (Nat.le_of_ble_eq_true rfl) (by decide) ?_
  (repeat' (first
    | with_reducible refine Wp.seq ?_
    | with_reducible refine Wp.block ?_
    | ((with_reducible refine Wp.region ?_); conv => whnf)
    | ((with_reducible refine Wp.drawL TC_mixed ?_); conv => whnf)
    | ((with_reducible refine Wp.cond ?_); conv => whnf)
    | ((with_reducible refine Wp.ret ?_); conv => whnf)
    | ((with_reducible refine Wp.skip ?_); conv => whnf)
    | ((with_reducible refine Wp.exit ?_); conv => whnf)
    | ((with_reducible refine Go.mk ?_); conv => whnf)
    | ((with_reducible apply Eff1.of); conv => whnf)
    | with_reducible exact rfl
    | ((with_reducible refine Ov.ok (by first | exact IntWalk.i64_in _ (by omega) | exact IntWalk.u64_in _ (by omega) | exact IntWalk.u8_in _ (by omega) | exact IntWalk.u32_in _ (by omega) | exact IntWalk.i32_in _ (by omega) | exact IntWalk.u16_in _ (by omega)) ?_); conv => whnf)
    | (with_reducible refine Ov.sh1 (by with_unfolding_all exact rfl) ?_)
    | ((with_reducible refine Ov.quo (by omega) (by omega) (by omega) (fun _ _ => ?_)); conv => whnf)
    | ((with_reducible refine And.intro (show drawOK _ _ _ _ = true by kernel_rfl) ?_); conv => whnf)
    | ((with_reducible refine And.intro (by first | omega | exact Nat.le_of_ble_eq_true rfl) ?_); conv => whnf)
    | ((with_reducible refine And.intro ?hb ?_); (case hb => exact bytes_bd (Nat.le_of_ble_eq_true rfl) (by omega)); (conv => whnf))
    | ((refine DApp.a rfl rfl rfl rfl rfl rfl ?hb ?_); (case hb => first | exact bytes_bd (Nat.le_of_ble_eq_true rfl) (by omega) | omega); (conv => whnf))
    | ((refine DApp.b rfl rfl rfl rfl rfl rfl rfl rfl ?hb ?ho ?_); (case hb => first | exact bytes_bd (Nat.le_of_ble_eq_true rfl) (by omega) | omega); (case ho => omega); (conv => whnf))
    | ((refine DApp.c rfl rfl rfl rfl rfl ?hb ?_); (case hb => first | exact bytes_bd (Nat.le_of_ble_eq_true rfl) (by omega) | omega); (conv => whnf))
    | ((refine DApp.d rfl rfl rfl rfl rfl rfl ?hb ?ho ?_); (case hb => first | exact bytes_bd (Nat.le_of_ble_eq_true rfl) (by omega) | omega); (case ho => omega); (conv => whnf))
    | ((with_reducible refine nil_no (by omega) ?_); (conv => whnf))
    | ((with_reducible refine nil_any ?_ (fun hn0 => ?_)) <;> (conv => whnf))
    | ((refine CallStop.fn (search_cel xs (newC pol key) hlen hx ht) [0] rfl rfl rfl rfl rfl ?ha ?hh ?_); (case ha => exact ⟨ArgLe.sl rfl, ArgLe.free (.agg (.cons (.rfl _) (.cons (.rfl _) (.cons (.rfl _) (.cons .nil .nil))))) rfl, ArgLe.rfl rfl, trivial⟩); (case hh => ((conv => whnf); repeat' (first | exact trivial | exact ArgLe.rfl rfl | exact ArgLe.ptr rfl | exact ArgLe.sl rfl | ((with_reducible refine ArgLe.fn ?_); (conv => whnf)) | exact ArgLe.free SV.Le.nil rfl | exact ⟨rfl, rfl, rfl⟩ | exact fun i hi => rfl | exact (fun i hi => by (rcases i with _ | i) <;> first | rfl | (exfalso; omega)) | ((with_reducible refine And.intro ?_ ?_) <;> (conv => whnf))))); (conv => whnf))
    | ((refine DCall.fn (search_cel xs (newC pol key) hlen hx ht) [0] [0] rfl rfl rfl rfl rfl ?ha ?hh ?hs ?_); (case ha => exact ⟨ArgLe.sl rfl, ArgLe.free (.agg (.cons (.rfl _) (.cons (.rfl _) (.cons (.rfl _) (.cons .nil .nil))))) rfl, ArgLe.rfl rfl, trivial⟩); (case hh => ((conv => whnf); repeat' (first | exact trivial | exact ArgLe.rfl rfl | exact ArgLe.ptr rfl | exact ArgLe.sl rfl | ((with_reducible refine ArgLe.fn ?_); (conv => whnf)) | exact ArgLe.free SV.Le.nil rfl | exact ⟨rfl, rfl, rfl⟩ | exact fun i hi => rfl | exact (fun i hi => by (rcases i with _ | i) <;> first | rfl | (exfalso; omega)) | ((with_reducible refine And.intro ?_ ?_) <;> (conv => whnf))))); (case hs => (conv => whnf); repeat' (first | exact trivial | ((refine And.intro rfl ?_); (conv => whnf)))); (conv => whnf)) | ((refine DCall.new (search_cel xs (newC pol key) hlen hx ht) [0] [0] rfl rfl rfl rfl rfl rfl ?ha ?hh ?hs ?_); (case ha => exact ⟨ArgLe.sl rfl, ArgLe.free (.agg (.cons (.rfl _) (.cons (.rfl _) (.cons (.rfl _) (.cons .nil .nil))))) rfl, ArgLe.rfl rfl, trivial⟩); (case hh => ((conv => whnf); repeat' (first | exact trivial | exact ArgLe.rfl rfl | exact ArgLe.ptr rfl | exact ArgLe.sl rfl | ((with_reducible refine ArgLe.fn ?_); (conv => whnf)) | exact ArgLe.free SV.Le.nil rfl | exact ⟨rfl, rfl, rfl⟩ | exact fun i hi => rfl | exact (fun i hi => by (rcases i with _ | i) <;> first | rfl | (exfalso; omega)) | ((with_reducible refine And.intro ?_ ?_) <;> (conv => whnf))))); (case hs => (conv => whnf); repeat' (first | exact trivial | ((refine And.intro rfl ?_); (conv => whnf)))); (conv => whnf))
    | ((refine DCall.fn (search_cel xs (newC pol key) hlen hx ht) [0] [] rfl rfl rfl rfl rfl ?ha ?hh ?hs ?_); (case ha => exact ⟨ArgLe.sl rfl, ArgLe.free (.agg (.cons (.rfl _) (.cons (.rfl _) (.cons (.rfl _) (.cons .nil .nil))))) rfl, ArgLe.rfl rfl, trivial⟩); (case hh => ((conv => whnf); repeat' (first | exact trivial | exact ArgLe.rfl rfl | exact ArgLe.ptr rfl | exact ArgLe.sl rfl | ((with_reducible refine ArgLe.fn ?_); (conv => whnf)) | exact ArgLe.free SV.Le.nil rfl | exact ⟨rfl, rfl, rfl⟩ | exact fun i hi => rfl | exact (fun i hi => by (rcases i with _ | i) <;> first | rfl | (exfalso; omega)) | ((with_reducible refine And.intro ?_ ?_) <;> (conv => whnf))))); (case hs => (conv => whnf); repeat' (first | exact trivial | ((refine And.intro rfl ?_); (conv => whnf)))); (conv => whnf)) | ((refine DCall.new (search_cel xs (newC pol key) hlen hx ht) [0] [] rfl rfl rfl rfl rfl rfl ?ha ?hh ?hs ?_); (case ha => exact ⟨ArgLe.sl rfl, ArgLe.free (.agg (.cons (.rfl _) (.cons (.rfl _) (.cons (.rfl _) (.cons .nil .nil))))) rfl, ArgLe.rfl rfl, trivial⟩); (case hh => ((conv => whnf); repeat' (first | exact trivial | exact ArgLe.rfl rfl | exact ArgLe.ptr rfl | exact ArgLe.sl rfl | ((with_reducible refine ArgLe.fn ?_); (conv => whnf)) | exact ArgLe.free SV.Le.nil rfl | exact ⟨rfl, rfl, rfl⟩ | exact fun i hi => rfl | exact (fun i hi => by (rcases i with _ | i) <;> first | rfl | (exfalso; omega)) | ((with_reducible refine And.intro ?_ ?_) <;> (conv => whnf))))); (case hs => (conv => whnf); repeat' (first | exact trivial | ((refine And.intro rfl ?_); (conv => whnf)))); (conv => whnf))
    | ((refine ways (fun hc => ?_) (fun hc => ?_)) <;> (try simp only [decide_eq_true_eq, decide_eq_false_iff_not, Bool.and_eq_true, Bool.or_eq_true, Bool.and_eq_false_iff, Bool.or_eq_false_iff, Bool.not_eq_true', Bool.not_eq_false', beq_iff_eq, bne_iff_ne, ne_eq, beq_eq_false_iff_ne, bne_eq_false_iff_eq, Bool.not_eq_true, Bool.not_eq_false, hasC_t, hasC_f] at hc) <;> (try (exfalso; omega)) <;> (conv => whnf))))
  all_goals refine FinLe.of [0] rfl (fun i hi => by have : i = 0 := (by omega); subst this; rfl) rfl ?_ ⟨⟨⟨rfl, rfl, rfl⟩, fun i hi => rfl⟩, trivial⟩
  all_goals (conv => whnf)
  · rw [show 0 + ((posC xs (newC pol key) : Nat) : Int).toNat = posC xs (newC pol key) by omega, show findC xs pol key = xs.getD (posC xs (newC pol key)) default by rw [findC, if_pos ((hasC_t ..).2 hc)]]
    exact .rfl _
  · rw [show findC xs pol key = newC pol key by rw [findC, if_neg (by rw [hasC_t]; exact hc)]]
    exact .tup (.cons (.rfl _) (.cons (.rfl _) (.cons (.agg (.cons (.rfl _) (.cons (.rfl _) (.cons (.rfl _) (.cons .nil .nil))))) .nil)))
end Go.Proofs.Ytkdolemhhihidaa

namespace Go.Proofs.Ytkdolemhhihidaa
open Go.RowKit
set_option maxRecDepth 100000

/-- a book: its own cells (label 0), the row of its cells (label 1) -/
@[reducible] def bookH (ps : List Pol) (room : Int) (xs : List Cel) : List (Nat × Option Blk) :=
  [(0, some (.cells [.d (slOf 4 Pol.D ps), .i .i64 room, .sl 1 4 0 xs.length])), (1, some (rowOf 73 4 Cel.D xs))]
theorem book_Len (ps : List Pol) (room : Int) (xs : List Cel) : Fun TC 20 2 [.ptr 0 0] (bookH ps room xs) 2 (.i .i64 xs.length) (bookH ps room xs) := by
  refine Fun.mk' Try.func20 rfl rfl (Nat.le_of_ble_eq_true rfl) (by decide) ?_
  (repeat' (first
    | with_reducible refine Wp.seq ?_
    | with_reducible refine Wp.block ?_
    | ((with_reducible refine Wp.region ?_); conv => whnf)
    | ((with_reducible refine Wp.drawL TC_mixed ?_); conv => whnf)
    | ((with_reducible refine Wp.cond ?_); conv => whnf)
    | ((with_reducible refine Wp.ret ?_); conv => whnf)
    | ((with_reducible refine Wp.skip ?_); conv => whnf)
    | ((with_reducible refine Wp.exit ?_); conv => whnf)
    | ((with_reducible refine Go.mk ?_); conv => whnf)
    | ((with_reducible apply Eff1.of); conv => whnf)
    | with_reducible exact rfl
    | ((with_reducible refine Ov.ok (by first | exact IntWalk.i64_in _ (by omega) | exact IntWalk.u64_in _ (by omega) | exact IntWalk.u8_in _ (by omega) | exact IntWalk.u32_in _ (by omega) | exact IntWalk.i32_in _ (by omega) | exact IntWalk.u16_in _ (by omega)) ?_); conv => whnf)
    | (with_reducible refine Ov.sh1 (by with_unfolding_all exact rfl) ?_)
    | ((with_reducible refine Ov.quo (by omega) (by omega) (by omega) (fun _ _ => ?_)); conv => whnf)
    | ((with_reducible refine And.intro (show drawOK _ _ _ _ = true by kernel_rfl) ?_); conv => whnf)
    | ((with_reducible refine And.intro (by first | omega | exact Nat.le_of_ble_eq_true rfl) ?_); conv => whnf)
    | ((with_reducible refine And.intro ?hb ?_); (case hb => exact bytes_bd (Nat.le_of_ble_eq_true rfl) (by omega)); (conv => whnf))
    | ((refine DApp.a rfl rfl rfl rfl rfl rfl ?hb ?_); (case hb => first | exact bytes_bd (Nat.le_of_ble_eq_true rfl) (by omega) | omega); (conv => whnf))
    | ((refine DApp.b rfl rfl rfl rfl rfl rfl rfl rfl ?hb ?ho ?_); (case hb => first | exact bytes_bd (Nat.le_of_ble_eq_true rfl) (by omega) | omega); (case ho => omega); (conv => whnf))
    | ((refine DApp.c rfl rfl rfl rfl rfl ?hb ?_); (case hb => first | exact bytes_bd (Nat.le_of_ble_eq_true rfl) (by omega) | omega); (conv => whnf))
    | ((refine DApp.d rfl rfl rfl rfl rfl rfl ?hb ?ho ?_); (case hb => first | exact bytes_bd (Nat.le_of_ble_eq_true rfl) (by omega) | omega); (case ho => omega); (conv => whnf))
    | ((with_reducible refine nil_no (by omega) ?_); (conv => whnf))
    | ((with_reducible refine nil_any ?_ (fun hn0 => ?_)) <;> (conv => whnf))
    
    | ((refine ways (fun hc => ?_) (fun hc => ?_)) <;> (try simp only [decide_eq_true_eq, decide_eq_false_iff_not, Bool.and_eq_true, Bool.or_eq_true, Bool.and_eq_false_iff, Bool.or_eq_false_iff, Bool.not_eq_true', Bool.not_eq_false', beq_iff_eq, bne_iff_ne, ne_eq, beq_eq_false_iff_ne, bne_eq_false_iff_eq, Bool.not_eq_true, Bool.not_eq_false] at hc) <;> (try (exfalso; omega)) <;> (conv => whnf))))
  refine FinLe.of [0, 1] rfl (fun i hi => by have : i = 0 ∨ i = 1 := (by omega); rcases this with h | h <;> subst h <;> rfl) rfl ?_ ?_
  · exact .i rfl
  · ((conv => whnf); repeat' (first | exact trivial | exact SV.Le.rfl _ | exact ⟨rfl, rfl, rfl⟩ | exact fun i hi => rfl | ((with_reducible refine And.intro ?_ ?_) <;> (conv => whnf))))
theorem book_Len_nil : Pure TC 20 [.d (.val (.pointer none))] (.i .i64 0) := by
  refine Pure.mk' Try.func20 rfl rfl (Nat.le_of_ble_eq_true rfl) ?_
  (repeat' (first
    | with_reducible refine Wp.seq ?_
    | with_reducible refine Wp.block ?_
    | ((with_reducible refine Wp.region ?_); conv => whnf)
    | ((with_reducible refine Wp.drawL TC_mixed ?_); conv => whnf)
    | ((with_reducible refine Wp.cond ?_); conv => whnf)
    | ((with_reducible refine Wp.ret ?_); conv => whnf)
    | ((with_reducible refine Wp.skip ?_); conv => whnf)
    | ((with_reducible refine Wp.exit ?_); conv => whnf)
    | ((with_reducible refine Go.mk ?_); conv => whnf)
    | ((with_reducible apply Eff1.of); conv => whnf)
    | with_reducible exact rfl
    | ((with_reducible refine Ov.ok (by first | exact IntWalk.i64_in _ (by omega) | exact IntWalk.u64_in _ (by omega) | exact IntWalk.u8_in _ (by omega) | exact IntWalk.u32_in _ (by omega) | exact IntWalk.i32_in _ (by omega) | exact IntWalk.u16_in _ (by omega)) ?_); conv => whnf)
    | (with_reducible refine Ov.sh1 (by with_unfolding_all exact rfl) ?_)
    | ((with_reducible refine Ov.quo (by omega) (by omega) (by omega) (fun _ _ => ?_)); conv => whnf)
    | ((with_reducible refine And.intro (show drawOK _ _ _ _ = true by kernel_rfl) ?_); conv => whnf)
    | ((with_reducible refine And.intro (by first | omega | exact Nat.le_of_ble_eq_true rfl) ?_); conv => whnf)
    | ((with_reducible refine And.intro ?hb ?_); (case hb => exact bytes_bd (Nat.le_of_ble_eq_true rfl) (by omega)); (conv => whnf))
    | ((refine DApp.a rfl rfl rfl rfl rfl rfl ?hb ?_); (case hb => first | exact bytes_bd (Nat.le_of_ble_eq_true rfl) (by omega) | omega); (conv => whnf))
    | ((refine DApp.b rfl rfl rfl rfl rfl rfl rfl rfl ?hb ?ho ?_); (case hb => first | exact bytes_bd (Nat.le_of_ble_eq_true rfl) (by omega) | omega); (case ho => omega); (conv => whnf))
    | ((refine DApp.c rfl rfl rfl rfl rfl ?hb ?_); (case hb => first | exact bytes_bd (Nat.le_of_ble_eq_true rfl) (by omega) | omega); (conv => whnf))
    | ((refine DApp.d rfl rfl rfl rfl rfl rfl ?hb ?ho ?_); (case hb => first | exact bytes_bd (Nat.le_of_ble_eq_true rfl) (by omega) | omega); (case ho => omega); (conv => whnf))
    | ((with_reducible refine nil_no (by omega) ?_); (conv => whnf))
    | ((with_reducible refine nil_any ?_ (fun hn0 => ?_)) <;> (conv => whnf))
    
    | ((refine ways (fun hc => ?_) (fun hc => ?_)) <;> (try simp only [decide_eq_true_eq, decide_eq_false_iff_not, Bool.and_eq_true, Bool.or_eq_true, Bool.and_eq_false_iff, Bool.or_eq_false_iff, Bool.not_eq_true', Bool.not_eq_false', beq_iff_eq, bne_iff_ne, ne_eq, beq_eq_false_iff_ne, bne_eq_false_iff_eq, Bool.not_eq_true, Bool.not_eq_false] at hc) <;> (try (exfalso; omega)) <;> (conv => whnf))))
  exact .i rfl
end Go.Proofs.Ytkdolemhhihidaa

namespace Go.Proofs.Ytkdolemhhihidaa
open Go.RowKit
set_option maxRecDepth 100000

def bchkE (ps : List Pol) (op pol : Int) (key : List Int) (n now serial : Int) : Int :=
  if tickB now = false ∨ (op = 2 ∧ (serial < 1 ∨ 4611686018427387903 < serial)) then 1 else chkE ps op pol key n
theorem book_check (ps : List Pol) (room : Int) (xs : List Cel) (op pol : Int) (key : List Int) (n now serial : Int) : Fun TC 33 2 [.ptr 0 0, .agg [.i .u8 op, .i .i64 pol, .d (slOf 1 (encI .u8) key), .i .i64 n], .i .i64 now, .i .i64 serial] (bookH ps room xs) 2 (.i .i64 (bchkE ps op pol key n now serial)) (bookH ps room xs) := by
  refine Fun.mk' Try.func33 rfl rfl (Nat.le_of_ble_eq_true rfl) (by decide) ?_
  (repeat' (first
    | with_reducible refine Wp.seq ?_
    | with_reducible refine Wp.block ?_
    | ((with_reducible refine Wp.region ?_); conv => whnf)
    | ((with_reducible refine Wp.drawL TC_mixed ?_); conv => whnf)
    | ((with_reducible refine Wp.cond ?_); conv => whnf)
    | ((with_reducible refine Wp.ret ?_); conv => whnf)
    | ((with_reducible refine Wp.skip ?_); conv => whnf)
    | ((with_reducible refine Wp.exit ?_); conv => whnf)
    | ((with_reducible refine Go.mk ?_); conv => whnf)
    | ((with_reducible apply Eff1.of); conv => whnf)
    | with_reducible exact rfl
    | ((with_reducible refine Ov.ok (by first | exact IntWalk.i64_in _ (by omega) | exact IntWalk.u64_in _ (by omega) | exact IntWalk.u8_in _ (by omega) | exact IntWalk.u32_in _ (by omega) | exact IntWalk.i32_in _ (by omega) | exact IntWalk.u16_in _ (by omega)) ?_); conv => whnf)
    | (with_reducible refine Ov.sh1 (by with_unfolding_all exact rfl) ?_)
    | ((with_reducible refine Ov.quo (by omega) (by omega) (by omega) (fun _ _ => ?_)); conv => whnf)
    | ((with_reducible refine And.intro (show drawOK _ _ _ _ = true by kernel_rfl) ?_); conv => whnf)
    | ((with_reducible refine And.intro (by first | omega | exact Nat.le_of_ble_eq_true rfl) ?_); conv => whnf)
    | ((with_reducible refine And.intro ?hb ?_); (case hb => exact bytes_bd (Nat.le_of_ble_eq_true rfl) (by omega)); (conv => whnf))
    | ((refine DApp.a rfl rfl rfl rfl rfl rfl ?hb ?_); (case hb => first | exact bytes_bd (Nat.le_of_ble_eq_true rfl) (by omega) | omega); (conv => whnf))
    | ((refine DApp.b rfl rfl rfl rfl rfl rfl rfl rfl ?hb ?ho ?_); (case hb => first | exact bytes_bd (Nat.le_of_ble_eq_true rfl) (by omega) | omega); (case ho => omega); (conv => whnf))
    | ((refine DApp.c rfl rfl rfl rfl rfl ?hb ?_); (case hb => first | exact bytes_bd (Nat.le_of_ble_eq_true rfl) (by omega) | omega); (conv => whnf))
    | ((refine DApp.d rfl rfl rfl rfl rfl rfl ?hb ?ho ?_); (case hb => first | exact bytes_bd (Nat.le_of_ble_eq_true rfl) (by omega) | omega); (case ho => omega); (conv => whnf))
    | ((with_reducible refine nil_no (by omega) ?_); (conv => whnf))
    | ((with_reducible refine nil_any ?_ (fun hn0 => ?_)) <;> (conv => whnf))
    | ((with_reducible refine CallStop.pure (tick_Form _) rfl rfl ?_); conv => whnf) | ((with_reducible refine DCall.pure (tick_Form _) rfl rfl ?_); conv => whnf)
    | ((with_reducible refine CallStop.pure (book_Check _ _ _ _ _) rfl rfl ?_); conv => whnf) | ((with_reducible refine DCall.pure (book_Check _ _ _ _ _) rfl rfl ?_); conv => whnf)
    | ((refine ways (fun hc => ?_) (fun hc => ?_)) <;> (try simp only [decide_eq_true_eq, decide_eq_false_iff_not, Bool.and_eq_true, Bool.or_eq_true, Bool.and_eq_false_iff, Bool.or_eq_false_iff, Bool.not_eq_true', Bool.not_eq_false', beq_iff_eq, bne_iff_ne, ne_eq, beq_eq_false_iff_ne, bne_eq_false_iff_eq, Bool.not_eq_true, Bool.not_eq_false] at hc) <;> (try (exfalso; omega)) <;> (conv => whnf))))
  all_goals refine FinLe.of [0, 1] rfl (fun i hi => by have : i = 0 ∨ i = 1 := (by omega); rcases this with h | h <;> subst h <;> rfl) rfl ?_ ?_
  all_goals first | ((conv => whnf); repeat' (first | exact trivial | exact SV.Le.rfl _ | exact ⟨rfl, rfl, rfl⟩ | exact fun i hi => rfl | ((with_reducible refine And.intro ?_ ?_) <;> (conv => whnf)))) | skip
  all_goals (conv => whnf)
  all_goals exact .i (by
    unfold bchkE
    repeat' split
    all_goals first | rfl | omega | (exfalso; simp_all; try omega) | simp_all)
end Go.Proofs.Ytkdolemhhihidaa

namespace Go.Proofs.Ytkdolemhhihidaa
open Go.RowKit

theorem I64_info : (Try.prog.info? 2).map (fun i => (i.zero, i.size, i.bytes)) = some (some (.int .i64 0), 1, 8) := by kernel_rfl
theorem I64_size (w : World) : (sizeOf 2).run Try.prog w = .ok 1 w := by kernel_rfl
set_option maxHeartbeats 400000 in
theorem I64_Clone (v : Value) (n : Nat) (F : List Value) (w : World) (hv : Src w v n 1 F) (hn : n * 8 ≤ 140737488355328) :
    Calls Try.prog 62 #[v] w fun e w' => ∃ v', e = .returned v' ∧ w'.ownsRow w.heap.size 2 1 v' n F ∧ Kp w w' := by
  obtain ⟨⟨a, cap, rfl, hc, hF⟩, hl, h1⟩ := hv
  obtain ⟨i0, hi, hz0, hz1, hz2⟩ := info_parts I64_info
  have heq := fun (w : World) (a : Option Addr) (n c : Nat) => Lib.run_eql_slice_nil (P := Try.prog) w 59 2 a n c 0 0 Try.underlying59
  cases a with
  | none =>
    have h0 : F = [] := by
      cases F with
      | nil => rfl
      | cons x r => obtain ⟨b, o, h, _⟩ := hF 0 (by simp); cases h
    subst h0
    have hn0 : n = 0 := by simp at hl; omega
    subst hn0
    clear hF hc
    go_enter Try.func62, Try.ntmps62
    go_wp2
    go_ret
    exact ⟨_, rfl, World.ownsRow_nil _ _ _ _, (by repeat (first | with_reducible exact Kp.refl _ | with_reducible assumption | with_reducible refine Kp.alloc ?_ _ | with_reducible refine Kp.drew ?_ | with_reducible refine Kp.drewN ?_ _ | with_reducible refine Kp.setCell ?_ ?_ _ | with_reducible refine Kp.trans ?_ (by with_reducible assumption) | (dsimp only; omega) | omega))⟩
  | some ad =>
    have hcell : ∀ j u, F[j]? = some u → (w.alloc (.cells #[] 2)).cell? (ad.add j) = some u := by
      intro j u hj
      obtain ⟨hj', rfl⟩ := List.getElem?_eq_some_iff.1 hj
      obtain ⟨b, o, e, hc⟩ := hF j hj'
      cases e
      have hb := World.block_lt_of_cell? w _ hc
      unfold Addr.add
      split
      · rename_i h; subst h; simp only [Nat.add_zero] at hc hb; rw [World.cell?_alloc_lt _ _ _ hb]; exact hc
      · rw [World.cell?_alloc_lt _ _ _ hb]; exact hc
    have hown := World.ownsRow_made w #[] 0 (base := w.heap.size) (e := 2) (size := 1) (Nat.le_refl _) (by decide) rfl
    have Hown := Lib.hid hown; have Hcell := Lib.hid hcell
    clear hF hc hown hcell
    go_enter Try.func62, Try.ntmps62
    go_wp2_with (first | (at_builtin; refine wpList_append_own _ rfl _ _ 59 rfl w.heap.size 2 i0 (.int .i64 0) 1 8 Try.underlying59 hi hz0 hz1 hz2 rfl (by decide) _ _ _ rfl Hown.out ad n _ F rfl hl Hcell.out h1 (by unfold maxLen; omega) (by omega) (by simp) ?_; intro v' w1 hown1 hg1 _))
    go_ret
    refine ⟨_, rfl, by simpa using hown1, (((Kp.refl w).alloc _).grown hg1 ?_)⟩
    intro k hk
    cases hk; exact Nat.le_refl _
set_option maxHeartbeats 1000000 in
set_option maxRecDepth 100000 in
theorem I64_Insert (B : Nat) (v : Value) (n i vb cv : Nat) (vcur : Array Value) (xs vs : List Value) (w : World) (hin : i ≤ n) (hown : w.ownsRow B 2 1 v n xs) (hB : B ≤ w.heap.size) (hn : n ≤ 16777216)
    (hvl : vs.length = 1) (hvb : w.heap[vb]? = some (.cells vcur 2 (0, 0))) (hvc : ∀ (j : Nat) (u : Value), vs[j]? = some u → vcur[j]? = some u) (hne : v.ownBlock ≠ some vb) (hv1 : ∀ u ∈ vs, u.oneCell' = true) (hx1 : ∀ u ∈ xs, u.oneCell' = true) :
    Calls Try.prog 73 #[v, .int .i64 i, .slice (some ⟨vb, 0, none⟩) 1 cv] w fun e w' =>
      ∃ v', e = .returned v' ∧ w'.ownsRow B 2 1 v' (n + 1) (xs.take (i * 1) ++ vs ++ xs.drop (i * 1)) ∧ w.grownBy w' v.ownBlock ∧ ∀ k, v'.ownBlock = some k → v.ownBlock = some k ∨ w.heap.size ≤ k := by
  have hv2 := hown.2
  obtain ⟨i0, hi0, hz0, hz1, hz2⟩ := info_parts I64_info
  have hxl := hown.1
  have hvcell : ∀ j u, vs[j]? = some u → w.cell? ⟨vb, j, none⟩ = some u := fun j u hj => by simp [World.cell?, hvb]; exact hvc j u hj
  have hvlt : vb < w.heap.size := (Array.getElem?_eq_some_iff.1 hvb).1
  have append_end : ∀ (W : World), W = w → n = i → Calls Try.prog 73 #[v, .int .i64 i, .slice (some ⟨vb, 0, none⟩) 1 cv] w fun e w' =>
      ∃ v', e = .returned v' ∧ w'.ownsRow B 2 1 v' (n + 1) (xs ++ vs) ∧ w.grownBy w' v.ownBlock ∧ ∀ k, v'.ownBlock = some k → v.ownBlock = some k ∨ w.heap.size ≤ k := by
    intro W _ hni
    subst hni
    have Hown := Lib.hid hown
    have hva : ∀ j u, vs[j]? = some u → w.cell? ((⟨vb, 0, none⟩ : Addr).add j) = some u := fun j u hj => by
      have := hvcell j u hj
      unfold Addr.add; split
      · rename_i h; subst h; exact this
      · simpa using this
    have Hva := Lib.hid hva; have Hl := Lib.hid hvl; have Hne := Lib.hid hne
    clear hva hvcell hvb hvc hvl hne hxl
    rcases hv2 with ⟨rfl, rfl⟩ | ⟨g, cap, cur, rfl, hBg, hg, hnc, hcm, hcs, htk⟩
    · clear hown
      go_enter Try.func73, Try.ntmps73
      go_wp2_with (first | (at_builtin; refine wpList_append_at _ rfl _ _ 59 rfl B 2 i0 (.int .i64 0) 1 8 Try.underlying59 hi0 hz0 hz1 hz2 rfl (by decide) _ _ _ rfl Hown.out ⟨vb, 0, none⟩ 1 _ vs rfl (by rw [Hl.out]) Hva.out hv1 (by unfold maxLen; omega) (by omega) hB ?_; intro v' w1 hown1 hg1 hloc1))
      go_ret
      exact ⟨_, rfl, hown1, hg1, hloc1⟩
    · unfold maxLen at hcm
      have Hg := Lib.hid hg; clear hg
      have Hcs := Lib.hid hcs; have Htk := Lib.hid htk; clear hcs htk hown
      go_enter Try.func73, Try.ntmps73
      go_wp2_with (first | (at_builtin; refine wpList_append_at _ rfl _ _ 59 rfl B 2 i0 (.int .i64 0) 1 8 Try.underlying59 hi0 hz0 hz1 hz2 rfl (by decide) _ _ _ rfl Hown.out ⟨vb, 0, none⟩ 1 _ vs rfl (by rw [Hl.out]) Hva.out hv1 (by unfold maxLen; omega) (by omega) hB ?_; intro v' w1 hown1 hg1 hloc1))
      all_goals (go_ret; exact ⟨_, rfl, hown1, hg1, hloc1⟩)
  by_cases hi : n = i
  · have h := append_end w rfl hi
    rw [List.take_of_length_le (by rw [hxl, hi]; exact Nat.le_refl _), List.drop_of_length_le (by rw [hxl, hi]; exact Nat.le_refl _), List.append_nil]
    exact h
  · clear append_end
    have hlt : i < n := by omega
    rcases hv2 with ⟨rfl, rfl⟩ | ⟨g, cap, cur, rfl, hBg, hg, hnc, hcm, hcs, htk⟩
    · omega
    · unfold maxLen at hcm
      have hd0 : ((i : Int) == n) = false := by simp; omega
      have hcu : ∀ j, j < cap * 1 → ∃ u, cur[j]? = some u := fun j hj => ⟨cur[j]'(by omega), by rw [Array.getElem?_eq_getElem (by omega)]⟩
      by_cases hroom : n + 1 ≤ cap
      · have hov : ∀ lb cb, (callFunc 81 #[.slice (some ⟨vb, 0, none⟩) 1 cv, .slice (some ⟨g, i + 1, none⟩) lb cb]).run Try.prog w = .ok (.value (.bool false)) w := fun lb cb => by
          rw [run_callFunc_extern Try.func81 (by kernel_rfl) (by kernel_rfl) (by kernel_rfl) (e := Extern.SlicesOverlaps.overlaps #[59, 59] #[4]) (by kernel_rfl),
            Lib.run_overlaps_apart w 59 4 2 Try.underlying59 1 I64_size ⟨vb, 0, none⟩ ⟨g, i + 1, none⟩ 1 cv lb cb (by intro h; apply hne; simp only at h; rw [h]; rfl) 2 2 vcur.size cur.size
              (by simp [World.shape?, hvb]) (by simp [World.shape?, hg]) (by omega) (by simp [World.frozen?, hvb]) (by simp [World.frozen?, hvb])]
          rfl
        go_enter Try.func73, Try.ntmps73
        go_wp2_with (simp only [hov])
        have hsrc1 : ∀ j u, (xs.drop (i * 1))[j]? = some u → w.drew.cell? ((⟨g, i, none⟩ : Addr).add j) = some u := fun j u hj => by
          show w.cell? _ = _
          rw [Addr.add_lit, show w.cell? ⟨g, i + j, none⟩ = cur[i + j]? from by simp [World.cell?, hg], ← Array.getElem?_toList]
          rw [List.getElem?_drop, ← htk, List.getElem?_take] at hj
          split at hj
          · simpa using hj
          · cases hj
        have hw1 : IntKind.i64.wrap ((i : Int) + 1) = (i : Int) + 1 := IntWalk.i64_in _ (by omega)
        have hb1 : (0 : Int) ≤ (i : Int) + 1 := by omega
        have htn : ((i : Int) + 1).toNat = i + 1 := by omega
        have hb2 : ¬ (cap = i + 1) := by omega
        have hb3 : (i : Int) ≤ (n : Int) + 1 := by omega
        have hb4 : ¬ (cap = i) := by omega
        have hmul : i * 1 + 1 ≤ n * 1 := by omega
        have hdl : (xs.drop (i * 1)).length = (n - i) * 1 := by rw [List.length_drop, hxl]; omega
        have L := ins_list cur.toList xs vs (i * 1) (n * 1) 1 (cap * 1) (by simpa using hcs) htk hvl (by omega) (by omega)
        obtain ⟨C1, hC1⟩ : ∃ C1 : Array Value, C1 = (cur.toList.take (i + 1) ++ xs.drop (i * 1) ++ cur.toList.drop (i + 1 + (xs.drop (i * 1)).length)).toArray := ⟨_, rfl⟩
        obtain ⟨C2, hC2⟩ : ∃ C2 : Array Value, C2 = (C1.toList.take (i * 1) ++ vs ++ C1.toList.drop (i * 1 + vs.length)).toArray := ⟨_, rfl⟩
        have hC1s : C1.size = cap * 1 := by rw [hC1]; simp; omega
        have HC1 := Lib.hid hC1; have HC2 := Lib.hid hC2
        have hcp2 : ∀ ty dc, (Builtin.copy_ #[59, 59] ty #[.slice (some ⟨g, i, none⟩) (n + 1 - i) dc, .slice (some ⟨vb, 0, none⟩) 1 cv]).run Try.prog (w.drew.setRow g C1) = .ok (goInt ((1 : Nat) : Int)) ((w.drew.setRow g C1).setRow g C2) := by
          intro ty dc
          have hm : Nat.min 1 (n + 1 - i) = 1 := by simp only [Nat.min_def]; split <;> omega
          have hgn : vb ≠ g := by intro h; apply hne; rw [h]; rfl
          have := run_copyZ (P := Try.prog) (w.drew.setRow g C1) 59 59 ty 2 i0 g (i) (n + 1 - i) dc ⟨vb, 0, none⟩ 1 cv C1 2 vs Try.underlying59 hi0 (setRow_heap _ g _ _ _ _ hg) (by rw [hvl, hm, hz1])
            (fun j u hj => by rw [Addr.add_lit, cell_setRow_other _ _ _ _ hgn]; simpa using hvcell j u hj) (by rw [hvl, hC1s]; omega) hv1
          rw [hm] at this
          rw [this, hC2]; try simp only [Nat.mul_one]
        have Hcp2 := Lib.hid hcp2; clear hcp2
        have hcp1 : ∀ ty dc sc, (Builtin.copy_ #[59, 59] ty #[.slice (some ⟨g, i + 1, none⟩) (n - i) dc, .slice (some ⟨g, i, none⟩) (n + 1 - i) sc]).run Try.prog w.drew = .ok (goInt ((n - i : Nat) : Int)) (w.drew.setRow g C1) := by
          intro ty dc sc
          have hm : Nat.min (n + 1 - i) (n - i) = n - i := by simp only [Nat.min_def]; split <;> omega
          have := run_copyZ (P := Try.prog) w.drew 59 59 ty 2 i0 g (i + 1) (n - i) dc ⟨g, i, none⟩ (n + 1 - i) sc cur 2 (xs.drop (i * 1)) Try.underlying59 hi0 hg (by rw [hdl, hm, hz1]) hsrc1 (by rw [hdl]; omega) (fun u hu => hx1 u (List.mem_of_mem_drop hu))
          rw [hm] at this; rw [this, hC1]
        have Hcp1 := Lib.hid hcp1; clear hcp1 hC1 hC2
        go_region_law (refine step_copy_run rfl _ _ 59 59 rfl _ _ (by simp [Act.eval, Act.put]) (by simp [Act.eval, Act.put]) (Hcp1.out _ (cap - (i + 1)) (cap - i)) ?_)
        go_wp2_with (refine wpList_copy_run _ rfl _ _ 59 59 rfl _ _ rfl rfl (Hcp2.out _ (cap - i)) ?_)
        go_ret
        have e1 : i + 1 = i * 1 + 1 := by omega
        have h1 := HC1.out; have h2 := HC2.out
        rw [e1] at h1
        rw [h1] at h2
        simp only [List.toList_toArray] at h2
        obtain ⟨L1, L2⟩ := L
        refine ⟨_, rfl, ⟨?_, Or.inr ⟨g, cap, C2, rfl, hBg, setRow_heap _ g _ _ _ _ (setRow_heap _ g _ _ _ _ hg), hroom, by unfold maxLen; omega, ?_, ?_⟩⟩, ?_⟩
        · simp only [List.length_append, List.length_take, List.length_drop, hxl, hvl]; omega
        · rw [h2]; simpa using L1
        · rw [h2, show (n + 1) * 1 = n * 1 + 1 from by omega]; simpa using L2
        · exact ⟨grown_trans (grown_trans grown_drew (grown_row _) (fun x hx => by cases hx; exact Or.inl rfl)) (grown_row _) (fun x hx => by cases hx; exact Or.inl rfl), fun k hk => Or.inl hk⟩
      · have hcap : cap = n := by omega
        have hk1 : 0 < n + 1 - i := by omega
        have holds : (Builtin.firstCells i0.size i (.slice (some ⟨g, 0, none⟩) i cap)).run Try.prog w.drew = .ok (xs.take (i * 1)).toArray w.drew := by
          have := run_firstCells_some (P := Try.prog) w.drew i0.size i ⟨g, 0, none⟩ i cap (xs.take (i * 1)) (by rw [List.length_take, hz1]; omega) (fun j u hj => by
            show w.cell? _ = _
            rw [Addr.add_lit, show w.cell? ⟨g, 0 + j, none⟩ = cur[0 + j]? from by simp [World.cell?, hg], ← Array.getElem?_toList]
            rw [← htk, List.getElem?_take, List.getElem?_take] at hj
            split at hj
            · split at hj
              · simpa using hj
              · cases hj
            · cases hj)
          exact this
        obtain ⟨gc, hgc⟩ : ∃ gc, gc = grownCap w (i + (n + 1 - i)) cap 2 := ⟨_, rfl⟩
        have hgc1 : n + 1 ≤ gc := by have := grownCap_ge w (i + (n + 1 - i)) cap 2; omega
        have hgc2 : gc ≤ 9223372036854775807 := by have := grownCap_le_maxLen w (i + (n + 1 - i)) cap 2 (by unfold maxLen; omega); unfold maxLen at this; omega
        obtain ⟨Zs, hZs⟩ : ∃ Zs : List Value, Zs = (Builtin.zeroCells (.int .i64 0 : Value).cells (n + 1 - i)).toList ++ (Builtin.zeroCells (.int .i64 0 : Value).cells (gc - (n + 1))).toList := ⟨_, rfl⟩
        have hzc : (.int .i64 0 : Value).cells.size = 1 := rfl
        have hZl : Zs.length = (gc - i) * 1 := by rw [hZs]; simp only [List.length_append, Array.length_toList, size_zeroCells, hzc]; omega
        obtain ⟨W1, hW1⟩ : ∃ W1, W1 = w.drew.alloc (.cells (xs.take (i * 1) ++ Zs).toArray 2) := ⟨_, rfl⟩
        have happ : ∀ ty, (Builtin.append_ #[59, 3] ty #[.slice (some ⟨g, 0, none⟩) i cap, .int .i64 ((n : Int) + 1 - (i : Int))]).run Try.prog w = .ok (.slice (some ⟨w.heap.size, 0, none⟩) (n + 1) gc) W1 := by
          intro ty
          have := Lib.run_append_grow_zeros (P := Try.prog) w 59 3 ty 2 i0 (.int .i64 0) .i64 .i64 Try.underlying59 Try.underlying3 hi0 hz0 (some ⟨g, 0, none⟩) i cap (xs.take (i * 1)) holds (n + 1 - i) hk1 (by rw [hz1]; decide) (by omega) (by omega) (by rw [hz2]; omega) (growslice_fits (by omega) (by rw [hz2]; omega))
          rw [show ((n : Int) + 1 - (i : Int)) = ((n + 1 - i : Nat) : Int) from by omega, this, hW1, ← hgc, hZs, show i + (n + 1 - i) = n + 1 from by omega]
          congr 3
          apply Array.ext'
          simp [List.append_assoc]
        have hW1a : W1.heap[w.heap.size]? = some (.cells (xs.take (i * 1) ++ Zs).toArray 2 (0, 0)) := by rw [hW1]; exact heap_alloc_new w.drew _
        have hW1b : ∀ k, k < w.heap.size → W1.heap[k]? = w.heap[k]? := fun k hk => by rw [hW1]; exact heap_alloc_old w.drew _ hk
        have hW1g : w.grownBy W1 none := by rw [hW1]; exact grown_trans grown_drew (World.grownBy_alloc _ _ none) (fun x hx => by cases hx)
        have hglt : g < w.heap.size := (Array.getElem?_eq_some_iff.1 hg).1
        obtain ⟨A1, hA1⟩ : ∃ A1 : Array Value, A1 = ((xs.take (i * 1) ++ Zs).take (i) ++ vs ++ (xs.take (i * 1) ++ Zs).drop (i + vs.length)).toArray := ⟨_, rfl⟩
        obtain ⟨W2, hW2⟩ : ∃ W2, W2 = W1.setRow w.heap.size A1 := ⟨_, rfl⟩
        have hcpA : ∀ ty dc, (Builtin.copy_ #[59, 59] ty #[.slice (some ⟨w.heap.size, i, none⟩) (n + 1 - i) dc, .slice (some ⟨vb, 0, none⟩) 1 cv]).run Try.prog W1 = .ok (goInt ((1 : Nat) : Int)) W2 := by
          intro ty dc
          have hm : Nat.min 1 (n + 1 - i) = 1 := by simp only [Nat.min_def]; split <;> omega
          have := run_copyZ (P := Try.prog) W1 59 59 ty 2 i0 w.heap.size (i) (n + 1 - i) dc ⟨vb, 0, none⟩ 1 cv _ 2 vs Try.underlying59 hi0 hW1a (by rw [hvl, hm, hz1])
            (fun j u hj => by rw [Addr.add_lit, World.cell?_of_block (hW1b vb hvlt)]; simpa using hvcell j u hj) (by rw [hvl]; simp only [List.size_toArray, List.length_append, List.length_take, hZl, hxl]; omega) hv1
          rw [hm] at this
          rw [this, hW2, hA1]
        have hA1s : A1.size = gc * 1 := by rw [hA1]; simp only [List.size_toArray, List.length_append, List.length_take, List.length_drop, hZl, hxl, hvl]; omega
        have hW2a : W2.heap[w.heap.size]? = some (.cells A1 2 (0, 0)) := by rw [hW2]; exact setRow_heap _ _ _ _ _ _ hW1a
        have hW2b : ∀ k, k < w.heap.size → W2.heap[k]? = w.heap[k]? := fun k hk => by rw [hW2, setRow_other _ _ _ _ (by omega)]; exact hW1b k hk
        have hdl : (xs.drop (i * 1)).length = (n - i) * 1 := by rw [List.length_drop, hxl]; omega
        obtain ⟨A2, hA2⟩ : ∃ A2 : Array Value, A2 = (A1.toList.take (i + 1) ++ xs.drop (i * 1) ++ A1.toList.drop (i + 1 + (xs.drop (i * 1)).length)).toArray := ⟨_, rfl⟩
        obtain ⟨W3, hW3⟩ : ∃ W3, W3 = W2.drew.setRow w.heap.size A2 := ⟨_, rfl⟩
        have hcpB : ∀ ty dc sc, (Builtin.copy_ #[59, 59] ty #[.slice (some ⟨w.heap.size, i + 1, none⟩) (n - i) dc, .slice (some ⟨g, i, none⟩) (n - i) sc]).run Try.prog W2.drew = .ok (goInt ((n - i : Nat) : Int)) W3 := by
          intro ty dc sc
          have hm : Nat.min (n - i) (n - i) = n - i := Nat.min_self _
          have := run_copyZ (P := Try.prog) W2.drew 59 59 ty 2 i0 w.heap.size (i + 1) (n - i) dc ⟨g, i, none⟩ (n - i) sc A1 2 (xs.drop (i * 1)) Try.underlying59 hi0 hW2a (by rw [hdl, hm, hz1])
            (fun j u hj => by
              show W2.cell? _ = _
              rw [Addr.add_lit, World.cell?_of_block (hW2b g hglt), show w.cell? ⟨g, i + j, none⟩ = cur[i + j]? from by simp [World.cell?, hg], ← Array.getElem?_toList]
              rw [List.getElem?_drop, ← htk, List.getElem?_take] at hj
              split at hj
              · simpa using hj
              · cases hj) (by rw [hdl, hA1s]; omega) (fun u hu => hx1 u (List.mem_of_mem_drop hu))
          rw [hm] at this
          rw [this, hW3, hA2]
        have L := ins_new xs vs Zs (i * 1) (n * 1) 1 (by rw [hxl]) hvl (by omega) (by rw [hZl]; omega)
        have hW3a : W3.heap[w.heap.size]? = some (.cells A2 2 (0, 0)) := by rw [hW3]; exact setRow_heap _ _ _ _ _ _ hW2a
        have hW3g : w.grownBy W3 (some g) := by
          rw [hW3, hW2]
          exact grown_trans (grown_trans (grown_trans (r := some g) (⟨hW1g.os, hW1g.tape, hW1g.output, hW1g.size, fun k hk _ => hW1b k hk⟩) (grown_row _) (fun x hx => by cases hx; exact Or.inr (Nat.le_refl _))) grown_drew (s := none) (fun x hx => by cases hx)) (grown_row _) (fun x hx => by cases hx; exact Or.inr (Nat.le_refl _))
        have HA1 := Lib.hid hA1; have HA2 := Lib.hid hA2; have Happ := Lib.hid happ; have HcpA := Lib.hid hcpA; have HcpB := Lib.hid hcpB; have HL := Lib.hid L; have HW3a := Lib.hid hW3a; have HW3g := Lib.hid hW3g; have Hxl := Lib.hid hxl; have Hvl := Lib.hid hvl; have HZl := Lib.hid hZl
        clear hA1 hA2 happ hcpA hcpB L hW3a hW3g hW1 hW2 hW3 hZs hgc holds hW1a hW1b hW1g hA1s hW2a hW2b hdl hzc hZl hxl hvl hown htk hcs hcu hvb hvc hvcell hx1 hv1 hne hg
        have hw1 : IntKind.i64.wrap ((i : Int) + 1) = (i : Int) + 1 := IntWalk.i64_in _ (by omega)
        have hb1 : (0 : Int) ≤ (i : Int) + 1 := by omega
        have htn : ((i : Int) + 1).toNat = i + 1 := by omega
        have hb2 : ¬ (gc = i + 1) := by omega
        have hb3 : (i : Int) ≤ (n : Int) + 1 := by omega
        have hb4 : ¬ (gc = i) := by omega
        have hb5 : ¬ (cap = i) := by omega
        clear hcap
        go_enter Try.func73, Try.ntmps73
        go_wp2_with (first | (at_builtin; refine Lib.wpList_append_run _ rfl _ _ 59 3 rfl _ _ rfl rfl _ _ (Happ.out _) ?_) | (refine wpList_copy_run _ rfl _ _ 59 59 rfl _ _ rfl rfl (HcpA.out _ (gc - i)) ?_))
        go_region_law (refine step_copy_run rfl _ _ 59 59 rfl _ _ (by simp [Act.eval, Act.put]) (by simp [Act.eval, Act.put]) (HcpB.out _ (gc - (i + 1)) (cap - i)) ?_)
        go_wp2
        go_ret
        have e1 : i + 1 = i * 1 + 1 := by omega
        have h1 : A1 = ((xs.take (i * 1) ++ Zs).take (i * 1) ++ vs ++ (xs.take (i * 1) ++ Zs).drop (i * 1 + vs.length)).toArray := by have := HA1.out; simpa only [Nat.mul_one] using this
        have h2 := HA2.out
        rw [e1, h1] at h2
        simp only [List.toList_toArray] at h2
        obtain ⟨L1, L2⟩ := HL.out
        refine ⟨_, rfl, ⟨?_, Or.inr ⟨w.heap.size, gc, A2, rfl, hB, HW3a.out, hgc1, by unfold maxLen; omega, ?_, ?_⟩⟩, HW3g.out, fun k hk => by cases hk; exact Or.inr (Nat.le_refl _)⟩
        · simp only [List.length_append, List.length_take, List.length_drop, Hxl.out, Hvl.out]; omega
        · rw [h2]; simp only [List.size_toArray]; rw [L1, HZl.out]; omega
        · rw [h2, show (n + 1) * 1 = n * 1 + 1 from by omega]; simpa using L2
set_option maxHeartbeats 1000000 in
set_option maxRecDepth 100000 in
theorem I64_Delete (B : Nat) (v : Value) (n i : Nat) (xs : List Value) (w : World) (hin : i < n) (hown : w.ownsRow B 2 1 v n xs) (hn : n ≤ 16777216) (hx1 : ∀ u ∈ xs, u.oneCell' = true) :
    Calls Try.prog 74 #[v, .int .i64 i, .int .i64 ((i : Int) + 1)] w fun e w' =>
      ∃ v', e = .returned v' ∧ w'.ownsRow B 2 1 v' (n - 1) (xs.take (i * 1) ++ xs.drop (i * 1 + 1)) ∧ w.grownBy w' v.ownBlock ∧ ∃ cap, v' = .slice (v.ownBlock.map fun k => ⟨k, 0, none⟩) (n - 1) cap ∧ 0 < cap := by
  have hv2 := hown.2
  obtain ⟨i0, hi0, hz0, hz1, hz2⟩ := info_parts I64_info
  have hxl := hown.1
  rcases hv2 with ⟨rfl, rfl⟩ | ⟨g, cap, cur, rfl, hBg, hg, hnc, hcm, hcs, htk⟩
  · omega
  · unfold maxLen at hcm
    have hd0 : ((i : Int) == (i : Int) + 1) = false := by simp; omega
    obtain ⟨Zs, hZs⟩ : ∃ Zs : List Value, Zs = (Builtin.zeroCells (.int .i64 0 : Value).cells 1).toList := ⟨_, rfl⟩
    have hzc : (.int .i64 0 : Value).cells.size = 1 := rfl
    have hZl : Zs.length = 1 := by rw [hZs]; simp only [Array.length_toList, size_zeroCells, hzc]
    have hdl : (xs.drop (i * 1 + 1)).length = (n - (i + 1)) * 1 := by rw [List.length_drop, hxl]; omega
    have L := del_list cur.toList xs Zs (i * 1) (n * 1) 1 (cap * 1) (by simpa using hcs) htk hZl (by omega) (by omega)
    obtain ⟨C1, hC1⟩ : ∃ C1 : Array Value, C1 = (cur.toList.take (i * 1) ++ xs.drop (i * 1 + 1) ++ cur.toList.drop (i * 1 + (xs.drop (i * 1 + 1)).length)).toArray := ⟨_, rfl⟩
    have hC1s : C1.size = cap * 1 := by rw [hC1]; simp only [List.size_toArray, List.length_append, List.length_take, List.length_drop, Array.length_toList, hdl, hxl]; omega
    obtain ⟨W1, hW1⟩ : ∃ W1, W1 = w.drew.setRow g C1 := ⟨_, rfl⟩
    have happ : ∀ ty (a : Addr) c, (n - (i + 1) ≠ 0 → a = ⟨g, i + 1, none⟩) → (Builtin.append_ #[59, 59] ty #[.slice (some ⟨g, 0, none⟩) i cap, .slice (some a) (n - (i + 1)) c]).run Try.prog w.drew = .ok (.slice (some ⟨g, 0, none⟩) (n - 1) cap) W1 := by
      intro ty a c ha
      have := run_append_room (P := Try.prog) w.drew 59 ty 2 i0 Try.underlying59 hi0 g i cap cur hg a (n - (i + 1)) c (xs.drop (i * 1 + 1)) (by rw [hdl, hz1]) (fun j u hj => by
          have hjl := (List.getElem?_eq_some_iff.1 hj).1
          rw [hdl] at hjl
          rw [ha (by omega)]
          show w.cell? _ = _
          rw [Addr.add_lit, show w.cell? ⟨g, i + 1 + j, none⟩ = cur[i + 1 + j]? from by simp [World.cell?, hg], ← Array.getElem?_toList]
          rw [List.getElem?_drop, ← htk, List.getElem?_take] at hj
          split at hj
          · rw [← hj]; congr 1; omega
          · cases hj) (fun u hu => hx1 u (List.mem_of_mem_drop hu)) (by omega) (by rw [hdl, hz1, hcs]; omega)
      rw [this, hW1, hC1, hz1, show i + (n - (i + 1)) = n - 1 from by omega]
    obtain ⟨C2, hC2⟩ : ∃ C2 : Array Value, C2 = (C1.toList.take ((n - 1) * 1) ++ Zs ++ C1.toList.drop ((n - 1) * 1 + 1)).toArray := ⟨_, rfl⟩
    obtain ⟨W2, hW2⟩ : ∃ W2, W2 = W1.setRow g C2 := ⟨_, rfl⟩
    have hclr : ∀ ty c, (Builtin.clear_ #[59] ty #[.slice (some ⟨g, n - 1, none⟩) (n - (n - 1)) c]).run Try.prog W1 = .ok (.tuple #[]) W2 := by
      intro ty c
      have hW1g : W1.heap[g]? = some (.cells C1 2 (0, 0)) := by rw [hW1]; exact setRow_heap _ _ _ _ _ _ hg
      have := run_clearZ (P := Try.prog) W1 59 ty 2 i0 (.int .i64 0) g (n - 1) 1 c C1 2 Try.underlying59 hi0 hz0 (by rw [hz1]; rfl) (by decide) hW1g (by rw [hz1, hC1s]; omega)
      rw [show n - (n - 1) = 1 from by omega, this, hW2, hC2, hZs, hz1]; try simp only [Nat.mul_one, Nat.one_mul]
    have hgr : w.grownBy W2 (some g) := by
      rw [hW2, hW1]
      exact grown_trans (grown_trans grown_drew (grown_row _) (fun x hx => by cases hx; exact Or.inl rfl)) (grown_row _) (fun x hx => by cases hx; exact Or.inl rfl)
    have hW2a : W2.heap[g]? = some (.cells C2 2 (0, 0)) := by rw [hW2]; exact setRow_heap _ _ _ _ _ _ (by rw [hW1]; exact setRow_heap _ _ _ _ _ _ hg)
    have fin : W2.ownsRow B 2 1 (.slice (some ⟨g, 0, none⟩) (n - 1) cap) (n - 1) (xs.take (i * 1) ++ xs.drop (i * 1 + 1)) := by
      rw [hC1] at hC2
      simp only [List.toList_toArray] at hC2
      rw [show (n - 1) * 1 = n * 1 - 1 from by omega] at hC2
      obtain ⟨L1, L2⟩ := L
      refine ⟨?_, Or.inr ⟨g, cap, C2, rfl, hBg, hW2a, by omega, by unfold maxLen; omega, ?_, ?_⟩⟩
      · rw [List.length_append, hdl, List.length_take, hxl]; omega
      · rw [hC2]; simpa using L1
      · rw [hC2, show (n - 1) * 1 = n * 1 - 1 from by omega]; simpa using L2
    have Happ := Lib.hid happ; have Hclr := Lib.hid hclr; have Hgr := Lib.hid hgr; have Hfin := Lib.hid fin
    clear happ hclr hgr fin hW1 hW2 hC1 hC2 hW2a L hZs hZl hdl hzc hC1s hxl hx1 hown htk hcs hg
    have hw1 : IntKind.i64.wrap ((i : Int) + 1) = (i : Int) + 1 := IntWalk.i64_in _ (by omega)
    have hb1 : (0 : Int) ≤ (i : Int) + 1 := by omega
    have htn : ((i : Int) + 1).toNat = i + 1 := by omega
    have hb3 : (i : Int) + 1 ≤ (n : Int) := by omega
    have hb4 : ¬ (cap = n - 1) := by omega
    have hb6 : ¬ (n = i) := by omega
    have hb7 : ¬ (cap = i) := by omega
    have hb8 : ((n - 1 : Nat) : Int) ≤ (n : Int) := by omega
    have hb9 : (n : Int) ≤ (cap : Int) := by omega
    have hb10 : (i : Int) ≤ (cap : Int) := by omega
    have hb11 : (i : Int) + 1 ≤ (cap : Int) := by omega
    have hb12 : (i : Int) < (n : Int) := by omega
    by_cases hb2 : cap = i + 1
    · have Happ2 := fun ty c => Happ.out ty ⟨g, 0, none⟩ c (fun h => absurd h (by omega))
      have hn0 : n - (i + 1) = 0 := by omega
      rw [hn0] at Happ2
      have HA := Lib.hid Happ2; clear Happ Happ2 hn0
      subst hb2
      have hb13 : (i : Int) ≤ (i : Int) + 1 := by omega
      go_enter Try.func74, Try.ntmps74
      go_wp2_with fail
      go_region_law (refine step_append_run rfl _ _ 59 59 rfl _ _ (by simp [Act.eval, Act.put]) (by simp [Act.eval, Act.put]) (HA.out _ 0) ?_)
      go_wp2_with (refine wpList_clear_run _ rfl _ 59 rfl _ rfl (Hclr.out _ (i + 1 - (n - 1))) ?_)
      go_ret
      exact ⟨_, rfl, Hfin.out, Hgr.out, _, rfl, by omega⟩
    · have Happ2 := fun ty c => Happ.out ty ⟨g, i + 1, none⟩ c (fun _ => rfl)
      have HA := Lib.hid Happ2; clear Happ Happ2
      go_enter Try.func74, Try.ntmps74
      go_wp2_with fail
      go_region_law (refine step_append_run rfl _ _ 59 59 rfl _ _ (by simp [Act.eval, Act.put]) (by simp [Act.eval, Act.put]) (HA.out _ (cap - (i + 1))) ?_)
      go_wp2_with (refine wpList_clear_run _ rfl _ 59 rfl _ rfl (Hclr.out _ (cap - (n - 1))) ?_)
      go_ret
      exact ⟨_, rfl, Hfin.out, Hgr.out, _, rfl, by omega⟩

end Go.Proofs.Ytkdolemhhihidaa

namespace Go.Proofs.Ytkdolemhhihidaa
open Go.RowKit

theorem Cell_info : (Try.prog.info? 73).map (fun i => (i.zero, i.size, i.bytes)) = some (some (.agg #[.int .i64 0, .slice none 0 0, .int .i64 0, .slice none 0 0]), 4, 64) := by kernel_rfl
theorem Cell_size (w : World) : (sizeOf 73).run Try.prog w = .ok 4 w := by kernel_rfl
set_option maxHeartbeats 400000 in
theorem Cell_Clone (v : Value) (n : Nat) (F : List Value) (w : World) (hv : Src w v n 4 F) (hn : n * 64 ≤ 140737488355328) :
    Calls Try.prog 57 #[v] w fun e w' => ∃ v', e = .returned v' ∧ w'.ownsRow w.heap.size 73 4 v' n F ∧ Kp w w' := by
  obtain ⟨⟨a, cap, rfl, hc, hF⟩, hl, h1⟩ := hv
  obtain ⟨i0, hi, hz0, hz1, hz2⟩ := info_parts Cell_info
  have heq := fun (w : World) (a : Option Addr) (n c : Nat) => Lib.run_eql_slice_nil (P := Try.prog) w 56 73 a n c 0 0 Try.underlying56
  cases a with
  | none =>
    have h0 : F = [] := by
      cases F with
      | nil => rfl
      | cons x r => obtain ⟨b, o, h, _⟩ := hF 0 (by simp); cases h
    subst h0
    have hn0 : n = 0 := by simp at hl; omega
    subst hn0
    clear hF hc
    go_enter Try.func57, Try.ntmps57
    go_wp2
    go_ret
    exact ⟨_, rfl, World.ownsRow_nil _ _ _ _, (by repeat (first | with_reducible exact Kp.refl _ | with_reducible assumption | with_reducible refine Kp.alloc ?_ _ | with_reducible refine Kp.drew ?_ | with_reducible refine Kp.drewN ?_ _ | with_reducible refine Kp.setCell ?_ ?_ _ | with_reducible refine Kp.trans ?_ (by with_reducible assumption) | (dsimp only; omega) | omega))⟩
  | some ad =>
    have hcell : ∀ j u, F[j]? = some u → (w.alloc (.cells #[] 73)).cell? (ad.add j) = some u := by
      intro j u hj
      obtain ⟨hj', rfl⟩ := List.getElem?_eq_some_iff.1 hj
      obtain ⟨b, o, e, hc⟩ := hF j hj'
      cases e
      have hb := World.block_lt_of_cell? w _ hc
      unfold Addr.add
      split
      · rename_i h; subst h; simp only [Nat.add_zero] at hc hb; rw [World.cell?_alloc_lt _ _ _ hb]; exact hc
      · rw [World.cell?_alloc_lt _ _ _ hb]; exact hc
    have hown := World.ownsRow_made w #[] 0 (base := w.heap.size) (e := 73) (size := 4) (Nat.le_refl _) (by decide) rfl
    have Hown := Lib.hid hown; have Hcell := Lib.hid hcell
    clear hF hc hown hcell
    go_enter Try.func57, Try.ntmps57
    go_wp2_with (first | (at_builtin; refine wpList_append_own _ rfl _ _ 56 rfl w.heap.size 73 i0 (.agg #[.int .i64 0, .slice none 0 0, .int .i64 0, .slice none 0 0]) 4 64 Try.underlying56 hi hz0 hz1 hz2 rfl (by decide) _ _ _ rfl Hown.out ad n _ F rfl hl Hcell.out h1 (by unfold maxLen; omega) (by omega) (by simp) ?_; intro v' w1 hown1 hg1 _))
    go_ret
    refine ⟨_, rfl, by simpa using hown1, (((Kp.refl w).alloc _).grown hg1 ?_)⟩
    intro k hk
    cases hk; exact Nat.le_refl _
set_option maxHeartbeats 1000000 in
set_option maxRecDepth 100000 in
theorem Cell_Insert (B : Nat) (v : Value) (n i vb cv : Nat) (vcur : Array Value) (xs vs : List Value) (w : World) (hin : i ≤ n) (hown : w.ownsRow B 73 4 v n xs) (hB : B ≤ w.heap.size) (hn : n ≤ 16777216)
    (hvl : vs.length = 4) (hvb : w.heap[vb]? = some (.cells vcur 73 (0, 0))) (hvc : ∀ (j : Nat) (u : Value), vs[j]? = some u → vcur[j]? = some u) (hne : v.ownBlock ≠ some vb) (hv1 : ∀ u ∈ vs, u.oneCell' = true) (hx1 : ∀ u ∈ xs, u.oneCell' = true) :
    Calls Try.prog 59 #[v, .int .i64 i, .slice (some ⟨vb, 0, none⟩) 1 cv] w fun e w' =>
      ∃ v', e = .returned v' ∧ w'.ownsRow B 73 4 v' (n + 1) (xs.take (i * 4) ++ vs ++ xs.drop (i * 4)) ∧ w.grownBy w' v.ownBlock ∧ ∀ k, v'.ownBlock = some k → v.ownBlock = some k ∨ w.heap.size ≤ k := by
  have hv2 := hown.2
  obtain ⟨i0, hi0, hz0, hz1, hz2⟩ := info_parts Cell_info
  have hxl := hown.1
  have hvcell : ∀ j u, vs[j]? = some u → w.cell? ⟨vb, j, none⟩ = some u := fun j u hj => by simp [World.cell?, hvb]; exact hvc j u hj
  have hvlt : vb < w.heap.size := (Array.getElem?_eq_some_iff.1 hvb).1
  have append_end : ∀ (W : World), W = w → n = i → Calls Try.prog 59 #[v, .int .i64 i, .slice (some ⟨vb, 0, none⟩) 1 cv] w fun e w' =>
      ∃ v', e = .returned v' ∧ w'.ownsRow B 73 4 v' (n + 1) (xs ++ vs) ∧ w.grownBy w' v.ownBlock ∧ ∀ k, v'.ownBlock = some k → v.ownBlock = some k ∨ w.heap.size ≤ k := by
    intro W _ hni
    subst hni
    have Hown := Lib.hid hown
    have hva : ∀ j u, vs[j]? = some u → w.cell? ((⟨vb, 0, none⟩ : Addr).add j) = some u := fun j u hj => by
      have := hvcell j u hj
      unfold Addr.add; split
      · rename_i h; subst h; exact this
      · simpa using this
    have Hva := Lib.hid hva; have Hl := Lib.hid hvl; have Hne := Lib.hid hne
    clear hva hvcell hvb hvc hvl hne hxl
    rcases hv2 with ⟨rfl, rfl⟩ | ⟨g, cap, cur, rfl, hBg, hg, hnc, hcm, hcs, htk⟩
    · clear hown
      go_enter Try.func59, Try.ntmps59
      go_wp2_with (first | (at_builtin; refine wpList_append_at _ rfl _ _ 56 rfl B 73 i0 (.agg #[.int .i64 0, .slice none 0 0, .int .i64 0, .slice none 0 0]) 4 64 Try.underlying56 hi0 hz0 hz1 hz2 rfl (by decide) _ _ _ rfl Hown.out ⟨vb, 0, none⟩ 1 _ vs rfl (by rw [Hl.out]) Hva.out hv1 (by unfold maxLen; omega) (by omega) hB ?_; intro v' w1 hown1 hg1 hloc1))
      go_ret
      exact ⟨_, rfl, hown1, hg1, hloc1⟩
    · unfold maxLen at hcm
      have Hg := Lib.hid hg; clear hg
      have Hcs := Lib.hid hcs; have Htk := Lib.hid htk; clear hcs htk hown
      go_enter Try.func59, Try.ntmps59
      go_wp2_with (first | (at_builtin; refine wpList_append_at _ rfl _ _ 56 rfl B 73 i0 (.agg #[.int .i64 0, .slice none 0 0, .int .i64 0, .slice none 0 0]) 4 64 Try.underlying56 hi0 hz0 hz1 hz2 rfl (by decide) _ _ _ rfl Hown.out ⟨vb, 0, none⟩ 1 _ vs rfl (by rw [Hl.out]) Hva.out hv1 (by unfold maxLen; omega) (by omega) hB ?_; intro v' w1 hown1 hg1 hloc1))
      all_goals (go_ret; exact ⟨_, rfl, hown1, hg1, hloc1⟩)
  by_cases hi : n = i
  · have h := append_end w rfl hi
    rw [List.take_of_length_le (by rw [hxl, hi]; exact Nat.le_refl _), List.drop_of_length_le (by rw [hxl, hi]; exact Nat.le_refl _), List.append_nil]
    exact h
  · clear append_end
    have hlt : i < n := by omega
    rcases hv2 with ⟨rfl, rfl⟩ | ⟨g, cap, cur, rfl, hBg, hg, hnc, hcm, hcs, htk⟩
    · omega
    · unfold maxLen at hcm
      have hd0 : ((i : Int) == n) = false := by simp; omega
      have hcu : ∀ j, j < cap * 4 → ∃ u, cur[j]? = some u := fun j hj => ⟨cur[j]'(by omega), by rw [Array.getElem?_eq_getElem (by omega)]⟩
      by_cases hroom : n + 1 ≤ cap
      · have hov : ∀ lb cb, (callFunc 75 #[.slice (some ⟨vb, 0, none⟩) 1 cv, .slice (some ⟨g, (i + 1) * 4, none⟩) lb cb]).run Try.prog w = .ok (.value (.bool false)) w := fun lb cb => by
          rw [run_callFunc_extern Try.func75 (by kernel_rfl) (by kernel_rfl) (by kernel_rfl) (e := Extern.SlicesOverlaps.overlaps #[56, 56] #[4]) (by kernel_rfl),
            Lib.run_overlaps_apart w 56 4 73 Try.underlying56 4 Cell_size ⟨vb, 0, none⟩ ⟨g, (i + 1) * 4, none⟩ 1 cv lb cb (by intro h; apply hne; simp only at h; rw [h]; rfl) 73 73 vcur.size cur.size
              (by simp [World.shape?, hvb]) (by simp [World.shape?, hg]) (by omega) (by simp [World.frozen?, hvb]) (by simp [World.frozen?, hvb])]
          rfl
        go_enter Try.func59, Try.ntmps59
        go_wp2_with (simp only [hov])
        have hsrc1 : ∀ j u, (xs.drop (i * 4))[j]? = some u → w.drew.cell? ((⟨g, i * 4, none⟩ : Addr).add j) = some u := fun j u hj => by
          show w.cell? _ = _
          rw [Addr.add_lit, show w.cell? ⟨g, i * 4 + j, none⟩ = cur[i * 4 + j]? from by simp [World.cell?, hg], ← Array.getElem?_toList]
          rw [List.getElem?_drop, ← htk, List.getElem?_take] at hj
          split at hj
          · simpa using hj
          · cases hj
        have hw1 : IntKind.i64.wrap ((i : Int) + 1) = (i : Int) + 1 := IntWalk.i64_in _ (by omega)
        have hb1 : (0 : Int) ≤ (i : Int) + 1 := by omega
        have htn : ((i : Int) + 1).toNat = i + 1 := by omega
        have hb2 : ¬ (cap = i + 1) := by omega
        have hb3 : (i : Int) ≤ (n : Int) + 1 := by omega
        have hb4 : ¬ (cap = i) := by omega
        have hmul : i * 4 + 4 ≤ n * 4 := by omega
        have hdl : (xs.drop (i * 4)).length = (n - i) * 4 := by rw [List.length_drop, hxl]; omega
        have L := ins_list cur.toList xs vs (i * 4) (n * 4) 4 (cap * 4) (by simpa using hcs) htk hvl (by omega) (by omega)
        obtain ⟨C1, hC1⟩ : ∃ C1 : Array Value, C1 = (cur.toList.take ((i + 1) * 4) ++ xs.drop (i * 4) ++ cur.toList.drop ((i + 1) * 4 + (xs.drop (i * 4)).length)).toArray := ⟨_, rfl⟩
        obtain ⟨C2, hC2⟩ : ∃ C2 : Array Value, C2 = (C1.toList.take (i * 4) ++ vs ++ C1.toList.drop (i * 4 + vs.length)).toArray := ⟨_, rfl⟩
        have hC1s : C1.size = cap * 4 := by rw [hC1]; simp; omega
        have HC1 := Lib.hid hC1; have HC2 := Lib.hid hC2
        have hcp2 : ∀ ty dc, (Builtin.copy_ #[56, 56] ty #[.slice (some ⟨g, i * 4, none⟩) (n + 1 - i) dc, .slice (some ⟨vb, 0, none⟩) 1 cv]).run Try.prog (w.drew.setRow g C1) = .ok (goInt ((1 : Nat) : Int)) ((w.drew.setRow g C1).setRow g C2) := by
          intro ty dc
          have hm : Nat.min 1 (n + 1 - i) = 1 := by simp only [Nat.min_def]; split <;> omega
          have hgn : vb ≠ g := by intro h; apply hne; rw [h]; rfl
          have := run_copyZ (P := Try.prog) (w.drew.setRow g C1) 56 56 ty 73 i0 g (i * 4) (n + 1 - i) dc ⟨vb, 0, none⟩ 1 cv C1 73 vs Try.underlying56 hi0 (setRow_heap _ g _ _ _ _ hg) (by rw [hvl, hm, hz1])
            (fun j u hj => by rw [Addr.add_lit, cell_setRow_other _ _ _ _ hgn]; simpa using hvcell j u hj) (by rw [hvl, hC1s]; omega) hv1
          rw [hm] at this
          rw [this, hC2]; try simp only [Nat.mul_one]
        have Hcp2 := Lib.hid hcp2; clear hcp2
        have hcp1 : ∀ ty dc sc, (Builtin.copy_ #[56, 56] ty #[.slice (some ⟨g, (i + 1) * 4, none⟩) (n - i) dc, .slice (some ⟨g, i * 4, none⟩) (n + 1 - i) sc]).run Try.prog w.drew = .ok (goInt ((n - i : Nat) : Int)) (w.drew.setRow g C1) := by
          intro ty dc sc
          have hm : Nat.min (n + 1 - i) (n - i) = n - i := by simp only [Nat.min_def]; split <;> omega
          have := run_copyZ (P := Try.prog) w.drew 56 56 ty 73 i0 g ((i + 1) * 4) (n - i) dc ⟨g, i * 4, none⟩ (n + 1 - i) sc cur 73 (xs.drop (i * 4)) Try.underlying56 hi0 hg (by rw [hdl, hm, hz1]) hsrc1 (by rw [hdl]; omega) (fun u hu => hx1 u (List.mem_of_mem_drop hu))
          rw [hm] at this; rw [this, hC1]
        have Hcp1 := Lib.hid hcp1; clear hcp1 hC1 hC2
        go_region_law (refine step_copy_run rfl _ _ 56 56 rfl _ _ (by simp [Act.eval, Act.put]) (by simp [Act.eval, Act.put]) (Hcp1.out _ (cap - (i + 1)) (cap - i)) ?_)
        go_wp2_with (refine wpList_copy_run _ rfl _ _ 56 56 rfl _ _ rfl rfl (Hcp2.out _ (cap - i)) ?_)
        go_ret
        have e1 : (i + 1) * 4 = i * 4 + 4 := by omega
        have h1 := HC1.out; have h2 := HC2.out
        rw [e1] at h1
        rw [h1] at h2
        simp only [List.toList_toArray] at h2
        obtain ⟨L1, L2⟩ := L
        refine ⟨_, rfl, ⟨?_, Or.inr ⟨g, cap, C2, rfl, hBg, setRow_heap _ g _ _ _ _ (setRow_heap _ g _ _ _ _ hg), hroom, by unfold maxLen; omega, ?_, ?_⟩⟩, ?_⟩
        · simp only [List.length_append, List.length_take, List.length_drop, hxl, hvl]; omega
        · rw [h2]; simpa using L1
        · rw [h2, show (n + 1) * 4 = n * 4 + 4 from by omega]; simpa using L2
        · exact ⟨grown_trans (grown_trans grown_drew (grown_row _) (fun x hx => by cases hx; exact Or.inl rfl)) (grown_row _) (fun x hx => by cases hx; exact Or.inl rfl), fun k hk => Or.inl hk⟩
      · have hcap : cap = n := by omega
        have hk1 : 0 < n + 1 - i := by omega
        have holds : (Builtin.firstCells i0.size i (.slice (some ⟨g, 0, none⟩) i cap)).run Try.prog w.drew = .ok (xs.take (i * 4)).toArray w.drew := by
          have := run_firstCells_some (P := Try.prog) w.drew i0.size i ⟨g, 0, none⟩ i cap (xs.take (i * 4)) (by rw [List.length_take, hz1]; omega) (fun j u hj => by
            show w.cell? _ = _
            rw [Addr.add_lit, show w.cell? ⟨g, 0 + j, none⟩ = cur[0 + j]? from by simp [World.cell?, hg], ← Array.getElem?_toList]
            rw [← htk, List.getElem?_take, List.getElem?_take] at hj
            split at hj
            · split at hj
              · simpa using hj
              · cases hj
            · cases hj)
          exact this
        obtain ⟨gc, hgc⟩ : ∃ gc, gc = grownCap w (i + (n + 1 - i)) cap 73 := ⟨_, rfl⟩
        have hgc1 : n + 1 ≤ gc := by have := grownCap_ge w (i + (n + 1 - i)) cap 73; omega
        have hgc2 : gc ≤ 9223372036854775807 := by have := grownCap_le_maxLen w (i + (n + 1 - i)) cap 73 (by unfold maxLen; omega); unfold maxLen at this; omega
        obtain ⟨Zs, hZs⟩ : ∃ Zs : List Value, Zs = (Builtin.zeroCells (.agg #[.int .i64 0, .slice none 0 0, .int .i64 0, .slice none 0 0] : Value).cells (n + 1 - i)).toList ++ (Builtin.zeroCells (.agg #[.int .i64 0, .slice none 0 0, .int .i64 0, .slice none 0 0] : Value).cells (gc - (n + 1))).toList := ⟨_, rfl⟩
        have hzc : (.agg #[.int .i64 0, .slice none 0 0, .int .i64 0, .slice none 0 0] : Value).cells.size = 4 := rfl
        have hZl : Zs.length = (gc - i) * 4 := by rw [hZs]; simp only [List.length_append, Array.length_toList, size_zeroCells, hzc]; omega
        obtain ⟨W1, hW1⟩ : ∃ W1, W1 = w.drew.alloc (.cells (xs.take (i * 4) ++ Zs).toArray 73) := ⟨_, rfl⟩
        have happ : ∀ ty, (Builtin.append_ #[56, 3] ty #[.slice (some ⟨g, 0, none⟩) i cap, .int .i64 ((n : Int) + 1 - (i : Int))]).run Try.prog w = .ok (.slice (some ⟨w.heap.size, 0, none⟩) (n + 1) gc) W1 := by
          intro ty
          have := Lib.run_append_grow_zeros (P := Try.prog) w 56 3 ty 73 i0 (.agg #[.int .i64 0, .slice none 0 0, .int .i64 0, .slice none 0 0]) .i64 .i64 Try.underlying56 Try.underlying3 hi0 hz0 (some ⟨g, 0, none⟩) i cap (xs.take (i * 4)) holds (n + 1 - i) hk1 (by rw [hz1]; decide) (by omega) (by omega) (by rw [hz2]; omega) (growslice_fits (by omega) (by rw [hz2]; omega))
          rw [show ((n : Int) + 1 - (i : Int)) = ((n + 1 - i : Nat) : Int) from by omega, this, hW1, ← hgc, hZs, show i + (n + 1 - i) = n + 1 from by omega]
          congr 3
          apply Array.ext'
          simp [List.append_assoc]
        have hW1a : W1.heap[w.heap.size]? = some (.cells (xs.take (i * 4) ++ Zs).toArray 73 (0, 0)) := by rw [hW1]; exact heap_alloc_new w.drew _
        have hW1b : ∀ k, k < w.heap.size → W1.heap[k]? = w.heap[k]? := fun k hk => by rw [hW1]; exact heap_alloc_old w.drew _ hk
        have hW1g : w.grownBy W1 none := by rw [hW1]; exact grown_trans grown_drew (World.grownBy_alloc _ _ none) (fun x hx => by cases hx)
        have hglt : g < w.heap.size := (Array.getElem?_eq_some_iff.1 hg).1
        obtain ⟨A1, hA1⟩ : ∃ A1 : Array Value, A1 = ((xs.take (i * 4) ++ Zs).take (i * 4) ++ vs ++ (xs.take (i * 4) ++ Zs).drop (i * 4 + vs.length)).toArray := ⟨_, rfl⟩
        obtain ⟨W2, hW2⟩ : ∃ W2, W2 = W1.setRow w.heap.size A1 := ⟨_, rfl⟩
        have hcpA : ∀ ty dc, (Builtin.copy_ #[56, 56] ty #[.slice (some ⟨w.heap.size, i * 4, none⟩) (n + 1 - i) dc, .slice (some ⟨vb, 0, none⟩) 1 cv]).run Try.prog W1 = .ok (goInt ((1 : Nat) : Int)) W2 := by
          intro ty dc
          have hm : Nat.min 1 (n + 1 - i) = 1 := by simp only [Nat.min_def]; split <;> omega
          have := run_copyZ (P := Try.prog) W1 56 56 ty 73 i0 w.heap.size (i * 4) (n + 1 - i) dc ⟨vb, 0, none⟩ 1 cv _ 73 vs Try.underlying56 hi0 hW1a (by rw [hvl, hm, hz1])
            (fun j u hj => by rw [Addr.add_lit, World.cell?_of_block (hW1b vb hvlt)]; simpa using hvcell j u hj) (by rw [hvl]; simp only [List.size_toArray, List.length_append, List.length_take, hZl, hxl]; omega) hv1
          rw [hm] at this
          rw [this, hW2, hA1]
        have hA1s : A1.size = gc * 4 := by rw [hA1]; simp only [List.size_toArray, List.length_append, List.length_take, List.length_drop, hZl, hxl, hvl]; omega
        have hW2a : W2.heap[w.heap.size]? = some (.cells A1 73 (0, 0)) := by rw [hW2]; exact setRow_heap _ _ _ _ _ _ hW1a
        have hW2b : ∀ k, k < w.heap.size → W2.heap[k]? = w.heap[k]? := fun k hk => by rw [hW2, setRow_other _ _ _ _ (by omega)]; exact hW1b k hk
        have hdl : (xs.drop (i * 4)).length = (n - i) * 4 := by rw [List.length_drop, hxl]; omega
        obtain ⟨A2, hA2⟩ : ∃ A2 : Array Value, A2 = (A1.toList.take ((i + 1) * 4) ++ xs.drop (i * 4) ++ A1.toList.drop ((i + 1) * 4 + (xs.drop (i * 4)).length)).toArray := ⟨_, rfl⟩
        obtain ⟨W3, hW3⟩ : ∃ W3, W3 = W2.drew.setRow w.heap.size A2 := ⟨_, rfl⟩
        have hcpB : ∀ ty dc sc, (Builtin.copy_ #[56, 56] ty #[.slice (some ⟨w.heap.size, (i + 1) * 4, none⟩) (n - i) dc, .slice (some ⟨g, i * 4, none⟩) (n - i) sc]).run Try.prog W2.drew = .ok (goInt ((n - i : Nat) : Int)) W3 := by
          intro ty dc sc
          have hm : Nat.min (n - i) (n - i) = n - i := Nat.min_self _
          have := run_copyZ (P := Try.prog) W2.drew 56 56 ty 73 i0 w.heap.size ((i + 1) * 4) (n - i) dc ⟨g, i * 4, none⟩ (n - i) sc A1 73 (xs.drop (i * 4)) Try.underlying56 hi0 hW2a (by rw [hdl, hm, hz1])
            (fun j u hj => by
              show W2.cell? _ = _
              rw [Addr.add_lit, World.cell?_of_block (hW2b g hglt), show w.cell? ⟨g, i * 4 + j, none⟩ = cur[i * 4 + j]? from by simp [World.cell?, hg], ← Array.getElem?_toList]
              rw [List.getElem?_drop, ← htk, List.getElem?_take] at hj
              split at hj
              · simpa using hj
              · cases hj) (by rw [hdl, hA1s]; omega) (fun u hu => hx1 u (List.mem_of_mem_drop hu))
          rw [hm] at this
          rw [this, hW3, hA2]
        have L := ins_new xs vs Zs (i * 4) (n * 4) 4 (by rw [hxl]) hvl (by omega) (by rw [hZl]; omega)
        have hW3a : W3.heap[w.heap.size]? = some (.cells A2 73 (0, 0)) := by rw [hW3]; exact setRow_heap _ _ _ _ _ _ hW2a
        have hW3g : w.grownBy W3 (some g) := by
          rw [hW3, hW2]
          exact grown_trans (grown_trans (grown_trans (r := some g) (⟨hW1g.os, hW1g.tape, hW1g.output, hW1g.size, fun k hk _ => hW1b k hk⟩) (grown_row _) (fun x hx => by cases hx; exact Or.inr (Nat.le_refl _))) grown_drew (s := none) (fun x hx => by cases hx)) (grown_row _) (fun x hx => by cases hx; exact Or.inr (Nat.le_refl _))
        have HA1 := Lib.hid hA1; have HA2 := Lib.hid hA2; have Happ := Lib.hid happ; have HcpA := Lib.hid hcpA; have HcpB := Lib.hid hcpB; have HL := Lib.hid L; have HW3a := Lib.hid hW3a; have HW3g := Lib.hid hW3g; have Hxl := Lib.hid hxl; have Hvl := Lib.hid hvl; have HZl := Lib.hid hZl
        clear hA1 hA2 happ hcpA hcpB L hW3a hW3g hW1 hW2 hW3 hZs hgc holds hW1a hW1b hW1g hA1s hW2a hW2b hdl hzc hZl hxl hvl hown htk hcs hcu hvb hvc hvcell hx1 hv1 hne hg
        have hw1 : IntKind.i64.wrap ((i : Int) + 1) = (i : Int) + 1 := IntWalk.i64_in _ (by omega)
        have hb1 : (0 : Int) ≤ (i : Int) + 1 := by omega
        have htn : ((i : Int) + 1).toNat = i + 1 := by omega
        have hb2 : ¬ (gc = i + 1) := by omega
        have hb3 : (i : Int) ≤ (n : Int) + 1 := by omega
        have hb4 : ¬ (gc = i) := by omega
        have hb5 : ¬ (cap = i) := by omega
        clear hcap
        go_enter Try.func59, Try.ntmps59
        go_wp2_with (first | (at_builtin; refine Lib.wpList_append_run _ rfl _ _ 56 3 rfl _ _ rfl rfl _ _ (Happ.out _) ?_) | (refine wpList_copy_run _ rfl _ _ 56 56 rfl _ _ rfl rfl (HcpA.out _ (gc - i)) ?_))
        go_region_law (refine step_copy_run rfl _ _ 56 56 rfl _ _ (by simp [Act.eval, Act.put]) (by simp [Act.eval, Act.put]) (HcpB.out _ (gc - (i + 1)) (cap - i)) ?_)
        go_wp2
        go_ret
        have e1 : (i + 1) * 4 = i * 4 + 4 := by omega
        have h1 : A1 = ((xs.take (i * 4) ++ Zs).take (i * 4) ++ vs ++ (xs.take (i * 4) ++ Zs).drop (i * 4 + vs.length)).toArray := by have := HA1.out; simpa only [Nat.mul_one] using this
        have h2 := HA2.out
        rw [e1, h1] at h2
        simp only [List.toList_toArray] at h2
        obtain ⟨L1, L2⟩ := HL.out
        refine ⟨_, rfl, ⟨?_, Or.inr ⟨w.heap.size, gc, A2, rfl, hB, HW3a.out, hgc1, by unfold maxLen; omega, ?_, ?_⟩⟩, HW3g.out, fun k hk => by cases hk; exact Or.inr (Nat.le_refl _)⟩
        · simp only [List.length_append, List.length_take, List.length_drop, Hxl.out, Hvl.out]; omega
        · rw [h2]; simp only [List.size_toArray]; rw [L1, HZl.out]; omega
        · rw [h2, show (n + 1) * 4 = n * 4 + 4 from by omega]; simpa using L2

end Go.Proofs.Ytkdolemhhihidaa
