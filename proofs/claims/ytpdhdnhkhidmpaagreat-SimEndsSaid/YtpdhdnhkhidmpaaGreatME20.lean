/- Lemmas of Ct1, Cr1. No condition. -/
import Derived.Test.YtpdhdnhkhidmpaaGreatME19
set_option linter.unusedVariables false
set_option linter.unusedSimpArgs false
set_option maxHeartbeats 80000000
set_option maxRecDepth 100000
namespace Go.Proofs.YtpdhdnhkhidmpaaGreat
open Go.RowKit
section
namespace Core
open Dir (FZ plc upd upW Iw okW dq upd_same upd_ne pow_pos2)
variable {sm : List Int → Int} {P : Ops}
def FrC (P : Ops) (x : X) (f : Fd) (c : Cel) (r : Rpl) : Prop :=
 (x.op = 1 ∧ (∃ t, P.allow (P.pol x.pol) f.cell t x.n = (r, c)) ∧ r.g = true ∧ x.n ≠ 0) ∨
 (x.op = 2 ∧ (f.cell.held.length : Int) ≠ (P.pol x.pol).permits ∧ P.acq (P.pol x.pol) f.cell x.ser = (r, c) ∧ 0 < x.ser) ∨
 (x.op = 3 ∧ P.rel (P.pol x.pol) f.cell x.n = (r, c) ∧ r.e = 0)
def Fo (x : X) : Fc → Prop
 | .key => x.op ≠ 5 ∧ x.op ≠ 6
 | .ev _ _ _ => x.op = 5
def FrR (x : X) (r : Rpl) : Prop := (x.op = 1 ∧ r.e = 0) ∨ (x.op = 2 ∧ (r.e = 0 → r.serial = x.ser ∧ 0 < x.ser))
def FrB (x : X) : Bk → Prop
 | .lv r => FrR x r ∧ r.e ≠ 10
 | .ev _ _ _ => x.op = 5
def Fr (P : Ops) (x : X) : CS → Prop
 | .none => True
 | .k0 f => Fo x f
 | .kE f _ => Fo x f
 | .kF f _ _ => Fo x f
 | .kG f _ _ _ _ => Fo x f
 | .kH f _ _ _ => Fo x f
 | .kL f _ _ _ => Fo x f
 | .al _ => x.op = 1
 | .pk _ => x.op ≠ 1 ∧ x.op ≠ 2 ∧ x.op ≠ 3 ∧ x.op ≠ 5 ∧ x.op ≠ 6
 | .a0 f => x.op = 2 ∧ (f.cell.held.length : Int) ≠ (P.pol x.pol).permits
 | .a1 f _ => x.op = 2 ∧ (f.cell.held.length : Int) ≠ (P.pol x.pol).permits
 | .p0 f c r => FrC P x f c r
 | .p1 f c r _ => FrC P x f c r
 | .pS f c r => FrC P x f c r
 | .b0 _ k => FrB x k
 | .b1 _ k _ => FrB x k
 | .e0 => x.op = 5
 | .eC _ _ _ _ _ _ => x.op = 5
 | .eS _ _ _ _ _ _ _ => x.op = 5
 | .s0 => x.op = 6
 | .sM _ => x.op = 6
 | .sF _ _ => x.op = 6
 | .sG _ _ _ _ => x.op = 6
 | .sH _ _ _ _ => x.op = 6
 | .sL _ _ _ _ => x.op = 6
 | .sV _ => x.op = 6
structure OpsRe (P : Ops) : Prop where
 allow : ∀ p c t n, (P.allow p c t n).1.e = 0
 acq : ∀ p c n, (P.acq p c n).1.e ≠ 10
 acqs : ∀ p c n, (P.acq p c n).1.e = 0 → (P.acq p c n).1.serial = n
 rel : ∀ p c n, (P.rel p c n).1.e ≠ 10
 peek : ∀ p c t, (P.peek p c t).e = 0
structure FrP (P : Ops) (x : X) (p : CS × Rs) : Prop where
 s : Fr P x p.1
 e : p.2.r.e ≠ 10
theorem FrC.rr (hP : OpsRe P) {x : X} {f : Fd} {c : Cel} {r : Rpl} (h : FrC P x f c r) : r.e ≠ 10 ∧ (x.op = 3 ∧ r.e = 0 ∨ FrR x r) := by
 rcases h with ⟨h1, ⟨t, ht⟩, h3, h4⟩ | ⟨h1, h2, h3, h4⟩ | ⟨h1, h2, h3⟩
 ·have := hP.allow (P.pol x.pol) f.cell t x.n
  rw [ht] at this
  have e0 : r.e = 0 := this
  exact ⟨by omega, .inr (.inl ⟨h1, e0⟩)⟩
 ·have g1 := hP.acq (P.pol x.pol) f.cell x.ser
  have g2 := hP.acqs (P.pol x.pol) f.cell x.ser
  rw [h3] at g1 g2
  exact ⟨g1, .inr (.inr ⟨h1, fun e => ⟨g2 e, h4⟩⟩)⟩
 ·exact ⟨by omega, .inl ⟨h1, h3⟩⟩
theorem eQ {x : X} {r : Rpl} (h : x.res = true → FrR x r) (h2 : r.e ≠ 10) : FrP P x (leave x r) := by
 unfold leave; split
 ·exact ⟨⟨h (by assumption), h2⟩, by show (0 : Int) ≠ 10; decide⟩
 ·exact ⟨trivial, h2⟩
theorem rq {x : X} {f : Fd} {c : Cel} {r : Rpl} (h : FrC P x f c r) : Fr P x (put x f c r) := by unfold put; split <;> exact h
theorem dg {x : X} (h : x.op = 5) (j sh : Nat) (g : Int) : FrP P x (further j sh g) := by
 unfold further; split
 ·exact ⟨trivial, by show (0 : Int) ≠ 10; decide⟩
 ·exact ⟨h, by show (0 : Int) ≠ 10; decide⟩
theorem tA {x : X} {n : Int} {k : Bk} (h : FrB x k) : FrP P x (after n k) := by
 cases k with
 | lv r => exact ⟨trivial, h.2⟩
 | ev j sh g => exact dg h _ _ _
theorem pO (hP : OpsRe P) {x : X} {f : Fd} (h : x.op ≠ 5 ∧ x.op ≠ 6) : FrP P x (foundK P x f) := by
 have z : (0 : Int) ≠ 10 := by decide
 unfold foundK
 by_cases h1 : x.op = 1
 ·rw [if_pos h1]; exact ⟨h1, z⟩
 rw [if_neg h1]
 by_cases h2 : x.op = 2
 ·rw [if_pos h2]
  split
  ·exact eQ (fun _ => .inr ⟨h2, fun e => by cases e⟩) (by show (9 : Int) ≠ 10; decide)
  ·rename_i h3
   split
   ·exact ⟨rq (.inr (.inl ⟨h2, h3, rfl, by assumption⟩)), z⟩
   ·exact ⟨⟨h2, h3⟩, z⟩
 rw [if_neg h2]
 by_cases h3 : x.op = 3
 ·rw [if_pos h3]
  split
  ·exact ⟨rq (.inr (.inr ⟨h3, rfl, by assumption⟩)), z⟩
  ·exact ⟨trivial, hP.rel _ _ _⟩
 rw [if_neg h3]
 split
 ·exact ⟨trivial, by rw [hP.peek]; exact z⟩
 ·exact ⟨⟨h1, h2, h3, h⟩, z⟩
theorem iM (hP : OpsRe P) {x : X} {f : Fc} (hf : Fo x f) (w : Nat) (v : Int) (l : List Cel) : FrP P x (entered P x f w v l) := by
 unfold entered
 split
 ·exact ⟨hf, by show (0 : Int) ≠ 10; decide⟩
 ·unfold found
  cases f with
  | key => exact pO hP hf
  | ev j sh g =>
   dsimp only
   split
   ·exact dg hf _ _ _
   ·exact ⟨hf, by show (0 : Int) ≠ 10; decide⟩
theorem on_fr {x : X} (h : x.op = 6) (lv i : Nat) (up : Bool) (m : List Cel) : Fr P x (on lv i up m) := by
 unfold on move; split
 ·split <;> exact h
 ·exact h
theorem step_fr (hP : OpsRe P) {M : Mc} {x : X} {s : CS} (hs : Cw x M.W s) (h : Fr P x s) (hr : Rx x s) :
  Fr P (step P M x s).x (step P M x s).s ∧ ((step P M x s).r.r.e = 10 → M.W 32 = P.room ∧ (step P M x s).M = M) := by
 have z : (0 : Int) ≠ 10 := by decide
 have pp : ∀ {p : CS × Rs}, FrP P x p → Fr P (same M x p).x (same M x p).s ∧ ((same M x p).r.r.e = 10 → M.W 32 = P.room ∧ (same M x p).M = M) := fun h => ⟨h.s, fun e => absurd e h.e⟩
 have z0 : ∀ {q : Prop}, r0.r.e = 10 → q := fun e => absurd e z
 cases s with
 | none => exact ⟨trivial, z0⟩
 | k0 f => refine ⟨?_, z0⟩; show Fr P x (if _ then _ else _); split <;> exact h
 | kE f w => exact pp (iM hP h _ _ _)
 | kF f lv w => refine ⟨?_, z0⟩; show Fr P x (if _ then _ else _); split <;> exact h
 | kG f lv w v m => simp only [step]; split <;> exact ⟨h, z0⟩
 | kH f lv w m =>
  simp only [step]; split
  ·exact ⟨h, z0⟩
  ·exact pp (iM hP h _ _ _)
 | kL f lv w m => exact ⟨h, z0⟩
 | al f =>
  have h1 : x.op = 1 := h
  simp only [step]; split
  ·exact pp (eQ (fun _ => .inl ⟨h1, hP.allow _ _ _ _⟩) (by rw [hP.allow]; exact z))
  ·rename_i hc
   have hc : ¬ ((P.allow (P.pol x.pol) f.cell M.clk x.n).1.g = false ∨ x.n = 0) := hc
   refine ⟨rq (.inl ⟨h1, ⟨M.clk, rfl⟩, ?_, fun e => hc (.inr e)⟩), z0⟩
   cases e : (P.allow (P.pol x.pol) f.cell M.clk x.n).1.g with
   | true => rfl
   | false => exact absurd (.inl e) hc
 | pk c => exact ⟨trivial, fun e => absurd e (by show (P.peek _ _ _).e ≠ 10; rw [hP.peek]; exact z)⟩
 | a0 f =>
  simp only [step]; split
  ·exact pp (eQ (fun _ => .inr ⟨h.1, fun e => by cases e⟩) (by show (5 : Int) ≠ 10; decide))
  ·exact ⟨h, z0⟩
 | a1 f u =>
  simp only [step]; split
  ·rename_i hc
   refine ⟨?_, z0⟩
   show Fr P { x with ser := u + 1 } (put x f _ _)
   have hu : 0 < u + 1 := by have := hs.2.1; omega
   have hC : FrC P { x with ser := u + 1 } f (P.acq (P.pol x.pol) f.cell (u + 1)).2 (P.acq (P.pol x.pol) f.cell (u + 1)).1 := .inr (.inl ⟨h.1, h.2, rfl, hu⟩)
   unfold put; split <;> exact hC
  ·exact ⟨h, z0⟩
 | p0 f c r =>
  simp only [step]; split
  ·rename_i hc; exact ⟨trivial, fun _ => ⟨hc, rfl⟩⟩
  ·exact ⟨h, z0⟩
 | p1 f c r u => simp only [step]; split <;> exact ⟨h, z0⟩
 | pS f c r =>
  have hrr := FrC.rr hP h
  simp only [step]; split
  ·show Fr P x (if f.there = true then leave x r else (.none, ⟨true, r⟩) : CS × Rs).1 ∧ ((if f.there = true then leave x r else (.none, ⟨true, r⟩) : CS × Rs).2.r.e = 10 → _)
   have hp : FrP P x (if f.there = true then leave x r else (.none, ⟨true, r⟩)) := by
    split
    ·refine eQ (fun hres => ?_) hrr.1
     rcases hrr.2 with ⟨a, _⟩ | a
     ·have := hr.op hres; omega
     ·exact a
    ·exact ⟨trivial, hrr.1⟩
   exact ⟨hp.s, fun e => absurd e hp.e⟩
  ·refine ⟨?_, z0⟩
   show x.op ≠ 5 ∧ x.op ≠ 6
   rcases h with h | h | h <;> (have := h.1; omega)
 | b0 n k => exact ⟨h, z0⟩
 | b1 n k u =>
  simp only [step]; split
  ·have hp := tA (P := P) (n := n) h
   exact ⟨hp.s, fun e => absurd e hp.e⟩
  ·exact ⟨h, z0⟩
 | e0 => exact ⟨h, z0⟩
 | eC j sh g w v m =>
  simp only [step]; split
  ·exact pp (dg h _ _ _)
  ·exact ⟨h, z0⟩
 | eS j sh g w v m n =>
  simp only [step]; split
  ·exact ⟨h, z0⟩
  ·exact pp (dg h _ _ _)
 | s0 =>
  simp only [step]; split
  ·exact ⟨h, z0⟩
  ·split
   ·exact ⟨trivial, fun e => by cases e⟩
   ·exact ⟨h, z0⟩
 | sM lv => simp only [step]; split <;> exact ⟨h, z0⟩
 | sF lv i => refine ⟨?_, z0⟩; show Fr P x (if _ then _ else _); split <;> exact h
 | sG lv i v m => simp only [step]; split <;> exact ⟨h, z0⟩
 | sH lv i up m => refine ⟨?_, z0⟩; show Fr P x (if _ then _ else _); split; exact h; exact on_fr h _ _ _ _
 | sL lv i up m => exact ⟨on_fr h _ _ _ _, z0⟩
 | sV lv => exact ⟨trivial, fun e => absurd e z⟩
end Core
end
section
theorem dec_put {T tau tat now n : Int} (h : (v5 T tau tat now n).g = true) (h0 : n ≠ 0) :
  0 < n ∧ 1 ≤ T ∧ 0 ≤ n * T ∧ (v5 T tau tat now n).tat = max tat now + n * T ∧ max tat now + n * T ≤ now + tau + T := by
 unfold v5 at h ⊢
 split at h
 ·rename_i h1
  rw [if_pos h1]
  obtain ⟨⟨a1, a2⟩, b1, b2, b3⟩ := (mG _ _ _ _ _).1 h1
  have hl : n ≤ cJ T tau tat now := by simpa [decI] using h
  have hn : 0 < n := by omega
  have hm : 0 ≤ n * T := Int.mul_nonneg (by omega) (by omega)
  refine ⟨hn, a1.1, hm, ?_, ?_⟩
  ·show tatI T tau tat now n = _
   unfold tatI; rw [if_pos ⟨hl, hn⟩]
  ·unfold cJ at hl
   split at hl
   ·omega
   ·have h9 : n - 1 ≤ (tau - (max tat now - now)) / T := by omega
    have h10 : (n - 1) * T ≤ tau - (max tat now - now) := (Int.le_ediv_iff_mul_le (show 0 < T by omega)).1 h9
    rw [Int.sub_mul] at h10
    omega
 ·cases h
namespace Core
open Dir (FZ plc upd Iw upd_same upd_ne)
open Hm (a6 cj)
section
variable (T tau fr to_ : Int) (key : List Int)
def rated (x : X) (r : Rpl) : Int := if x.op = 1 ∧ x.pol = 0 ∧ x.key = key ∧ r.g = true ∧ fr ≤ r.now ∧ r.now ≤ to_ ∧ 0 ≤ x.n then x.n else 0
def lG (sm : List Int → Int) (M : Mc) : Int := match own sm M (0 :: key) with | some c => c.tat | none => 0
def Bd (R v : Int) : Prop := R = 0 ∨ fr + T * R ≤ v
def RtC (R : Int) (M : Mc) (x : X) (f : Fd) (r : Rpl) : Prop := x.op = 1 → x.pol = 0 → x.key = key → M.W f.w = f.v → Bd T fr R (max f.cell.tat r.now)
def RtS (R : Int) (M : Mc) (x : X) : CS → Prop
 | .p0 f _ r => RtC T fr key R M x f r
 | .p1 f _ r _ => RtC T fr key R M x f r
 | .pS f _ r => RtC T fr key R M x f r
 | _ => True
def aX (x : X) : CS → Int
 | .b0 _ (.lv r) => rated fr to_ key x r
 | .b1 _ (.lv r) _ => rated fr to_ key x r
 | _ => 0
def toldR (x : X) (r : Rs) : Int := if r.done = true then rated fr to_ key x r.r else 0
def uA (M : Mc) (x : X) : CS → Int
 | .pS f _ r => if M.W f.w = f.v then rated fr to_ key x r else 0
 | _ => 0
structure RI (sm : List Int → Int) (R : Int) (M : Mc) (S : Nat → Wk) : Prop where
 nn : 0 ≤ R
 a : Bd T fr R (max (lG key sm M) M.clk)
 b : ∀ i, RtS T fr key R M (S i).x (S i).s
 l : R ≤ (to_ - fr + tau) / T + 1
end
variable {T tau fr to_ : Int} {key : List Int} {sm : List Int → Int} {P : Ops}
theorem ur (x : X) (r : Rpl) : 0 ≤ rated fr to_ key x r := by unfold rated; split <;> omega
theorem fx {x : X} {r : Rpl} (h : r.g = false) : rated fr to_ key x r = 0 := by unfold rated; rw [if_neg (by rw [h]; simp)]
theorem eI {x : X} {r : Rpl} (h : x.op ≠ 1) : rated fr to_ key x r = 0 := by unfold rated; rw [if_neg (fun e => h e.1)]
theorem uC (x : X) (s : CS) : 0 ≤ aX fr to_ key x s := by
 unfold aX; split <;> first | exact ur _ _ | exact Int.le_refl _
theorem Bd.mono {R v w : Int} (h : Bd T fr R v) (e : v ≤ w) : Bd T fr R w := by
 rcases h with h | h
 ·exact .inl h
 ·exact .inr (by omega)
theorem gG (x : X) (r : Rpl) : aX fr to_ key x (leave x r).1 + toldR fr to_ key x (leave x r).2 = rated fr to_ key x r := by
 unfold leave; split
 ·show rated fr to_ key x r + 0 = _; omega
 ·show 0 + rated fr to_ key x r = _; omega
theorem gx (y x : X) (f : Fd) (c : Cel) (r : Rpl) : aX fr to_ key y (put x f c r) = 0 := by unfold put; split <;> rfl
theorem dU (x : X) (j sh : Nat) (g : Int) : aX fr to_ key x (further j sh g).1 + toldR fr to_ key x (further j sh g).2 = 0 := by
 unfold further; split
 ·show 0 + rated fr to_ key x (gn g) = 0
  rw [fx rfl]; rfl
 ·rfl
theorem jK (x : X) (f : Fc) (w : Nat) (v : Int) (l : List Cel) : aX fr to_ key x (entered P x f w v l).1 + toldR fr to_ key x (entered P x f w v l).2 = 0 := by
 unfold entered
 split
 ·rfl
 ·unfold found
  cases f with
  | key =>
   show aX fr to_ key x (foundK P x (fdOf P x w v l)).1 + toldR fr to_ key x (foundK P x (fdOf P x w v l)).2 = 0
   unfold foundK
   split
   ·rfl
   ·rename_i h1
    split
    ·split
     ·rw [gG, eI h1]
     ·split
      ·show aX fr to_ key x (put x _ _ _) + 0 = 0; rw [gx]; rfl
      ·rfl
    ·split
     ·split
      ·show aX fr to_ key x (put x _ _ _) + 0 = 0; rw [gx]; rfl
      ·show 0 + rated fr to_ key x _ = 0; rw [eI h1]; rfl
     ·split
      ·show 0 + rated fr to_ key x _ = 0; rw [eI h1]; rfl
      ·rfl
  | ev j sh g =>
   dsimp only
   split
   ·exact dU _ _ _ _
   ·rfl
theorem qL {M : Mc} {x : X} {s : CS} (h : Fr P x s) : aX fr to_ key (step P M x s).x (step P M x s).s + toldR fr to_ key (step P M x s).x (step P M x s).r = aX fr to_ key x s + uA fr to_ key M x s := by
  cases s with
  | none => rfl
  | k0 f => simp only [step]; split <;> rfl
  | kE f w => exact jK x f _ _ _
  | kF f lv w => simp only [step]; split <;> rfl
  | kG f lv w v m => simp only [step]; split <;> rfl
  | kH f lv w m =>
    simp only [step]; split
    · rfl
    · exact jK x f _ _ _
  | kL f lv w m => rfl
  | al f =>
    simp only [step]; split
    · rename_i h9
      show aX fr to_ key x (leave x _).1 + toldR fr to_ key x (leave x _).2 = 0 + 0
      rw [gG]
      rcases h9 with h9 | h9
      · rw [fx h9]; rfl
      · unfold rated; split <;> omega
    · show aX fr to_ key x (put x _ _ _) + 0 = 0 + 0
      rw [gx]
  | pk c =>
    show 0 + rated fr to_ key x _ = 0 + 0
    rw [eI h.1]
  | a0 f =>
    simp only [step]; split
    · show aX fr to_ key x (leave x _).1 + toldR fr to_ key x (leave x _).2 = 0 + 0
      rw [gG, fx rfl]; rfl
    · rfl
  | a1 f u =>
    simp only [step]; split
    · show aX fr to_ key _ (put x _ _ _) + 0 = 0 + 0
      rw [gx]
    · rfl
  | p0 f c r =>
    simp only [step]; split
    · show 0 + rated fr to_ key x (er 10) = 0 + 0
      rw [fx rfl]
    · rfl
  | p1 f c r u => simp only [step]; split <;> rfl
  | pS f c r =>
    by_cases hm : M.W f.w = f.v
    · simp only [step, if_pos hm]
      have e : uA fr to_ key M x (.pS f c r) = rated fr to_ key x r := if_pos hm
      rw [e]
      show aX fr to_ key x (if f.there = true then leave x r else (.none, ⟨true, r⟩) : CS × Rs).1 + toldR fr to_ key x (if f.there = true then leave x r else (.none, ⟨true, r⟩) : CS × Rs).2 = 0 + rated fr to_ key x r
      split
      · rw [gG]; omega
      · rfl
    · simp only [step, if_neg hm]
      have e : uA fr to_ key M x (.pS f c r) = 0 := if_neg hm
      rw [e]; rfl
  | b0 n k => cases k <;> rfl
  | b1 n k u =>
    simp only [step]; split
    · cases k with
      | lv r => show 0 + rated fr to_ key x r = rated fr to_ key x r + 0; omega
      | ev j sh g => exact dU x _ _ _
    · cases k <;> rfl
  | e0 => rfl
  | eC j sh g w v m =>
    simp only [step]; split
    · exact dU x _ _ _
    · rfl
  | eS j sh g w v m n =>
    simp only [step]; split
    · rfl
    · exact dU x _ _ _
  | s0 => simp only [step]; split
          · rfl
          · split
            · show 0 + rated fr to_ key x (er 5) = 0 + 0; rw [fx rfl]
            · rfl
  | sM lv => simp only [step]; split <;> rfl
  | sF lv i => simp only [step]; split <;> rfl
  | sG lv i v m => simp only [step]; split <;> rfl
  | sH lv i up m =>
    simp only [step]; split
    · rfl
    · show aX fr to_ key x (on lv i up m) + 0 = 0 + 0
      unfold on move; (repeat' split) <;> rfl
  | sL lv i up m =>
    show aX fr to_ key x (on lv i up m) + 0 = 0 + 0
    unfold on move; (repeat' split) <;> rfl
  | sV lv =>
    show 0 + rated fr to_ key x z0 = 0 + 0
    rw [fx rfl]
theorem Kd.own {x : X} {M : Mc} {B : Int} (h : Iw M.W B) {f : Fd} (hk : Kd sm P x M f) (ho : mN f) (hw : M.W f.w = f.v) : a6 M.W (sm (x.pol :: x.key)) = f.w ∧ Core.own sm M (x.pol :: x.key) = look f.h (x.pol :: x.key) := by
 obtain ⟨lv, hl, e⟩ := hk.lv
 rw [hk.k.2] at e
 have h1 := cj h hl (s := sm (x.pol :: x.key)) (by rw [← e, hw]; exact ho.2.2)
 rw [← e] at h1
 exact ⟨h1, by unfold Core.own; rw [h1, hk.hd hw]⟩
theorem Kd.tat (hP : OpsOk sm P) {x : X} {M : Mc} {B : Int} (h : Iw M.W B) {f : Fd} (hk : Kd sm P x M f) (ho : mN f) (hw : M.W f.w = f.v) (h0 : x.pol = 0) (h1 : x.key = key) : f.cell.tat = lG key sm M := by
 have h2 := (hk.own h ho hw).2
 have h3 := (hP.fnd f.h x.pol x.key hk.srt hk.k.1).2
 have h4 : f.cell = (P.fnd f.h x.pol x.key).2.2 := by rw [hk.fd]; rfl
 unfold lG
 rw [h4, h3, ← h0, ← h1, h2]
 cases look f.h (x.pol :: x.key) <;> rfl
theorem kg {R : Int} {M : Mc} {x y : X} {f : Fd} {c : Cel} {r : Rpl} (h : RtC T fr key R M y f r) : RtS T fr key R M y (put x f c r) := by unfold put; split <;> exact h
theorem dE (R : Int) (M : Mc) (x y : X) (r : Rpl) : RtS T fr key R M y (leave x r).1 := by unfold leave; split <;> trivial
theorem de (R : Int) (M : Mc) (y : X) (j sh : Nat) (g : Int) : RtS T fr key R M y (further j sh g).1 := by unfold further; split <;> trivial
theorem iK {R : Int} {M : Mc} {x : X} (f : Fc) (w : Nat) (v : Int) (l : List Cel) : RtS T fr key R M x (entered P x f w v l).1 := by
 unfold entered
 split
 ·trivial
 ·unfold found
  cases f with
  | key =>
   show RtS T fr key R M x (foundK P x (fdOf P x w v l)).1
   unfold foundK
   split
   ·trivial
   ·rename_i h1
    split
    ·split
     ·exact dE _ _ _ _ _
     ·split
      ·exact kg fun e => absurd e h1
      ·trivial
    ·split
     ·split
      ·exact kg fun e => absurd e h1
      ·trivial
     ·split <;> trivial
  | ev j sh g =>
   dsimp only
   split
   ·exact de _ _ _ _ _ _
   ·trivial
theorem vM (R : Int) (M : Mc) (y : X) (lv i : Nat) (up : Bool) (m : List Cel) : RtS T fr key R M y (on lv i up m) := by unfold on move; (repeat' split) <;> trivial
theorem ui (hP : OpsOk sm P) (hnow : ∀ p c t n, (P.allow p c t n).1.now = t) {R : Int} {M : Mc} {B : Int} (h : Iw M.W B) {x : X} {s : CS} (hs : Cw x M.W s) (hc : Ch sm P x M s) (hf : Fr P x s) (ha : Bd T fr R (max (lG key sm M) M.clk)) (hb : RtS T fr key R M x s) :
    RtS T fr key R (step P M x s).M (step P M x s).x (step P M x s).s := by
  cases s with
  | none => trivial
  | k0 f => simp only [step]; split <;> trivial
  | kE f w => exact iK f _ _ _
  | kF f lv w => simp only [step]; split <;> trivial
  | kG f lv w v m => simp only [step]; split <;> trivial
  | kH f lv w m =>
    simp only [step]; split
    · trivial
    · exact iK f _ _ _
  | kL f lv w m => trivial
  | al f =>
    simp only [step]; split
    · exact dE _ _ _ _ _
    · refine kg fun _ h0 h1 hw => ?_
      rw [hnow]
      have := Kd.tat (key := key) hP h hc hs.1 hw h0 h1
      rw [this]; exact ha
  | pk c => trivial
  | a0 f =>
    simp only [step]; split
    · exact dE _ _ _ _ _
    · trivial
  | a1 f u =>
    have h2 : x.op = 2 := hf.1
    simp only [step]; split
    · exact kg fun e => by have e : x.op = 1 := e; omega
    · trivial
  | p0 f c r =>
    simp only [step]; split
    · trivial
    · exact hb
  | p1 f c r u =>
    have h32 := hs.1.2.1
    simp only [step]; split
    · intro e h0 h1 hw
      have hw' : upd M.W 32 (u + 1) f.w = f.v := hw
      rw [upd_ne _ _ (by omega)] at hw'
      exact hb e h0 h1 hw'
    · exact hb
  | pS f c r =>
    simp only [step]; split
    · show RtS T fr key R _ x (if f.there = true then leave x r else (.none, ⟨true, r⟩) : CS × Rs).1
      split
      · exact dE _ _ _ _ _
      · trivial
    · trivial
  | b0 n k => trivial
  | b1 n k u =>
    simp only [step]; split
    · cases k with
      | lv r => trivial
      | ev j sh g => exact de _ _ _ _ _ _
    · trivial
  | e0 => trivial
  | eC j sh g w v m =>
    simp only [step]; split
    · exact de _ _ _ _ _ _
    · trivial
  | eS j sh g w v m n =>
    simp only [step]; split
    · trivial
    · exact de _ _ _ _ _ _
  | s0 => simp only [step]; split
          · trivial
          · split <;> trivial
  | sM lv => simp only [step]; split <;> trivial
  | sF lv i => simp only [step]; split <;> trivial
  | sG lv i v m => simp only [step]; split <;> trivial
  | sH lv i up m =>
    simp only [step]; split
    · trivial
    · exact vM _ _ _ _ _ _ _
  | sL lv i up m => exact vM _ _ _ _ _ _ _
  | sV lv => trivial
theorem iV.rts {R : Int} {M M' : Mc} (hm : iV M M') {x : X} {s : CS} (hs : Cw x M.W s) (hc : Ch sm P x M s) (h : RtS T fr key R M x s) : RtS T fr key R M' x s := by
 have g : ∀ {f : Fd} {r : Rpl}, mN f → Kd sm P x M f → RtC T fr key R M x f r → RtC T fr key R M' x f r := fun ho hk hh e h0 h1 hw => hh e h0 h1 (by
  have h2 := hk.le
  have h3 := hm.le _ ho.2.1
  omega)
 cases s with
 | p0 f c r => exact g hs.1 hc.1 h
 | p1 f c r u => exact g hs.1 hc.1 h
 | pS f c r => exact g hs.1 hc.1 h
 | _ => trivial
theorem uw {R : Int} {M : Mc} {B : Int} (h : Iw M.W B) {x0 : X} {f0 : Fd} (hk0 : Kd sm P x0 M f0) (ho0 : mN f0) (hw0 : M.W f0.w = f0.v) (a0 : x0.pol = 0) (a1 : x0.key = key) {M' : Mc} (hm : iV M M') (hW : M'.W f0.w = f0.v + 1) {x : X} {s : CS} (hs : Cw x M.W s) (hc : Ch sm P x M s) : RtS T fr key R M' x s := by
 have g : ∀ {f : Fd} {r : Rpl}, mN f → Kd sm P x M f → RtC T fr key R M' x f r := fun {f r} ho hk e h0 h1 hw => by
  exfalso
  have h2 := hk.le
  have h3 := hm.le _ ho.2.1
  have h4 : M.W f.w = f.v := by omega
  have h5 := (hk.own h ho h4).1
  have h6 := (hk0.own h ho0 hw0).1
  rw [h0, h1] at h5
  rw [a0, a1, h5] at h6
  rw [h6, hW] at hw
  rw [h6, hw0] at h2
  omega
 cases s with
 | p0 f c r => exact g hs.1 hc.1
 | p1 f c r u => exact g hs.1 hc.1
 | pS f c r => exact g hs.1 hc.1
 | _ => trivial
structure OpsRt (P : Ops) (T tau : Int) : Prop where
 now : ∀ p c t n, (P.allow p c t n).1.now = t
 put : ∀ c t n, (P.allow (P.pol 0) c t n).1.g = true → n ≠ 0 → 0 < n ∧ 1 ≤ T ∧ 0 ≤ n * T ∧ (P.allow (P.pol 0) c t n).2.tat = max c.tat t + n * T ∧ max c.tat t + n * T ≤ t + tau + T
 acq : ∀ p c n, (P.acq p c n).2.tat = c.tat
 rel : ∀ p c n, (P.rel p c n).2.tat = c.tat
 idle : ∀ c t, c.pol = 0 → P.idle c t = true → c.tat ≤ t
theorem RI.step (hP : OpsOk sm P) (hR : OpsRt P T tau) (hT : 1 ≤ T) {R : Int} {M : Mc} {S : Nat → Wk} {B : Int} (hA : All sm P M S B) (hB : B + 1 < FZ) (hF : ∀ i, Fr P (S i).x (S i).s) (h : RI T tau fr to_ key sm R M S) (i : Nat) :
  RI T tau fr to_ key sm (R + uA fr to_ key M (S i).x (S i).s) (mx P M S i) (nx P M S i) := by
 have hI := hA.inv
 have he := gw hP hI.iw ⟨hI.b, hB⟩ (hI.cw i) hA.ih (hA.ch i)
 have hclk : (mx P M S i).clk = M.clk := step_clk ..
 have own_i : RtS T fr key R (mx P M S i) (nx P M S i i).x (nx P M S i i).s := by
  unfold nx; rw [upd_same]
  exact ui hP hR.now hI.iw (hI.cw i) (hA.ch i) (hF i) h.a (h.b i)
 have oth : ∀ j, j ≠ i → RtS T fr key R (mx P M S i) (nx P M S i j).x (nx P M S i j).s := fun j hj => by
  unfold nx; rw [upd_ne _ _ hj]
  exact he.mono.rts (hI.cw j) (hA.ch j) (h.b j)
 have same : R + uA fr to_ key M (S i).x (S i).s = R → Bd T fr R (max (lG key sm (mx P M S i)) (mx P M S i).clk) → RI T tau fr to_ key sm (R + uA fr to_ key M (S i).x (S i).s) (mx P M S i) (nx P M S i) := fun e ha => by
  rw [e]
  refine ⟨h.nn, ha, fun j => ?_, h.l⟩
  by_cases hj : j = i
  ·subst hj; exact own_i
  ·exact oth j hj
 cases he.own with
 | calm hd ho hn =>
  refine same ?_ ?_
  ·have : uA fr to_ key M (S i).x (S i).s = 0 := by
    cases e : (S i).s with
    | pS f c r => exact if_neg (hn f c r e)
    | _ => rfl
   omega
  ·rw [hclk]
   have : lG key sm (mx P M S i) = lG key sm M := by unfold lG; rw [show Core.own sm (mx P M S i) (0 :: key) = _ from ho _]
   rw [this]; exact h.a
 | put f c r e hw h0 ho =>
  have hb := h.b i
  have hcw := hI.cw i
  have hch := hA.ch i
  have hfr := hF i
  rw [e] at hb hcw hch hfr
  have hk : Kd sm P (S i).x M f := hch.1
  have hok : mN f := hcw.1
  have hrt : RtC T fr key R M (S i).x f r := hb
  have hfc : FrC P (S i).x f c r := hfr
  have eR : uA fr to_ key M (S i).x (S i).s = rated fr to_ key (S i).x r := by rw [e]; exact if_pos hw
  by_cases hid : (S i).x.pol = 0 ∧ (S i).x.key = key
  ·obtain ⟨i0, i1⟩ := hid
   have htO : lG key sm (mx P M S i) = c.tat := by
    have := ho (0 :: key)
    rw [i0, i1, if_pos rfl] at this
    unfold lG
    rw [show Core.own sm (mx P M S i) (0 :: key) = _ from this]
   have htM : f.cell.tat = lG key sm M := hk.tat hP hI.iw hok hw i0 i1
   by_cases o1 : (S i).x.op = 1
   ·have hB0 := hrt o1 i0 i1 hw
    have hg : ∃ t, P.allow (P.pol 0) f.cell t (S i).x.n = (r, c) ∧ r.g = true ∧ (S i).x.n ≠ 0 := by
     rcases hfc with ⟨_, ⟨t, ht⟩, h3, h4⟩ | ⟨a, _⟩ | ⟨a, _⟩
     ·rw [i0] at ht; exact ⟨t, ht, h3, h4⟩
     ·omega
     ·omega
    obtain ⟨t, ht, hg, hn0⟩ := hg
    have hnow := hR.now (P.pol 0) f.cell t (S i).x.n
    have hput := hR.put f.cell t (S i).x.n (by rw [ht]; exact hg) hn0
    rw [ht] at hnow hput
    obtain ⟨p1, p2, p3, p4, p5⟩ := hput
    have p4 : c.tat = max f.cell.tat t + (S i).x.n * T := p4
    have hnow : r.now = t := hnow
    rw [hnow] at hB0
    by_cases hwin : fr ≤ t ∧ t ≤ to_
    ·have er : rated fr to_ key (S i).x r = (S i).x.n := if_pos ⟨o1, i0, i1, hg, by omega, by omega, by omega⟩
     rw [eR, er]
     generalize (S i).x.n = n at *
     have hnn := h.nn
     have g1 : fr + T * (R + n) ≤ max f.cell.tat t + n * T := by
      rw [Int.mul_add, Int.mul_comm T n]
      rcases hB0 with hB0 | hB0
      ·rw [hB0, Int.mul_zero]; omega
      ·omega
     have g2 : T * (R + n) ≤ to_ - fr + tau + T := by omega
     have g3 : R + n ≤ (to_ - fr + tau + T) / T := (Int.le_ediv_iff_mul_le (show 0 < T by omega)).2 (by rw [Int.mul_comm]; exact g2)
     rw [show to_ - fr + tau + T = (to_ - fr + tau) + 1 * T by omega, Int.add_mul_ediv_right _ _ (show T ≠ 0 by omega)] at g3
     refine ⟨by omega, .inr ?_, fun j => ?_, g3⟩
     ·rw [htO, p4]; omega
     ·by_cases hj : j = i
      ·subst hj
       unfold nx; rw [upd_same, e]
       simp only [Core.step, if_pos hw]
       show RtS T fr key _ _ (S j).x (if f.there = true then leave (S j).x r else (.none, ⟨true, r⟩) : CS × Rs).1
       split
       ·exact dE _ _ _ _ _
       ·trivial
      ·unfold nx; rw [upd_ne _ _ hj]
       refine uw hI.iw hk hok hw i0 i1 he.mono ?_ (hI.cw j) (hA.ch j)
       rw [e]
       simp only [Core.step, if_pos hw]
       exact upd_same ..
    ·refine same ?_ ?_
     ·rw [eR]
      have : rated fr to_ key (S i).x r = 0 := if_neg fun z => hwin (by have := z.2.2.2.2.1; have := z.2.2.2.2.2.1; omega)
      omega
     ·rw [htO, p4]; exact hB0.mono (by omega)
   ·refine same (by rw [eR, eI o1]; omega) ?_
    have : c.tat = f.cell.tat := by
     rcases hfc with ⟨a, _⟩ | ⟨_, _, a, _⟩ | ⟨_, a, _⟩
     ·exact absurd a o1
     ·have := hR.acq (P.pol (S i).x.pol) f.cell (S i).x.ser; rw [a] at this; exact this
     ·have := hR.rel (P.pol (S i).x.pol) f.cell (S i).x.n; rw [a] at this; exact this
    rw [htO, hclk, this, htM]; exact h.a
  ·refine same ?_ ?_
   ·rw [eR]
    have : rated fr to_ key (S i).x r = 0 := if_neg fun z => hid ⟨z.2.1, z.2.2.1⟩
    omega
   ·rw [hclk]
    have : lG key sm (mx P M S i) = lG key sm M := by
     unfold lG
     rw [show Core.own sm (mx P M S i) (0 :: key) = _ from ho _, if_neg fun z => hid (by have := List.cons.inj z; exact ⟨this.1.symm, this.2.symm⟩)]
    rw [this]; exact h.a
 | evict j sh g w v m n e hw t ht hm hn ho =>
  refine same (by rw [e]; show R + 0 = R; omega) ?_
  rw [hclk]
  have h1 := ho (0 :: key)
  have ha := h.a
  unfold lG at ha ⊢
  rw [show Core.own sm (mx P M S i) (0 :: key) = _ from h1]
  by_cases e1 : a6 M.W (sm (0 :: key)) = w
  ·have hcw := hI.cw i
   rw [e] at hcw
   have hs : Srt (M.Hd w) := hA.ih.word ⟨hcw.2.2.1, hcw.2.2.2.1⟩
   have ho0 : Core.own sm M (0 :: key) = look (M.Hd w) (0 :: key) := by unfold Core.own; rw [e1]
   rw [if_pos e1, hm]
   unfold gl
   rw [nF hs]
   rw [ho0] at ha
   cases hl : look (M.Hd w) (0 :: key) with
   | none => rw [hl] at ha; exact ha
   | some c =>
    rw [hl] at ha
    have hid := (bE hl).2
    have hpol : c.pol = 0 := by simp only [idn, List.cons.injEq] at hid; exact hid.1
    cases hi : P.idle c t with
    | true =>
     have := hR.idle c t hpol hi
     simp only [Option.filter, hi]
     exact Bd.mono ha (by simp only; omega)
    | false =>
     simp only [Option.filter, hi]
     exact ha
  ·rw [if_neg e1]; exact ha
theorem RI.tick {R : Int} {M : Mc} {S : Nat → Wk} (h : RI T tau fr to_ key sm R M S) {t : Int} (ht : M.clk ≤ t) : RI T tau fr to_ key sm R ⟨M.W, M.Hd, t⟩ S :=
 ⟨h.nn, h.a.mono (by show max (lG key sm M) M.clk ≤ max (lG key sm M) t; omega), h.b, h.l⟩
theorem RI.start {R : Int} {M : Mc} {S : Nat → Wk} (h : RI T tau fr to_ key sm R M S) (i : Nat) (x : X) : RI T tau fr to_ key sm R M (upd S i ⟨x, first x⟩) := by
 refine ⟨h.nn, h.a, fun j => ?_, h.l⟩
 by_cases e : j = i
 ·subst e
  rw [upd_same]
  show RtS T fr key R M x (first x)
  unfold first; (repeat' split) <;> trivial
 ·rw [upd_ne _ _ e]; exact h.b j
theorem RI.zero (hft : fr ≤ to_) (h0 : 0 ≤ tau) (hT : 1 ≤ T) (M : Mc) : RI T tau fr to_ key sm 0 M (fun _ => ⟨default, .none⟩) :=
 ⟨Int.le_refl _, .inl rfl, fun _ => trivial, by have := Int.ediv_nonneg (show 0 ≤ to_ - fr + tau by omega) (show 0 ≤ T by omega); omega⟩
structure RW (T tau fr to_ : Int) (key : List Int) (sm : List Int → Int) (n : Nat) (L : Int) (M : Mc) (S : Nat → Wk) : Prop where
 ri : RI T tau fr to_ key sm (L + sumI n fun i => aX fr to_ key (S i).x (S i).s) M S
theorem RW.le {n : Nat} {L : Int} {M : Mc} {S : Nat → Wk} (h : RW T tau fr to_ key sm n L M S) : L ≤ (to_ - fr + tau) / T + 1 := by
 have h1 := h.ri.l
 have h2 := j4 (f := fun i => aX fr to_ key (S i).x (S i).s) (n := n) fun j _ => uC _ _
 omega
theorem RW.step (hP : OpsOk sm P) (hR : OpsRt P T tau) (hT : 1 ≤ T) {n : Nat} {L : Int} {M : Mc} {S : Nat → Wk} {B : Int} (hA : All sm P M S B) (hB : B + 1 < FZ) (hF : ∀ i, Fr P (S i).x (S i).s) (h : RW T tau fr to_ key sm n L M S) {i : Nat} (hi : i < n) :
  RW T tau fr to_ key sm n (L + toldR fr to_ key (Core.step P M (S i).x (S i).s).x (Core.step P M (S i).x (S i).s).r) (mx P M S i) (nx P M S i) := by
 refine ⟨?_⟩
 have h1 := h.ri.step hP hR hT hA hB hF i
 have h2 := qL (P := P) (fr := fr) (to_ := to_) (key := key) (M := M) (hF i)
 have h3 := cS (f := fun j => aX fr to_ key (S j).x (S j).s) (g := fun j => aX fr to_ key (nx P M S i j).x (nx P M S i j).s) (i := i) (n := n) hi fun j _ hne => by
  show aX fr to_ key (nx P M S i j).x (nx P M S i j).s = _
  unfold nx; rw [upd_ne _ _ hne]
 have h4 : aX fr to_ key (nx P M S i i).x (nx P M S i i).s = aX fr to_ key (Core.step P M (S i).x (S i).s).x (Core.step P M (S i).x (S i).s).s := by unfold nx; rw [upd_same]
 have e : L + toldR fr to_ key (Core.step P M (S i).x (S i).s).x (Core.step P M (S i).x (S i).s).r + sumI n (fun j => aX fr to_ key (nx P M S i j).x (nx P M S i j).s) = L + sumI n (fun j => aX fr to_ key (S j).x (S j).s) + uA fr to_ key M (S i).x (S i).s := by
  rw [h4] at h3
  omega
 rw [e]; exact h1
theorem RW.start {n : Nat} {L : Int} {M : Mc} {S : Nat → Wk} (h : RW T tau fr to_ key sm n L M S) {i : Nat} (hi : i < n) (hn : (S i).s = .none) (x : X) : RW T tau fr to_ key sm n L M (upd S i ⟨x, first x⟩) := by
 refine ⟨?_⟩
 have h1 := h.ri.start i x
 have h3 := cS (f := fun j => aX fr to_ key (S j).x (S j).s) (g := fun j => aX fr to_ key (upd S i ⟨x, first x⟩ j).x (upd S i ⟨x, first x⟩ j).s) (i := i) (n := n) hi fun j _ hne => by
  show aX fr to_ key (upd S i ⟨x, first x⟩ j).x (upd S i ⟨x, first x⟩ j).s = _
  rw [upd_ne _ _ hne]
 have h4 : aX fr to_ key (upd S i ⟨x, first x⟩ i).x (upd S i ⟨x, first x⟩ i).s = 0 := by
  rw [upd_same]
  show aX fr to_ key x (first x) = 0
  unfold first; (repeat' split) <;> rfl
 have h5 : aX fr to_ key (S i).x (S i).s = 0 := by rw [hn]; rfl
 rw [h4, h5] at h3
 rw [h3]
 rw [show L + (sumI n (fun j => aX fr to_ key (S j).x (S j).s) + 0 - 0) = L + sumI n (fun j => aX fr to_ key (S j).x (S j).s) by omega]
 exact h1
theorem RW.tick {n : Nat} {L : Int} {M : Mc} {S : Nat → Wk} (h : RW T tau fr to_ key sm n L M S) {t : Int} (ht : M.clk ≤ t) : RW T tau fr to_ key sm n L ⟨M.W, M.Hd, t⟩ S := ⟨h.ri.tick ht⟩
theorem RW.zero (hft : fr ≤ to_) (h0 : 0 ≤ tau) (hT : 1 ≤ T) (n : Nat) (M : Mc) : RW T tau fr to_ key sm n 0 M (fun _ => ⟨default, .none⟩) := by
 refine ⟨?_⟩
 show RI T tau fr to_ key sm (0 + sumI n fun _ => 0) M _
 rw [sumI_zero]
 exact RI.zero hft h0 hT M
end Core
theorem qa (ps : List Pol) (room : Int) (hk : (ps.getD 0 default).kind ≠ 2) : Core.OpsRt (aa ps room) (ps.getD 0 default).T (ps.getD 0 default).tau where
 now p c t n := rfl
 put c t n hg h0 := dec_put hg h0
 acq p c n := by show (nN p c n).tat = c.tat; unfold nN; split <;> rfl
 rel p c n := by show (pz p c n).tat = c.tat; unfold pz; split <;> rfl
 idle c t h0 hi := by
  replace hi : bM ps c t = true := hi
  unfold bM at hi
  rw [h0, show (0 : Int).toNat = 0 from rfl, if_neg hk] at hi
  simpa using hi
end
end Go.Proofs.YtpdhdnhkhidmpaaGreat
