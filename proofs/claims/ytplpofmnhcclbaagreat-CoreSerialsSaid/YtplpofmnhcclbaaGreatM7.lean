/- Parts of the proof, one behind the other: Dp3, Dp4, Cp1, Cp2, Cp3, Cp4, Cp5, Cs1, Hm. Lemmas and contracts of functions; no condition of its own. -/
import Derived.Test.YtplpofmnhcclbaaGreatM6
set_option linter.unusedVariables false
set_option linter.unusedSimpArgs false
namespace Go.Proofs.YtplpofmnhcclbaaGreat
namespace Dir
structure Stepped (P : Ops) (W : Nat → Int) (B : Int) (M' : Mc) (s' : CS) (r : Res) : Prop where
 iw : Iw M'.W (B + 1)
 cw : Cw P M'.W s'
 gr : Gr W M'.W
 chg : Chg W M'.W s' r
theorem Stepped.same {P : Ops} {M : Mc} {B : Int} {s' : CS} {r : Res} (h : Iw M.W B) (hc : Cw P M.W s') : Stepped P M.W B M s' r := ⟨h.mono (by omega), hc, .refl _, .no rfl⟩
theorem entered_cw {P : Ops} {W : Nat → Int} {c : Kc} {w : Nat} {v : Int} {h : List Ent} (hw : 1 ≤ w ∧ w < 32) (hv : 0 ≤ v) : Cw P W (entered P c w v h).1 := by
 unfold entered
 split
 ·trivial
 ·unfold found
  split
  ·trivial
  ·exact ⟨hw.1, hw.2, by omega, by omega⟩
theorem move_cw {P : Ops} {W : Nat → Int} {lv i : Nat} (hl : lv ≤ 3) (hi : i < 2 ^ lv) (hd : 2 * (lv : Int) + 1 ≤ W 0) (hg : Cw.gone W lv (i + 1)) : Cw P W (move lv (i + 1)) := by
 unfold move
 split
 ·rename_i e; rw [e] at hg; exact ⟨hl, hd, hg⟩
 ·exact ⟨hl, by omega, hd, hg⟩
theorem gone_succ {W : Nat → Int} {lv i : Nat} (h : Cw.gone W lv i) (h1 : FZ ≤ W (2 ^ lv + i)) (h2 : W (2 ^ (lv + 1) + i) ≠ 0) (h3 : W (2 ^ (lv + 1) + (i + 2 ^ lv)) ≠ 0) : Cw.gone W lv (i + 1) := fun j hj => by
 by_cases e : j = i
 ·subst e; exact ⟨h1, h2, h3⟩
 ·exact h j (by omega)
theorem upW_sh {lv i : Nat} {up : Bool} (hi : i < 2 ^ lv) : ∃ j, j < 2 ^ (lv + 1) ∧ upW lv i up = 2 ^ (lv + 1) + j ∧ j % 2 ^ lv = i := by
 have hp := Nat.pow_succ 2 lv
 unfold upW
 cases up with
 | true => exact ⟨i + 2 ^ lv, by omega, rfl, by rw [Nat.add_mod_right, Nat.mod_eq_of_lt hi]⟩
 | false => exact ⟨i, by omega, rfl, Nat.mod_eq_of_lt hi⟩
theorem on_cw {P : Ops} {W : Nat → Int} {lv i : Nat} {up : Bool} {h : List Ent} (hl : lv ≤ 3) (hi : i < 2 ^ lv) (hd : 2 * (lv : Int) + 1 ≤ W 0) (hg : Cw.gone W lv i) (hf : FZ ≤ W (2 ^ lv + i))
  (hu : up = true → W (2 ^ (lv + 1) + i) ≠ 0) (hn : W (upW lv i up) ≠ 0) : Cw P W (on lv i up h) := by
 unfold on
 cases up with
 | true =>
  refine move_cw hl hi hd (gone_succ hg hf (hu rfl) ?_)
  simpa [upW] using hn
 | false => exact ⟨hl, hi, hd, hg, hf, fun _ => by simpa [upW] using hn⟩
theorem step_ok {P : Ops} (hP : ∀ c h r, P.fnd c h = .inl r → r.done = true) {M : Mc} {B : Int} (h : Iw M.W B) (hB : 1 ≤ B ∧ B + 1 < FZ) {s : CS} (hs : Cw P M.W s) :
  Stepped P M.W B (step P M s).1 (step P M s).2.1 (step P M s).2.2 := by
 have hF : FZ = 4611686018427387904 := rfl
 have hd := h.d
 cases s with
 | none => exact .same h trivial
 | k0 c =>
  have hk : (M.W 0 / 2).toNat ≤ 4 := by omega
  obtain ⟨i, h1, h2⟩ := plc_sh (M.W 0 / 2).toNat (P.sum c.key)
  have := sh_32 hk h1
  refine .same h ?_
  show Cw P M.W (if _ then _ else _)
  split
  ·rw [h2]; exact this
  ·exact ⟨by omega, rfl, by omega⟩
 | kE c w =>
  obtain ⟨lv, i, hl, hi, rfl⟩ := word_sh hs
  have := h.sh hl hi
  exact .same h (entered_cw hs (by unfold okW at this; omega))
 | kF c lv w =>
  obtain ⟨a, b, d⟩ := hs
  refine .same h ?_
  show Cw P M.W (if _ then _ else _)
  split
  ·exact ⟨by omega, by omega, rfl, by omega, by rw [Nat.add_sub_cancel, ← b]; assumption⟩
  ·exact ⟨a, b, d, by omega⟩
 | kG c lv w v m =>
  obtain ⟨a, b, d, e⟩ := hs
  obtain ⟨i, h1, h2⟩ := plc_sh lv (P.sum c.key)
  show Stepped P M.W B (if _ then _ else _ : Mc × CS × Res).1 _ _
  by_cases hm : M.W w = v
  ·have hb := b
   rw [h2] at hb
   subst hb
   obtain ⟨g1, g2, g3⟩ := freeze_ok h a h1 d e hm
   have g4 : Gr M.W (upd M.W (2 ^ lv + i) (v + FZ)) := .set (fun e0 => by have := sh_16 a h1; omega) (fun _ => by omega) (fun _ => by omega)
   simp only [step, if_pos hm]
   have hd2 := g4.d
   refine ⟨g3.mono (by omega), ⟨by omega, by omega, rfl, ?_, ?_⟩, g4, .fz _ (sh_16 a h1) (by omega) (by rw [hm]; rfl)⟩
   ·show _ ≤ upd M.W _ _ 0; omega
   ·rw [Nat.add_sub_cancel, h2]; show FZ ≤ upd M.W _ _ _; rw [upd_same]; omega
  ·simp only [step, if_neg hm]
   exact .same h ⟨a, b, d⟩
 | kH c lv w m =>
  obtain ⟨a, b, d, e, f⟩ := hs
  obtain ⟨i, h1, h2⟩ := plc_sh lv (P.sum c.key)
  have hw := sh_32 b h1
  rw [← h2, ← d] at hw
  have ho := h.sh b h1
  rw [← h2, ← d] at ho
  show Stepped P M.W B (if _ then _ else _ : Mc × CS × Res).1 _ _
  by_cases hm : M.W w = 0
  ·simp only [step, if_pos hm]; exact .same h ⟨a, b, d, e, f⟩
  ·simp only [step, if_neg hm]; exact .same h (entered_cw hw (by unfold okW at ho; omega))
 | kL c lv w m =>
  obtain ⟨a, b, d, e, f⟩ := hs
  obtain ⟨i, h1, h2⟩ := plc_sh lv (P.sum c.key)
  have hw := sh_32 b h1
  have hlow : FZ ≤ lowW M.W lv i := by
   have h3 := plc_low (lv - 1) (P.sum c.key)
   rw [Nat.sub_add_cancel a, h2, Nat.add_sub_cancel_left] at h3
   unfold lowW; rw [h3]; exact f
  rw [h2] at d
  subst d
  by_cases hm : M.W (2 ^ lv + i) = 0
  ·simp only [step, if_pos hm]
   refine ⟨(lay_ok h hB.1 a b h1 e hlow hm).mono (by omega), hw, .set (fun e0 => by omega) (fun _ => by omega) (fun _ => by omega), .lay _ hw hm rfl⟩
  ·simp only [step, if_neg hm]; exact .same h hw
 | kS c w v m n =>
  obtain ⟨a, b, d, e⟩ := hs
  by_cases hm : M.W w = v
  ·simp only [step, if_pos hm]
   subst hm
   exact ⟨live_ok h ⟨a, b⟩ hB.2 ⟨d, e⟩, trivial, .set (fun e0 => by omega) (fun _ => by omega) (fun _ => by omega), .key _ ⟨a, b⟩ ⟨d, e⟩ rfl rfl rfl⟩
  ·simp only [step, if_neg hm]; exact .same h trivial
 | s0 =>
  show Stepped P M.W B (if _ then _ else _ : Mc × CS × Res).1 _ _
  by_cases h1 : M.W 0 % 2 = 1
  ·simp only [step, if_pos h1]
   exact .same h ⟨by omega, pow_pos2 _, by omega, fun j hj => by omega⟩
  ·by_cases h2 : M.W 0 / 2 = 4
   ·simp only [step, if_neg h1, if_pos h2]; exact .same h trivial
   ·simp only [step, if_neg h1, if_neg h2]
    refine .same h ?_
    show _ ≤ _
    omega
 | sM lv =>
  by_cases hm : M.W 0 = 2 * lv
  ·simp only [step, if_pos hm]
   have hl : lv ≤ 3 := hs
   have g := h.begin hl hm
   have h2 : (M.set 0 (2 * lv + 1) []).W 0 = 2 * lv + 1 := by simp [Mc.set, upd]
   refine ⟨g.mono (by omega), ⟨hl, pow_pos2 _, by omega, fun j hj => by omega⟩, .set (fun _ => by omega) (fun _ => by omega) (fun _ => by omega), .d ?_ (by omega)⟩
   rw [hm]; rfl
  ·simp only [step, if_neg hm]; exact .same h trivial
 | sF lv i =>
  obtain ⟨a, b, d, e⟩ := hs
  refine .same h ?_
  show Cw P M.W (if _ then _ else _)
  split
  ·exact ⟨a, b, d, e, by assumption, fun hf => by simp at hf⟩
  ·exact ⟨a, b, d, e, by omega⟩
 | sG lv i v m =>
  obtain ⟨a, b, d, e, f⟩ := hs
  by_cases hm : M.W (2 ^ lv + i) = v
  ·obtain ⟨g1, g2, g3⟩ := freeze_ok h a b d f hm
   have g4 : Gr M.W (upd M.W (2 ^ lv + i) (v + FZ)) := .set (fun e0 => by have := sh_16 a b; omega) (fun _ => by omega) (fun _ => by omega)
   simp only [step, if_pos hm]
   have hd2 := g4.d
   exact ⟨g3.mono (by omega), ⟨a, b, by show _ ≤ upd M.W _ _ 0; omega, g4.gone e, by show FZ ≤ upd M.W _ _ _; rw [upd_same]; omega, fun hf => by simp at hf⟩, g4, .fz _ (sh_16 a b) (by omega) (by rw [hm]; rfl)⟩
  ·simp only [step, if_neg hm]; exact .same h ⟨a, b, d, e⟩
 | sH lv i up m =>
  obtain ⟨a, b, d, e, f, g⟩ := hs
  refine .same h ?_
  show Cw P M.W (if _ then _ else _)
  split
  ·exact ⟨a, b, d, e, f, g⟩
  ·exact on_cw a b d e f g (by assumption)
 | sL lv i up m =>
  obtain ⟨a, b, d, e, f, g⟩ := hs
  obtain ⟨j, h1, h2, h3⟩ := upW_sh (up := up) b
  have hw := sh_32 (by omega : lv + 1 ≤ 4) h1
  by_cases hm : M.W (upW lv i up) = 0
  ·simp only [step, if_pos hm]
   have hlow : FZ ≤ lowW M.W (lv + 1) j := by unfold lowW; rw [Nat.add_sub_cancel, h3]; exact f
   have g4 : Gr M.W (upd M.W (upW lv i up) 1) := .set (fun e0 => by omega) (fun _ => by omega) (fun _ => by omega)
   have hd2 := g4.d
   refine ⟨?_, on_cw a b (by show _ ≤ upd M.W _ _ 0; omega) (g4.gone e) (g4.fz _ f) (fun hu => g4.ne _ (g hu)) (by show upd M.W _ _ _ ≠ 0; rw [upd_same]; omega), g4, .lay _ (by omega) hm rfl⟩
   have := lay_ok h hB.1 (by omega : 1 ≤ lv + 1) (by omega) h1 (by omega) hlow (by rw [← h2]; exact hm)
   rw [← h2] at this
   exact this.mono (by omega)
  ·simp only [step, if_neg hm]; exact .same h (on_cw a b d e f g hm)
 | sV lv =>
  obtain ⟨a, b, d⟩ := hs
  by_cases hm : M.W 0 = 2 * lv + 1
  ·simp only [step, if_pos hm]
   refine ⟨(h.fin a hm d).mono (by omega), trivial, .set (fun _ => by omega) (fun _ => by omega) (fun _ => by omega), .d ?_ (by omega)⟩
   rw [hm]; show upd M.W 0 _ = upd M.W 0 _; congr 1
  ·simp only [step, if_neg hm]; exact .same h trivial
end Dir
end Go.Proofs.YtplpofmnhcclbaaGreat

namespace Go.Proofs.YtplpofmnhcclbaaGreat
namespace Dir
def sumN (n : Nat) (f : Nat → Nat) : Nat :=
 match n with
 | 0 => 0
 | n + 1 => sumN n f + f n
theorem sumN_le {f g : Nat → Nat} {c : Nat} : ∀ {n : Nat}, (∀ j, j < n → g j ≤ f j + c) → sumN n g ≤ sumN n f + n * c
 | 0, _ => by simp [sumN]
 | n + 1, h => by
  have h1 := sumN_le (n := n) fun j hj => h j (by omega)
  have h2 := h n (by omega)
  simp only [sumN, Nat.add_mul, Nat.one_mul]; omega
theorem sumN_bd {f : Nat → Nat} {c : Nat} : ∀ {n : Nat}, (∀ j, j < n → f j ≤ c) → sumN n f ≤ n * c
 | 0, _ => by simp [sumN]
 | n + 1, h => by
  have h1 := sumN_bd (n := n) fun j hj => h j (by omega)
  have h2 := h n (by omega)
  simp only [sumN, Nat.add_mul, Nat.one_mul]; omega
theorem sumN_one {f g : Nat → Nat} {i c : Nat} : ∀ {n : Nat}, i < n → (∀ j, j < n → j ≠ i → g j ≤ f j + c) → sumN n g + f i ≤ sumN n f + g i + n * c
 | 0, h, _ => by omega
 | n + 1, h, hh => by
  simp only [sumN, Nat.add_mul, Nat.one_mul]
  by_cases e : i = n
  ·subst e
   have h1 := sumN_le (f := f) (g := g) (c := c) (n := i) fun j hj => hh j (by omega) (by omega)
   omega
  ·have h1 := sumN_one (n := n) (by omega : i < n) fun j hj hne => hh j (by omega) hne
   have h2 := hh n (by omega) (fun e' => e e'.symm)
   omega
theorem sumN_congr {f g : Nat → Nat} : ∀ {n : Nat}, (∀ j, j < n → g j = f j) → sumN n g = sumN n f
 | 0, _ => rfl
 | n + 1, h => by simp only [sumN]; rw [sumN_congr (n := n) fun j hj => h j (by omega), h n (by omega)]
def remW (x : Int) (w : Nat) : Nat := if w = 0 then (8 - x).toNat else if w < 16 then (if x = 0 then 2 else if x < FZ then 1 else 0) else if x = 0 then 1 else 0
def rem (W : Nat → Int) : Nat := sumN 32 fun w => remW (W w) w
theorem rem_le {W : Nat → Int} {B : Int} (h : Iw W B) : rem W ≤ 54 := by
 have h0 := h.d
 have hw : ∀ w, 1 ≤ w → w < 16 → remW (W w) w ≤ 2 := fun w _ h2 => by unfold remW; rw [if_neg (by omega), if_pos h2]; split <;> (try split) <;> omega
 have hw2 : ∀ w, 16 ≤ w → remW (W w) w ≤ 1 := fun w h2 => by unfold remW; rw [if_neg (by omega), if_neg (by omega)]; split <;> omega
 have e : (remW (W 0) 0 : Nat) = (8 - W 0).toNat := rfl
 have h3 := hw2 31 (by omega)
 have hone : ∃ B, Iw W B := ⟨B, h⟩
 simp only [rem, sumN]
 have a1 := hw 1 (by omega) (by omega); have a2 := hw 2 (by omega) (by omega); have a3 := hw 3 (by omega) (by omega); have a4 := hw 4 (by omega) (by omega); have a5 := hw 5 (by omega) (by omega)
 have a6 := hw 6 (by omega) (by omega); have a7 := hw 7 (by omega) (by omega); have a8 := hw 8 (by omega) (by omega); have a9 := hw 9 (by omega) (by omega); have a10 := hw 10 (by omega) (by omega)
 have a11 := hw 11 (by omega) (by omega); have a12 := hw 12 (by omega) (by omega); have a13 := hw 13 (by omega) (by omega); have a14 := hw 14 (by omega) (by omega); have a15 := hw 15 (by omega) (by omega)
 have b0 := hw2 16 (by omega); have b1 := hw2 17 (by omega); have b2 := hw2 18 (by omega); have b3 := hw2 19 (by omega); have b4 := hw2 20 (by omega); have b5 := hw2 21 (by omega); have b6 := hw2 22 (by omega); have b7 := hw2 23 (by omega)
 have b8 := hw2 24 (by omega); have b9 := hw2 25 (by omega); have b10 := hw2 26 (by omega); have b11 := hw2 27 (by omega); have b12 := hw2 28 (by omega); have b13 := hw2 29 (by omega); have b14 := hw2 30 (by omega)
 omega
def TH (x : Int) : Nat := if x = 0 then 4 else if x < FZ then 2 else 8
def TF (x y : Int) : Nat := TH y + if x < FZ then 2 else 1
def TE (x : Int) : Nat := if x ≠ 0 ∧ x < FZ then 2 else 8
def U (lv i : Nat) : Nat := 6 * (2 ^ lv - i) + 1
def T (P : Ops) (W : Nat → Int) : CS → Nat
 | .none => 53
 | .k0 _ => if W 0 % 2 = 0 then 3 else 7
 | .kE _ w => TE (W w)
 | .kF c lv w => TF (W w) (W (plc (lv + 1) (P.sum c.key)))
 | .kG c lv w v _ => if W w = v then 1 + TH (W (plc (lv + 1) (P.sum c.key))) else 1 + TF (W w) (W (plc (lv + 1) (P.sum c.key)))
 | .kH _ _ w _ => TH (W w)
 | .kL _ _ w _ => 1 + if W w = 0 then 2 else TE (W w)
 | .kS _ w v _ _ => if W w = v then 1 else 8
 | .s0 => 52
 | .sM lv => if W 0 = 2 * lv then 51 else 53
 | .sF lv i => U lv i
 | .sG lv i v _ => if W (2 ^ lv + i) = v then U lv i - 1 else U lv i + 1
 | .sH lv i up _ => U lv i - (if up then 4 else 2)
 | .sL lv i up _ => U lv i - (if up then 5 else 3)
 | .sV _ => 1
structure Rise (W W' : Nat → Int) : Prop where
 d : W' 0 = W 0 ∨ W' 0 = W 0 + 1
 w : ∀ w, w ≠ 0 → W' w = W w ∨ (0 < W w ∧ W w < FZ ∧ W' w = W w + FZ) ∨ (W w = 0 ∧ W' w = 1)
 one : ∀ u v, u ≠ v → W' u ≠ W u → W' v = W v
theorem Chg.rem {W W' : Nat → Int} {s' : CS} {r : Res} (h : Chg W W' s' r) (hr : r.done = false) : W' = W ∨ Dir.rem W' + 1 ≤ Dir.rem W := by
 have key : ∀ w x, w < 32 → remW x w + 1 ≤ remW (W w) w → Dir.rem (upd W w x) + 1 ≤ Dir.rem W := fun w x hw hx => by
  have h1 := sumN_one (f := fun w => remW (W w) w) (g := fun j => remW (upd W w x j) j) (i := w) (c := 0) (n := 32) hw fun j hj hne => by rw [upd_ne _ _ hne]; omega
  simp only [upd_same] at h1
  unfold Dir.rem; omega
 have hF : FZ = 4611686018427387904 := rfl
 cases h with
 | no h => exact .inl h
 | d h1 h2 => subst h1; exact .inr (key 0 _ (by omega) (by simp only [remW, if_pos]; omega))
 | fz w h0 h1 h2 =>
  subst h2; refine .inr (key w _ (by omega) ?_)
  have e1 : remW (W w) w = 1 := by unfold remW; rw [if_neg (by omega), if_pos h0.2, if_neg (by omega), if_pos h1.2]
  have e2 : remW (W w + FZ) w = 0 := by unfold remW; rw [if_neg (by omega), if_pos h0.2, if_neg (by omega), if_neg (by omega)]
  omega
 | lay w h0 h1 h2 =>
  subst h2; refine .inr (key w _ (by omega) ?_)
  rw [h1]
  by_cases e : w < 16
  ·have e1 : remW 0 w = 2 := by unfold remW; rw [if_neg (by omega), if_pos e, if_pos rfl]
   have e2 : remW 1 w = 1 := by unfold remW; rw [if_neg (by omega), if_pos e, if_neg (by omega), if_pos (by omega)]
   omega
  ·have e1 : remW 0 w = 1 := by unfold remW; rw [if_neg (by omega), if_neg e, if_pos rfl]
   have e2 : remW 1 w = 0 := by unfold remW; rw [if_neg (by omega), if_neg e, if_neg (by omega)]
   omega
 | key w h0 h1 h2 h3 h4 => rw [h4] at hr; exact absurd hr (by decide)
end Dir
end Go.Proofs.YtplpofmnhcclbaaGreat

namespace Go.Proofs.YtplpofmnhcclbaaGreat
namespace Core
open Dir (FZ plc upd upW)
structure X where
 op : Int
 pol : Int
 key : List Int
 n : Int
 sum : Int
 res : Bool
 ser : Int
deriving Inhabited
inductive Fc where
 | key
 | ev (j sh : Nat) (g : Int)
deriving Inhabited
structure Fd where
 w : Nat
 v : Int
 h : List Cel
 at' : Nat
 there : Bool
 cell : Cel
deriving Inhabited
inductive Bk where
 | lv (r : Rpl)
 | ev (j sh : Nat) (g : Int)
deriving Inhabited
inductive CS where
 | none
 | k0 (f : Fc)
 | kE (f : Fc) (w : Nat)
 | kF (f : Fc) (lv w : Nat)
 | kG (f : Fc) (lv w : Nat) (v : Int) (h : List Cel)
 | kH (f : Fc) (lv w : Nat) (h : List Cel)
 | kL (f : Fc) (lv w : Nat) (h : List Cel)
 | al (f : Fd)
 | pk (c : Cel)
 | a0 (f : Fd)
 | a1 (f : Fd) (u : Int)
 | p0 (f : Fd) (c : Cel) (r : Rpl)
 | p1 (f : Fd) (c : Cel) (r : Rpl) (u : Int)
 | pS (f : Fd) (c : Cel) (r : Rpl)
 | b0 (n : Int) (k : Bk)
 | b1 (n : Int) (k : Bk) (u : Int)
 | e0
 | eC (j sh : Nat) (g : Int) (w : Nat) (v : Int) (h : List Cel)
 | eS (j sh : Nat) (g : Int) (w : Nat) (v : Int) (m : List Cel) (n : Int)
 | s0
 | sM (lv : Nat)
 | sF (lv i : Nat)
 | sG (lv i : Nat) (v : Int) (h : List Cel)
 | sH (lv i : Nat) (up : Bool) (h : List Cel)
 | sL (lv i : Nat) (up : Bool) (h : List Cel)
 | sV (lv : Nat)
deriving Inhabited
structure Rs where
 done : Bool
 r : Rpl
deriving Inhabited
def z0 : Rpl := ⟨0, false, 0, 0, 0, 0⟩
def r0 : Rs := ⟨false, z0⟩
def er (e : Int) : Rpl := ⟨e, false, 0, 0, 0, 0⟩
def gn (g : Int) : Rpl := ⟨0, false, g, 0, 0, 0⟩
structure Mc where
 W : Nat → Int
 Hd : Nat → List Cel
 clk : Int
def Mc.set (M : Mc) (w : Nat) (v : Int) (h : List Cel) : Mc := ⟨upd M.W w v, upd M.Hd w h, M.clk⟩
structure Ops where
 cut : List Cel → Nat → Nat → List Cel
 fnd : List Cel → Int → List Int → Nat × Bool × Cel
 wth : List Cel → Nat → Bool → Cel → List Cel
 allow : Pol → Cel → Int → Int → Rpl × Cel
 acq : Pol → Cel → Int → Rpl × Cel
 rel : Pol → Cel → Int → Rpl × Cel
 peek : Pol → Cel → Int → Rpl
 idle : Cel → Int → Bool
 pol : Int → Pol
 room : Int
abbrev MAX : Int := 4611686018427387903
def sumF (x : X) : Fc → Int
 | .key => x.sum
 | .ev j _ _ => j
def leave (x : X) (r : Rpl) : CS × Rs := if x.res = true then (.b0 1 (.lv r), r0) else (.none, ⟨true, r⟩)
def put (x : X) (f : Fd) (c : Cel) (r : Rpl) : CS := if f.there = true ∨ x.res = true then .pS f c r else .p0 f c r
def further (j sh : Nat) (g : Int) : CS × Rs := if j + 1 = sh then (.none, ⟨true, gn g⟩) else (.k0 (.ev (j + 1) sh g), r0)
def after (n : Int) : Bk → CS × Rs
 | .lv r => (.none, ⟨true, r⟩)
 | .ev j sh g => further j sh (g + n)
section
variable (P : Ops)
def fdOf (x : X) (w : Nat) (v : Int) (h : List Cel) : Fd := ⟨w, v, h, (P.fnd h x.pol x.key).1, (P.fnd h x.pol x.key).2.1, (P.fnd h x.pol x.key).2.2⟩
def foundK (x : X) (f : Fd) : CS × Rs :=
 if x.op = 1 then (.al f, r0)
 else if x.op = 2 then
  if (f.cell.held.length : Int) = (P.pol x.pol).permits then leave x (er 9)
  else if 0 < x.ser then (put x f (P.acq (P.pol x.pol) f.cell x.ser).2 (P.acq (P.pol x.pol) f.cell x.ser).1, r0)
  else (.a0 f, r0)
 else if x.op = 3 then
  if (P.rel (P.pol x.pol) f.cell x.n).1.e = 0 then (put x f (P.rel (P.pol x.pol) f.cell x.n).2 (P.rel (P.pol x.pol) f.cell x.n).1, r0)
  else (.none, ⟨true, (P.rel (P.pol x.pol) f.cell x.n).1⟩)
 else if (P.pol x.pol).kind = 2 then (.none, ⟨true, P.peek (P.pol x.pol) f.cell 0⟩)
 else (.pk f.cell, r0)
def found (x : X) (w : Nat) (v : Int) (h : List Cel) : Fc → CS × Rs
 | .key => foundK P x (fdOf P x w v h)
 | .ev j sh g => if h.length = 0 then further j sh g else (.eC j sh g w v h, r0)
def entered (x : X) (f : Fc) (w : Nat) (v : Int) (h : List Cel) : CS × Rs := if v = 0 ∨ FZ ≤ v then (.k0 f, r0) else found P x w v h f
def toH (x : X) (f : Fc) (lv : Nat) (h : List Cel) : CS := .kH f (lv + 1) (plc (lv + 1) (sumF x f)) h
def move (lv i : Nat) : CS := if i = 2 ^ lv then .sV lv else .sF lv i
def on (lv i : Nat) (up : Bool) (h : List Cel) : CS := if up then move lv (i + 1) else .sH lv i true h
def rest (h : List Cel) (now : Int) : List Cel := h.filter fun c => !P.idle c now
structure Out where
 M : Mc
 x : X
 s : CS
 r : Rs
def same (M : Mc) (x : X) (p : CS × Rs) : Out := ⟨M, x, p.1, p.2⟩
def step (M : Mc) (x : X) : CS → Out
 | .none => ⟨M, x, .none, r0⟩
 | .k0 f => ⟨M, x, if M.W 0 % 2 = 0 then .kE f (plc (M.W 0 / 2).toNat (sumF x f)) else .kF f (M.W 0 / 2).toNat (plc (M.W 0 / 2).toNat (sumF x f)), r0⟩
 | .kE f w => same M x (entered P x f w (M.W w) (M.Hd w))
 | .kF f lv w => ⟨M, x, if FZ ≤ M.W w then toH x f lv (M.Hd w) else .kG f lv w (M.W w) (M.Hd w), r0⟩
 | .kG f lv w v h => if M.W w = v then ⟨M.set w (v + FZ) h, x, toH x f lv h, r0⟩ else ⟨M, x, .kF f lv w, r0⟩
 | .kH f lv w h => if M.W w = 0 then ⟨M, x, .kL f lv w h, r0⟩ else same M x (entered P x f w (M.W w) (M.Hd w))
 | .kL f lv w h => ⟨if M.W w = 0 then M.set w 1 (P.cut h lv (w - 2 ^ lv)) else M, x, .kE f w, r0⟩
 | .al f =>
  let q := P.allow (P.pol x.pol) f.cell M.clk x.n
  if q.1.g = false ∨ x.n = 0 then same M x (leave x q.1) else ⟨M, x, put x f q.2 q.1, r0⟩
 | .pk c => ⟨M, x, .none, ⟨true, P.peek (P.pol x.pol) c M.clk⟩⟩
 | .a0 f => if M.W 33 = MAX then same M x (leave x (er 5)) else ⟨M, x, .a1 f (M.W 33), r0⟩
 | .a1 f u =>
  if M.W 33 = u then
   let q := P.acq (P.pol x.pol) f.cell (u + 1)
   ⟨M.set 33 (u + 1) [], { x with ser := u + 1 }, put x f q.2 q.1, r0⟩
  else ⟨M, x, .a0 f, r0⟩
 | .p0 f c r => if M.W 32 = P.room then ⟨M, x, .none, ⟨true, er 10⟩⟩ else ⟨M, x, .p1 f c r (M.W 32), r0⟩
 | .p1 f c r u => if M.W 32 = u then ⟨M.set 32 (u + 1) [], { x with res := true }, .pS f c r, r0⟩ else ⟨M, x, .p0 f c r, r0⟩
 | .pS f c r =>
  if M.W f.w = f.v then same (M.set f.w (f.v + 1) (P.wth f.h f.at' f.there c)) x (if f.there = true then leave x r else (.none, ⟨true, r⟩))
  else ⟨M, x, .k0 .key, r0⟩
 | .b0 n k => ⟨M, x, .b1 n k (M.W 32), r0⟩
 | .b1 n k u => if M.W 32 = u then same (M.set 32 (u - n) []) x (after n k) else ⟨M, x, .b0 n k, r0⟩
 | .e0 => ⟨M, x, .k0 (.ev 0 (2 ^ ((M.W 0 + 1) / 2).toNat) 0), r0⟩
 | .eC j sh g w v h =>
  if (rest P h M.clk).length = h.length then same M x (further j sh g)
  else ⟨M, x, .eS j sh g w v (rest P h M.clk) ((h.length : Int) - (rest P h M.clk).length), r0⟩
 | .eS j sh g w v m n => if M.W w = v then ⟨M.set w (v + 1) m, x, .b0 n (.ev j sh g), r0⟩ else same M x (further j sh g)
 | .s0 => if M.W 0 % 2 = 1 then ⟨M, x, .sF (M.W 0 / 2).toNat 0, r0⟩ else if M.W 0 / 2 = 4 then ⟨M, x, .none, ⟨true, er 5⟩⟩ else ⟨M, x, .sM (M.W 0 / 2).toNat, r0⟩
 | .sM lv => if M.W 0 = 2 * lv then ⟨M.set 0 (2 * lv + 1) [], x, .sF lv 0, r0⟩ else ⟨M, x, .s0, r0⟩
 | .sF lv i => ⟨M, x, if FZ ≤ M.W (2 ^ lv + i) then .sH lv i false (M.Hd (2 ^ lv + i)) else .sG lv i (M.W (2 ^ lv + i)) (M.Hd (2 ^ lv + i)), r0⟩
 | .sG lv i v h => if M.W (2 ^ lv + i) = v then ⟨M.set (2 ^ lv + i) (v + FZ) h, x, .sH lv i false h, r0⟩ else ⟨M, x, .sF lv i, r0⟩
 | .sH lv i up h => ⟨M, x, if M.W (upW lv i up) = 0 then .sL lv i up h else on lv i up h, r0⟩
 | .sL lv i up h => ⟨if M.W (upW lv i up) = 0 then M.set (upW lv i up) 1 (P.cut h (lv + 1) (upW lv i up - 2 ^ (lv + 1))) else M, x, on lv i up h, r0⟩
 | .sV lv => ⟨if M.W 0 = 2 * lv + 1 then M.set 0 (2 * lv + 2) [] else M, x, .none, ⟨true, z0⟩⟩
end
end Core
end Go.Proofs.YtplpofmnhcclbaaGreat

namespace Go.Proofs.YtplpofmnhcclbaaGreat
namespace Core
open Dir (FZ plc upd upW Iw okW lowW upd_same upd_ne pow_pos2 plc_sh plc_low sh_32 sh_16 sh_inj word_sh freeze_ok lay_ok live_ok upW_sh)
theorem iw_hi {W : Nat → Int} {B : Int} (h : Iw W B) {w : Nat} (hw : 32 ≤ w) (x : Int) : Iw (upd W w x) B := by
 refine ⟨by rw [upd_ne _ _ (by omega)]; exact h.d, fun lv i hl hi => ?_⟩
 have h1 := sh_32 hl hi
 have h3 : lowW (upd W w x) lv i = lowW W lv i := upd_ne _ _ (by
  have h4 : 2 ^ (lv - 1) ≤ 2 ^ 3 := Nat.pow_le_pow_right (by omega) (by omega)
  have := Nat.mod_lt i (pow_pos2 (lv - 1)); omega)
 rw [upd_ne _ _ (by omega), upd_ne _ _ (by omega), h3]
 exact h.w lv i hl hi
structure Gr (W W' : Nat → Int) : Prop where
 d : W 0 ≤ W' 0
 fz : ∀ w, w < 32 → FZ ≤ W w → FZ ≤ W' w
 ne : ∀ w, w < 32 → W w ≠ 0 → W' w ≠ 0
theorem Gr.refl (W : Nat → Int) : Gr W W := ⟨Int.le_refl _, fun _ _ h => h, fun _ _ h => h⟩
theorem Gr.of {W W' : Nat → Int} (h : Dir.Gr W W') : Gr W W' := ⟨h.d, fun w _ => h.fz w, fun w _ => h.ne w⟩
theorem Gr.hi (W : Nat → Int) {w : Nat} (hw : 32 ≤ w) (x : Int) : Gr W (upd W w x) :=
 ⟨by rw [upd_ne _ _ (by omega)]; exact Int.le_refl _, fun j hj h => by rw [upd_ne _ _ (by omega)]; exact h, fun j hj h => by rw [upd_ne _ _ (by omega)]; exact h⟩
def gone (W : Nat → Int) (lv i : Nat) : Prop := ∀ j, j < i → FZ ≤ W (2 ^ lv + j) ∧ W (2 ^ (lv + 1) + j) ≠ 0 ∧ W (2 ^ (lv + 1) + (j + 2 ^ lv)) ≠ 0
def okFc : Fc → Prop
 | .key => True
 | .ev j sh _ => j < sh ∧ sh ≤ 16
def okFd (f : Fd) : Prop := 1 ≤ f.w ∧ f.w < 32 ∧ 0 < f.v ∧ f.v < FZ
def okBk (n : Int) : Bk → Prop
 | .lv _ => n = 1
 | .ev j sh _ => j < sh ∧ sh ≤ 16
def okX (x : X) : Prop := x.op = 2 → x.ser ≠ 0
def Cw (x : X) (W : Nat → Int) : CS → Prop
 | .none => True
 | .k0 f => okFc f
 | .kE f w => okFc f ∧ 1 ≤ w ∧ w < 32
 | .kF f lv w => okFc f ∧ lv ≤ 3 ∧ w = plc lv (sumF x f) ∧ 2 * (lv : Int) + 1 ≤ W 0
 | .kG f lv w v _ => okFc f ∧ lv ≤ 3 ∧ w = plc lv (sumF x f) ∧ 2 * (lv : Int) + 1 ≤ W 0 ∧ v < FZ
 | .kH f lv w _ => okFc f ∧ 1 ≤ lv ∧ lv ≤ 4 ∧ w = plc lv (sumF x f) ∧ 2 * (lv : Int) - 1 ≤ W 0 ∧ FZ ≤ W (plc (lv - 1) (sumF x f))
 | .kL f lv w _ => okFc f ∧ 1 ≤ lv ∧ lv ≤ 4 ∧ w = plc lv (sumF x f) ∧ 2 * (lv : Int) - 1 ≤ W 0 ∧ FZ ≤ W (plc (lv - 1) (sumF x f))
 | .al f => okFd f ∧ x.op = 1
 | .pk _ => True
 | .a0 f => okFd f ∧ x.ser = 0
 | .a1 f u => okFd f ∧ 0 ≤ u ∧ u ≠ MAX ∧ x.ser = 0
 | .p0 f _ _ => okFd f ∧ f.there = false ∧ x.res = false ∧ okX x
 | .p1 f _ _ _ => okFd f ∧ f.there = false ∧ x.res = false ∧ okX x
 | .pS f _ _ => okFd f ∧ okX x ∧ (f.there = true ∨ x.res = true)
 | .b0 n k => 1 ≤ n ∧ okBk n k
 | .b1 n k _ => 1 ≤ n ∧ okBk n k
 | .e0 => True
 | .eC j sh _ w v _ => j < sh ∧ sh ≤ 16 ∧ 1 ≤ w ∧ w < 32 ∧ 0 < v ∧ v < FZ
 | .eS j sh _ w v _ n => j < sh ∧ sh ≤ 16 ∧ 1 ≤ w ∧ w < 32 ∧ 0 < v ∧ v < FZ ∧ 1 ≤ n
 | .s0 => True
 | .sM lv => lv ≤ 3
 | .sF lv i => lv ≤ 3 ∧ i < 2 ^ lv ∧ 2 * (lv : Int) + 1 ≤ W 0 ∧ gone W lv i
 | .sG lv i v _ => lv ≤ 3 ∧ i < 2 ^ lv ∧ 2 * (lv : Int) + 1 ≤ W 0 ∧ gone W lv i ∧ v < FZ
 | .sH lv i up _ => lv ≤ 3 ∧ i < 2 ^ lv ∧ 2 * (lv : Int) + 1 ≤ W 0 ∧ gone W lv i ∧ FZ ≤ W (2 ^ lv + i) ∧ (up = true → W (2 ^ (lv + 1) + i) ≠ 0)
 | .sL lv i up _ => lv ≤ 3 ∧ i < 2 ^ lv ∧ 2 * (lv : Int) + 1 ≤ W 0 ∧ gone W lv i ∧ FZ ≤ W (2 ^ lv + i) ∧ (up = true → W (2 ^ (lv + 1) + i) ≠ 0)
 | .sV lv => lv ≤ 3 ∧ 2 * (lv : Int) + 1 ≤ W 0 ∧ gone W lv (2 ^ lv)
theorem Gr.gone {W W' : Nat → Int} (h : Gr W W') {lv i : Nat} (hl : lv ≤ 3) (hi : i ≤ 2 ^ lv) (hg : gone W lv i) : gone W' lv i := fun j hj => by
 obtain ⟨a, b, c⟩ := hg j hj
 have h1 := sh_32 (by omega : lv ≤ 4) (by omega : j < 2 ^ lv)
 have hp := Nat.pow_succ 2 lv
 have h2 := sh_32 (by omega : lv + 1 ≤ 4) (by omega : j < 2 ^ (lv + 1))
 have h3 := sh_32 (by omega : lv + 1 ≤ 4) (by omega : j + 2 ^ lv < 2 ^ (lv + 1))
 exact ⟨h.fz _ h1.2 a, h.ne _ h2.2 b, h.ne _ h3.2 c⟩
theorem Gr.cw {x : X} {W W' : Nat → Int} (h : Gr W W') {s : CS} (hs : Cw x W s) : Cw x W' s := by
 have hd := h.d
 have hp : ∀ lv, lv ≤ 4 → ∀ s : Int, plc lv s < 32 := fun lv hl s => by obtain ⟨i, h1, h2⟩ := plc_sh lv s; rw [h2]; exact (sh_32 hl h1).2
 have hs1 : ∀ lv i, lv ≤ 3 → i < 2 ^ lv → 2 ^ lv + i < 32 := fun lv i a b => (sh_32 (by omega) b).2
 have hs2 : ∀ lv i, lv ≤ 3 → i < 2 ^ lv → 2 ^ (lv + 1) + i < 32 := fun lv i a b => (sh_32 (by omega) (by rw [Nat.pow_succ]; omega)).2
 cases s with
 | kF f lv w => obtain ⟨z, a, b, d⟩ := hs; exact ⟨z, a, b, by omega⟩
 | kG f lv w v m => obtain ⟨z, a, b, d, e⟩ := hs; exact ⟨z, a, b, by omega, e⟩
 | kH f lv w m => obtain ⟨z, a, b, d, e, g⟩ := hs; exact ⟨z, a, b, d, by omega, h.fz _ (hp _ (by omega) _) g⟩
 | kL f lv w m => obtain ⟨z, a, b, d, e, g⟩ := hs; exact ⟨z, a, b, d, by omega, h.fz _ (hp _ (by omega) _) g⟩
 | sF lv i => obtain ⟨a, b, d, e⟩ := hs; exact ⟨a, b, by omega, h.gone a (by omega) e⟩
 | sG lv i v m => obtain ⟨a, b, d, e, f⟩ := hs; exact ⟨a, b, by omega, h.gone a (by omega) e, f⟩
 | sH lv i up m => obtain ⟨a, b, d, e, f, g⟩ := hs; exact ⟨a, b, by omega, h.gone a (by omega) e, h.fz _ (hs1 _ _ a b) f, fun hu => h.ne _ (hs2 _ _ a b) (g hu)⟩
 | sL lv i up m => obtain ⟨a, b, d, e, f, g⟩ := hs; exact ⟨a, b, by omega, h.gone a (by omega) e, h.fz _ (hs1 _ _ a b) f, fun hu => h.ne _ (hs2 _ _ a b) (g hu)⟩
 | sV lv => obtain ⟨a, b, d⟩ := hs; exact ⟨a, by omega, h.gone a (by omega) d⟩
 | _ => exact hs
def kd : CS → Nat
 | .pS _ _ _ => 1
 | .eS _ _ _ _ _ _ _ => 1
 | .p1 _ _ _ _ => 2
 | .b1 _ _ _ => 2
 | .a1 _ _ => 3
 | _ => 0
inductive Chg (W W' : Nat → Int) (s : CS) : Prop
 | no (h : W' = W)
 | d (h1 : W' = upd W 0 (W 0 + 1)) (h2 : W 0 < 8)
 | fz (w : Nat) (h0 : 1 ≤ w ∧ w < 16) (h1 : 0 < W w ∧ W w < FZ) (h2 : W' = upd W w (W w + FZ))
 | lay (w : Nat) (h0 : 1 ≤ w ∧ w < 32) (h1 : W w = 0) (h2 : W' = upd W w 1)
 | key (w : Nat) (h0 : 1 ≤ w ∧ w < 32) (h1 : 0 < W w ∧ W w < FZ) (h2 : W' = upd W w (W w + 1)) (hs : kd s = 1)
 | cnt (y : Int) (h2 : W' = upd W 32 y) (hs : kd s = 2)
 | ser (h1 : W 33 ≠ MAX) (h2 : W' = upd W 33 (W 33 + 1)) (hs : kd s = 3)
structure Stepped (x' : X) (W : Nat → Int) (B : Int) (M' : Mc) (s s' : CS) : Prop where
 iw : Iw M'.W (B + 1)
 cw : Cw x' M'.W s'
 gr : Gr W M'.W
 chg : Chg W M'.W s
theorem Stepped.same {M : Mc} {x' : X} {B : Int} {s s' : CS} (h : Iw M.W B) (hc : Cw x' M.W s') : Stepped x' M.W B M s s' := ⟨h.mono (by omega), hc, .refl _, .no rfl⟩
theorem leave_cw (x : X) (W : Nat → Int) (r : Rpl) : Cw x W (leave x r).1 := by
 unfold leave; split
 ·exact ⟨by omega, rfl⟩
 ·trivial
theorem put_cw {x : X} {W : Nat → Int} {f : Fd} {c : Cel} {r : Rpl} (hf : okFd f) (hx : okX x) : Cw x W (put x f c r) := by
 unfold put; split
 ·rename_i h; exact ⟨hf, hx, h⟩
 ·rename_i h
  refine ⟨hf, ?_, ?_, hx⟩
  ·cases e : f.there with
   | true => exact absurd (.inl e) h
   | false => rfl
  ·cases e : x.res with
   | true => exact absurd (.inr e) h
   | false => rfl
theorem further_cw {x : X} {W : Nat → Int} {j sh : Nat} {g : Int} (h : j < sh ∧ sh ≤ 16) : Cw x W (further j sh g).1 := by
 unfold further; split
 ·trivial
 ·exact ⟨by omega, h.2⟩
theorem after_cw {x : X} {W : Nat → Int} {n : Int} {k : Bk} (h : okBk n k) : Cw x W (after n k).1 := by
 cases k with
 | lv r => trivial
 | ev j sh g => exact further_cw h
theorem foundK_cw {P : Ops} {x : X} {W : Nat → Int} {f : Fd} (hf : okFd f) (hser : 0 ≤ x.ser) : Cw x W (foundK P x f).1 := by
 unfold foundK
 by_cases h1 : x.op = 1
 ·rw [if_pos h1]; exact ⟨hf, h1⟩
 rw [if_neg h1]
 by_cases h2 : x.op = 2
 ·rw [if_pos h2]
  split
  ·exact leave_cw _ _ _
  ·split
   ·exact put_cw hf fun _ => by omega
   ·exact ⟨hf, by omega⟩
 rw [if_neg h2]
 split
 ·split
  ·exact put_cw hf fun h => absurd h h2
  ·trivial
 ·split <;> trivial
theorem entered_cw {P : Ops} {x : X} {W : Nat → Int} {f : Fc} {w : Nat} {v : Int} {h : List Cel} (hf : okFc f) (hw : 1 ≤ w ∧ w < 32) (hv : 0 ≤ v) (hser : 0 ≤ x.ser) : Cw x W (entered P x f w v h).1 := by
 unfold entered
 split
 ·exact hf
 ·unfold found
  cases f with
  | key => exact foundK_cw ⟨hw.1, hw.2, by show 0 < v; omega, by show v < FZ; omega⟩ hser
  | ev j sh g =>
   dsimp only
   split
   ·exact further_cw hf
   ·exact ⟨hf.1, hf.2, hw.1, hw.2, by omega, by omega⟩
theorem move_cw {x : X} {W : Nat → Int} {lv i : Nat} (hl : lv ≤ 3) (hi : i < 2 ^ lv) (hd : 2 * (lv : Int) + 1 ≤ W 0) (hg : gone W lv (i + 1)) : Cw x W (move lv (i + 1)) := by
 unfold move
 split
 ·rename_i e; rw [e] at hg; exact ⟨hl, hd, hg⟩
 ·exact ⟨hl, by omega, hd, hg⟩
theorem gone_succ {W : Nat → Int} {lv i : Nat} (h : gone W lv i) (h1 : FZ ≤ W (2 ^ lv + i)) (h2 : W (2 ^ (lv + 1) + i) ≠ 0) (h3 : W (2 ^ (lv + 1) + (i + 2 ^ lv)) ≠ 0) : gone W lv (i + 1) := fun j hj => by
 by_cases e : j = i
 ·subst e; exact ⟨h1, h2, h3⟩
 ·exact h j (by omega)
theorem on_cw {x : X} {W : Nat → Int} {lv i : Nat} {up : Bool} {h : List Cel} (hl : lv ≤ 3) (hi : i < 2 ^ lv) (hd : 2 * (lv : Int) + 1 ≤ W 0) (hg : gone W lv i) (hf : FZ ≤ W (2 ^ lv + i))
  (hu : up = true → W (2 ^ (lv + 1) + i) ≠ 0) (hn : W (upW lv i up) ≠ 0) : Cw x W (on lv i up h) := by
 unfold on
 cases up with
 | true =>
  refine move_cw hl hi hd (gone_succ hg hf (hu rfl) ?_)
  simpa [upW] using hn
 | false => exact ⟨hl, hi, hd, hg, hf, fun _ => by simpa [upW] using hn⟩
theorem step_ok {P : Ops} {M : Mc} {B : Int} (h : Iw M.W B) (hB : 1 ≤ B ∧ B + 1 < FZ) {x : X} (hx : 0 ≤ x.ser) (h33 : 0 ≤ M.W 33) {s : CS} (hs : Cw x M.W s) :
  Stepped (step P M x s).x M.W B (step P M x s).M s (step P M x s).s := by
 have hF : FZ = 4611686018427387904 := rfl
 have hd := h.d
 cases s with
 | none => exact .same h trivial
 | k0 f =>
  have hk : (M.W 0 / 2).toNat ≤ 4 := by omega
  obtain ⟨i, h1, h2⟩ := plc_sh (M.W 0 / 2).toNat (sumF x f)
  have := sh_32 hk h1
  refine .same h ?_
  show Cw x M.W (if _ then _ else _)
  split
  ·rw [h2]; exact ⟨hs, this⟩
  ·exact ⟨hs, by omega, rfl, by omega⟩
 | kE f w =>
  obtain ⟨lv, i, hl, hi, rfl⟩ := word_sh hs.2
  have := h.sh hl hi
  exact .same h (entered_cw hs.1 hs.2 (by unfold okW at this; omega) hx)
 | kF f lv w =>
  obtain ⟨z, a, b, d⟩ := hs
  refine .same h ?_
  show Cw x M.W (if _ then _ else _)
  split
  ·exact ⟨z, by omega, by omega, rfl, by omega, by rw [Nat.add_sub_cancel, ← b]; assumption⟩
  ·exact ⟨z, a, b, d, by omega⟩
 | kG f lv w v m =>
  obtain ⟨z, a, b, d, e⟩ := hs
  obtain ⟨i, h1, h2⟩ := plc_sh lv (sumF x f)
  by_cases hm : M.W w = v
  ·have hb := b
   rw [h2] at hb
   subst hb
   obtain ⟨g1, g2, g3⟩ := freeze_ok h a h1 d e hm
   have g4 : Dir.Gr M.W (upd M.W (2 ^ lv + i) (v + FZ)) := .set (fun e0 => by have := sh_16 a h1; omega) (fun _ => by omega) (fun _ => by omega)
   simp only [step, if_pos hm]
   have hd2 := g4.d
   refine ⟨g3.mono (by omega), ⟨z, by omega, by omega, rfl, ?_, ?_⟩, .of g4, .fz _ (sh_16 a h1) (by omega) (by rw [hm]; rfl)⟩
   ·show _ ≤ upd M.W _ _ 0; omega
   ·rw [Nat.add_sub_cancel, h2]; show FZ ≤ upd M.W _ _ _; rw [upd_same]; omega
  ·simp only [step, if_neg hm]
   exact .same h ⟨z, a, b, d⟩
 | kH f lv w m =>
  obtain ⟨z, a, b, d, e, g⟩ := hs
  obtain ⟨i, h1, h2⟩ := plc_sh lv (sumF x f)
  have hw := sh_32 b h1
  rw [← h2, ← d] at hw
  have ho := h.sh b h1
  rw [← h2, ← d] at ho
  by_cases hm : M.W w = 0
  ·simp only [step, if_pos hm]; exact .same h ⟨z, a, b, d, e, g⟩
  ·simp only [step, if_neg hm]; exact .same h (entered_cw z hw (by unfold okW at ho; omega) hx)
 | kL f lv w m =>
  obtain ⟨z, a, b, d, e, g⟩ := hs
  obtain ⟨i, h1, h2⟩ := plc_sh lv (sumF x f)
  have hw := sh_32 b h1
  have hlow : FZ ≤ lowW M.W lv i := by
   have h3 := plc_low (lv - 1) (sumF x f)
   rw [Nat.sub_add_cancel a, h2, Nat.add_sub_cancel_left] at h3
   unfold lowW; rw [h3]; exact g
  rw [h2] at d
  subst d
  by_cases hm : M.W (2 ^ lv + i) = 0
  ·simp only [step, if_pos hm]
   refine ⟨(lay_ok h hB.1 a b h1 e hlow hm).mono (by omega), ⟨z, hw⟩, .of (.set (fun e0 => by omega) (fun _ => by omega) (fun _ => by omega)), .lay _ hw hm rfl⟩
  ·simp only [step, if_neg hm]; exact .same h ⟨z, hw⟩
 | al f =>
  simp only [step]
  split
  ·exact .same h (leave_cw _ _ _)
  ·exact .same h (put_cw hs.1 fun e => absurd ((show x.op = 1 from hs.2).symm.trans e) (by decide))
 | pk c => exact .same h trivial
 | a0 f =>
  simp only [step]
  split
  ·exact .same h (leave_cw _ _ _)
  ·rename_i hm; exact .same h ⟨hs.1, h33, hm, hs.2⟩
 | a1 f u =>
  obtain ⟨a, b, c, e⟩ := hs
  by_cases hm : M.W 33 = u
  ·simp only [step, if_pos hm]
   subst hm
   exact ⟨(iw_hi h (by omega) _).mono (by omega), put_cw a fun _ => by show M.W 33 + 1 ≠ 0; omega, Gr.hi _ (by omega) _, .ser c rfl rfl⟩
  ·simp only [step, if_neg hm]; exact .same h ⟨a, e⟩
 | p0 f c r =>
  simp only [step]
  split
  ·exact .same h trivial
  ·exact .same h hs
 | p1 f c r u =>
  obtain ⟨a, b, e, g⟩ := hs
  by_cases hm : M.W 32 = u
  ·simp only [step, if_pos hm]
   exact ⟨(iw_hi h (by omega) _).mono (by omega), ⟨a, g, .inr rfl⟩, Gr.hi _ (by omega) _, .cnt _ rfl rfl⟩
  ·simp only [step, if_neg hm]; exact .same h ⟨a, b, e, g⟩
 | pS f c r =>
  obtain ⟨⟨a, b, d, e⟩, g, k⟩ := hs
  by_cases hm : M.W f.w = f.v
  ·simp only [step, if_pos hm]
   have d' : 0 < M.W f.w := by omega
   have e' : M.W f.w < FZ := by omega
   refine ⟨?_, ?_, .of ?_, ?_⟩
   ·show Iw (upd M.W f.w (f.v + 1)) (B + 1); rw [← hm]; exact live_ok h ⟨a, b⟩ hB.2 ⟨d', e'⟩
   ·show Cw x _ (if _ then _ else _ : CS × Rs).1; split
    ·exact leave_cw _ _ _
    ·trivial
   ·show Dir.Gr M.W (upd M.W f.w (f.v + 1)); exact .set (fun e0 => by omega) (fun _ => by omega) (fun _ => by omega)
   ·exact .key f.w ⟨a, b⟩ ⟨d', e'⟩ (by rw [hm]; rfl) rfl
  ·simp only [step, if_neg hm]; exact .same h trivial
 | b0 n k => exact .same h hs
 | b1 n k u =>
  by_cases hm : M.W 32 = u
  ·simp only [step, if_pos hm]
   exact ⟨(iw_hi h (by omega) _).mono (by omega), after_cw hs.2, Gr.hi _ (by omega) _, .cnt _ rfl rfl⟩
  ·simp only [step, if_neg hm]; exact .same h hs
 | e0 =>
  have hk : ((M.W 0 + 1) / 2).toNat ≤ 4 := by omega
  have : 2 ^ ((M.W 0 + 1) / 2).toNat ≤ 2 ^ 4 := Nat.pow_le_pow_right (by omega) hk
  exact .same h ⟨pow_pos2 _, this⟩
 | eC j sh g w v m =>
  obtain ⟨a, b, c⟩ := hs
  simp only [step]
  split
  ·exact .same h (further_cw ⟨a, b⟩)
  ·rename_i hm
   have hl : (rest P m M.clk).length ≤ m.length := List.length_filter_le _ _
   exact .same h ⟨a, b, c.1, c.2.1, c.2.2.1, c.2.2.2, by omega⟩
 | eS j sh g w v m n =>
  obtain ⟨a, b, c, d, e, e', k⟩ := hs
  by_cases hm : M.W w = v
  ·simp only [step, if_pos hm]
   have h1 : 0 < M.W w := by omega
   have h2 : M.W w < FZ := by omega
   refine ⟨?_, ⟨k, a, b⟩, .of ?_, ?_⟩
   ·show Iw (upd M.W w (v + 1)) (B + 1); rw [← hm]; exact live_ok h ⟨c, d⟩ hB.2 ⟨h1, h2⟩
   ·show Dir.Gr M.W (upd M.W w (v + 1)); exact .set (fun e0 => by omega) (fun _ => by omega) (fun _ => by omega)
   ·exact .key w ⟨c, d⟩ ⟨h1, h2⟩ (by rw [hm]; rfl) rfl
  ·simp only [step, if_neg hm]; exact .same h (further_cw ⟨a, b⟩)
 | s0 =>
  by_cases h1 : M.W 0 % 2 = 1
  ·simp only [step, if_pos h1]
   exact .same h ⟨by omega, pow_pos2 _, by omega, fun j hj => by omega⟩
  ·by_cases h2 : M.W 0 / 2 = 4
   ·simp only [step, if_neg h1, if_pos h2]; exact .same h trivial
   ·simp only [step, if_neg h1, if_neg h2]
    refine .same h ?_
    show _ ≤ _
    omega
 | sM lv =>
  by_cases hm : M.W 0 = 2 * lv
  ·simp only [step, if_pos hm]
   have hl : lv ≤ 3 := hs
   have g := h.begin hl hm
   have h2 : (M.set 0 (2 * lv + 1) []).W 0 = 2 * lv + 1 := by simp [Mc.set, upd]
   refine ⟨g.mono (by omega), ⟨hl, pow_pos2 _, by omega, fun j hj => by omega⟩, .of (.set (fun _ => by omega) (fun _ => by omega) (fun _ => by omega)), .d ?_ (by omega)⟩
   rw [hm]; rfl
  ·simp only [step, if_neg hm]; exact .same h trivial
 | sF lv i =>
  obtain ⟨a, b, d, e⟩ := hs
  refine .same h ?_
  show Cw x M.W (if _ then _ else _)
  split
  ·exact ⟨a, b, d, e, by assumption, fun hf => by simp at hf⟩
  ·exact ⟨a, b, d, e, by omega⟩
 | sG lv i v m =>
  obtain ⟨a, b, d, e, f⟩ := hs
  by_cases hm : M.W (2 ^ lv + i) = v
  ·obtain ⟨g1, g2, g3⟩ := freeze_ok h a b d f hm
   have g4 : Dir.Gr M.W (upd M.W (2 ^ lv + i) (v + FZ)) := .set (fun e0 => by have := sh_16 a b; omega) (fun _ => by omega) (fun _ => by omega)
   simp only [step, if_pos hm]
   have hd2 := g4.d
   exact ⟨g3.mono (by omega), ⟨a, b, by show _ ≤ upd M.W _ _ 0; omega, (Gr.of g4).gone a (by omega) e, by show FZ ≤ upd M.W _ _ _; rw [upd_same]; omega, fun hf => by simp at hf⟩, .of g4, .fz _ (sh_16 a b) (by omega) (by rw [hm]; rfl)⟩
  ·simp only [step, if_neg hm]; exact .same h ⟨a, b, d, e⟩
 | sH lv i up m =>
  obtain ⟨a, b, d, e, f, g⟩ := hs
  refine .same h ?_
  show Cw x M.W (if _ then _ else _)
  split
  ·exact ⟨a, b, d, e, f, g⟩
  ·exact on_cw a b d e f g (by assumption)
 | sL lv i up m =>
  obtain ⟨a, b, d, e, f, g⟩ := hs
  obtain ⟨j, h1, h2, h3⟩ := upW_sh (up := up) b
  have hw := sh_32 (by omega : lv + 1 ≤ 4) h1
  by_cases hm : M.W (upW lv i up) = 0
  ·simp only [step, if_pos hm]
   have hlow : FZ ≤ lowW M.W (lv + 1) j := by unfold lowW; rw [Nat.add_sub_cancel, h3]; exact f
   have g4 : Dir.Gr M.W (upd M.W (upW lv i up) 1) := .set (fun e0 => by omega) (fun _ => by omega) (fun _ => by omega)
   have hd2 := g4.d
   refine ⟨?_, on_cw a b (by show _ ≤ upd M.W _ _ 0; omega) ((Gr.of g4).gone a (by omega) e) (g4.fz _ f) (fun hu => g4.ne _ (g hu)) (by show upd M.W _ _ _ ≠ 0; rw [upd_same]; omega), .of g4, .lay _ (by omega) hm rfl⟩
   have := lay_ok h hB.1 (by omega : 1 ≤ lv + 1) (by omega) h1 (by omega) hlow (by rw [← h2]; exact hm)
   rw [← h2] at this
   exact this.mono (by omega)
  ·simp only [step, if_neg hm]; exact .same h (on_cw a b d e f g hm)
 | sV lv =>
  obtain ⟨a, b, d⟩ := hs
  by_cases hm : M.W 0 = 2 * lv + 1
  ·simp only [step, if_pos hm]
   refine ⟨(h.fin a hm d).mono (by omega), trivial, .of (.set (fun _ => by omega) (fun _ => by omega) (fun _ => by omega)), .d ?_ (by omega)⟩
   rw [hm]; show upd M.W 0 _ = upd M.W 0 _; congr 1
  ·simp only [step, if_neg hm]; exact .same h trivial
end Core
end Go.Proofs.YtplpofmnhcclbaaGreat

namespace Go.Proofs.YtplpofmnhcclbaaGreat
namespace Core
open Dir (FZ plc upd upW Iw okW lowW upd_same upd_ne pow_pos2 plc_sh plc_low sh_32 sh_16 sh_inj word_sh)
def A (x : X) : Fc → Nat
 | .key => if x.op = 2 ∧ x.ser = 0 then 5 else 4
 | .ev _ _ _ => 4
def rst : Fc → Nat
 | .key => 0
 | .ev j sh _ => 10 * (sh - 1 - j)
def TH (a : Nat) (v : Int) : Nat := if v = 0 then 3 + a else if v < FZ then 1 + a else 7 + a
def TF (a : Nat) (v y : Int) : Nat := TH a y + if v < FZ then 2 else 1
def TE (a : Nat) (v : Int) : Nat := if v ≠ 0 ∧ v < FZ then 1 + a else 7 + a
def st (W : Nat → Int) (f : Fd) : Nat := if W f.w = f.v then 0 else 10
def U (lv i : Nat) : Nat := 6 * (2 ^ lv - i) + 1
def Tk : Bk → Nat
 | .lv _ => 0
 | .ev j sh _ => 10 * (sh - 1 - j)
def T (x : X) (W : Nat → Int) : CS → Nat
 | .none => 0
 | .k0 f => (if W 0 % 2 = 0 then 2 + A x f else 6 + A x f) + rst f
 | .kE f w => TE (A x f) (W w) + rst f
 | .kF f lv w => TF (A x f) (W w) (W (plc (lv + 1) (sumF x f))) + rst f
 | .kG f lv w v _ => (if W w = v then 1 + TH (A x f) (W (plc (lv + 1) (sumF x f))) else 1 + TF (A x f) (W w) (W (plc (lv + 1) (sumF x f)))) + rst f
 | .kH f _ w _ => TH (A x f) (W w) + rst f
 | .kL f _ w _ => 1 + (if W w = 0 then 1 + A x f else TE (A x f) (W w)) + rst f
 | .al f => 4 + st W f
 | .pk _ => 1
 | .a0 f => 5 + st W f
 | .a1 f u => (if W 33 = u then 4 else 6) + st W f
 | .p0 f _ _ => 3 + st W f
 | .p1 f _ _ u => (if W 32 = u then 2 else 4) + st W f
 | .pS f _ _ => (if f.there = true then 3 else 1) + st W f
 | .b0 _ k => 2 + Tk k
 | .b1 _ k u => (if W 32 = u then 1 else 3) + Tk k
 | .e0 => 161
 | .eC j sh _ _ _ _ => 4 + 10 * (sh - 1 - j)
 | .eS j sh _ _ _ _ _ => 3 + 10 * (sh - 1 - j)
 | .s0 => 52
 | .sM lv => if W 0 = 2 * lv then 51 else 53
 | .sF lv i => U lv i
 | .sG lv i v _ => if W (2 ^ lv + i) = v then U lv i - 1 else U lv i + 1
 | .sH lv i up _ => U lv i - (if up then 4 else 2)
 | .sL lv i up _ => U lv i - (if up then 5 else 3)
 | .sV _ => 1
theorem U_le {lv i : Nat} (h : lv ≤ 3) : U lv i ≤ 49 := by
 have : 2 ^ lv ≤ 2 ^ 3 := Nat.pow_le_pow_right (by omega) h
 unfold U; omega
theorem U_succ {lv i : Nat} (hi : i < 2 ^ lv) : U lv i = U lv (i + 1) + 6 ∧ 1 ≤ U lv (i + 1) := by unfold U; omega
theorem A_le (x : X) (f : Fc) : 4 ≤ A x f ∧ A x f ≤ 5 := by
 cases f <;> simp only [A] <;> (try split) <;> omega
theorem TH_le (a : Nat) (v : Int) : TH a v ≤ 7 + a := by unfold TH; split <;> (try split) <;> omega
theorem TE_le (a : Nat) (v : Int) : TE a v ≤ 7 + a := by unfold TE; split <;> omega
theorem TF_le (a : Nat) (v y : Int) : TF a v y ≤ 9 + a := by have := TH_le a y; unfold TF; split <;> omega
theorem st_le (W : Nat → Int) (f : Fd) : st W f ≤ 10 := by unfold st; split <;> omega
theorem rst_le {f : Fc} (h : okFc f) : rst f ≤ 150 := by
 cases f with
 | key => simp [rst]
 | ev j sh g => obtain ⟨a, b⟩ := h; simp only [rst]; omega
theorem T_le {x : X} {W : Nat → Int} {s : CS} (hs : Cw x W s) : T x W s ≤ 165 := by
 cases s with
 | none => simp [T]
 | k0 f => have := A_le x f; have := rst_le hs; simp only [T]; split <;> omega
 | kE f w => have := A_le x f; have := rst_le hs.1; have := TE_le (A x f) (W w); simp only [T]; omega
 | kF f lv w => have := A_le x f; have := rst_le hs.1; have := TF_le (A x f) (W w) (W (plc (lv + 1) (sumF x f))); simp only [T]; omega
 | kG f lv w v m => have := A_le x f; have := rst_le hs.1; have := TF_le (A x f) (W w) (W (plc (lv + 1) (sumF x f))); have := TH_le (A x f) (W (plc (lv + 1) (sumF x f))); simp only [T]; split <;> omega
 | kH f lv w m => have := A_le x f; have := rst_le hs.1; have := TH_le (A x f) (W w); simp only [T]; omega
 | kL f lv w m => have := A_le x f; have := rst_le hs.1; have := TE_le (A x f) (W w); simp only [T]; split <;> omega
 | al f => have := st_le W f; simp only [T]; omega
 | pk c => simp [T]
 | a0 f => have := st_le W f; simp only [T]; omega
 | a1 f u => have := st_le W f; simp only [T]; split <;> omega
 | p0 f c r => have := st_le W f; simp only [T]; omega
 | p1 f c r u => have := st_le W f; simp only [T]; split <;> omega
 | pS f c r => have := st_le W f; simp only [T]; split <;> omega
 | b0 n k =>
  cases k with
  | lv r => simp [T, Tk]
  | ev j sh g => obtain ⟨-, a, b⟩ := hs; simp only [T, Tk]; omega
 | b1 n k u =>
  cases k with
  | lv r => simp only [T, Tk]; split <;> omega
  | ev j sh g => obtain ⟨-, a, b⟩ := hs; simp only [T, Tk]; split <;> omega
 | e0 => simp [T]
 | eC j sh g w v m => obtain ⟨a, b, -⟩ := hs; simp only [T]; omega
 | eS j sh g w v m n => obtain ⟨a, b, -⟩ := hs; simp only [T]; omega
 | s0 => simp [T]
 | sM lv => simp only [T]; split <;> omega
 | sF lv i => have := U_le (i := i) hs.1; simp only [T]; omega
 | sG lv i v m => have := U_le (i := i) hs.1; simp only [T]; split <;> omega
 | sH lv i up m => have := U_le (i := i) hs.1; simp only [T]; split <;> omega
 | sL lv i up m => have := U_le (i := i) hs.1; simp only [T]; split <;> omega
 | sV lv => simp [T]
theorem leave_T (x : X) (W : Nat → Int) (r : Rpl) : T x W (leave x r).1 ≤ 2 := by
 unfold leave; split <;> simp [T, Tk]
theorem put_T (x' x : X) (W : Nat → Int) (f : Fd) (c : Cel) (r : Rpl) : T x' W (put x f c r) ≤ 3 + st W f := by
 unfold put; split
 ·simp only [T]; split <;> omega
 ·simp only [T]; omega
theorem further_T (x : X) (W : Nat → Int) {j sh : Nat} (g : Int) (h : j < sh) : T x W (further j sh g).1 ≤ 10 * (sh - 1 - j) := by
 unfold further
 by_cases e : j + 1 = sh
 ·rw [if_pos e]; simp [T]
 ·rw [if_neg e]; simp only [T, A, rst]; split <;> omega
theorem after_T (x : X) (W : Nat → Int) {n : Int} {k : Bk} (h : okBk n k) : T x W (after n k).1 ≤ Tk k := by
 cases k with
 | lv r => simp [after, T]
 | ev j sh g => exact further_T x W _ h.1
theorem entered_T {P : Ops} {x : X} {W : Nat → Int} {f : Fc} {w : Nat} {h : List Cel} (hf : okFc f) (h0 : 0 ≤ W w) (hser : 0 ≤ x.ser) : T x W (entered P x f w (W w) h).1 + 1 ≤ TE (A x f) (W w) + rst f := by
 have hF : FZ = 4611686018427387904 := rfl
 unfold entered TE
 by_cases e : W w = 0 ∨ FZ ≤ W w
 ·rw [if_pos e, if_neg (by omega)]
  simp only [T]; split <;> omega
 ·rw [if_neg e, if_pos (by omega)]
  unfold found
  cases f with
  | key =>
   have hs : st W (fdOf P x w (W w) h) = 0 := by unfold st fdOf; simp
   simp only [rst, A]
   unfold foundK
   by_cases h1 : x.op = 1
   ·rw [if_pos h1]; simp only [T, hs]; split <;> omega
   rw [if_neg h1]
   by_cases h2 : x.op = 2
   ·rw [if_pos h2]
    split
    ·have := leave_T x W (er 9); split <;> omega
    ·split
     ·rename_i h4
      rw [if_neg (by omega)]
      have := put_T x x W (fdOf P x w (W w) h) (P.acq (P.pol x.pol) (fdOf P x w (W w) h).cell x.ser).2 (P.acq (P.pol x.pol) (fdOf P x w (W w) h).cell x.ser).1
      dsimp only; omega
     ·rename_i h4
      rw [if_pos ⟨h2, by omega⟩]
      simp only [T, hs]; omega
   rw [if_neg h2, if_neg (fun h => h2 h.1 : ¬ (x.op = 2 ∧ x.ser = 0))]
   split
   ·split
    ·have := put_T x x W (fdOf P x w (W w) h) (P.rel (P.pol x.pol) (fdOf P x w (W w) h).cell x.n).2 (P.rel (P.pol x.pol) (fdOf P x w (W w) h).cell x.n).1
     dsimp only; omega
    ·simp [T]
   ·split <;> simp [T]
  | ev j sh g =>
   dsimp only [A, rst]
   split
   ·have := further_T x W (g := g) hf.1; omega
   ·simp only [T]; omega
theorem T_on {x : X} {W : Nat → Int} {lv i : Nat} {up : Bool} {h : List Cel} (hi : i < 2 ^ lv) : T x W (on lv i up h) + 1 ≤ U lv i - (if up then 5 else 3) := by
 obtain ⟨g1, g2⟩ := U_succ hi
 cases up
 ·simp [on, T]; omega
 ·simp only [on, move, if_true]
  by_cases e : i + 1 = 2 ^ lv
  ·rw [if_pos e]; simp only [T]; omega
  ·rw [if_neg e]; simp only [T]; omega
theorem st_hi {W : Nat → Int} {f : Fd} (h : okFd f) {w : Nat} (hw : 32 ≤ w) (y : Int) : st (upd W w y) f = st W f := by
 unfold st; rw [upd_ne _ _ (by have := h.2.1; omega)]
theorem step_T {P : Ops} {M : Mc} {B : Int} (h : Iw M.W B) {x : X} (hx : 0 ≤ x.ser) {s : CS} (hn : s ≠ .none) (hs : Cw x M.W s) (hr : (step P M x s).r.done = false) :
  T (step P M x s).x (step P M x s).M.W (step P M x s).s + 1 ≤ T x M.W s := by
 have hF : FZ = 4611686018427387904 := rfl
 have hd := h.d
 cases s with
 | none => exact absurd rfl hn
 | k0 f =>
  have hk : (M.W 0 / 2).toNat ≤ 4 := by omega
  obtain ⟨i, h1, h2⟩ := plc_sh (M.W 0 / 2).toNat (sumF x f)
  have ho := h.sh hk h1
  rw [← h2] at ho
  by_cases e : M.W 0 % 2 = 0
  ·simp only [step, if_pos e, T]
   have hx : 0 < M.W (plc (M.W 0 / 2).toNat (sumF x f)) ∧ M.W (plc (M.W 0 / 2).toNat (sumF x f)) < FZ := by unfold okW at ho; omega
   have : TE (A x f) (M.W (plc (M.W 0 / 2).toNat (sumF x f))) = 1 + A x f := by unfold TE; rw [if_pos (by omega)]
   omega
  ·simp only [step, if_neg e, T]
   obtain ⟨j, g1, g2⟩ := plc_sh ((M.W 0 / 2).toNat + 1) (sumF x f)
   have ho2 := h.sh (by omega : (M.W 0 / 2).toNat + 1 ≤ 4) g1
   rw [← g2] at ho2
   have hlow : lowW M.W ((M.W 0 / 2).toNat + 1) j = M.W (plc (M.W 0 / 2).toNat (sumF x f)) := by
    have h3 := plc_low (M.W 0 / 2).toNat (sumF x f)
    rw [g2, Nat.add_sub_cancel_left] at h3
    unfold lowW; rw [Nat.add_sub_cancel, h3]
   rw [hlow] at ho2
   have hx : (M.W (plc ((M.W 0 / 2).toNat + 1) (sumF x f)) = 0 ∨ (0 < M.W (plc ((M.W 0 / 2).toNat + 1) (sumF x f)) ∧ M.W (plc ((M.W 0 / 2).toNat + 1) (sumF x f)) < FZ)) := by unfold okW at ho2; omega
   have h4 : TH (A x f) (M.W (plc ((M.W 0 / 2).toNat + 1) (sumF x f))) ≤ 3 + A x f := by unfold TH; (repeat' split) <;> omega
   unfold TF; split <;> omega
 | kE f w =>
  obtain ⟨lv, i, hl, hi, rfl⟩ := word_sh hs.2
  have ho := h.sh hl hi
  exact entered_T hs.1 ho.1 hx
 | kF f lv w =>
  by_cases e : FZ ≤ M.W w
  ·simp only [step, if_pos e, T, toH]
   unfold TF; rw [if_neg (by omega)]; omega
  ·simp only [step, if_neg e, T, if_true]
   unfold TF; rw [if_pos (by omega)]; omega
 | kG f lv w v m =>
  obtain ⟨z, a, b, d, e⟩ := hs
  by_cases hm : M.W w = v
  ·simp only [step, if_pos hm, T, toH]
   have hne : plc (lv + 1) (sumF x f) ≠ w := by
    intro e9
    obtain ⟨i, g1, g2⟩ := plc_sh lv (sumF x f)
    obtain ⟨j, g3, g4⟩ := plc_sh (lv + 1) (sumF x f)
    rw [b, g2, g4] at e9
    have := sh_inj g1 g3 e9.symm
    omega
   show TH (A x f) (upd M.W w _ _) + rst f + 1 ≤ _
   rw [upd_ne _ _ hne]; omega
  ·simp only [step, if_neg hm, T]; omega
 | kH f lv w m =>
  obtain ⟨z, a, b, d, e, g⟩ := hs
  obtain ⟨i, h1, h2⟩ := plc_sh lv (sumF x f)
  have ho := h.sh b h1
  rw [← h2, ← d] at ho
  by_cases hm : M.W w = 0
  ·simp only [step, if_pos hm, T]
   rw [hm]; unfold TH; rw [if_pos rfl]; omega
  ·simp only [step, if_neg hm]
   have h5 := entered_T (P := P) (x := x) (W := M.W) (f := f) (w := w) (h := M.Hd w) z ho.1 hx
   have h4 : TE (A x f) (M.W w) = TH (A x f) (M.W w) := by unfold TE TH; (repeat' split) <;> omega
   show _ ≤ TH (A x f) (M.W w) + rst f
   rw [← h4]; exact h5
 | kL f lv w m =>
  by_cases hm : M.W w = 0
  ·simp only [step, if_pos hm, T]
   show TE (A x f) (upd M.W w 1 w) + rst f + 1 ≤ _
   rw [upd_same]; unfold TE; rw [if_pos (by omega)]; omega
  ·simp only [step, if_neg hm, T]; omega
 | al f =>
  simp only [step]
  split
  ·have := leave_T x M.W (P.allow (P.pol x.pol) f.cell M.clk x.n).1
   show T x M.W (leave x _).1 + 1 ≤ 4 + st M.W f
   omega
  ·have := put_T x x M.W f (P.allow (P.pol x.pol) f.cell M.clk x.n).2 (P.allow (P.pol x.pol) f.cell M.clk x.n).1
   show T x M.W (put x f _ _) + 1 ≤ 4 + st M.W f
   omega
 | pk c => simp [step] at hr
 | a0 f =>
  simp only [step]
  split
  ·have := leave_T x M.W (er 5)
   show T x M.W (leave x _).1 + 1 ≤ 5 + st M.W f
   omega
  ·simp only [T, if_true]; omega
 | a1 f u =>
  obtain ⟨a, b, c, e⟩ := hs
  by_cases hm : M.W 33 = u
  ·simp only [step, if_pos hm]
   have := put_T { x with ser := u + 1 } x (upd M.W 33 (u + 1)) f (P.acq (P.pol x.pol) f.cell (u + 1)).2 (P.acq (P.pol x.pol) f.cell (u + 1)).1
   rw [st_hi a (by omega)] at this
   have e2 : T x M.W (.a1 f u) = 4 + st M.W f := by simp only [T, if_pos hm]
   rw [e2]
   show T { x with ser := u + 1 } (upd M.W 33 (u + 1)) (put x f _ _) + 1 ≤ _
   omega
  ·simp only [step, if_neg hm, T]; omega
 | p0 f c r =>
  by_cases e : M.W 32 = P.room
  ·simp [step, if_pos e] at hr
  ·simp only [step, if_neg e, T, if_true]; omega
 | p1 f c r u =>
  obtain ⟨a, b, e, g⟩ := hs
  by_cases hm : M.W 32 = u
  ·simp only [step, if_pos hm, T, b]
   show _ + st (upd M.W 32 (u + 1)) f + 1 ≤ _
   rw [st_hi a (by omega)]; simp; omega
  ·simp only [step, if_neg hm, T]; omega
 | pS f c r =>
  obtain ⟨a, g, k⟩ := hs
  by_cases hm : M.W f.w = f.v
  ·simp only [step, if_pos hm] at hr ⊢
   by_cases e : f.there = true
   ·simp only [if_pos e]
    have := leave_T x (M.set f.w (f.v + 1) (P.wth f.h f.at' f.there c)).W r
    have e2 : T x M.W (.pS f c r) = 3 + st M.W f := by simp only [T, if_pos e]
    rw [e2]
    show T x (M.set f.w (f.v + 1) (P.wth f.h f.at' f.there c)).W (leave x r).1 + 1 ≤ _
    omega
   ·simp [if_neg e, same] at hr
  ·simp only [step, if_neg hm, T, st, A, rst]
   have : ¬ (x.op = 2 ∧ x.ser = 0) := fun h => g h.1 h.2
   rw [if_neg this]
   split <;> split <;> omega
 | b0 n k => simp only [step, T, if_true]; omega
 | b1 n k u =>
  by_cases hm : M.W 32 = u
  ·have e2 : T x M.W (.b1 n k u) = 1 + Tk k := by simp only [T, if_pos hm]
   rw [e2]
   simp only [step, if_pos hm]
   have := after_T x (M.set 32 (u - n) []).W hs.2
   show T x (M.set 32 (u - n) []).W (after n k).1 + 1 ≤ _
   omega
  ·simp only [step, if_neg hm, T]; omega
 | e0 =>
  have hk : ((M.W 0 + 1) / 2).toNat ≤ 4 := by omega
  have : 2 ^ ((M.W 0 + 1) / 2).toNat ≤ 2 ^ 4 := Nat.pow_le_pow_right (by omega) hk
  show (if M.W 0 % 2 = 0 then 2 + 4 else 6 + 4) + 10 * (2 ^ ((M.W 0 + 1) / 2).toNat - 1 - 0) + 1 ≤ 161
  split <;> omega
 | eC j sh g w v m =>
  obtain ⟨a, b, c⟩ := hs
  simp only [step]
  split
  ·have := further_T x M.W (g := g) a
   show T x M.W (further j sh g).1 + 1 ≤ 4 + 10 * (sh - 1 - j)
   omega
  ·simp only [T]; omega
 | eS j sh g w v m n =>
  obtain ⟨a, b, c⟩ := hs
  by_cases hm : M.W w = v
  ·simp only [step, if_pos hm, T, Tk]; omega
  ·simp only [step, if_neg hm]
   have := further_T x M.W (g := g) a
   show T x M.W (further j sh g).1 + 1 ≤ 3 + 10 * (sh - 1 - j)
   omega
 | s0 =>
  by_cases h1 : M.W 0 % 2 = 1
  ·simp only [step, if_pos h1, T]
   have := U_le (lv := (M.W 0 / 2).toNat) (i := 0) (by omega)
   omega
  ·by_cases h2 : M.W 0 / 2 = 4
   ·simp [step, if_neg h1, if_pos h2] at hr
   ·simp only [step, if_neg h1, if_neg h2, T]
    rw [if_pos (by omega)]; omega
 | sM lv =>
  have := U_le (i := 0) hs
  by_cases hm : M.W 0 = 2 * lv
  ·simp only [step, if_pos hm, T]; omega
  ·simp only [step, if_neg hm, T]; omega
 | sF lv i =>
  obtain ⟨g1, g2⟩ := U_succ hs.2.1
  by_cases e : FZ ≤ M.W (2 ^ lv + i)
  ·simp only [step, if_pos e, T]; simp; omega
  ·simp only [step, if_neg e, T, if_true]; omega
 | sG lv i v m =>
  obtain ⟨g1, g2⟩ := U_succ hs.2.1
  by_cases hm : M.W (2 ^ lv + i) = v
  ·simp only [step, if_pos hm, T]; simp; omega
  ·simp only [step, if_neg hm, T]; omega
 | sH lv i up m =>
  obtain ⟨g1, g2⟩ := U_succ hs.2.1
  by_cases hm : M.W (upW lv i up) = 0
  ·simp only [step, if_pos hm, T]; split <;> omega
  ·simp only [step, if_neg hm]
   have := T_on (x := x) (W := M.W) (up := up) (h := m) hs.2.1
   show T x M.W (on lv i up m) + 1 ≤ U lv i - (if up then 4 else 2)
   cases up <;> simp at this ⊢ <;> omega
 | sL lv i up m =>
  obtain ⟨g1, g2⟩ := U_succ hs.2.1
  simp only [step]
  exact T_on (x := x) hs.2.1
 | sV lv => simp [step] at hr
end Core
end Go.Proofs.YtplpofmnhcclbaaGreat

namespace Go.Proofs.YtplpofmnhcclbaaGreat
namespace Core
open Dir (FZ plc upd upW Iw okW lowW upd_same upd_ne pow_pos2 plc_sh plc_low sh_32 sh_16 sh_inj word_sh sumN sumN_bd sumN_congr remW rem rem_le)
theorem sumN_rise {f g : Nat → Nat} {i c : Nat} : ∀ {n : Nat}, i < n → (∀ j, j < n → j ≠ i → g j ≤ f j + c) → sumN n g + f i + c ≤ sumN n f + g i + n * c
 | 0, h, _ => by omega
 | n + 1, h, hh => by
  simp only [sumN, Nat.add_mul, Nat.one_mul]
  by_cases e : i = n
  ·subst e
   have h1 := Dir.sumN_le (f := f) (g := g) (c := c) (n := i) fun j hj => hh j (by omega) (by omega)
   omega
  ·have h1 := sumN_rise (n := n) (by omega : i < n) fun j hj hne => hh j (by omega) hne
   have h2 := hh n (by omega) (fun e' => e e'.symm)
   omega
structure Rise (W W' : Nat → Int) : Prop where
 d : W' 0 = W 0 ∨ W' 0 = W 0 + 1
 w : ∀ w, w ≠ 0 → W' w = W w ∨ (0 < W w ∧ W w < FZ ∧ W' w = W w + FZ) ∨ (W w = 0 ∧ W' w = 1) ∨ (0 < W w ∧ W w < FZ ∧ W' w = W w + 1 ∧ W' w < FZ)
 hi : ∀ w, 32 ≤ w → W' w = W w
 one : ∀ u v, u ≠ v → W' u ≠ W u → W' v = W v
theorem T_rise {x : X} {W W' : Nat → Int} (h : Rise W W') {s : CS} (hs : Cw x W s) : T x W' s ≤ T x W s + 10 := by
 have hF : FZ = 4611686018427387904 := rfl
 have hTH : ∀ a w, w ≠ 0 → TH a (W' w) ≤ TH a (W w) + 6 := fun a w hw => by
  have := h.w w hw
  unfold TH; (repeat' split) <;> omega
 have hTE : ∀ a w, w ≠ 0 → TE a (W' w) ≤ TE a (W w) + 6 := fun a w hw => by
  have := h.w w hw
  unfold TE; (repeat' split) <;> omega
 have hTF : ∀ a w u, w ≠ 0 → u ≠ 0 → TF a (W' w) (W' u) ≤ TF a (W w) (W u) + 6 := fun a w u hw hu => by
  have h1 := hTH a u hu
  have h2 := h.w w hw
  unfold TF; (repeat' split) <;> omega
 have hp : ∀ lv s, plc lv s ≠ 0 := fun lv s => by unfold plc; have := pow_pos2 lv; omega
 cases s with
 | none => simp [T]
 | k0 f => simp only [T]; split <;> split <;> omega
 | kE f w => have := hTE (A x f) w (by have := hs.2.1; omega); simp only [T]; omega
 | kF f lv w => have := hTF (A x f) w (plc (lv + 1) (sumF x f)) (by rw [hs.2.2.1]; exact hp _ _) (hp _ _); simp only [T]; omega
 | kG f lv w v m =>
  have hw : w ≠ 0 := by rw [hs.2.2.1]; exact hp _ _
  have h1 := hTF (A x f) w (plc (lv + 1) (sumF x f)) hw (hp _ _)
  have h3 : TH (A x f) (W (plc (lv + 1) (sumF x f))) ≤ TF (A x f) (W w) (W (plc (lv + 1) (sumF x f))) := by unfold TF; omega
  have h2 := hTH (A x f) (plc (lv + 1) (sumF x f)) (hp _ _)
  have h4 : TF (A x f) (W' w) (W' (plc (lv + 1) (sumF x f))) ≤ TH (A x f) (W (plc (lv + 1) (sumF x f))) + 8 := by unfold TF; split <;> omega
  simp only [T]; split <;> split <;> omega
 | kH f lv w m => have := hTH (A x f) w (by rw [hs.2.2.2.1]; exact hp _ _); simp only [T]; omega
 | kL f lv w m =>
  have hw : w ≠ 0 := by rw [hs.2.2.2.1]; exact hp _ _
  have h1 := hTE (A x f) w hw
  have h3 := h.w w hw
  simp only [T]
  unfold TE at h1 ⊢
  (repeat' split) <;> omega
 | al f => have := st_le W' f; simp only [T]; omega
 | pk c => simp [T]
 | a0 f => have := st_le W' f; simp only [T]; omega
 | a1 f u => have := st_le W' f; simp only [T]; rw [h.hi 33 (by omega)]; split <;> omega
 | p0 f c r => have := st_le W' f; simp only [T]; omega
 | p1 f c r u => have := st_le W' f; simp only [T]; rw [h.hi 32 (by omega)]; split <;> omega
 | pS f c r => have := st_le W' f; simp only [T]; split <;> omega
 | b0 n k => simp only [T]; omega
 | b1 n k u => simp only [T]; rw [h.hi 32 (by omega)]; omega
 | e0 => simp [T]
 | eC j sh g w v m => simp only [T]; omega
 | eS j sh g w v m n => simp only [T]; omega
 | s0 => simp [T]
 | sM lv => simp only [T]; split <;> split <;> omega
 | sF lv i => simp only [T]; omega
 | sG lv i v m => have := U_succ hs.2.1; simp only [T]; split <;> split <;> omega
 | sH lv i up m => simp only [T]; omega
 | sL lv i up m => simp only [T]; omega
 | sV lv => simp [T]
theorem T_hi {x : X} {W W' : Nat → Int} (h : ∀ w, w < 32 → W' w = W w) {s : CS} (hs : Cw x W s) : T x W' s ≤ T x W s + 2 := by
 have hp : ∀ lv, lv ≤ 4 → ∀ s : Int, plc lv s < 32 := fun lv hl s => by obtain ⟨i, h1, h2⟩ := plc_sh lv s; rw [h2]; exact (sh_32 hl h1).2
 have hst : ∀ f : Fd, okFd f → st W' f = st W f := fun f hf => by unfold st; rw [h _ hf.2.1]
 cases s with
 | none => simp [T]
 | k0 f => simp only [T]; rw [h 0 (by omega)]; omega
 | kE f w => simp only [T]; rw [h w hs.2.2]; omega
 | kF f lv w => obtain ⟨z, a, b, d⟩ := hs; simp only [T]; rw [h w (by rw [b]; exact hp _ (by omega) _), h _ (hp _ (by omega) _)]; omega
 | kG f lv w v m => obtain ⟨z, a, b, d⟩ := hs; simp only [T]; rw [h w (by rw [b]; exact hp _ (by omega) _), h _ (hp _ (by omega) _)]; omega
 | kH f lv w m => obtain ⟨z, a, b, d, e⟩ := hs; simp only [T]; rw [h w (by rw [d]; exact hp _ (by omega) _)]; omega
 | kL f lv w m => obtain ⟨z, a, b, d, e⟩ := hs; simp only [T]; rw [h w (by rw [d]; exact hp _ (by omega) _)]; omega
 | al f => simp only [T]; rw [hst f hs.1]; omega
 | pk c => simp [T]
 | a0 f => simp only [T]; rw [hst f hs.1]; omega
 | a1 f u => simp only [T]; rw [hst f hs.1]; split <;> split <;> omega
 | p0 f c r => simp only [T]; rw [hst f hs.1]; omega
 | p1 f c r u => simp only [T]; rw [hst f hs.1]; split <;> split <;> omega
 | pS f c r => simp only [T]; rw [hst f hs.1]; omega
 | b0 n k => simp only [T]; omega
 | b1 n k u => simp only [T]; split <;> split <;> omega
 | e0 => simp [T]
 | eC j sh g w v m => simp only [T]; omega
 | eS j sh g w v m n => simp only [T]; omega
 | s0 => simp [T]
 | sM lv => simp only [T]; rw [h 0 (by omega)]; omega
 | sF lv i => simp only [T]; omega
 | sG lv i v m => simp only [T]; rw [h _ (sh_32 (by have := hs.1; omega) hs.2.1).2]; omega
 | sH lv i up m => simp only [T]; omega
 | sL lv i up m => simp only [T]; omega
 | sV lv => simp [T]
def Qk (x : X) : Nat := 70 + (if x.res = true then 0 else 14) + (if x.ser = 0 then 14 else 0)
def Qf (x : X) : Fc → Nat
 | .key => Qk x
 | .ev j sh _ => 84 * (sh - j)
def Qb : Bk → Nat
 | .lv _ => 0
 | .ev j sh _ => 14 + 84 * (sh - 1 - j)
def Q (x : X) : CS → Nat
 | .k0 f => Qf x f
 | .kE f _ => Qf x f
 | .kF f _ _ => Qf x f
 | .kG f _ _ _ _ => Qf x f
 | .kH f _ _ _ => Qf x f
 | .kL f _ _ _ => Qf x f
 | .al _ => Qk x
 | .a0 _ => Qk x
 | .a1 _ _ => Qk x
 | .p0 _ _ _ => Qk x
 | .p1 _ _ _ _ => Qk x
 | .pS _ _ _ => Qk x
 | .b0 _ k => Qb k
 | .b1 _ k _ => Qb k
 | .e0 => 1344
 | .eC j sh _ _ _ _ => 84 * (sh - j)
 | .eS j sh _ _ _ _ _ => 84 * (sh - j)
 | _ => 0
theorem Qk_ge (x : X) : 70 ≤ Qk x ∧ Qk x ≤ 98 := by unfold Qk; split <;> split <;> omega
theorem Qf_le {x : X} {f : Fc} (h : okFc f) : Qf x f ≤ 1344 := by
 cases f with
 | key => have := Qk_ge x; simp only [Qf]; omega
 | ev j sh g => obtain ⟨a, b⟩ := h; simp only [Qf]; omega
theorem Qb_le {n : Int} {k : Bk} (h : okBk n k) : Qb k ≤ 1344 := by
 cases k with
 | lv r => simp [Qb]
 | ev j sh g => obtain ⟨a, b⟩ := h; simp only [Qb]; omega
theorem Q_le {x : X} {W : Nat → Int} {s : CS} (hs : Cw x W s) : Q x s ≤ 1344 := by
 have := Qk_ge x
 cases s with
 | k0 f => exact Qf_le hs
 | kE f w => exact Qf_le hs.1
 | kF f lv w => exact Qf_le hs.1
 | kG f lv w v m => exact Qf_le hs.1
 | kH f lv w m => exact Qf_le hs.1
 | kL f lv w m => exact Qf_le hs.1
 | b0 n k => exact Qb_le hs.2
 | b1 n k u => exact Qb_le hs.2
 | eC j sh g w v m => obtain ⟨a, b, -⟩ := hs; simp only [Q]; omega
 | eS j sh g w v m n => obtain ⟨a, b, -⟩ := hs; simp only [Q]; omega
 | _ => simp only [Q]; omega
theorem leave_Q (x : X) (r : Rpl) : Q x (leave x r).1 = 0 := by unfold leave; split <;> rfl
theorem put_Q (x' x : X) (f : Fd) (c : Cel) (r : Rpl) : Q x' (put x f c r) = Qk x' := by unfold put; split <;> rfl
theorem further_Q (x : X) {j sh : Nat} (g : Int) (h : j < sh) : Q x (further j sh g).1 ≤ 84 * (sh - 1 - j) := by
 unfold further
 by_cases e : j + 1 = sh
 ·rw [if_pos e]; simp [Q]
 ·rw [if_neg e]; simp only [Q, Qf]; omega
theorem entered_Q {P : Ops} {x : X} {f : Fc} {w : Nat} {v : Int} {h : List Cel} (hf : okFc f) : Q x (entered P x f w v h).1 ≤ Qf x f := by
 unfold entered
 split
 ·exact Nat.le_refl _
 ·unfold found
  have hk := Qk_ge x
  cases f with
  | key =>
   show Q x (foundK P x (fdOf P x w v h)).1 ≤ Qk x
   unfold foundK
   split
   ·exact Nat.le_refl _
   ·split
    ·split
     ·rw [leave_Q]; omega
     ·split
      ·dsimp only; rw [put_Q]; omega
      ·exact Nat.le_refl _
    ·split
     ·split
      ·dsimp only; rw [put_Q]; omega
      ·simp [Q]
     ·split <;> simp [Q]
  | ev j sh g =>
   dsimp only
   split
   ·have := further_Q x g hf.1; simp only [Qf]; omega
   ·exact Nat.le_refl _
theorem on_Q (x : X) (lv i : Nat) (up : Bool) (h : List Cel) : Q x (on lv i up h) = 0 := by
 unfold on move; cases up <;> simp <;> (try split) <;> rfl
theorem step_Q {P : Ops} {M : Mc} {B : Int} (h : Iw M.W B) {x : X} {s : CS} (hs : Cw x M.W s) : Q (step P M x s).x (step P M x s).s ≤ Q x s := by
 have hk := Qk_ge x
 cases s with
 | none => exact Nat.le_refl _
 | k0 f => simp only [step]; split <;> exact Nat.le_refl _
 | kE f w => exact entered_Q hs.1
 | kF f lv w => simp only [step]; split <;> exact Nat.le_refl _
 | kG f lv w v m => simp only [step]; split <;> exact Nat.le_refl _
 | kH f lv w m =>
  simp only [step]; split
  ·exact Nat.le_refl _
  ·exact entered_Q hs.1
 | kL f lv w m => exact Nat.le_refl _
 | al f =>
  simp only [step]; split
  ·show Q x (leave x _).1 ≤ _; rw [leave_Q]; omega
  ·show Q x (put x f _ _) ≤ Qk x; rw [put_Q]; omega
 | pk c => exact Nat.le_refl _
 | a0 f =>
  simp only [step]; split
  ·show Q x (leave x _).1 ≤ _; rw [leave_Q]; omega
  ·exact Nat.le_refl _
 | a1 f u =>
  simp only [step]; split
  ·show Q { x with ser := u + 1 } (put x f _ _) ≤ Qk x
   rw [put_Q]; have h5 := hs.2.2.2
   have h6 := hs.2.1
   unfold Qk; rw [if_pos h5, if_neg (show ¬ ({ x with ser := u + 1 } : X).ser = 0 from by show ¬ u + 1 = 0; omega)]; dsimp only; omega
  ·exact Nat.le_refl _
 | p0 f c r =>
  simp only [step]; split
  ·simp [Q]
  ·exact Nat.le_refl _
 | p1 f c r u =>
  simp only [step]; split
  ·show Qk { x with res := true } ≤ Qk x
   have := hs.2.2.1
   unfold Qk; rw [this]; dsimp only; simp
  ·exact Nat.le_refl _
 | pS f c r =>
  simp only [step]; split
  ·show Q x (if _ then _ else _ : CS × Rs).1 ≤ _
   split
   ·rw [leave_Q]; omega
   ·simp [Q]
  ·exact Nat.le_refl _
 | b0 n k => exact Nat.le_refl _
 | b1 n k u =>
  simp only [step]; split
  ·show Q x (after n k).1 ≤ Qb k
   cases k with
   | lv r => exact Nat.le_refl _
   | ev j sh g => have := further_Q x (g + n) hs.2.1; simp only [after, Qb]; omega
  ·exact Nat.le_refl _
 | e0 =>
  have hd := h.d
  have : 2 ^ ((M.W 0 + 1) / 2).toNat ≤ 2 ^ 4 := Nat.pow_le_pow_right (by omega) (by omega)
  show 84 * (2 ^ ((M.W 0 + 1) / 2).toNat - 0) ≤ 1344
  omega
 | eC j sh g w v m =>
  simp only [step]; split
  ·have := further_Q x g hs.1; show Q x (further j sh g).1 ≤ 84 * (sh - j); omega
  ·exact Nat.le_refl _
 | eS j sh g w v m n =>
  simp only [step]; split
  ·have := hs.1; simp only [Q, Qb]; omega
  ·have := further_Q x g hs.1; show Q x (further j sh g).1 ≤ 84 * (sh - j); omega
 | s0 => simp only [step]; split <;> (try split) <;> exact Nat.le_refl _
 | sM lv => simp only [step]; split <;> exact Nat.le_refl _
 | sF lv i => simp only [step]; split <;> exact Nat.le_refl _
 | sG lv i v m => simp only [step]; split <;> exact Nat.le_refl _
 | sH lv i up m => simp only [step]; split; exact Nat.le_refl _; rw [on_Q]; exact Nat.le_refl _
 | sL lv i up m => show Q x (on lv i up m) ≤ 0; rw [on_Q]; exact Nat.le_refl _
 | sV lv => exact Nat.le_refl _
theorem Chg.rise {W W' : Nat → Int} {B : Int} (h : Iw W B) (hB : B + 1 < FZ) {s : CS} (hc : Chg W W' s) (h2 : kd s ≠ 2) (h3 : kd s ≠ 3) : Rise W W' := by
 have one : ∀ (i : Nat) (y : Int), ∀ u v, u ≠ v → upd W i y u ≠ W u → upd W i y v = W v := fun i y u v hne hu => by
  by_cases e : u = i
  ·exact upd_ne _ _ (by omega)
  ·exact absurd (upd_ne _ _ e) hu
 cases hc with
 | no e => subst e; exact ⟨.inl rfl, fun _ _ => .inl rfl, fun _ _ => rfl, fun _ _ _ h => absurd rfl h⟩
 | d h1 h2 => subst h1; exact ⟨.inr (upd_same _ _ _), fun w hw => .inl (upd_ne _ _ hw), fun w hw => upd_ne _ _ (by omega), one _ _⟩
 | fz w h0 h1 h2 =>
  subst h2
  refine ⟨.inl (upd_ne _ _ (by omega)), fun u hu => ?_, fun w hw => upd_ne _ _ (by omega), one _ _⟩
  by_cases e : u = w
  ·subst e; exact .inr (.inl ⟨h1.1, h1.2, upd_same _ _ _⟩)
  ·exact .inl (upd_ne _ _ e)
 | lay w h0 h1 h2 =>
  subst h2
  refine ⟨.inl (upd_ne _ _ (by omega)), fun u hu => ?_, fun w hw => upd_ne _ _ (by omega), one _ _⟩
  by_cases e : u = w
  ·subst e; exact .inr (.inr (.inl ⟨h1, upd_same _ _ _⟩))
  ·exact .inl (upd_ne _ _ e)
 | key w h0 h1 h2 =>
  subst h2
  obtain ⟨lv, i, hl, hi, rfl⟩ := word_sh h0
  have ho := h.sh hl hi
  refine ⟨.inl (upd_ne _ _ (by omega)), fun u hu => ?_, fun w hw => upd_ne _ _ (by omega), one _ _⟩
  by_cases e : u = 2 ^ lv + i
  ·subst e; exact .inr (.inr (.inr ⟨h1.1, h1.2, upd_same _ _ _, by rw [upd_same]; unfold okW at ho; omega⟩))
  ·exact .inl (upd_ne _ _ e)
 | cnt y h hs => exact absurd hs h2
 | ser h1 h hs => exact absurd hs h3
theorem rem_hi (W : Nat → Int) {w : Nat} (hw : 32 ≤ w) (y : Int) : rem (upd W w y) = rem W := sumN_congr fun j hj => by rw [upd_ne _ _ (by omega)]
theorem rem_key (W : Nat → Int) {w : Nat} {y : Int} (h0 : 1 ≤ w) (h1 : 0 < W w ∧ W w < FZ) (h2 : 0 < y ∧ y < FZ) : rem (upd W w y) = rem W := sumN_congr fun j hj => by
 by_cases e : j = w
 ·subst e; rw [upd_same]
  have g : ∀ v : Int, 0 < v ∧ v < FZ → remW v j = if j < 16 then 1 else 0 := fun v hv => by
   unfold remW
   rw [if_neg (show ¬ j = 0 by omega)]
   by_cases e2 : j < 16
   ·rw [if_pos e2, if_pos e2, if_neg (show ¬ v = 0 by omega), if_pos hv.2]
   ·rw [if_neg e2, if_neg e2, if_neg (show ¬ v = 0 by omega)]
  rw [g _ h1, g _ h2]
 ·rw [upd_ne _ _ e]
theorem step_cost {P : Ops} {M : Mc} {B : Int} (h : Iw M.W B) (hB : 1 ≤ B ∧ B + 1 < FZ) {x : X} (hx : 0 ≤ x.ser) (h33 : 0 ≤ M.W 33) {s : CS} (hs : Cw x M.W s) (hr : (step P M x s).r.done = false) :
  ∃ c, (∀ (y : X) (t : CS), Cw y M.W t → T y (step P M x s).M.W t ≤ T y M.W t + c) ∧
   7 * c + Q (step P M x s).x (step P M x s).s + 70 * rem (step P M x s).M.W ≤ Q x s + 70 * rem M.W := by
 have hq := step_Q (P := P) h hs
 have hc := (step_ok (P := P) h hB hx h33 hs).chg
 have hk := Qk_ge x
 have hF : FZ = 4611686018427387904 := rfl
 have dir : Rise M.W (step P M x s).M.W → (rem (step P M x s).M.W + 1 ≤ rem M.W) → ∃ c, (∀ (y : X) (t : CS), Cw y M.W t → T y (step P M x s).M.W t ≤ T y M.W t + c) ∧
   7 * c + Q (step P M x s).x (step P M x s).s + 70 * rem (step P M x s).M.W ≤ Q x s + 70 * rem M.W := fun h1 h2 => ⟨10, fun y t ht => T_rise h1 ht, by omega⟩
 have rm : ∀ W', Dir.Chg M.W W' Dir.CS.none Dir.r0 → W' ≠ M.W → rem W' + 1 ≤ rem M.W := fun W' hc hne => (hc.rem rfl).resolve_left hne
 by_cases e : (step P M x s).M.W = M.W
 ·rw [e]; exact ⟨0, fun _ _ _ => Nat.le_refl _, by omega⟩
 cases hc with
 | no h => exact absurd h e
 | d h1 h2 => exact dir ((Chg.d (s := .none) h1 h2).rise h hB.2 (by decide) (by decide)) (rm _ (.d h1 h2) e)
 | fz w h0 h1 h2 => exact dir ((Chg.fz (s := .none) w h0 h1 h2).rise h hB.2 (by decide) (by decide)) (rm _ (.fz w h0 h1 h2) e)
 | lay w h0 h1 h2 => exact dir ((Chg.lay (s := .none) w h0 h1 h2).rise h hB.2 (by decide) (by decide)) (rm _ (.lay w h0 h1 h2) e)
 | key w h0 h1 h2 k1 =>
  have hr2 := (Chg.key (s := s) w h0 h1 h2 k1).rise h hB.2 (by rw [k1]; decide) (by rw [k1]; decide)
  have hw : M.W w + 1 < FZ := by
   obtain ⟨lv, i, hl, hi, rfl⟩ := word_sh h0
   have ho := h.sh hl hi
   unfold okW at ho; omega
  refine ⟨10, fun y t ht => T_rise hr2 ht, ?_⟩
  have hrem : rem (step P M x s).M.W = rem M.W := by rw [h2]; exact rem_key _ h0.1 h1 ⟨by omega, hw⟩
  rw [hrem]
  cases s with
  | pS f c r =>
   by_cases hm : M.W f.w = f.v
   ·simp only [step, if_pos hm] at hr ⊢
    by_cases ht : f.there = true
    ·simp only [if_pos ht]
     show 70 + Q x (leave x r).1 + _ ≤ Qk x + _
     rw [leave_Q]; omega
    ·simp only [if_neg ht] at hr; exact absurd hr (by simp [same])
   ·exact absurd (by simp only [step, if_neg hm]) e
  | eS j sh g w v m n =>
   by_cases hm : M.W w = v
   ·have := hs.1
    simp only [step, if_pos hm, Q, Qb]; omega
   ·exact absurd (by simp only [step, if_neg hm]; rfl) e
  | _ => exact absurd k1 (by simp [kd])
 | cnt y h2 k2 =>
  refine ⟨2, fun y t ht => T_hi (fun w hw => by rw [h2]; exact upd_ne _ _ (by omega)) ht, ?_⟩
  have hrem : rem (step P M x s).M.W = rem M.W := by rw [h2]; exact rem_hi _ (by omega) _
  rw [hrem]
  cases s with
  | p1 f c r u =>
   by_cases hm : M.W 32 = u
   ·simp only [step, if_pos hm]
    show 14 + Qk { x with res := true } + _ ≤ Qk x + _
    have := hs.2.2.1
    unfold Qk; rw [this]; dsimp only; simp; split <;> omega
   ·exact absurd (by simp only [step, if_neg hm]) e
  | b1 n k u =>
   by_cases hm : M.W 32 = u
   ·simp only [step, if_pos hm] at hr ⊢
    cases k with
    | lv r => exact absurd hr (by simp [same, after])
    | ev j sh g =>
     have := further_Q x (g + n) hs.2.1
     show 14 + Q x (further j sh (g + n)).1 + _ ≤ 14 + 84 * (sh - 1 - j) + _
     omega
   ·exact absurd (by simp only [step, if_neg hm]) e
  | _ => exact absurd k2 (by simp [kd])
 | ser h1 h2 k3 =>
  refine ⟨2, fun y t ht => T_hi (fun w hw => by rw [h2]; exact upd_ne _ _ (by omega)) ht, ?_⟩
  have hrem : rem (step P M x s).M.W = rem M.W := by rw [h2]; exact rem_hi _ (by omega) _
  rw [hrem]
  cases s with
  | a1 f u =>
   by_cases hm : M.W 33 = u
   ·simp only [step, if_pos hm]
    show 14 + Q { x with ser := u + 1 } (put x f _ _) + _ ≤ Qk x + _
    have h5 := hs.2.2.2
    have h6 := hs.2.1
    rw [put_Q]
    unfold Qk; rw [if_pos h5, if_neg (show ¬ ({ x with ser := u + 1 } : X).ser = 0 from by show ¬ u + 1 = 0; omega)]; dsimp only; omega
   ·exact absurd (by simp only [step, if_neg hm]) e
  | _ => exact absurd k3 (by simp [kd])
end Core
end Go.Proofs.YtplpofmnhcclbaaGreat

namespace Go.Proofs.YtplpofmnhcclbaaGreat
namespace Core
open Dir (FZ upd Iw sumN sumN_bd sumN_congr rem rem_le)
structure Wk where
 x : X
 s : CS
deriving Inhabited
structure Inv (M : Mc) (S : Nat → Wk) (B : Int) : Prop where
 iw : Iw M.W B
 b : 1 ≤ B
 c33 : 0 ≤ M.W 33
 cw : ∀ i, Cw (S i).x M.W (S i).s
 ser : ∀ i, 0 ≤ (S i).x.ser
def V (W : Nat → Int) (k : Wk) : Nat := match k.s with
 | .none => 1510
 | s => T k.x W s + Q k.x s
theorem V_none (W : Nat → Int) {k : Wk} (h : k.s = .none) : V W k = 1510 := by unfold V; rw [h]
theorem V_some (W : Nat → Int) {k : Wk} (h : k.s ≠ .none) : V W k = T k.x W k.s + Q k.x k.s := by
 unfold V
 cases e : k.s with
 | none => exact absurd e h
 | _ => rfl
theorem V_le {M : Mc} {S : Nat → Wk} {B : Int} (h : Inv M S B) (i : Nat) : V M.W (S i) ≤ 1510 := by
 by_cases e : (S i).s = .none
 ·rw [V_none _ e]; exact Nat.le_refl _
 ·rw [V_some _ e]
  have h1 := T_le (h.cw i)
  have h2 := Q_le (h.cw i)
  omega
def left (M : Mc) (S : Nat → Wk) : Nat := sumN 8 (fun i => V M.W (S i)) + 70 * rem M.W
theorem left_le {M : Mc} {S : Nat → Wk} {B : Int} (h : Inv M S B) : left M S ≤ 15860 := by
 have h1 := sumN_bd (f := fun i => V M.W (S i)) (c := 1510) (n := 8) fun j _ => V_le h j
 have h2 := rem_le h.iw
 unfold left; omega
def nx (P : Ops) (M : Mc) (S : Nat → Wk) (i : Nat) : Nat → Wk := upd S i ⟨(step P M (S i).x (S i).s).x, (step P M (S i).x (S i).s).s⟩
def mx (P : Ops) (M : Mc) (S : Nat → Wk) (i : Nat) : Mc := (step P M (S i).x (S i).s).M
theorem step_ser {P : Ops} {M : Mc} {x : X} (h : 0 ≤ x.ser) {s : CS} (hs : Cw x M.W s) : 0 ≤ (step P M x s).x.ser := by
 cases s with
 | a1 f u =>
  simp only [step]; split
  ·have := hs.2.1; show 0 ≤ u + 1; omega
  ·exact h
 | p1 f c r u => simp only [step]; split <;> exact h
 | _ => (first | exact h | (simp only [step]; split <;> exact h) | (simp only [step]; split <;> (try split) <;> exact h))
theorem step_33 {P : Ops} {M : Mc} {B : Int} (h : Iw M.W B) (hB : 1 ≤ B ∧ B + 1 < FZ) {x : X} (hx : 0 ≤ x.ser) (h33 : 0 ≤ M.W 33) {s : CS} (hs : Cw x M.W s) : 0 ≤ (step P M x s).M.W 33 := by
 cases (step_ok (P := P) h hB hx h33 hs).chg with
 | no h => rw [h]; exact h33
 | d h1 h2 => rw [h1, Dir.upd_ne _ _ (by omega)]; exact h33
 | fz w h0 h1 h2 => rw [h2, Dir.upd_ne _ _ (by omega)]; exact h33
 | lay w h0 h1 h2 => rw [h2, Dir.upd_ne _ _ (by omega)]; exact h33
 | key w h0 h1 h2 => rw [h2, Dir.upd_ne _ _ (by omega)]; exact h33
 | cnt y h2 => rw [h2, Dir.upd_ne _ _ (by omega)]; exact h33
 | ser h1 h2 => rw [h2, Dir.upd_same]; omega
theorem Inv.step {P : Ops} {M : Mc} {S : Nat → Wk} {B : Int} (h : Inv M S B) (hB : B + 1 < FZ) (i : Nat) : Inv (mx P M S i) (nx P M S i) (B + 1) := by
 have ho := step_ok (P := P) h.iw ⟨h.b, hB⟩ (h.ser i) h.c33 (h.cw i)
 refine ⟨ho.iw, by have := h.b; omega, step_33 h.iw ⟨h.b, hB⟩ (h.ser i) h.c33 (h.cw i), fun j => ?_, fun j => ?_⟩
 ·by_cases e : j = i
  ·subst e; unfold nx; rw [Dir.upd_same]; exact ho.cw
  ·unfold nx; rw [Dir.upd_ne _ _ e]; exact ho.gr.cw (h.cw j)
 ·by_cases e : j = i
  ·subst e; unfold nx; rw [Dir.upd_same]; exact step_ser (h.ser j) (h.cw j)
  ·unfold nx; rw [Dir.upd_ne _ _ e]; exact h.ser j
theorem Inv.start {M : Mc} {S : Nat → Wk} {B : Int} (h : Inv M S B) (i : Nat) {k : Wk} (hc : Cw k.x M.W k.s) (hs : 0 ≤ k.x.ser) : Inv M (upd S i k) B := by
 refine ⟨h.iw, h.b, h.c33, fun j => ?_, fun j => ?_⟩
 ·by_cases e : j = i
  ·subst e; rw [Dir.upd_same]; exact hc
  ·rw [Dir.upd_ne _ _ e]; exact h.cw j
 ·by_cases e : j = i
  ·subst e; rw [Dir.upd_same]; exact hs
  ·rw [Dir.upd_ne _ _ e]; exact h.ser j
theorem step_some {P : Ops} {M : Mc} {x : X} {s : CS} (hn : s ≠ .none) (hr : (Core.step P M x s).r.done = false) : (Core.step P M x s).s ≠ .none := by
 have hle : ∀ r, (leave x r).2.done = false → (leave x r).1 ≠ .none := fun r h => by unfold leave at h ⊢; split at h <;> simp_all
 have hput : ∀ f c r, put x f c r ≠ .none := fun f c r => by unfold put; split <;> simp
 have hfu : ∀ j sh g, (further j sh g).2.done = false → (further j sh g).1 ≠ .none := fun j sh g h => by unfold further at h ⊢; split at h <;> simp_all
 have hfk : ∀ f, (foundK P x f).2.done = false → (foundK P x f).1 ≠ .none := fun f h => by
  unfold foundK at h ⊢
  by_cases h1 : x.op = 1
  ·rw [if_pos h1]; simp
  rw [if_neg h1] at h ⊢
  by_cases h2 : x.op = 2
  ·rw [if_pos h2] at h ⊢
   by_cases h3 : (f.cell.held.length : Int) = (P.pol x.pol).permits
   ·rw [if_pos h3] at h ⊢; exact hle _ h
   rw [if_neg h3] at h ⊢
   by_cases h4 : 0 < x.ser
   ·rw [if_pos h4]; exact hput _ _ _
   ·rw [if_neg h4]; simp
  rw [if_neg h2] at h ⊢
  by_cases h5 : x.op = 3
  ·rw [if_pos h5] at h ⊢
   by_cases h6 : (P.rel (P.pol x.pol) f.cell x.n).1.e = 0
   ·rw [if_pos h6]; exact hput _ _ _
   ·rw [if_neg h6] at h; simp at h
  rw [if_neg h5] at h ⊢
  by_cases h7 : (P.pol x.pol).kind = 2
  ·rw [if_pos h7] at h; simp at h
  ·rw [if_neg h7]; simp
 have hen : ∀ f w v hh, (entered P x f w v hh).2.done = false → (entered P x f w v hh).1 ≠ .none := fun f w v hh h => by
  unfold entered at h ⊢
  split at h
  ·rename_i e; rw [if_pos e]; simp
  ·rename_i e; rw [if_neg e]
   cases f with
   | key => exact hfk _ h
   | ev j sh g =>
    simp only [found] at h ⊢
    split at h
    ·rename_i e; rw [if_pos e]; exact hfu _ _ _ h
    ·rename_i e; rw [if_neg e]; simp
 have hmv : ∀ lv i, move lv i ≠ .none := fun lv i => by unfold move; split <;> simp
 have hon : ∀ lv i up hh, on lv i up hh ≠ .none := fun lv i up hh => by unfold on; split; exact hmv _ _; simp
 cases s with
 | none => exact absurd rfl hn
 | k0 f => simp only [Core.step]; split <;> simp
 | kE f w => exact hen _ _ _ _ hr
 | kF f lv w => simp only [Core.step]; split <;> simp [toH]
 | kG f lv w v m => simp only [Core.step]; split <;> simp [toH]
 | kH f lv w m =>
  by_cases e : M.W w = 0
  ·simp only [Core.step, if_pos e]; simp
  ·simp only [Core.step, if_neg e] at hr ⊢; exact hen _ _ _ _ hr
 | kL f lv w m => simp [Core.step]
 | al f =>
  simp only [Core.step] at hr ⊢
  split at hr <;> rename_i e
  ·rw [if_pos e]; exact hle _ hr
  ·rw [if_neg e]; exact hput _ _ _
 | pk c => simp [Core.step] at hr
 | a0 f =>
  simp only [Core.step] at hr ⊢
  split at hr <;> rename_i e
  ·rw [if_pos e]; exact hle _ hr
  ·rw [if_neg e]; simp
 | a1 f u =>
  simp only [Core.step]
  split
  ·exact hput _ _ _
  ·simp
 | p0 f c r =>
  simp only [Core.step] at hr ⊢
  split at hr <;> rename_i e
  ·simp at hr
  ·rw [if_neg e]; simp
 | p1 f c r u => simp only [Core.step]; split <;> simp
 | pS f c r =>
  simp only [Core.step] at hr ⊢
  split at hr <;> rename_i e
  ·rw [if_pos e]
   simp only [same] at hr ⊢
   split at hr <;> rename_i e2
   ·rw [if_pos e2]; exact hle _ hr
   ·simp at hr
  ·rw [if_neg e]; simp
 | b0 n k => simp [Core.step]
 | b1 n k u =>
  simp only [Core.step] at hr ⊢
  split at hr <;> rename_i e
  ·rw [if_pos e]
   cases k with
   | lv r => simp [same, after] at hr
   | ev j sh g => exact hfu _ _ _ hr
  ·rw [if_neg e]; simp
 | e0 => simp [Core.step]
 | eC j sh g w v m =>
  simp only [Core.step] at hr ⊢
  split at hr <;> rename_i e
  ·rw [if_pos e]; exact hfu _ _ _ hr
  ·rw [if_neg e]; simp
 | eS j sh g w v m n =>
  simp only [Core.step] at hr ⊢
  split at hr <;> rename_i e
  ·rw [if_pos e]; simp
  ·rw [if_neg e]; exact hfu _ _ _ hr
 | s0 =>
  simp only [Core.step] at hr ⊢
  split at hr <;> rename_i e
  ·rw [if_pos e]; simp
  ·rw [if_neg e]
   split at hr <;> rename_i e2
   ·simp at hr
   ·rw [if_neg e2]; simp
 | sM lv => simp only [Core.step]; split <;> simp
 | sF lv i => simp only [Core.step]; split <;> simp
 | sG lv i v m => simp only [Core.step]; split <;> simp
 | sH lv i up m =>
  simp only [Core.step]; split
  ·simp
  ·exact hon _ _ _ _
 | sL lv i up m => exact hon _ _ _ _
 | sV lv => simp [Core.step] at hr
theorem left_step {P : Ops} {M : Mc} {S : Nat → Wk} {B : Int} (h : Inv M S B) (hB : B + 1 < FZ) {i : Nat} (hi : i < 8) (hn : (S i).s ≠ .none) (hr : (Core.step P M (S i).x (S i).s).r.done = false) :
  left (mx P M S i) (nx P M S i) + 1 ≤ left M S := by
 obtain ⟨c, h1, h2⟩ := step_cost h.iw ⟨h.b, hB⟩ (h.ser i) h.c33 (h.cw i) hr
 have h3 := step_T h.iw (h.ser i) hn (h.cw i) hr
 have hs := step_some hn hr
 have hi1 : V (mx P M S i).W (nx P M S i i) = T (Core.step P M (S i).x (S i).s).x (mx P M S i).W (Core.step P M (S i).x (S i).s).s + Q (Core.step P M (S i).x (S i).s).x (Core.step P M (S i).x (S i).s).s := by
  unfold nx; rw [Dir.upd_same]; exact V_some _ hs
 have h4 := sumN_rise (f := fun j => V M.W (S j)) (g := fun j => V (mx P M S i).W (nx P M S i j)) (i := i) (c := c) (n := 8) hi fun j hj hne => by
  show V _ (nx P M S i j) ≤ _
  unfold nx
  rw [Dir.upd_ne _ _ hne]
  by_cases e : (S j).s = .none
  ·rw [V_none _ e]; show 1510 ≤ V M.W (S j) + c; rw [V_none _ e]; omega
  ·rw [V_some _ e]; show _ ≤ V M.W (S j) + c; rw [V_some _ e]
   have := h1 _ _ (h.cw j)
   show T _ (mx P M S i).W _ + _ ≤ _
   unfold mx; omega
 have hi2 : V M.W (S i) = T (S i).x M.W (S i).s + Q (S i).x (S i).s := V_some _ hn
 simp only [hi1, hi2] at h4
 unfold left
 unfold mx at h4 ⊢
 omega
end Core
end Go.Proofs.YtplpofmnhcclbaaGreat

namespace Go.Proofs.YtplpofmnhcclbaaGreat
namespace Core
open Dir (FZ upd upd_same upd_ne)
variable {P : Ops}
structure OpsSer (P : Ops) : Prop where
 allow : ∀ p c t n, (P.allow p c t n).1.serial = 0
 rel : ∀ p c n, (P.rel p c n).1.serial = 0
 peek : ∀ p c t, (P.peek p c t).serial = 0
 acq : ∀ p c n, (P.acq p c n).1.serial ≠ 0 → (P.acq p c n).1.serial = n ∧ (P.acq p c n).1.g = true
def Rp (x : X) (r : Rpl) : Prop := r.serial ≠ 0 → r.serial = x.ser ∧ r.g = true
def Sb (x : X) : Bk → Prop
 | .lv r => Rp x r
 | .ev _ _ _ => True
def Sr (x : X) : CS → Prop
 | .p0 _ _ r => Rp x r
 | .p1 _ _ r _ => Rp x r
 | .pS _ _ r => Rp x r
 | .b0 _ k => Sb x k
 | .b1 _ k _ => Sb x k
 | _ => True
theorem Rp.zero {x : X} {r : Rpl} (h : r.serial = 0) : Rp x r := fun e => absurd h e
def So (x : X) (p : CS × Rs) : Prop := Sr x p.1 ∧ Rp x p.2.r
theorem r0_rp (x : X) : Rp x r0.r := .zero rfl
theorem leave_so {x : X} {r : Rpl} (h : Rp x r) : So x (leave x r) := by
 unfold leave; split
 ·exact ⟨h, r0_rp x⟩
 ·exact ⟨trivial, h⟩
theorem put_sr {x y : X} {f : Fd} {c : Cel} {r : Rpl} (h : Rp x r) : Sr x (put y f c r) := by unfold put; split <;> exact h
theorem further_so (x : X) (j sh : Nat) (g : Int) : So x (further j sh g) := by
 unfold further; split
 ·exact ⟨trivial, .zero rfl⟩
 ·exact ⟨trivial, .zero rfl⟩
theorem foundK_so (hP : OpsSer P) (x : X) (f : Fd) : So x (foundK P x f) := by
 unfold foundK
 split
 ·exact ⟨trivial, r0_rp x⟩
 ·split
  ·split
   ·exact leave_so (.zero rfl)
   ·split
    ·exact ⟨put_sr (hP.acq _ _ _), r0_rp x⟩
    ·exact ⟨trivial, r0_rp x⟩
  ·split
   ·split
    ·exact ⟨put_sr (.zero (hP.rel _ _ _)), r0_rp x⟩
    ·exact ⟨trivial, .zero (hP.rel _ _ _)⟩
   ·split
    ·exact ⟨trivial, .zero (hP.peek _ _ _)⟩
    ·exact ⟨trivial, r0_rp x⟩
theorem entered_so (hP : OpsSer P) (x : X) (f : Fc) (w : Nat) (v : Int) (h : List Cel) : So x (entered P x f w v h) := by
 unfold entered
 split
 ·exact ⟨trivial, r0_rp x⟩
 ·unfold found
  cases f with
  | key => exact foundK_so hP _ _
  | ev j sh g =>
   dsimp only; split
   ·exact further_so _ _ _ _
   ·exact ⟨trivial, r0_rp x⟩
theorem on_sr (x : X) (lv i : Nat) (up : Bool) (m : List Cel) : Sr x (on lv i up m) := by
 unfold on move; (repeat' split) <;> trivial
theorem step_sr (hP : OpsSer P) {M : Mc} {x : X} {s : CS} (h : Sr x s) : Sr (Core.step P M x s).x (Core.step P M x s).s ∧ Rp (Core.step P M x s).x (Core.step P M x s).r.r := by
 have r0r := r0_rp x
 cases s with
 | none => exact ⟨trivial, r0r⟩
 | k0 f => simp only [step]; split <;> exact ⟨trivial, r0r⟩
 | kE f w => exact entered_so hP _ _ _ _ _
 | kF f lv w => simp only [step]; split <;> exact ⟨trivial, r0r⟩
 | kG f lv w v m => simp only [step]; split <;> exact ⟨trivial, r0r⟩
 | kH f lv w m =>
  simp only [step]; split
  ·exact ⟨trivial, r0r⟩
  ·exact entered_so hP _ _ _ _ _
 | kL f lv w m => exact ⟨trivial, r0r⟩
 | al f =>
  simp only [step]; split
  ·exact leave_so (.zero (hP.allow _ _ _ _))
  ·exact ⟨put_sr (.zero (hP.allow _ _ _ _)), r0r⟩
 | pk c => exact ⟨trivial, .zero (hP.peek _ _ _)⟩
 | a0 f =>
  simp only [step]; split
  ·exact leave_so (.zero rfl)
  ·exact ⟨trivial, r0r⟩
 | a1 f u =>
  simp only [step]; split
  ·exact ⟨put_sr (x := { x with ser := u + 1 }) (hP.acq _ _ _), .zero rfl⟩
  ·exact ⟨trivial, r0r⟩
 | p0 f c r =>
  simp only [step]; split
  ·exact ⟨trivial, .zero rfl⟩
  ·exact ⟨h, r0r⟩
 | p1 f c r u =>
  simp only [step]; split
  ·exact ⟨h, .zero rfl⟩
  ·exact ⟨h, r0r⟩
 | pS f c r =>
  simp only [step]; split
  ·show So x (if _ then _ else _ : CS × Rs)
   split
   ·exact leave_so h
   ·exact ⟨trivial, h⟩
  ·exact ⟨trivial, r0r⟩
 | b0 n k => exact ⟨h, r0r⟩
 | b1 n k u =>
  simp only [step]; split
  ·show So x (after n k)
   cases k with
   | lv r => exact ⟨trivial, h⟩
   | ev j sh g => exact further_so _ _ _ _
  ·exact ⟨h, r0r⟩
 | e0 => exact ⟨trivial, r0r⟩
 | eC j sh g w v m =>
  simp only [step]; split
  ·exact further_so _ _ _ _
  ·exact ⟨trivial, r0r⟩
 | eS j sh g w v m n =>
  simp only [step]; split
  ·exact ⟨trivial, r0r⟩
  ·exact further_so _ _ _ _
 | s0 =>
  simp only [step]; split
  ·exact ⟨trivial, r0r⟩
  ·split
   ·exact ⟨trivial, .zero rfl⟩
   ·exact ⟨trivial, r0r⟩
 | sM lv => simp only [step]; split <;> exact ⟨trivial, r0r⟩
 | sF lv i => simp only [step]; split <;> exact ⟨trivial, r0r⟩
 | sG lv i v m => simp only [step]; split <;> exact ⟨trivial, r0r⟩
 | sH lv i up m =>
  simp only [step]; split
  ·exact ⟨trivial, r0r⟩
  ·exact ⟨on_sr _ _ _ _ _, r0r⟩
 | sL lv i up m => exact ⟨on_sr _ _ _ _ _, r0r⟩
 | sV lv => exact ⟨trivial, .zero rfl⟩
theorem step_ser33 {M : Mc} {B : Int} (h : Dir.Iw M.W B) (hB : 1 ≤ B ∧ B + 1 < FZ) {x : X} (hx : 0 ≤ x.ser) (h33 : 0 ≤ M.W 33) {s : CS} (hs : Cw x M.W s) :
  ((Core.step P M x s).M.W 33 = M.W 33 ∧ (Core.step P M x s).x.ser = x.ser) ∨
  ((Core.step P M x s).M.W 33 = M.W 33 + 1 ∧ (Core.step P M x s).x.ser = M.W 33 + 1 ∧ x.ser = 0 ∧ (Core.step P M x s).r.done = false) := by
 by_cases hk : kd s = 3
 ·cases s with
  | a1 f u =>
   by_cases hm : M.W 33 = u
   ·right
    simp only [step, if_pos hm]
    exact ⟨by show upd M.W 33 (u + 1) 33 = _; rw [upd_same, hm], by rw [hm], hs.2.2.2, rfl⟩
   ·left; simp only [step, if_neg hm]; exact ⟨trivial, trivial⟩
  | _ => exact absurd hk (by simp [kd])
 ·left
  constructor
  ·cases (step_ok (P := P) h hB hx h33 hs).chg with
   | no h => rw [h]
   | d h1 h2 => rw [h1, upd_ne _ _ (by omega)]
   | fz w h0 h1 h2 => rw [h2, upd_ne _ _ (by omega)]
   | lay w h0 h1 h2 => rw [h2, upd_ne _ _ (by omega)]
   | key w h0 h1 h2 => rw [h2, upd_ne _ _ (by omega)]
   | cnt y h2 => rw [h2, upd_ne _ _ (by omega)]
   | ser h1 h2 h3 => exact absurd h3 hk
  ·cases s with
   | a1 f u => exact absurd rfl hk
   | _ => (first | rfl | (simp only [step]; split <;> rfl) | (simp only [step]; split <;> (try split) <;> rfl))
end Core
end Go.Proofs.YtplpofmnhcclbaaGreat

namespace Go.Proofs.YtplpofmnhcclbaaGreat
namespace Hm
open Dir (FZ plc upd upW Iw okW lowW upd_same upd_ne pow_pos2 plc_sh plc_low sh_lt sh_32 sh_16 sh_inj word_sh Cw.gone)
def home (W : Nat → Int) (s : Int) : Nat :=
 if W 0 % 2 = 0 ∨ W (plc (W 0 / 2).toNat s) < FZ ∨ W (plc ((W 0 / 2).toNat + 1) s) = 0 then plc (W 0 / 2).toNat s else plc ((W 0 / 2).toNat + 1) s
theorem plc_pos (lv : Nat) (s : Int) : 1 ≤ plc lv s := by have := pow_pos2 lv; unfold plc; omega
theorem plc_ne (lv : Nat) (s t : Int) : plc lv s ≠ plc (lv + 1) t := by
 obtain ⟨i, h1, h2⟩ := plc_sh lv s
 obtain ⟨j, h3, h4⟩ := plc_sh (lv + 1) t
 intro e; rw [h2, h4] at e
 have := sh_inj h1 h3 e; omega
theorem home_congr {W W' : Nat → Int} (h0 : W' 0 = W 0) (h : ∀ p, 1 ≤ p → (W' p < FZ ↔ W p < FZ) ∧ (W' p = 0 ↔ W p = 0)) (s : Int) : home W' s = home W s := by
 unfold home
 simp only [h0, (h _ (plc_pos _ s)).1, (h _ (plc_pos _ s)).2]
theorem iw_plc {W : Nat → Int} {B : Int} (h : Iw W B) {lv : Nat} (hl : lv ≤ 4) (s : Int) : okW (W 0) lv (W (plc lv s)) (W (plc (lv - 1) s)) B ∨ lv = 0 ∧ okW (W 0) lv (W (Dir.plc lv s)) (W (Dir.plc 0 s)) B := by
 obtain ⟨i, h1, h2⟩ := plc_sh lv s
 have ho := h.sh hl h1
 rcases Nat.eq_zero_or_pos lv with e | e
 ·subst e
  obtain rfl : i = 0 := by simp at h1; omega
  have hp : Dir.plc 0 s = 1 := by rw [h2]
  right; refine ⟨rfl, ?_⟩
  rw [hp]; exact ho
 ·left
  have h3 := plc_low (lv - 1) s
  rw [Nat.sub_add_cancel e, h2, Nat.add_sub_cancel_left] at h3
  unfold lowW at ho
  rw [h3, ← h2] at ho
  exact ho
theorem iw_at0 {W : Nat → Int} {B : Int} (h : Iw W B) {lv : Nat} (hl : lv ≤ 4) (s : Int) : ∃ low, okW (W 0) lv (W (Dir.plc lv s)) low B := by
 rcases iw_plc h hl s with h | ⟨_, h⟩ <;> exact ⟨_, h⟩
theorem iw_at1 {W : Nat → Int} {B : Int} (h : Iw W B) {lv : Nat} (hl : lv ≤ 3) (s : Int) : okW (W 0) (lv + 1) (W (Dir.plc (lv + 1) s)) (W (Dir.plc lv s)) B := by
 rcases iw_plc h (lv := lv + 1) (by omega) s with h | ⟨h, _⟩
 ·exact h
 ·omega
theorem home_live {W : Nat → Int} {B : Int} (h : Iw W B) {lv : Nat} (hl : lv ≤ 4) {s : Int} (hv : 0 < W (plc lv s) ∧ W (plc lv s) < FZ) : home W s = plc lv s := by
 obtain ⟨low, ho⟩ := iw_at0 h hl s
 have hd := h.d
 unfold home
 by_cases e1 : W 0 = 2 * lv
 ·rw [if_pos (.inl (by omega)), show (W 0 / 2).toNat = lv by omega]
 ·by_cases e2 : W 0 = 2 * lv + 1
  ·rw [show (W 0 / 2).toNat = lv by omega, if_pos (.inr (.inl hv.2))]
  ·have e3 : W 0 + 1 = 2 * lv := by unfold okW at ho; omega
   obtain ⟨l, rfl⟩ : ∃ l, lv = l + 1 := ⟨lv - 1, by omega⟩
   have ho1 := iw_at1 h (by omega : l ≤ 3) s
   rw [show (W 0 / 2).toNat = l by omega]
   rw [if_neg]
   unfold okW at ho1; omega
theorem home_freeze {W : Nat → Int} {B : Int} (h : Iw W B) {lv i : Nat} (hl : lv ≤ 3) (hi : i < 2 ^ lv) (hd : W 0 = 2 * lv + 1) (hv : 0 < W (2 ^ lv + i) ∧ W (2 ^ lv + i) < FZ) (s : Int) :
  home (upd W (2 ^ lv + i) (W (2 ^ lv + i) + FZ)) s = home W s := by
 have hw := sh_16 hl hi
 have e0 : upd W (2 ^ lv + i) (W (2 ^ lv + i) + FZ) 0 = W 0 := upd_ne _ _ (by omega)
 have ho1 := iw_at1 h hl s
 unfold home
 rw [e0, show (W 0 / 2).toNat = lv by omega]
 by_cases e : plc lv s = 2 ^ lv + i
 ·have e1 : plc (lv + 1) s ≠ 2 ^ lv + i := by rw [← e]; exact (plc_ne lv s s).symm
  have hz : W (plc (lv + 1) s) = 0 := by
   rw [e] at ho1
   unfold okW at ho1; omega
  rw [if_pos (.inr (.inr (by rw [upd_ne _ _ e1]; exact hz))), if_pos (.inr (.inr hz))]
 ·rw [upd_ne _ _ e]
  by_cases e1 : plc (lv + 1) s = 2 ^ lv + i
  ·exfalso
   obtain ⟨j, h3, h4⟩ := plc_sh (lv + 1) s
   rw [h4] at e1
   have := sh_inj h3 hi e1; omega
  ·rw [upd_ne _ _ e1]
theorem home_lay {W : Nat → Int} {B : Int} (h : Iw W B) {lv i : Nat} (hl : lv ≤ 3) (hi : i < 2 ^ (lv + 1)) (hd : 2 * (lv : Int) + 1 ≤ W 0) (hz : W (2 ^ (lv + 1) + i) = 0) (hlow : FZ ≤ W (2 ^ lv + i % 2 ^ lv)) (s : Int) :
  (plc (lv + 1) s = 2 ^ (lv + 1) + i → home W s = 2 ^ lv + i % 2 ^ lv ∧ home (upd W (2 ^ (lv + 1) + i) 1) s = 2 ^ (lv + 1) + i) ∧
  (plc (lv + 1) s ≠ 2 ^ (lv + 1) + i → home (upd W (2 ^ (lv + 1) + i) 1) s = home W s ∧ home W s ≠ 2 ^ (lv + 1) + i) := by
 have hw := sh_32 (by omega : lv + 1 ≤ 4) hi
 have ho := h.sh (by omega : lv + 1 ≤ 4) hi
 have hD : W 0 = 2 * lv + 1 := by
  have hF : FZ = 4611686018427387904 := rfl
  rw [hz] at ho; unfold okW at ho; omega
 have e0 : upd W (2 ^ (lv + 1) + i) 1 0 = W 0 := upd_ne _ _ (by omega)
 have hp : plc lv s ≠ 2 ^ (lv + 1) + i := fun e => by
  obtain ⟨j, h3, h4⟩ := plc_sh lv s
  rw [h4] at e
  have := sh_inj h3 hi e; omega
 unfold home
 rw [e0, show (W 0 / 2).toNat = lv by omega, upd_ne _ _ hp]
 constructor
 ·intro e
  have h3 := plc_low lv s
  rw [e, Nat.add_sub_cancel_left] at h3
  rw [e, upd_same, if_pos (.inr (.inr hz)), if_neg (by rw [← h3]; have hF : FZ = 4611686018427387904 := rfl; omega)]
  exact ⟨h3.symm, rfl⟩
 ·intro e
  rw [upd_ne _ _ e]
  refine ⟨rfl, ?_⟩
  split
  ·exact hp
  ·exact e
theorem home_begin {W : Nat → Int} {B : Int} (h : Iw W B) {k : Nat} (hk : k ≤ 3) (e : W 0 = 2 * k) (s : Int) : home (upd W 0 (2 * k + 1)) s = home W s := by
 obtain ⟨low, ho⟩ := iw_at0 h (by omega : k ≤ 4) s
 have hp := plc_pos k s
 unfold home
 have hx : W (plc k s) < FZ := by unfold okW at ho; omega
 rw [upd_same, show ((2 * (k : Int) + 1) / 2).toNat = k by omega, show (W 0 / 2).toNat = k by omega, if_pos (.inr (.inl (by rw [upd_ne _ _ (by omega)]; exact hx))), if_pos (.inl (by omega : W 0 % 2 = 0))]
theorem home_fin {W : Nat → Int} {k : Nat} (e : W 0 = 2 * k + 1) (hg : Cw.gone W k (2 ^ k)) (s : Int) : home (upd W 0 (2 * k + 2)) s = home W s := by
 unfold home
 rw [upd_same, show ((2 * (k : Int) + 2) / 2).toNat = k + 1 by omega, show (W 0 / 2).toNat = k by omega, if_pos (.inl (by omega : (2 * (k : Int) + 2) % 2 = 0)), if_neg]
 obtain ⟨i, h1, h2⟩ := plc_sh k s
 have g := hg i h1
 have hq : W (plc (k + 1) s) ≠ 0 := by
  obtain ⟨j, h3, h4⟩ := plc_sh (k + 1) s
  rw [h4]
  by_cases hlt : j < 2 ^ k
  ·exact (hg j hlt).2.1
  ·have hj : j - 2 ^ k < 2 ^ k := by rw [Nat.pow_succ] at h3; omega
   have := (hg _ hj).2.2
   rwa [Nat.sub_add_cancel (by omega)] at this
 rw [h2]
 omega
end Hm
end Go.Proofs.YtplpofmnhcclbaaGreat
