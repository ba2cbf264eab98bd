/- Parts of the proof, one behind the other: Dp2, Dp3, Dp4, Cp1, Cp2, Cp3, Cp4, Cp5, Cs1, Hm, Pl1, Cq1. Lemmas and contracts of functions; no condition of its own. -/
import Derived.Test.YtplpofmnhcclbaaGreatMB6
set_option linter.unusedVariables false
set_option linter.unusedSimpArgs false
namespace Go.Proofs.YtplpofmnhcclbaaGreat
namespace Dir
theorem upd_same {α : Type} (f : Nat → α) (i : Nat) (x : α) : upd f i x i = x := by simp [upd]
theorem upd_ne {α : Type} (f : Nat → α) {i j : Nat} (x : α) (h : j ≠ i) : upd f i x j = f j := by simp [upd, h]
theorem sh_lt {lv l0 i : Nat} (hi : i < 2 ^ lv) (h : lv < l0) : 2 ^ lv + i < 2 ^ l0 := by
 have : 2 ^ (lv + 1) ≤ 2 ^ l0 := Nat.pow_le_pow_right (by omega) h
 rw [Nat.pow_succ] at this; omega
theorem sh_inj {lv l0 i i0 : Nat} (hi : i < 2 ^ lv) (hi0 : i0 < 2 ^ l0) (h : 2 ^ lv + i = 2 ^ l0 + i0) : lv = l0 ∧ i = i0 := by
 rcases Nat.lt_trichotomy lv l0 with h1 | h1 | h1
 ·have := sh_lt hi h1; omega
 ·subst h1; omega
 ·have := sh_lt hi0 h1; omega
theorem pow_pos2 (n : Nat) : 0 < 2 ^ n := Nat.pow_pos (by omega)
theorem sh_32 {lv i : Nat} (hl : lv ≤ 4) (hi : i < 2 ^ lv) : 1 ≤ 2 ^ lv + i ∧ 2 ^ lv + i < 32 := by
 have h1 := sh_lt (l0 := 5) hi (by omega)
 have := pow_pos2 lv
 omega
theorem plc_sh (lv : Nat) (s : Int) : ∃ i, i < 2 ^ lv ∧ plc lv s = 2 ^ lv + i := by
 refine ⟨(s % 2 ^ lv).toNat, ?_, rfl⟩
 have hp : (0 : Int) < 2 ^ lv := by exact_mod_cast pow_pos2 lv
 have h1 := Int.emod_nonneg s (by omega : (2 ^ lv : Int) ≠ 0)
 have h2 := Int.emod_lt_of_pos s hp
 have e : ((2 ^ lv : Nat) : Int) = 2 ^ lv := by norm_cast
 omega
theorem plc_low (lv : Nat) (s : Int) : 2 ^ lv + (plc (lv + 1) s - 2 ^ (lv + 1)) % 2 ^ lv = plc lv s := by
 unfold plc
 congr 1
 rw [Nat.add_sub_cancel_left]
 have hp : (0 : Int) < 2 ^ lv := by exact_mod_cast pow_pos2 lv
 have e : ((2 ^ lv : Nat) : Int) = 2 ^ lv := by norm_cast
 have e2 : (2 ^ (lv + 1) : Int) = 2 ^ lv * 2 := by rw [Int.pow_succ]
 have h1 := Int.emod_nonneg s (by omega : (2 ^ lv : Int) ≠ 0)
 have h2 := Int.emod_nonneg s (by omega : (2 ^ (lv + 1) : Int) ≠ 0)
 have h3 : (s % 2 ^ (lv + 1)) % 2 ^ lv = s % 2 ^ lv := Int.emod_emod_of_dvd s ⟨2, e2⟩
 have h4 : (((s % 2 ^ (lv + 1)).toNat % 2 ^ lv : Nat) : Int) = s % 2 ^ lv := by
  rw [Int.natCast_emod, Int.toNat_of_nonneg h2, e, h3]
 omega
theorem okW.low {D : Int} {lv : Nat} {x low low' B B' : Int} (h : okW D lv x low B) (hl : FZ ≤ low → FZ ≤ low') (hB : B ≤ B') : okW D lv x low' B' := by
 unfold okW at h ⊢; omega
theorem Iw.sh {W : Nat → Int} {B : Int} (h : Iw W B) {lv i : Nat} (hl : lv ≤ 4) (hi : i < 2 ^ lv) : okW (W 0) lv (W (2 ^ lv + i)) (lowW W lv i) B := h.w lv i hl hi
theorem Iw.mono {W : Nat → Int} {B B' : Int} (h : Iw W B) (hB : B ≤ B') : Iw W B' := ⟨h.d, fun lv i hl hi => (h.w lv i hl hi).low (fun h => h) hB⟩
theorem Iw.set_sh {W : Nat → Int} {B B' : Int} (h : Iw W B) {l0 i0 : Nat} {x : Int} (hl0 : l0 ≤ 4) (hi0 : i0 < 2 ^ l0) (hB : B ≤ B') (hx : okW (W 0) l0 x (lowW W l0 i0) B') (hfz : FZ ≤ W (2 ^ l0 + i0) → FZ ≤ x) : Iw (upd W (2 ^ l0 + i0) x) B' := by
 have h00 := sh_32 hl0 hi0
 have e0 : upd W (2 ^ l0 + i0) x 0 = W 0 := upd_ne _ _ (by omega)
 have hlow : ∀ j, FZ ≤ W j → FZ ≤ upd W (2 ^ l0 + i0) x j := fun j hj => by
  unfold upd
  by_cases e : j = 2 ^ l0 + i0
  ·rw [if_pos e]; subst e; exact hfz hj
  ·rw [if_neg e]; exact hj
 refine ⟨by rw [e0]; exact h.d, fun lv i hl hi => ?_⟩
 rw [e0]
 by_cases e : 2 ^ lv + i = 2 ^ l0 + i0
 ·obtain ⟨rfl, rfl⟩ := sh_inj hi hi0 e
  rw [upd_same]
  exact hx.low (hlow _) (Int.le_refl _)
 ·rw [upd_ne _ _ e]
  exact (h.w lv i hl hi).low (hlow _) hB
theorem Iw.set_d {W : Nat → Int} {B d : Int} (h : Iw W B) (hd : 0 ≤ d ∧ d ≤ 8) (hw : ∀ lv i, lv ≤ 4 → i < 2 ^ lv → okW (W 0) lv (W (2 ^ lv + i)) (lowW W lv i) B → okW d lv (W (2 ^ lv + i)) (lowW W lv i) B) : Iw (upd W 0 d) B := by
 refine ⟨by rw [upd_same]; exact hd, fun lv i hl hi => ?_⟩
 have h1 := sh_32 hl hi
 have h2 : upd W 0 d (2 ^ lv + i) = W (2 ^ lv + i) := upd_ne _ _ (by omega)
 have h3 : lowW (upd W 0 d) lv i = lowW W lv i := upd_ne _ _ (by have := pow_pos2 (lv - 1); omega)
 rw [h2, h3, upd_same]
 exact hw lv i hl hi (h.w lv i hl hi)
theorem Iw.begin {W : Nat → Int} {B : Int} (h : Iw W B) {k : Nat} (hk : k ≤ 3) (e : W 0 = 2 * k) : Iw (upd W 0 (2 * k + 1)) B := by
 refine h.set_d (by omega) fun lv i hl hi ho => ?_
 unfold okW at ho ⊢; omega
theorem Iw.fin {W : Nat → Int} {B : Int} (h : Iw W B) {k : Nat} (hk : k ≤ 3) (e : W 0 = 2 * k + 1) (hg : Cw.gone W k (2 ^ k)) : Iw (upd W 0 (2 * k + 2)) B := by
 refine h.set_d (by omega) fun lv i hl hi ho => ?_
 by_cases e1 : lv = k
 ·subst e1
  have := (hg i hi).1
  unfold okW at ho ⊢; omega
 ·by_cases e2 : lv = k + 1
  ·subst e2
   have hne : W (2 ^ (k + 1) + i) ≠ 0 := by
    by_cases hlt : i < 2 ^ k
    ·exact (hg i hlt).2.1
    ·have hj : i - 2 ^ k < 2 ^ k := by rw [Nat.pow_succ] at hi; omega
     have := (hg _ hj).2.2
     rwa [Nat.sub_add_cancel (by omega)] at this
   unfold okW at ho ⊢; omega
  ·unfold okW at ho ⊢; omega
structure Gr (W W' : Nat → Int) : Prop where
 d : W 0 ≤ W' 0
 fz : ∀ w, FZ ≤ W w → FZ ≤ W' w
 ne : ∀ w, W w ≠ 0 → W' w ≠ 0
theorem Gr.refl (W : Nat → Int) : Gr W W := ⟨Int.le_refl _, fun _ h => h, fun _ h => h⟩
theorem Gr.gone {W W' : Nat → Int} (h : Gr W W') {lv i : Nat} (hg : Cw.gone W lv i) : Cw.gone W' lv i := fun j hj => let ⟨a, b, c⟩ := hg j hj; ⟨h.fz _ a, h.ne _ b, h.ne _ c⟩
theorem Gr.cw {P : Ops} {W W' : Nat → Int} (h : Gr W W') {s : CS} (hs : Cw P W s) : Cw P W' s := by
 have hd := h.d
 cases s with
 | none => trivial
 | k0 c => trivial
 | kE c w => exact hs
 | kF c lv w => obtain ⟨a, b, d⟩ := hs; exact ⟨a, b, by omega⟩
 | kG c lv w v m => obtain ⟨a, b, d, e⟩ := hs; exact ⟨a, b, by omega, e⟩
 | kH c lv w m => obtain ⟨a, b, d, e, f⟩ := hs; exact ⟨a, b, d, by omega, h.fz _ f⟩
 | kL c lv w m => obtain ⟨a, b, d, e, f⟩ := hs; exact ⟨a, b, d, by omega, h.fz _ f⟩
 | kS c w v m n => exact hs
 | s0 => trivial
 | sM lv => exact hs
 | sF lv i => obtain ⟨a, b, d, e⟩ := hs; exact ⟨a, b, by omega, h.gone e⟩
 | sG lv i v m => obtain ⟨a, b, d, e, f⟩ := hs; exact ⟨a, b, by omega, h.gone e, f⟩
 | sH lv i up m => obtain ⟨a, b, d, e, f, g⟩ := hs; exact ⟨a, b, by omega, h.gone e, h.fz _ f, fun hu => h.ne _ (g hu)⟩
 | sL lv i up m => obtain ⟨a, b, d, e, f, g⟩ := hs; exact ⟨a, b, by omega, h.gone e, h.fz _ f, fun hu => h.ne _ (g hu)⟩
 | sV lv => obtain ⟨a, b, d⟩ := hs; exact ⟨a, by omega, h.gone d⟩
theorem Gr.set {W : Nat → Int} {w : Nat} {x : Int} (hd : w = 0 → W 0 ≤ x) (hf : FZ ≤ W w → FZ ≤ x) (hn : W w ≠ 0 → x ≠ 0) : Gr W (upd W w x) := by
 refine ⟨?_, fun j hj => ?_, fun j hj => ?_⟩
 ·unfold upd
  by_cases e : 0 = w
  ·rw [if_pos e]; exact hd e.symm
  ·rw [if_neg e]; exact Int.le_refl _
 ·unfold upd
  by_cases e : j = w
  ·rw [if_pos e]; subst e; exact hf hj
  ·rw [if_neg e]; exact hj
 ·unfold upd
  by_cases e : j = w
  ·rw [if_pos e]; subst e; exact hn hj
  ·rw [if_neg e]; exact hj
inductive Chg (W W' : Nat → Int) (s' : CS) (r : Res) : Prop
 | no (h : W' = W)
 | d (h1 : W' = upd W 0 (W 0 + 1)) (h2 : W 0 < 8)
 | fz (w : Nat) (h0 : 1 ≤ w ∧ w < 16) (h1 : 0 < W w ∧ W w < FZ) (h2 : W' = upd W w (W w + FZ))
 | lay (w : Nat) (h0 : 1 ≤ w ∧ w < 32) (h1 : W w = 0) (h2 : W' = upd W w 1)
 | key (w : Nat) (h0 : 1 ≤ w ∧ w < 32) (h1 : 0 < W w ∧ W w < FZ) (h2 : W' = upd W w (W w + 1)) (h3 : s' = .none) (h4 : r.done = true)
theorem sh_16 {lv i : Nat} (hl : lv ≤ 3) (hi : i < 2 ^ lv) : 1 ≤ 2 ^ lv + i ∧ 2 ^ lv + i < 16 := by
 have h1 := sh_lt (l0 := 4) hi (by omega)
 have := pow_pos2 lv
 omega
theorem word_sh {w : Nat} (h : 1 ≤ w ∧ w < 32) : ∃ lv i, lv ≤ 4 ∧ i < 2 ^ lv ∧ w = 2 ^ lv + i := by
 by_cases h1 : w < 2
 ·exact ⟨0, w - 1, by omega, by omega, by omega⟩
 by_cases h2 : w < 4
 ·exact ⟨1, w - 2, by omega, by omega, by omega⟩
 by_cases h3 : w < 8
 ·exact ⟨2, w - 4, by omega, by omega, by omega⟩
 by_cases h4 : w < 16
 ·exact ⟨3, w - 8, by omega, by omega, by omega⟩
 ·exact ⟨4, w - 16, by omega, by omega, by omega⟩
theorem freeze_ok {W : Nat → Int} {B : Int} (h : Iw W B) {lv i : Nat} (hl : lv ≤ 3) (hi : i < 2 ^ lv) (hd : 2 * (lv : Int) + 1 ≤ W 0) {v : Int} (hv : v < FZ) (e : W (2 ^ lv + i) = v) :
  (0 < v) ∧ W 0 = 2 * lv + 1 ∧ Iw (upd W (2 ^ lv + i) (v + FZ)) B := by
 have ho := h.sh (by omega : lv ≤ 4) hi
 rw [e] at ho
 have h1 : 0 < v ∧ W 0 = 2 * lv + 1 := by unfold okW at ho; omega
 refine ⟨h1.1, h1.2, h.set_sh (by omega) hi (Int.le_refl _) ?_ (by rw [e]; omega)⟩
 unfold okW at ho ⊢; omega
theorem lay_ok {W : Nat → Int} {B : Int} (h : Iw W B) (hB : 1 ≤ B) {lv i : Nat} (h1 : 1 ≤ lv) (hl : lv ≤ 4) (hi : i < 2 ^ lv) (hd : 2 * (lv : Int) - 1 ≤ W 0) (hlow : FZ ≤ lowW W lv i) (e : W (2 ^ lv + i) = 0) :
  Iw (upd W (2 ^ lv + i) 1) B := by
 have ho := h.sh hl hi
 rw [e] at ho
 have hF : FZ = 4611686018427387904 := rfl
 refine h.set_sh hl hi (Int.le_refl _) ?_ (by rw [e]; omega)
 unfold okW at ho ⊢; omega
theorem live_ok {W : Nat → Int} {B : Int} (h : Iw W B) {w : Nat} (hw : 1 ≤ w ∧ w < 32) (hB : B + 1 < FZ) (hv : 0 < W w ∧ W w < FZ) : Iw (upd W w (W w + 1)) (B + 1) := by
 obtain ⟨lv, i, hl, hi, rfl⟩ := word_sh hw
 have ho := h.sh hl hi
 refine h.set_sh hl hi (by omega) ?_ (by omega)
 unfold okW at ho ⊢; omega
end Dir
end Go.Proofs.YtplpofmnhcclbaaGreat

namespace Go.Proofs.YtplpofmnhcclbaaGreat
namespace Dir
structure Stepped (P : Ops) (W : Nat → Int) (B : Int) (M' : Mc) (s' : CS) (r : Res) : Prop where
 iw : Iw M'.W (B + 1)
 cw : Cw P M'.W s'
 gr : Gr W M'.W
 chg : Chg W M'.W s' r
theorem Stepped.same {P : Ops} {M : Mc} {B : Int} {s' : CS} {r : Res} (h : Iw M.W B) (hc : Cw P M.W s') : Stepped P M.W B M s' r := ⟨h.mono (by omega), hc, .refl _, .no rfl⟩
theorem entered_cw {P : Ops} {W : Nat → Int} {c : Kc} {w : Nat} {v : Int} {h : List Ent} (hw : 1 ≤ w ∧ w < 32) (hv : 0 ≤ v) : Cw P W (entered P c w v h).1 := by
 unfold entered
 split
 ·trivial
 ·unfold found
  split
  ·trivial
  ·exact ⟨hw.1, hw.2, by omega, by omega⟩
theorem move_cw {P : Ops} {W : Nat → Int} {lv i : Nat} (hl : lv ≤ 3) (hi : i < 2 ^ lv) (hd : 2 * (lv : Int) + 1 ≤ W 0) (hg : Cw.gone W lv (i + 1)) : Cw P W (move lv (i + 1)) := by
 unfold move
 split
 ·rename_i e; rw [e] at hg; exact ⟨hl, hd, hg⟩
 ·exact ⟨hl, by omega, hd, hg⟩
theorem gone_succ {W : Nat → Int} {lv i : Nat} (h : Cw.gone W lv i) (h1 : FZ ≤ W (2 ^ lv + i)) (h2 : W (2 ^ (lv + 1) + i) ≠ 0) (h3 : W (2 ^ (lv + 1) + (i + 2 ^ lv)) ≠ 0) : Cw.gone W lv (i + 1) := fun j hj => by
 by_cases e : j = i
 ·subst e; exact ⟨h1, h2, h3⟩
 ·exact h j (by omega)
theorem upW_sh {lv i : Nat} {up : Bool} (hi : i < 2 ^ lv) : ∃ j, j < 2 ^ (lv + 1) ∧ upW lv i up = 2 ^ (lv + 1) + j ∧ j % 2 ^ lv = i := by
 have hp := Nat.pow_succ 2 lv
 unfold upW
 cases up with
 | true => exact ⟨i + 2 ^ lv, by omega, rfl, by rw [Nat.add_mod_right, Nat.mod_eq_of_lt hi]⟩
 | false => exact ⟨i, by omega, rfl, Nat.mod_eq_of_lt hi⟩
theorem on_cw {P : Ops} {W : Nat → Int} {lv i : Nat} {up : Bool} {h : List Ent} (hl : lv ≤ 3) (hi : i < 2 ^ lv) (hd : 2 * (lv : Int) + 1 ≤ W 0) (hg : Cw.gone W lv i) (hf : FZ ≤ W (2 ^ lv + i))
  (hu : up = true → W (2 ^ (lv + 1) + i) ≠ 0) (hn : W (upW lv i up) ≠ 0) : Cw P W (on lv i up h) := by
 unfold on
 cases up with
 | true =>
  refine move_cw hl hi hd (gone_succ hg hf (hu rfl) ?_)
  simpa [upW] using hn
 | false => exact ⟨hl, hi, hd, hg, hf, fun _ => by simpa [upW] using hn⟩
theorem step_ok {P : Ops} (hP : ∀ c h r, P.fnd c h = .inl r → r.done = true) {M : Mc} {B : Int} (h : Iw M.W B) (hB : 1 ≤ B ∧ B + 1 < FZ) {s : CS} (hs : Cw P M.W s) :
  Stepped P M.W B (step P M s).1 (step P M s).2.1 (step P M s).2.2 := by
 have hF : FZ = 4611686018427387904 := rfl
 have hd := h.d
 cases s with
 | none => exact .same h trivial
 | k0 c =>
  have hk : (M.W 0 / 2).toNat ≤ 4 := by omega
  obtain ⟨i, h1, h2⟩ := plc_sh (M.W 0 / 2).toNat (P.sum c.key)
  have := sh_32 hk h1
  refine .same h ?_
  show Cw P M.W (if _ then _ else _)
  split
  ·rw [h2]; exact this
  ·exact ⟨by omega, rfl, by omega⟩
 | kE c w =>
  obtain ⟨lv, i, hl, hi, rfl⟩ := word_sh hs
  have := h.sh hl hi
  exact .same h (entered_cw hs (by unfold okW at this; omega))
 | kF c lv w =>
  obtain ⟨a, b, d⟩ := hs
  refine .same h ?_
  show Cw P M.W (if _ then _ else _)
  split
  ·exact ⟨by omega, by omega, rfl, by omega, by rw [Nat.add_sub_cancel, ← b]; assumption⟩
  ·exact ⟨a, b, d, by omega⟩
 | kG c lv w v m =>
  obtain ⟨a, b, d, e⟩ := hs
  obtain ⟨i, h1, h2⟩ := plc_sh lv (P.sum c.key)
  show Stepped P M.W B (if _ then _ else _ : Mc × CS × Res).1 _ _
  by_cases hm : M.W w = v
  ·have hb := b
   rw [h2] at hb
   subst hb
   obtain ⟨g1, g2, g3⟩ := freeze_ok h a h1 d e hm
   have g4 : Gr M.W (upd M.W (2 ^ lv + i) (v + FZ)) := .set (fun e0 => by have := sh_16 a h1; omega) (fun _ => by omega) (fun _ => by omega)
   simp only [step, if_pos hm]
   have hd2 := g4.d
   refine ⟨g3.mono (by omega), ⟨by omega, by omega, rfl, ?_, ?_⟩, g4, .fz _ (sh_16 a h1) (by omega) (by rw [hm]; rfl)⟩
   ·show _ ≤ upd M.W _ _ 0; omega
   ·rw [Nat.add_sub_cancel, h2]; show FZ ≤ upd M.W _ _ _; rw [upd_same]; omega
  ·simp only [step, if_neg hm]
   exact .same h ⟨a, b, d⟩
 | kH c lv w m =>
  obtain ⟨a, b, d, e, f⟩ := hs
  obtain ⟨i, h1, h2⟩ := plc_sh lv (P.sum c.key)
  have hw := sh_32 b h1
  rw [← h2, ← d] at hw
  have ho := h.sh b h1
  rw [← h2, ← d] at ho
  show Stepped P M.W B (if _ then _ else _ : Mc × CS × Res).1 _ _
  by_cases hm : M.W w = 0
  ·simp only [step, if_pos hm]; exact .same h ⟨a, b, d, e, f⟩
  ·simp only [step, if_neg hm]; exact .same h (entered_cw hw (by unfold okW at ho; omega))
 | kL c lv w m =>
  obtain ⟨a, b, d, e, f⟩ := hs
  obtain ⟨i, h1, h2⟩ := plc_sh lv (P.sum c.key)
  have hw := sh_32 b h1
  have hlow : FZ ≤ lowW M.W lv i := by
   have h3 := plc_low (lv - 1) (P.sum c.key)
   rw [Nat.sub_add_cancel a, h2, Nat.add_sub_cancel_left] at h3
   unfold lowW; rw [h3]; exact f
  rw [h2] at d
  subst d
  by_cases hm : M.W (2 ^ lv + i) = 0
  ·simp only [step, if_pos hm]
   refine ⟨(lay_ok h hB.1 a b h1 e hlow hm).mono (by omega), hw, .set (fun e0 => by omega) (fun _ => by omega) (fun _ => by omega), .lay _ hw hm rfl⟩
  ·simp only [step, if_neg hm]; exact .same h hw
 | kS c w v m n =>
  obtain ⟨a, b, d, e⟩ := hs
  by_cases hm : M.W w = v
  ·simp only [step, if_pos hm]
   subst hm
   exact ⟨live_ok h ⟨a, b⟩ hB.2 ⟨d, e⟩, trivial, .set (fun e0 => by omega) (fun _ => by omega) (fun _ => by omega), .key _ ⟨a, b⟩ ⟨d, e⟩ rfl rfl rfl⟩
  ·simp only [step, if_neg hm]; exact .same h trivial
 | s0 =>
  show Stepped P M.W B (if _ then _ else _ : Mc × CS × Res).1 _ _
  by_cases h1 : M.W 0 % 2 = 1
  ·simp only [step, if_pos h1]
   exact .same h ⟨by omega, pow_pos2 _, by omega, fun j hj => by omega⟩
  ·by_cases h2 : M.W 0 / 2 = 4
   ·simp only [step, if_neg h1, if_pos h2]; exact .same h trivial
   ·simp only [step, if_neg h1, if_neg h2]
    refine .same h ?_
    show _ ≤ _
    omega
 | sM lv =>
  by_cases hm : M.W 0 = 2 * lv
  ·simp only [step, if_pos hm]
   have hl : lv ≤ 3 := hs
   have g := h.begin hl hm
   have h2 : (M.set 0 (2 * lv + 1) []).W 0 = 2 * lv + 1 := by simp [Mc.set, upd]
   refine ⟨g.mono (by omega), ⟨hl, pow_pos2 _, by omega, fun j hj => by omega⟩, .set (fun _ => by omega) (fun _ => by omega) (fun _ => by omega), .d ?_ (by omega)⟩
   rw [hm]; rfl
  ·simp only [step, if_neg hm]; exact .same h trivial
 | sF lv i =>
  obtain ⟨a, b, d, e⟩ := hs
  refine .same h ?_
  show Cw P M.W (if _ then _ else _)
  split
  ·exact ⟨a, b, d, e, by assumption, fun hf => by simp at hf⟩
  ·exact ⟨a, b, d, e, by omega⟩
 | sG lv i v m =>
  obtain ⟨a, b, d, e, f⟩ := hs
  by_cases hm : M.W (2 ^ lv + i) = v
  ·obtain ⟨g1, g2, g3⟩ := freeze_ok h a b d f hm
   have g4 : Gr M.W (upd M.W (2 ^ lv + i) (v + FZ)) := .set (fun e0 => by have := sh_16 a b; omega) (fun _ => by omega) (fun _ => by omega)
   simp only [step, if_pos hm]
   have hd2 := g4.d
   exact ⟨g3.mono (by omega), ⟨a, b, by show _ ≤ upd M.W _ _ 0; omega, g4.gone e, by show FZ ≤ upd M.W _ _ _; rw [upd_same]; omega, fun hf => by simp at hf⟩, g4, .fz _ (sh_16 a b) (by omega) (by rw [hm]; rfl)⟩
  ·simp only [step, if_neg hm]; exact .same h ⟨a, b, d, e⟩
 | sH lv i up m =>
  obtain ⟨a, b, d, e, f, g⟩ := hs
  refine .same h ?_
  show Cw P M.W (if _ then _ else _)
  split
  ·exact ⟨a, b, d, e, f, g⟩
  ·exact on_cw a b d e f g (by assumption)
 | sL lv i up m =>
  obtain ⟨a, b, d, e, f, g⟩ := hs
  obtain ⟨j, h1, h2, h3⟩ := upW_sh (up := up) b
  have hw := sh_32 (by omega : lv + 1 ≤ 4) h1
  by_cases hm : M.W (upW lv i up) = 0
  ·simp only [step, if_pos hm]
   have hlow : FZ ≤ lowW M.W (lv + 1) j := by unfold lowW; rw [Nat.add_sub_cancel, h3]; exact f
   have g4 : Gr M.W (upd M.W (upW lv i up) 1) := .set (fun e0 => by omega) (fun _ => by omega) (fun _ => by omega)
   have hd2 := g4.d
   refine ⟨?_, on_cw a b (by show _ ≤ upd M.W _ _ 0; omega) (g4.gone e) (g4.fz _ f) (fun hu => g4.ne _ (g hu)) (by show upd M.W _ _ _ ≠ 0; rw [upd_same]; omega), g4, .lay _ (by omega) hm rfl⟩
   have := lay_ok h hB.1 (by omega : 1 ≤ lv + 1) (by omega) h1 (by omega) hlow (by rw [← h2]; exact hm)
   rw [← h2] at this
   exact this.mono (by omega)
  ·simp only [step, if_neg hm]; exact .same h (on_cw a b d e f g hm)
 | sV lv =>
  obtain ⟨a, b, d⟩ := hs
  by_cases hm : M.W 0 = 2 * lv + 1
  ·simp only [step, if_pos hm]
   refine ⟨(h.fin a hm d).mono (by omega), trivial, .set (fun _ => by omega) (fun _ => by omega) (fun _ => by omega), .d ?_ (by omega)⟩
   rw [hm]; show upd M.W 0 _ = upd M.W 0 _; congr 1
  ·simp only [step, if_neg hm]; exact .same h trivial
end Dir
end Go.Proofs.YtplpofmnhcclbaaGreat

namespace Go.Proofs.YtplpofmnhcclbaaGreat
namespace Dir
def sumN (n : Nat) (f : Nat → Nat) : Nat :=
 match n with
 | 0 => 0
 | n + 1 => sumN n f + f n
def remW (x : Int) (w : Nat) : Nat := if w = 0 then (8 - x).toNat else if w < 16 then (if x = 0 then 2 else if x < FZ then 1 else 0) else if x = 0 then 1 else 0
def rem (W : Nat → Int) : Nat := sumN 32 fun w => remW (W w) w
def TH (x : Int) : Nat := if x = 0 then 4 else if x < FZ then 2 else 8
def TF (x y : Int) : Nat := TH y + if x < FZ then 2 else 1
def TE (x : Int) : Nat := if x ≠ 0 ∧ x < FZ then 2 else 8
def U (lv i : Nat) : Nat := 6 * (2 ^ lv - i) + 1
def T (P : Ops) (W : Nat → Int) : CS → Nat
 | .none => 53
 | .k0 _ => if W 0 % 2 = 0 then 3 else 7
 | .kE _ w => TE (W w)
 | .kF c lv w => TF (W w) (W (plc (lv + 1) (P.sum c.key)))
 | .kG c lv w v _ => if W w = v then 1 + TH (W (plc (lv + 1) (P.sum c.key))) else 1 + TF (W w) (W (plc (lv + 1) (P.sum c.key)))
 | .kH _ _ w _ => TH (W w)
 | .kL _ _ w _ => 1 + if W w = 0 then 2 else TE (W w)
 | .kS _ w v _ _ => if W w = v then 1 else 8
 | .s0 => 52
 | .sM lv => if W 0 = 2 * lv then 51 else 53
 | .sF lv i => U lv i
 | .sG lv i v _ => if W (2 ^ lv + i) = v then U lv i - 1 else U lv i + 1
 | .sH lv i up _ => U lv i - (if up then 4 else 2)
 | .sL lv i up _ => U lv i - (if up then 5 else 3)
 | .sV _ => 1
end Dir
end Go.Proofs.YtplpofmnhcclbaaGreat

namespace Go.Proofs.YtplpofmnhcclbaaGreat
namespace Core
open Dir (FZ plc upd upW)
structure X where
 op : Int
 pol : Int
 key : List Int
 n : Int
 sum : Int
 res : Bool
 ser : Int
deriving Inhabited
inductive Fc where
 | key
 | ev (j sh : Nat) (g : Int)
deriving Inhabited
structure Fd where
 w : Nat
 v : Int
 h : List Cel
 at' : Nat
 there : Bool
 cell : Cel
deriving Inhabited
inductive Bk where
 | lv (r : Rpl)
 | ev (j sh : Nat) (g : Int)
deriving Inhabited
inductive CS where
 | none
 | k0 (f : Fc)
 | kE (f : Fc) (w : Nat)
 | kF (f : Fc) (lv w : Nat)
 | kG (f : Fc) (lv w : Nat) (v : Int) (h : List Cel)
 | kH (f : Fc) (lv w : Nat) (h : List Cel)
 | kL (f : Fc) (lv w : Nat) (h : List Cel)
 | al (f : Fd)
 | pk (c : Cel)
 | a0 (f : Fd)
 | a1 (f : Fd) (u : Int)
 | p0 (f : Fd) (c : Cel) (r : Rpl)
 | p1 (f : Fd) (c : Cel) (r : Rpl) (u : Int)
 | pS (f : Fd) (c : Cel) (r : Rpl)
 | b0 (n : Int) (k : Bk)
 | b1 (n : Int) (k : Bk) (u : Int)
 | e0
 | eC (j sh : Nat) (g : Int) (w : Nat) (v : Int) (h : List Cel)
 | eS (j sh : Nat) (g : Int) (w : Nat) (v : Int) (m : List Cel) (n : Int)
 | s0
 | sM (lv : Nat)
 | sF (lv i : Nat)
 | sG (lv i : Nat) (v : Int) (h : List Cel)
 | sH (lv i : Nat) (up : Bool) (h : List Cel)
 | sL (lv i : Nat) (up : Bool) (h : List Cel)
 | sV (lv : Nat)
deriving Inhabited
structure Rs where
 done : Bool
 r : Rpl
deriving Inhabited
def z0 : Rpl := ⟨0, false, 0, 0, 0, 0⟩
def r0 : Rs := ⟨false, z0⟩
def er (e : Int) : Rpl := ⟨e, false, 0, 0, 0, 0⟩
def gn (g : Int) : Rpl := ⟨0, false, g, 0, 0, 0⟩
structure Mc where
 W : Nat → Int
 Hd : Nat → List Cel
 clk : Int
def Mc.set (M : Mc) (w : Nat) (v : Int) (h : List Cel) : Mc := ⟨upd M.W w v, upd M.Hd w h, M.clk⟩
structure Ops where
 cut : List Cel → Nat → Nat → List Cel
 fnd : List Cel → Int → List Int → Nat × Bool × Cel
 wth : List Cel → Nat → Bool → Cel → List Cel
 allow : Pol → Cel → Int → Int → Rpl × Cel
 acq : Pol → Cel → Int → Rpl × Cel
 rel : Pol → Cel → Int → Rpl × Cel
 peek : Pol → Cel → Int → Rpl
 idle : Cel → Int → Bool
 pol : Int → Pol
 room : Int
abbrev MAX : Int := 4611686018427387903
def sumF (x : X) : Fc → Int
 | .key => x.sum
 | .ev j _ _ => j
def leave (x : X) (r : Rpl) : CS × Rs := if x.res = true then (.b0 1 (.lv r), r0) else (.none, ⟨true, r⟩)
def put (x : X) (f : Fd) (c : Cel) (r : Rpl) : CS := if f.there = true ∨ x.res = true then .pS f c r else .p0 f c r
def further (j sh : Nat) (g : Int) : CS × Rs := if j + 1 = sh then (.none, ⟨true, gn g⟩) else (.k0 (.ev (j + 1) sh g), r0)
def after (n : Int) : Bk → CS × Rs
 | .lv r => (.none, ⟨true, r⟩)
 | .ev j sh g => further j sh (g + n)
section
variable (P : Ops)
def fdOf (x : X) (w : Nat) (v : Int) (h : List Cel) : Fd := ⟨w, v, h, (P.fnd h x.pol x.key).1, (P.fnd h x.pol x.key).2.1, (P.fnd h x.pol x.key).2.2⟩
def foundK (x : X) (f : Fd) : CS × Rs :=
 if x.op = 1 then (.al f, r0)
 else if x.op = 2 then
  if (f.cell.held.length : Int) = (P.pol x.pol).permits then leave x (er 9)
  else if 0 < x.ser then (put x f (P.acq (P.pol x.pol) f.cell x.ser).2 (P.acq (P.pol x.pol) f.cell x.ser).1, r0)
  else (.a0 f, r0)
 else if x.op = 3 then
  if (P.rel (P.pol x.pol) f.cell x.n).1.e = 0 then (put x f (P.rel (P.pol x.pol) f.cell x.n).2 (P.rel (P.pol x.pol) f.cell x.n).1, r0)
  else (.none, ⟨true, (P.rel (P.pol x.pol) f.cell x.n).1⟩)
 else if (P.pol x.pol).kind = 2 then (.none, ⟨true, P.peek (P.pol x.pol) f.cell 0⟩)
 else (.pk f.cell, r0)
def found (x : X) (w : Nat) (v : Int) (h : List Cel) : Fc → CS × Rs
 | .key => foundK P x (fdOf P x w v h)
 | .ev j sh g => if h.length = 0 then further j sh g else (.eC j sh g w v h, r0)
def entered (x : X) (f : Fc) (w : Nat) (v : Int) (h : List Cel) : CS × Rs := if v = 0 ∨ FZ ≤ v then (.k0 f, r0) else found P x w v h f
def toH (x : X) (f : Fc) (lv : Nat) (h : List Cel) : CS := .kH f (lv + 1) (plc (lv + 1) (sumF x f)) h
def move (lv i : Nat) : CS := if i = 2 ^ lv then .sV lv else .sF lv i
def on (lv i : Nat) (up : Bool) (h : List Cel) : CS := if up then move lv (i + 1) else .sH lv i true h
def rest (h : List Cel) (now : Int) : List Cel := h.filter fun c => !P.idle c now
structure Out where
 M : Mc
 x : X
 s : CS
 r : Rs
def same (M : Mc) (x : X) (p : CS × Rs) : Out := ⟨M, x, p.1, p.2⟩
def step (M : Mc) (x : X) : CS → Out
 | .none => ⟨M, x, .none, r0⟩
 | .k0 f => ⟨M, x, if M.W 0 % 2 = 0 then .kE f (plc (M.W 0 / 2).toNat (sumF x f)) else .kF f (M.W 0 / 2).toNat (plc (M.W 0 / 2).toNat (sumF x f)), r0⟩
 | .kE f w => same M x (entered P x f w (M.W w) (M.Hd w))
 | .kF f lv w => ⟨M, x, if FZ ≤ M.W w then toH x f lv (M.Hd w) else .kG f lv w (M.W w) (M.Hd w), r0⟩
 | .kG f lv w v h => if M.W w = v then ⟨M.set w (v + FZ) h, x, toH x f lv h, r0⟩ else ⟨M, x, .kF f lv w, r0⟩
 | .kH f lv w h => if M.W w = 0 then ⟨M, x, .kL f lv w h, r0⟩ else same M x (entered P x f w (M.W w) (M.Hd w))
 | .kL f lv w h => ⟨if M.W w = 0 then M.set w 1 (P.cut h lv (w - 2 ^ lv)) else M, x, .kE f w, r0⟩
 | .al f =>
  let q := P.allow (P.pol x.pol) f.cell M.clk x.n
  if q.1.g = false ∨ x.n = 0 then same M x (leave x q.1) else ⟨M, x, put x f q.2 q.1, r0⟩
 | .pk c => ⟨M, x, .none, ⟨true, P.peek (P.pol x.pol) c M.clk⟩⟩
 | .a0 f => if M.W 33 = MAX then same M x (leave x (er 5)) else ⟨M, x, .a1 f (M.W 33), r0⟩
 | .a1 f u =>
  if M.W 33 = u then
   let q := P.acq (P.pol x.pol) f.cell (u + 1)
   ⟨M.set 33 (u + 1) [], { x with ser := u + 1 }, put x f q.2 q.1, r0⟩
  else ⟨M, x, .a0 f, r0⟩
 | .p0 f c r => if M.W 32 = P.room then ⟨M, x, .none, ⟨true, er 10⟩⟩ else ⟨M, x, .p1 f c r (M.W 32), r0⟩
 | .p1 f c r u => if M.W 32 = u then ⟨M.set 32 (u + 1) [], { x with res := true }, .pS f c r, r0⟩ else ⟨M, x, .p0 f c r, r0⟩
 | .pS f c r =>
  if M.W f.w = f.v then same (M.set f.w (f.v + 1) (P.wth f.h f.at' f.there c)) x (if f.there = true then leave x r else (.none, ⟨true, r⟩))
  else ⟨M, x, .k0 .key, r0⟩
 | .b0 n k => ⟨M, x, .b1 n k (M.W 32), r0⟩
 | .b1 n k u => if M.W 32 = u then same (M.set 32 (u - n) []) x (after n k) else ⟨M, x, .b0 n k, r0⟩
 | .e0 => ⟨M, x, .k0 (.ev 0 (2 ^ ((M.W 0 + 1) / 2).toNat) 0), r0⟩
 | .eC j sh g w v h =>
  if (rest P h M.clk).length = h.length then same M x (further j sh g)
  else ⟨M, x, .eS j sh g w v (rest P h M.clk) ((h.length : Int) - (rest P h M.clk).length), r0⟩
 | .eS j sh g w v m n => if M.W w = v then ⟨M.set w (v + 1) m, x, .b0 n (.ev j sh g), r0⟩ else same M x (further j sh g)
 | .s0 => if M.W 0 % 2 = 1 then ⟨M, x, .sF (M.W 0 / 2).toNat 0, r0⟩ else if M.W 0 / 2 = 4 then ⟨M, x, .none, ⟨true, er 5⟩⟩ else ⟨M, x, .sM (M.W 0 / 2).toNat, r0⟩
 | .sM lv => if M.W 0 = 2 * lv then ⟨M.set 0 (2 * lv + 1) [], x, .sF lv 0, r0⟩ else ⟨M, x, .s0, r0⟩
 | .sF lv i => ⟨M, x, if FZ ≤ M.W (2 ^ lv + i) then .sH lv i false (M.Hd (2 ^ lv + i)) else .sG lv i (M.W (2 ^ lv + i)) (M.Hd (2 ^ lv + i)), r0⟩
 | .sG lv i v h => if M.W (2 ^ lv + i) = v then ⟨M.set (2 ^ lv + i) (v + FZ) h, x, .sH lv i false h, r0⟩ else ⟨M, x, .sF lv i, r0⟩
 | .sH lv i up h => ⟨M, x, if M.W (upW lv i up) = 0 then .sL lv i up h else on lv i up h, r0⟩
 | .sL lv i up h => ⟨if M.W (upW lv i up) = 0 then M.set (upW lv i up) 1 (P.cut h (lv + 1) (upW lv i up - 2 ^ (lv + 1))) else M, x, on lv i up h, r0⟩
 | .sV lv => ⟨if M.W 0 = 2 * lv + 1 then M.set 0 (2 * lv + 2) [] else M, x, .none, ⟨true, z0⟩⟩
end
end Core
end Go.Proofs.YtplpofmnhcclbaaGreat

namespace Go.Proofs.YtplpofmnhcclbaaGreat
namespace Core
open Dir (FZ plc upd upW Iw okW lowW upd_same upd_ne pow_pos2 plc_sh plc_low sh_32 sh_16 sh_inj word_sh freeze_ok lay_ok live_ok upW_sh)
theorem iw_hi {W : Nat → Int} {B : Int} (h : Iw W B) {w : Nat} (hw : 32 ≤ w) (x : Int) : Iw (upd W w x) B := by
 refine ⟨by rw [upd_ne _ _ (by omega)]; exact h.d, fun lv i hl hi => ?_⟩
 have h1 := sh_32 hl hi
 have h3 : lowW (upd W w x) lv i = lowW W lv i := upd_ne _ _ (by
  have h4 : 2 ^ (lv - 1) ≤ 2 ^ 3 := Nat.pow_le_pow_right (by omega) (by omega)
  have := Nat.mod_lt i (pow_pos2 (lv - 1)); omega)
 rw [upd_ne _ _ (by omega), upd_ne _ _ (by omega), h3]
 exact h.w lv i hl hi
structure Gr (W W' : Nat → Int) : Prop where
 d : W 0 ≤ W' 0
 fz : ∀ w, w < 32 → FZ ≤ W w → FZ ≤ W' w
 ne : ∀ w, w < 32 → W w ≠ 0 → W' w ≠ 0
theorem Gr.refl (W : Nat → Int) : Gr W W := ⟨Int.le_refl _, fun _ _ h => h, fun _ _ h => h⟩
theorem Gr.of {W W' : Nat → Int} (h : Dir.Gr W W') : Gr W W' := ⟨h.d, fun w _ => h.fz w, fun w _ => h.ne w⟩
theorem Gr.hi (W : Nat → Int) {w : Nat} (hw : 32 ≤ w) (x : Int) : Gr W (upd W w x) :=
 ⟨by rw [upd_ne _ _ (by omega)]; exact Int.le_refl _, fun j hj h => by rw [upd_ne _ _ (by omega)]; exact h, fun j hj h => by rw [upd_ne _ _ (by omega)]; exact h⟩
def gone (W : Nat → Int) (lv i : Nat) : Prop := ∀ j, j < i → FZ ≤ W (2 ^ lv + j) ∧ W (2 ^ (lv + 1) + j) ≠ 0 ∧ W (2 ^ (lv + 1) + (j + 2 ^ lv)) ≠ 0
def okFc : Fc → Prop
 | .key => True
 | .ev j sh _ => j < sh ∧ sh ≤ 16
def okFd (f : Fd) : Prop := 1 ≤ f.w ∧ f.w < 32 ∧ 0 < f.v ∧ f.v < FZ
def okBk (n : Int) : Bk → Prop
 | .lv _ => n = 1
 | .ev j sh _ => j < sh ∧ sh ≤ 16
def okX (x : X) : Prop := x.op = 2 → x.ser ≠ 0
def Cw (x : X) (W : Nat → Int) : CS → Prop
 | .none => True
 | .k0 f => okFc f
 | .kE f w => okFc f ∧ 1 ≤ w ∧ w < 32
 | .kF f lv w => okFc f ∧ lv ≤ 3 ∧ w = plc lv (sumF x f) ∧ 2 * (lv : Int) + 1 ≤ W 0
 | .kG f lv w v _ => okFc f ∧ lv ≤ 3 ∧ w = plc lv (sumF x f) ∧ 2 * (lv : Int) + 1 ≤ W 0 ∧ v < FZ
 | .kH f lv w _ => okFc f ∧ 1 ≤ lv ∧ lv ≤ 4 ∧ w = plc lv (sumF x f) ∧ 2 * (lv : Int) - 1 ≤ W 0 ∧ FZ ≤ W (plc (lv - 1) (sumF x f))
 | .kL f lv w _ => okFc f ∧ 1 ≤ lv ∧ lv ≤ 4 ∧ w = plc lv (sumF x f) ∧ 2 * (lv : Int) - 1 ≤ W 0 ∧ FZ ≤ W (plc (lv - 1) (sumF x f))
 | .al f => okFd f ∧ x.op = 1
 | .pk _ => True
 | .a0 f => okFd f ∧ x.ser = 0
 | .a1 f u => okFd f ∧ 0 ≤ u ∧ u ≠ MAX ∧ x.ser = 0
 | .p0 f _ _ => okFd f ∧ f.there = false ∧ x.res = false ∧ okX x
 | .p1 f _ _ _ => okFd f ∧ f.there = false ∧ x.res = false ∧ okX x
 | .pS f _ _ => okFd f ∧ okX x ∧ (f.there = true ∨ x.res = true)
 | .b0 n k => 1 ≤ n ∧ okBk n k
 | .b1 n k _ => 1 ≤ n ∧ okBk n k
 | .e0 => True
 | .eC j sh _ w v _ => j < sh ∧ sh ≤ 16 ∧ 1 ≤ w ∧ w < 32 ∧ 0 < v ∧ v < FZ
 | .eS j sh _ w v _ n => j < sh ∧ sh ≤ 16 ∧ 1 ≤ w ∧ w < 32 ∧ 0 < v ∧ v < FZ ∧ 1 ≤ n
 | .s0 => True
 | .sM lv => lv ≤ 3
 | .sF lv i => lv ≤ 3 ∧ i < 2 ^ lv ∧ 2 * (lv : Int) + 1 ≤ W 0 ∧ gone W lv i
 | .sG lv i v _ => lv ≤ 3 ∧ i < 2 ^ lv ∧ 2 * (lv : Int) + 1 ≤ W 0 ∧ gone W lv i ∧ v < FZ
 | .sH lv i up _ => lv ≤ 3 ∧ i < 2 ^ lv ∧ 2 * (lv : Int) + 1 ≤ W 0 ∧ gone W lv i ∧ FZ ≤ W (2 ^ lv + i) ∧ (up = true → W (2 ^ (lv + 1) + i) ≠ 0)
 | .sL lv i up _ => lv ≤ 3 ∧ i < 2 ^ lv ∧ 2 * (lv : Int) + 1 ≤ W 0 ∧ gone W lv i ∧ FZ ≤ W (2 ^ lv + i) ∧ (up = true → W (2 ^ (lv + 1) + i) ≠ 0)
 | .sV lv => lv ≤ 3 ∧ 2 * (lv : Int) + 1 ≤ W 0 ∧ gone W lv (2 ^ lv)
theorem Gr.gone {W W' : Nat → Int} (h : Gr W W') {lv i : Nat} (hl : lv ≤ 3) (hi : i ≤ 2 ^ lv) (hg : gone W lv i) : gone W' lv i := fun j hj => by
 obtain ⟨a, b, c⟩ := hg j hj
 have h1 := sh_32 (by omega : lv ≤ 4) (by omega : j < 2 ^ lv)
 have hp := Nat.pow_succ 2 lv
 have h2 := sh_32 (by omega : lv + 1 ≤ 4) (by omega : j < 2 ^ (lv + 1))
 have h3 := sh_32 (by omega : lv + 1 ≤ 4) (by omega : j + 2 ^ lv < 2 ^ (lv + 1))
 exact ⟨h.fz _ h1.2 a, h.ne _ h2.2 b, h.ne _ h3.2 c⟩
theorem Gr.cw {x : X} {W W' : Nat → Int} (h : Gr W W') {s : CS} (hs : Cw x W s) : Cw x W' s := by
 have hd := h.d
 have hp : ∀ lv, lv ≤ 4 → ∀ s : Int, plc lv s < 32 := fun lv hl s => by obtain ⟨i, h1, h2⟩ := plc_sh lv s; rw [h2]; exact (sh_32 hl h1).2
 have hs1 : ∀ lv i, lv ≤ 3 → i < 2 ^ lv → 2 ^ lv + i < 32 := fun lv i a b => (sh_32 (by omega) b).2
 have hs2 : ∀ lv i, lv ≤ 3 → i < 2 ^ lv → 2 ^ (lv + 1) + i < 32 := fun lv i a b => (sh_32 (by omega) (by rw [Nat.pow_succ]; omega)).2
 cases s with
 | kF f lv w => obtain ⟨z, a, b, d⟩ := hs; exact ⟨z, a, b, by omega⟩
 | kG f lv w v m => obtain ⟨z, a, b, d, e⟩ := hs; exact ⟨z, a, b, by omega, e⟩
 | kH f lv w m => obtain ⟨z, a, b, d, e, g⟩ := hs; exact ⟨z, a, b, d, by omega, h.fz _ (hp _ (by omega) _) g⟩
 | kL f lv w m => obtain ⟨z, a, b, d, e, g⟩ := hs; exact ⟨z, a, b, d, by omega, h.fz _ (hp _ (by omega) _) g⟩
 | sF lv i => obtain ⟨a, b, d, e⟩ := hs; exact ⟨a, b, by omega, h.gone a (by omega) e⟩
 | sG lv i v m => obtain ⟨a, b, d, e, f⟩ := hs; exact ⟨a, b, by omega, h.gone a (by omega) e, f⟩
 | sH lv i up m => obtain ⟨a, b, d, e, f, g⟩ := hs; exact ⟨a, b, by omega, h.gone a (by omega) e, h.fz _ (hs1 _ _ a b) f, fun hu => h.ne _ (hs2 _ _ a b) (g hu)⟩
 | sL lv i up m => obtain ⟨a, b, d, e, f, g⟩ := hs; exact ⟨a, b, by omega, h.gone a (by omega) e, h.fz _ (hs1 _ _ a b) f, fun hu => h.ne _ (hs2 _ _ a b) (g hu)⟩
 | sV lv => obtain ⟨a, b, d⟩ := hs; exact ⟨a, by omega, h.gone a (by omega) d⟩
 | _ => exact hs
def kd : CS → Nat
 | .pS _ _ _ => 1
 | .eS _ _ _ _ _ _ _ => 1
 | .p1 _ _ _ _ => 2
 | .b1 _ _ _ => 2
 | .a1 _ _ => 3
 | _ => 0
inductive Chg (W W' : Nat → Int) (s : CS) : Prop
 | no (h : W' = W)
 | d (h1 : W' = upd W 0 (W 0 + 1)) (h2 : W 0 < 8)
 | fz (w : Nat) (h0 : 1 ≤ w ∧ w < 16) (h1 : 0 < W w ∧ W w < FZ) (h2 : W' = upd W w (W w + FZ))
 | lay (w : Nat) (h0 : 1 ≤ w ∧ w < 32) (h1 : W w = 0) (h2 : W' = upd W w 1)
 | key (w : Nat) (h0 : 1 ≤ w ∧ w < 32) (h1 : 0 < W w ∧ W w < FZ) (h2 : W' = upd W w (W w + 1)) (hs : kd s = 1)
 | cnt (y : Int) (h2 : W' = upd W 32 y) (hs : kd s = 2)
 | ser (h1 : W 33 ≠ MAX) (h2 : W' = upd W 33 (W 33 + 1)) (hs : kd s = 3)
structure Stepped (x' : X) (W : Nat → Int) (B : Int) (M' : Mc) (s s' : CS) : Prop where
 iw : Iw M'.W (B + 1)
 cw : Cw x' M'.W s'
 gr : Gr W M'.W
 chg : Chg W M'.W s
theorem Stepped.same {M : Mc} {x' : X} {B : Int} {s s' : CS} (h : Iw M.W B) (hc : Cw x' M.W s') : Stepped x' M.W B M s s' := ⟨h.mono (by omega), hc, .refl _, .no rfl⟩
theorem leave_cw (x : X) (W : Nat → Int) (r : Rpl) : Cw x W (leave x r).1 := by
 unfold leave; split
 ·exact ⟨by omega, rfl⟩
 ·trivial
theorem put_cw {x : X} {W : Nat → Int} {f : Fd} {c : Cel} {r : Rpl} (hf : okFd f) (hx : okX x) : Cw x W (put x f c r) := by
 unfold put; split
 ·rename_i h; exact ⟨hf, hx, h⟩
 ·rename_i h
  refine ⟨hf, ?_, ?_, hx⟩
  ·cases e : f.there with
   | true => exact absurd (.inl e) h
   | false => rfl
  ·cases e : x.res with
   | true => exact absurd (.inr e) h
   | false => rfl
theorem further_cw {x : X} {W : Nat → Int} {j sh : Nat} {g : Int} (h : j < sh ∧ sh ≤ 16) : Cw x W (further j sh g).1 := by
 unfold further; split
 ·trivial
 ·exact ⟨by omega, h.2⟩
theorem after_cw {x : X} {W : Nat → Int} {n : Int} {k : Bk} (h : okBk n k) : Cw x W (after n k).1 := by
 cases k with
 | lv r => trivial
 | ev j sh g => exact further_cw h
theorem foundK_cw {P : Ops} {x : X} {W : Nat → Int} {f : Fd} (hf : okFd f) (hser : 0 ≤ x.ser) : Cw x W (foundK P x f).1 := by
 unfold foundK
 by_cases h1 : x.op = 1
 ·rw [if_pos h1]; exact ⟨hf, h1⟩
 rw [if_neg h1]
 by_cases h2 : x.op = 2
 ·rw [if_pos h2]
  split
  ·exact leave_cw _ _ _
  ·split
   ·exact put_cw hf fun _ => by omega
   ·exact ⟨hf, by omega⟩
 rw [if_neg h2]
 split
 ·split
  ·exact put_cw hf fun h => absurd h h2
  ·trivial
 ·split <;> trivial
theorem entered_cw {P : Ops} {x : X} {W : Nat → Int} {f : Fc} {w : Nat} {v : Int} {h : List Cel} (hf : okFc f) (hw : 1 ≤ w ∧ w < 32) (hv : 0 ≤ v) (hser : 0 ≤ x.ser) : Cw x W (entered P x f w v h).1 := by
 unfold entered
 split
 ·exact hf
 ·unfold found
  cases f with
  | key => exact foundK_cw ⟨hw.1, hw.2, by show 0 < v; omega, by show v < FZ; omega⟩ hser
  | ev j sh g =>
   dsimp only
   split
   ·exact further_cw hf
   ·exact ⟨hf.1, hf.2, hw.1, hw.2, by omega, by omega⟩
theorem move_cw {x : X} {W : Nat → Int} {lv i : Nat} (hl : lv ≤ 3) (hi : i < 2 ^ lv) (hd : 2 * (lv : Int) + 1 ≤ W 0) (hg : gone W lv (i + 1)) : Cw x W (move lv (i + 1)) := by
 unfold move
 split
 ·rename_i e; rw [e] at hg; exact ⟨hl, hd, hg⟩
 ·exact ⟨hl, by omega, hd, hg⟩
theorem gone_succ {W : Nat → Int} {lv i : Nat} (h : gone W lv i) (h1 : FZ ≤ W (2 ^ lv + i)) (h2 : W (2 ^ (lv + 1) + i) ≠ 0) (h3 : W (2 ^ (lv + 1) + (i + 2 ^ lv)) ≠ 0) : gone W lv (i + 1) := fun j hj => by
 by_cases e : j = i
 ·subst e; exact ⟨h1, h2, h3⟩
 ·exact h j (by omega)
theorem on_cw {x : X} {W : Nat → Int} {lv i : Nat} {up : Bool} {h : List Cel} (hl : lv ≤ 3) (hi : i < 2 ^ lv) (hd : 2 * (lv : Int) + 1 ≤ W 0) (hg : gone W lv i) (hf : FZ ≤ W (2 ^ lv + i))
  (hu : up = true → W (2 ^ (lv + 1) + i) ≠ 0) (hn : W (upW lv i up) ≠ 0) : Cw x W (on lv i up h) := by
 unfold on
 cases up with
 | true =>
  refine move_cw hl hi hd (gone_succ hg hf (hu rfl) ?_)
  simpa [upW] using hn
 | false => exact ⟨hl, hi, hd, hg, hf, fun _ => by simpa [upW] using hn⟩
theorem step_ok {P : Ops} {M : Mc} {B : Int} (h : Iw M.W B) (hB : 1 ≤ B ∧ B + 1 < FZ) {x : X} (hx : 0 ≤ x.ser) (h33 : 0 ≤ M.W 33) {s : CS} (hs : Cw x M.W s) :
  Stepped (step P M x s).x M.W B (step P M x s).M s (step P M x s).s := by
 have hF : FZ = 4611686018427387904 := rfl
 have hd := h.d
 cases s with
 | none => exact .same h trivial
 | k0 f =>
  have hk : (M.W 0 / 2).toNat ≤ 4 := by omega
  obtain ⟨i, h1, h2⟩ := plc_sh (M.W 0 / 2).toNat (sumF x f)
  have := sh_32 hk h1
  refine .same h ?_
  show Cw x M.W (if _ then _ else _)
  split
  ·rw [h2]; exact ⟨hs, this⟩
  ·exact ⟨hs, by omega, rfl, by omega⟩
 | kE f w =>
  obtain ⟨lv, i, hl, hi, rfl⟩ := word_sh hs.2
  have := h.sh hl hi
  exact .same h (entered_cw hs.1 hs.2 (by unfold okW at this; omega) hx)
 | kF f lv w =>
  obtain ⟨z, a, b, d⟩ := hs
  refine .same h ?_
  show Cw x M.W (if _ then _ else _)
  split
  ·exact ⟨z, by omega, by omega, rfl, by omega, by rw [Nat.add_sub_cancel, ← b]; assumption⟩
  ·exact ⟨z, a, b, d, by omega⟩
 | kG f lv w v m =>
  obtain ⟨z, a, b, d, e⟩ := hs
  obtain ⟨i, h1, h2⟩ := plc_sh lv (sumF x f)
  by_cases hm : M.W w = v
  ·have hb := b
   rw [h2] at hb
   subst hb
   obtain ⟨g1, g2, g3⟩ := freeze_ok h a h1 d e hm
   have g4 : Dir.Gr M.W (upd M.W (2 ^ lv + i) (v + FZ)) := .set (fun e0 => by have := sh_16 a h1; omega) (fun _ => by omega) (fun _ => by omega)
   simp only [step, if_pos hm]
   have hd2 := g4.d
   refine ⟨g3.mono (by omega), ⟨z, by omega, by omega, rfl, ?_, ?_⟩, .of g4, .fz _ (sh_16 a h1) (by omega) (by rw [hm]; rfl)⟩
   ·show _ ≤ upd M.W _ _ 0; omega
   ·rw [Nat.add_sub_cancel, h2]; show FZ ≤ upd M.W _ _ _; rw [upd_same]; omega
  ·simp only [step, if_neg hm]
   exact .same h ⟨z, a, b, d⟩
 | kH f lv w m =>
  obtain ⟨z, a, b, d, e, g⟩ := hs
  obtain ⟨i, h1, h2⟩ := plc_sh lv (sumF x f)
  have hw := sh_32 b h1
  rw [← h2, ← d] at hw
  have ho := h.sh b h1
  rw [← h2, ← d] at ho
  by_cases hm : M.W w = 0
  ·simp only [step, if_pos hm]; exact .same h ⟨z, a, b, d, e, g⟩
  ·simp only [step, if_neg hm]; exact .same h (entered_cw z hw (by unfold okW at ho; omega) hx)
 | kL f lv w m =>
  obtain ⟨z, a, b, d, e, g⟩ := hs
  obtain ⟨i, h1, h2⟩ := plc_sh lv (sumF x f)
  have hw := sh_32 b h1
  have hlow : FZ ≤ lowW M.W lv i := by
   have h3 := plc_low (lv - 1) (sumF x f)
   rw [Nat.sub_add_cancel a, h2, Nat.add_sub_cancel_left] at h3
   unfold lowW; rw [h3]; exact g
  rw [h2] at d
  subst d
  by_cases hm : M.W (2 ^ lv + i) = 0
  ·simp only [step, if_pos hm]
   refine ⟨(lay_ok h hB.1 a b h1 e hlow hm).mono (by omega), ⟨z, hw⟩, .of (.set (fun e0 => by omega) (fun _ => by omega) (fun _ => by omega)), .lay _ hw hm rfl⟩
  ·simp only [step, if_neg hm]; exact .same h ⟨z, hw⟩
 | al f =>
  simp only [step]
  split
  ·exact .same h (leave_cw _ _ _)
  ·exact .same h (put_cw hs.1 fun e => absurd ((show x.op = 1 from hs.2).symm.trans e) (by decide))
 | pk c => exact .same h trivial
 | a0 f =>
  simp only [step]
  split
  ·exact .same h (leave_cw _ _ _)
  ·rename_i hm; exact .same h ⟨hs.1, h33, hm, hs.2⟩
 | a1 f u =>
  obtain ⟨a, b, c, e⟩ := hs
  by_cases hm : M.W 33 = u
  ·simp only [step, if_pos hm]
   subst hm
   exact ⟨(iw_hi h (by omega) _).mono (by omega), put_cw a fun _ => by show M.W 33 + 1 ≠ 0; omega, Gr.hi _ (by omega) _, .ser c rfl rfl⟩
  ·simp only [step, if_neg hm]; exact .same h ⟨a, e⟩
 | p0 f c r =>
  simp only [step]
  split
  ·exact .same h trivial
  ·exact .same h hs
 | p1 f c r u =>
  obtain ⟨a, b, e, g⟩ := hs
  by_cases hm : M.W 32 = u
  ·simp only [step, if_pos hm]
   exact ⟨(iw_hi h (by omega) _).mono (by omega), ⟨a, g, .inr rfl⟩, Gr.hi _ (by omega) _, .cnt _ rfl rfl⟩
  ·simp only [step, if_neg hm]; exact .same h ⟨a, b, e, g⟩
 | pS f c r =>
  obtain ⟨⟨a, b, d, e⟩, g, k⟩ := hs
  by_cases hm : M.W f.w = f.v
  ·simp only [step, if_pos hm]
   have d' : 0 < M.W f.w := by omega
   have e' : M.W f.w < FZ := by omega
   refine ⟨?_, ?_, .of ?_, ?_⟩
   ·show Iw (upd M.W f.w (f.v + 1)) (B + 1); rw [← hm]; exact live_ok h ⟨a, b⟩ hB.2 ⟨d', e'⟩
   ·show Cw x _ (if _ then _ else _ : CS × Rs).1; split
    ·exact leave_cw _ _ _
    ·trivial
   ·show Dir.Gr M.W (upd M.W f.w (f.v + 1)); exact .set (fun e0 => by omega) (fun _ => by omega) (fun _ => by omega)
   ·exact .key f.w ⟨a, b⟩ ⟨d', e'⟩ (by rw [hm]; rfl) rfl
  ·simp only [step, if_neg hm]; exact .same h trivial
 | b0 n k => exact .same h hs
 | b1 n k u =>
  by_cases hm : M.W 32 = u
  ·simp only [step, if_pos hm]
   exact ⟨(iw_hi h (by omega) _).mono (by omega), after_cw hs.2, Gr.hi _ (by omega) _, .cnt _ rfl rfl⟩
  ·simp only [step, if_neg hm]; exact .same h hs
 | e0 =>
  have hk : ((M.W 0 + 1) / 2).toNat ≤ 4 := by omega
  have : 2 ^ ((M.W 0 + 1) / 2).toNat ≤ 2 ^ 4 := Nat.pow_le_pow_right (by omega) hk
  exact .same h ⟨pow_pos2 _, this⟩
 | eC j sh g w v m =>
  obtain ⟨a, b, c⟩ := hs
  simp only [step]
  split
  ·exact .same h (further_cw ⟨a, b⟩)
  ·rename_i hm
   have hl : (rest P m M.clk).length ≤ m.length := List.length_filter_le _ _
   exact .same h ⟨a, b, c.1, c.2.1, c.2.2.1, c.2.2.2, by omega⟩
 | eS j sh g w v m n =>
  obtain ⟨a, b, c, d, e, e', k⟩ := hs
  by_cases hm : M.W w = v
  ·simp only [step, if_pos hm]
   have h1 : 0 < M.W w := by omega
   have h2 : M.W w < FZ := by omega
   refine ⟨?_, ⟨k, a, b⟩, .of ?_, ?_⟩
   ·show Iw (upd M.W w (v + 1)) (B + 1); rw [← hm]; exact live_ok h ⟨c, d⟩ hB.2 ⟨h1, h2⟩
   ·show Dir.Gr M.W (upd M.W w (v + 1)); exact .set (fun e0 => by omega) (fun _ => by omega) (fun _ => by omega)
   ·exact .key w ⟨c, d⟩ ⟨h1, h2⟩ (by rw [hm]; rfl) rfl
  ·simp only [step, if_neg hm]; exact .same h (further_cw ⟨a, b⟩)
 | s0 =>
  by_cases h1 : M.W 0 % 2 = 1
  ·simp only [step, if_pos h1]
   exact .same h ⟨by omega, pow_pos2 _, by omega, fun j hj => by omega⟩
  ·by_cases h2 : M.W 0 / 2 = 4
   ·simp only [step, if_neg h1, if_pos h2]; exact .same h trivial
   ·simp only [step, if_neg h1, if_neg h2]
    refine .same h ?_
    show _ ≤ _
    omega
 | sM lv =>
  by_cases hm : M.W 0 = 2 * lv
  ·simp only [step, if_pos hm]
   have hl : lv ≤ 3 := hs
   have g := h.begin hl hm
   have h2 : (M.set 0 (2 * lv + 1) []).W 0 = 2 * lv + 1 := by simp [Mc.set, upd]
   refine ⟨g.mono (by omega), ⟨hl, pow_pos2 _, by omega, fun j hj => by omega⟩, .of (.set (fun _ => by omega) (fun _ => by omega) (fun _ => by omega)), .d ?_ (by omega)⟩
   rw [hm]; rfl
  ·simp only [step, if_neg hm]; exact .same h trivial
 | sF lv i =>
  obtain ⟨a, b, d, e⟩ := hs
  refine .same h ?_
  show Cw x M.W (if _ then _ else _)
  split
  ·exact ⟨a, b, d, e, by assumption, fun hf => by simp at hf⟩
  ·exact ⟨a, b, d, e, by omega⟩
 | sG lv i v m =>
  obtain ⟨a, b, d, e, f⟩ := hs
  by_cases hm : M.W (2 ^ lv + i) = v
  ·obtain ⟨g1, g2, g3⟩ := freeze_ok h a b d f hm
   have g4 : Dir.Gr M.W (upd M.W (2 ^ lv + i) (v + FZ)) := .set (fun e0 => by have := sh_16 a b; omega) (fun _ => by omega) (fun _ => by omega)
   simp only [step, if_pos hm]
   have hd2 := g4.d
   exact ⟨g3.mono (by omega), ⟨a, b, by show _ ≤ upd M.W _ _ 0; omega, (Gr.of g4).gone a (by omega) e, by show FZ ≤ upd M.W _ _ _; rw [upd_same]; omega, fun hf => by simp at hf⟩, .of g4, .fz _ (sh_16 a b) (by omega) (by rw [hm]; rfl)⟩
  ·simp only [step, if_neg hm]; exact .same h ⟨a, b, d, e⟩
 | sH lv i up m =>
  obtain ⟨a, b, d, e, f, g⟩ := hs
  refine .same h ?_
  show Cw x M.W (if _ then _ else _)
  split
  ·exact ⟨a, b, d, e, f, g⟩
  ·exact on_cw a b d e f g (by assumption)
 | sL lv i up m =>
  obtain ⟨a, b, d, e, f, g⟩ := hs
  obtain ⟨j, h1, h2, h3⟩ := upW_sh (up := up) b
  have hw := sh_32 (by omega : lv + 1 ≤ 4) h1
  by_cases hm : M.W (upW lv i up) = 0
  ·simp only [step, if_pos hm]
   have hlow : FZ ≤ lowW M.W (lv + 1) j := by unfold lowW; rw [Nat.add_sub_cancel, h3]; exact f
   have g4 : Dir.Gr M.W (upd M.W (upW lv i up) 1) := .set (fun e0 => by omega) (fun _ => by omega) (fun _ => by omega)
   have hd2 := g4.d
   refine ⟨?_, on_cw a b (by show _ ≤ upd M.W _ _ 0; omega) ((Gr.of g4).gone a (by omega) e) (g4.fz _ f) (fun hu => g4.ne _ (g hu)) (by show upd M.W _ _ _ ≠ 0; rw [upd_same]; omega), .of g4, .lay _ (by omega) hm rfl⟩
   have := lay_ok h hB.1 (by omega : 1 ≤ lv + 1) (by omega) h1 (by omega) hlow (by rw [← h2]; exact hm)
   rw [← h2] at this
   exact this.mono (by omega)
  ·simp only [step, if_neg hm]; exact .same h (on_cw a b d e f g hm)
 | sV lv =>
  obtain ⟨a, b, d⟩ := hs
  by_cases hm : M.W 0 = 2 * lv + 1
  ·simp only [step, if_pos hm]
   refine ⟨(h.fin a hm d).mono (by omega), trivial, .of (.set (fun _ => by omega) (fun _ => by omega) (fun _ => by omega)), .d ?_ (by omega)⟩
   rw [hm]; show upd M.W 0 _ = upd M.W 0 _; congr 1
  ·simp only [step, if_neg hm]; exact .same h trivial
end Core
end Go.Proofs.YtplpofmnhcclbaaGreat

namespace Go.Proofs.YtplpofmnhcclbaaGreat
namespace Core
open Dir (FZ plc upd upW Iw okW lowW upd_same upd_ne pow_pos2 plc_sh plc_low sh_32 sh_16 sh_inj word_sh)
def A (x : X) : Fc → Nat
 | .key => if x.op = 2 ∧ x.ser = 0 then 5 else 4
 | .ev _ _ _ => 4
def rst : Fc → Nat
 | .key => 0
 | .ev j sh _ => 10 * (sh - 1 - j)
def TH (a : Nat) (v : Int) : Nat := if v = 0 then 3 + a else if v < FZ then 1 + a else 7 + a
def TF (a : Nat) (v y : Int) : Nat := TH a y + if v < FZ then 2 else 1
def TE (a : Nat) (v : Int) : Nat := if v ≠ 0 ∧ v < FZ then 1 + a else 7 + a
def st (W : Nat → Int) (f : Fd) : Nat := if W f.w = f.v then 0 else 10
def U (lv i : Nat) : Nat := 6 * (2 ^ lv - i) + 1
def Tk : Bk → Nat
 | .lv _ => 0
 | .ev j sh _ => 10 * (sh - 1 - j)
def T (x : X) (W : Nat → Int) : CS → Nat
 | .none => 0
 | .k0 f => (if W 0 % 2 = 0 then 2 + A x f else 6 + A x f) + rst f
 | .kE f w => TE (A x f) (W w) + rst f
 | .kF f lv w => TF (A x f) (W w) (W (plc (lv + 1) (sumF x f))) + rst f
 | .kG f lv w v _ => (if W w = v then 1 + TH (A x f) (W (plc (lv + 1) (sumF x f))) else 1 + TF (A x f) (W w) (W (plc (lv + 1) (sumF x f)))) + rst f
 | .kH f _ w _ => TH (A x f) (W w) + rst f
 | .kL f _ w _ => 1 + (if W w = 0 then 1 + A x f else TE (A x f) (W w)) + rst f
 | .al f => 4 + st W f
 | .pk _ => 1
 | .a0 f => 5 + st W f
 | .a1 f u => (if W 33 = u then 4 else 6) + st W f
 | .p0 f _ _ => 3 + st W f
 | .p1 f _ _ u => (if W 32 = u then 2 else 4) + st W f
 | .pS f _ _ => (if f.there = true then 3 else 1) + st W f
 | .b0 _ k => 2 + Tk k
 | .b1 _ k u => (if W 32 = u then 1 else 3) + Tk k
 | .e0 => 161
 | .eC j sh _ _ _ _ => 4 + 10 * (sh - 1 - j)
 | .eS j sh _ _ _ _ _ => 3 + 10 * (sh - 1 - j)
 | .s0 => 52
 | .sM lv => if W 0 = 2 * lv then 51 else 53
 | .sF lv i => U lv i
 | .sG lv i v _ => if W (2 ^ lv + i) = v then U lv i - 1 else U lv i + 1
 | .sH lv i up _ => U lv i - (if up then 4 else 2)
 | .sL lv i up _ => U lv i - (if up then 5 else 3)
 | .sV _ => 1
theorem U_le {lv i : Nat} (h : lv ≤ 3) : U lv i ≤ 49 := by
 have : 2 ^ lv ≤ 2 ^ 3 := Nat.pow_le_pow_right (by omega) h
 unfold U; omega
theorem U_succ {lv i : Nat} (hi : i < 2 ^ lv) : U lv i = U lv (i + 1) + 6 ∧ 1 ≤ U lv (i + 1) := by unfold U; omega
theorem A_le (x : X) (f : Fc) : 4 ≤ A x f ∧ A x f ≤ 5 := by
 cases f <;> simp only [A] <;> (try split) <;> omega
theorem TH_le (a : Nat) (v : Int) : TH a v ≤ 7 + a := by unfold TH; split <;> (try split) <;> omega
theorem TE_le (a : Nat) (v : Int) : TE a v ≤ 7 + a := by unfold TE; split <;> omega
theorem TF_le (a : Nat) (v y : Int) : TF a v y ≤ 9 + a := by have := TH_le a y; unfold TF; split <;> omega
theorem st_le (W : Nat → Int) (f : Fd) : st W f ≤ 10 := by unfold st; split <;> omega
theorem rst_le {f : Fc} (h : okFc f) : rst f ≤ 150 := by
 cases f with
 | key => simp [rst]
 | ev j sh g => obtain ⟨a, b⟩ := h; simp only [rst]; omega
theorem T_le {x : X} {W : Nat → Int} {s : CS} (hs : Cw x W s) : T x W s ≤ 165 := by
 cases s with
 | none => simp [T]
 | k0 f => have := A_le x f; have := rst_le hs; simp only [T]; split <;> omega
 | kE f w => have := A_le x f; have := rst_le hs.1; have := TE_le (A x f) (W w); simp only [T]; omega
 | kF f lv w => have := A_le x f; have := rst_le hs.1; have := TF_le (A x f) (W w) (W (plc (lv + 1) (sumF x f))); simp only [T]; omega
 | kG f lv w v m => have := A_le x f; have := rst_le hs.1; have := TF_le (A x f) (W w) (W (plc (lv + 1) (sumF x f))); have := TH_le (A x f) (W (plc (lv + 1) (sumF x f))); simp only [T]; split <;> omega
 | kH f lv w m => have := A_le x f; have := rst_le hs.1; have := TH_le (A x f) (W w); simp only [T]; omega
 | kL f lv w m => have := A_le x f; have := rst_le hs.1; have := TE_le (A x f) (W w); simp only [T]; split <;> omega
 | al f => have := st_le W f; simp only [T]; omega
 | pk c => simp [T]
 | a0 f => have := st_le W f; simp only [T]; omega
 | a1 f u => have := st_le W f; simp only [T]; split <;> omega
 | p0 f c r => have := st_le W f; simp only [T]; omega
 | p1 f c r u => have := st_le W f; simp only [T]; split <;> omega
 | pS f c r => have := st_le W f; simp only [T]; split <;> omega
 | b0 n k =>
  cases k with
  | lv r => simp [T, Tk]
  | ev j sh g => obtain ⟨-, a, b⟩ := hs; simp only [T, Tk]; omega
 | b1 n k u =>
  cases k with
  | lv r => simp only [T, Tk]; split <;> omega
  | ev j sh g => obtain ⟨-, a, b⟩ := hs; simp only [T, Tk]; split <;> omega
 | e0 => simp [T]
 | eC j sh g w v m => obtain ⟨a, b, -⟩ := hs; simp only [T]; omega
 | eS j sh g w v m n => obtain ⟨a, b, -⟩ := hs; simp only [T]; omega
 | s0 => simp [T]
 | sM lv => simp only [T]; split <;> omega
 | sF lv i => have := U_le (i := i) hs.1; simp only [T]; omega
 | sG lv i v m => have := U_le (i := i) hs.1; simp only [T]; split <;> omega
 | sH lv i up m => have := U_le (i := i) hs.1; simp only [T]; split <;> omega
 | sL lv i up m => have := U_le (i := i) hs.1; simp only [T]; split <;> omega
 | sV lv => simp [T]
theorem leave_T (x : X) (W : Nat → Int) (r : Rpl) : T x W (leave x r).1 ≤ 2 := by
 unfold leave; split <;> simp [T, Tk]
theorem put_T (x' x : X) (W : Nat → Int) (f : Fd) (c : Cel) (r : Rpl) : T x' W (put x f c r) ≤ 3 + st W f := by
 unfold put; split
 ·simp only [T]; split <;> omega
 ·simp only [T]; omega
theorem further_T (x : X) (W : Nat → Int) {j sh : Nat} (g : Int) (h : j < sh) : T x W (further j sh g).1 ≤ 10 * (sh - 1 - j) := by
 unfold further
 by_cases e : j + 1 = sh
 ·rw [if_pos e]; simp [T]
 ·rw [if_neg e]; simp only [T, A, rst]; split <;> omega
theorem after_T (x : X) (W : Nat → Int) {n : Int} {k : Bk} (h : okBk n k) : T x W (after n k).1 ≤ Tk k := by
 cases k with
 | lv r => simp [after, T]
 | ev j sh g => exact further_T x W _ h.1
theorem entered_T {P : Ops} {x : X} {W : Nat → Int} {f : Fc} {w : Nat} {h : List Cel} (hf : okFc f) (h0 : 0 ≤ W w) (hser : 0 ≤ x.ser) : T x W (entered P x f w (W w) h).1 + 1 ≤ TE (A x f) (W w) + rst f := by
 have hF : FZ = 4611686018427387904 := rfl
 unfold entered TE
 by_cases e : W w = 0 ∨ FZ ≤ W w
 ·rw [if_pos e, if_neg (by omega)]
  simp only [T]; split <;> omega
 ·rw [if_neg e, if_pos (by omega)]
  unfold found
  cases f with
  | key =>
   have hs : st W (fdOf P x w (W w) h) = 0 := by unfold st fdOf; simp
   simp only [rst, A]
   unfold foundK
   by_cases h1 : x.op = 1
   ·rw [if_pos h1]; simp only [T, hs]; split <;> omega
   rw [if_neg h1]
   by_cases h2 : x.op = 2
   ·rw [if_pos h2]
    split
    ·have := leave_T x W (er 9); split <;> omega
    ·split
     ·rename_i h4
      rw [if_neg (by omega)]
      have := put_T x x W (fdOf P x w (W w) h) (P.acq (P.pol x.pol) (fdOf P x w (W w) h).cell x.ser).2 (P.acq (P.pol x.pol) (fdOf P x w (W w) h).cell x.ser).1
      dsimp only; omega
     ·rename_i h4
      rw [if_pos ⟨h2, by omega⟩]
      simp only [T, hs]; omega
   rw [if_neg h2, if_neg (fun h => h2 h.1 : ¬ (x.op = 2 ∧ x.ser = 0))]
   split
   ·split
    ·have := put_T x x W (fdOf P x w (W w) h) (P.rel (P.pol x.pol) (fdOf P x w (W w) h).cell x.n).2 (P.rel (P.pol x.pol) (fdOf P x w (W w) h).cell x.n).1
     dsimp only; omega
    ·simp [T]
   ·split <;> simp [T]
  | ev j sh g =>
   dsimp only [A, rst]
   split
   ·have := further_T x W (g := g) hf.1; omega
   ·simp only [T]; omega
theorem T_on {x : X} {W : Nat → Int} {lv i : Nat} {up : Bool} {h : List Cel} (hi : i < 2 ^ lv) : T x W (on lv i up h) + 1 ≤ U lv i - (if up then 5 else 3) := by
 obtain ⟨g1, g2⟩ := U_succ hi
 cases up
 ·simp [on, T]; omega
 ·simp only [on, move, if_true]
  by_cases e : i + 1 = 2 ^ lv
  ·rw [if_pos e]; simp only [T]; omega
  ·rw [if_neg e]; simp only [T]; omega
theorem st_hi {W : Nat → Int} {f : Fd} (h : okFd f) {w : Nat} (hw : 32 ≤ w) (y : Int) : st (upd W w y) f = st W f := by
 unfold st; rw [upd_ne _ _ (by have := h.2.1; omega)]
theorem step_T {P : Ops} {M : Mc} {B : Int} (h : Iw M.W B) {x : X} (hx : 0 ≤ x.ser) {s : CS} (hn : s ≠ .none) (hs : Cw x M.W s) (hr : (step P M x s).r.done = false) :
  T (step P M x s).x (step P M x s).M.W (step P M x s).s + 1 ≤ T x M.W s := by
 have hF : FZ = 4611686018427387904 := rfl
 have hd := h.d
 cases s with
 | none => exact absurd rfl hn
 | k0 f =>
  have hk : (M.W 0 / 2).toNat ≤ 4 := by omega
  obtain ⟨i, h1, h2⟩ := plc_sh (M.W 0 / 2).toNat (sumF x f)
  have ho := h.sh hk h1
  rw [← h2] at ho
  by_cases e : M.W 0 % 2 = 0
  ·simp only [step, if_pos e, T]
   have hx : 0 < M.W (plc (M.W 0 / 2).toNat (sumF x f)) ∧ M.W (plc (M.W 0 / 2).toNat (sumF x f)) < FZ := by unfold okW at ho; omega
   have : TE (A x f) (M.W (plc (M.W 0 / 2).toNat (sumF x f))) = 1 + A x f := by unfold TE; rw [if_pos (by omega)]
   omega
  ·simp only [step, if_neg e, T]
   obtain ⟨j, g1, g2⟩ := plc_sh ((M.W 0 / 2).toNat + 1) (sumF x f)
   have ho2 := h.sh (by omega : (M.W 0 / 2).toNat + 1 ≤ 4) g1
   rw [← g2] at ho2
   have hlow : lowW M.W ((M.W 0 / 2).toNat + 1) j = M.W (plc (M.W 0 / 2).toNat (sumF x f)) := by
    have h3 := plc_low (M.W 0 / 2).toNat (sumF x f)
    rw [g2, Nat.add_sub_cancel_left] at h3
    unfold lowW; rw [Nat.add_sub_cancel, h3]
   rw [hlow] at ho2
   have hx : (M.W (plc ((M.W 0 / 2).toNat + 1) (sumF x f)) = 0 ∨ (0 < M.W (plc ((M.W 0 / 2).toNat + 1) (sumF x f)) ∧ M.W (plc ((M.W 0 / 2).toNat + 1) (sumF x f)) < FZ)) := by unfold okW at ho2; omega
   have h4 : TH (A x f) (M.W (plc ((M.W 0 / 2).toNat + 1) (sumF x f))) ≤ 3 + A x f := by unfold TH; (repeat' split) <;> omega
   unfold TF; split <;> omega
 | kE f w =>
  obtain ⟨lv, i, hl, hi, rfl⟩ := word_sh hs.2
  have ho := h.sh hl hi
  exact entered_T hs.1 ho.1 hx
 | kF f lv w =>
  by_cases e : FZ ≤ M.W w
  ·simp only [step, if_pos e, T, toH]
   unfold TF; rw [if_neg (by omega)]; omega
  ·simp only [step, if_neg e, T, if_true]
   unfold TF; rw [if_pos (by omega)]; omega
 | kG f lv w v m =>
  obtain ⟨z, a, b, d, e⟩ := hs
  by_cases hm : M.W w = v
  ·simp only [step, if_pos hm, T, toH]
   have hne : plc (lv + 1) (sumF x f) ≠ w := by
    intro e9
    obtain ⟨i, g1, g2⟩ := plc_sh lv (sumF x f)
    obtain ⟨j, g3, g4⟩ := plc_sh (lv + 1) (sumF x f)
    rw [b, g2, g4] at e9
    have := sh_inj g1 g3 e9.symm
    omega
   show TH (A x f) (upd M.W w _ _) + rst f + 1 ≤ _
   rw [upd_ne _ _ hne]; omega
  ·simp only [step, if_neg hm, T]; omega
 | kH f lv w m =>
  obtain ⟨z, a, b, d, e, g⟩ := hs
  obtain ⟨i, h1, h2⟩ := plc_sh lv (sumF x f)
  have ho := h.sh b h1
  rw [← h2, ← d] at ho
  by_cases hm : M.W w = 0
  ·simp only [step, if_pos hm, T]
   rw [hm]; unfold TH; rw [if_pos rfl]; omega
  ·simp only [step, if_neg hm]
   have h5 := entered_T (P := P) (x := x) (W := M.W) (f := f) (w := w) (h := M.Hd w) z ho.1 hx
   have h4 : TE (A x f) (M.W w) = TH (A x f) (M.W w) := by unfold TE TH; (repeat' split) <;> omega
   show _ ≤ TH (A x f) (M.W w) + rst f
   rw [← h4]; exact h5
 | kL f lv w m =>
  by_cases hm : M.W w = 0
  ·simp only [step, if_pos hm, T]
   show TE (A x f) (upd M.W w 1 w) + rst f + 1 ≤ _
   rw [upd_same]; unfold TE; rw [if_pos (by omega)]; omega
  ·simp only [step, if_neg hm, T]; omega
 | al f =>
  simp only [step]
  split
  ·have := leave_T x M.W (P.allow (P.pol x.pol) f.cell M.clk x.n).1
   show T x M.W (leave x _).1 + 1 ≤ 4 + st M.W f
   omega
  ·have := put_T x x M.W f (P.allow (P.pol x.pol) f.cell M.clk x.n).2 (P.allow (P.pol x.pol) f.cell M.clk x.n).1
   show T x M.W (put x f _ _) + 1 ≤ 4 + st M.W f
   omega
 | pk c => simp [step] at hr
 | a0 f =>
  simp only [step]
  split
  ·have := leave_T x M.W (er 5)
   show T x M.W (leave x _).1 + 1 ≤ 5 + st M.W f
   omega
  ·simp only [T, if_true]; omega
 | a1 f u =>
  obtain ⟨a, b, c, e⟩ := hs
  by_cases hm : M.W 33 = u
  ·simp only [step, if_pos hm]
   have := put_T { x with ser := u + 1 } x (upd M.W 33 (u + 1)) f (P.acq (P.pol x.pol) f.cell (u + 1)).2 (P.acq (P.pol x.pol) f.cell (u + 1)).1
   rw [st_hi a (by omega)] at this
   have e2 : T x M.W (.a1 f u) = 4 + st M.W f := by simp only [T, if_pos hm]
   rw [e2]
   show T { x with ser := u + 1 } (upd M.W 33 (u + 1)) (put x f _ _) + 1 ≤ _
   omega
  ·simp only [step, if_neg hm, T]; omega
 | p0 f c r =>
  by_cases e : M.W 32 = P.room
  ·simp [step, if_pos e] at hr
  ·simp only [step, if_neg e, T, if_true]; omega
 | p1 f c r u =>
  obtain ⟨a, b, e, g⟩ := hs
  by_cases hm : M.W 32 = u
  ·simp only [step, if_pos hm, T, b]
   show _ + st (upd M.W 32 (u + 1)) f + 1 ≤ _
   rw [st_hi a (by omega)]; simp; omega
  ·simp only [step, if_neg hm, T]; omega
 | pS f c r =>
  obtain ⟨a, g, k⟩ := hs
  by_cases hm : M.W f.w = f.v
  ·simp only [step, if_pos hm] at hr ⊢
   by_cases e : f.there = true
   ·simp only [if_pos e]
    have := leave_T x (M.set f.w (f.v + 1) (P.wth f.h f.at' f.there c)).W r
    have e2 : T x M.W (.pS f c r) = 3 + st M.W f := by simp only [T, if_pos e]
    rw [e2]
    show T x (M.set f.w (f.v + 1) (P.wth f.h f.at' f.there c)).W (leave x r).1 + 1 ≤ _
    omega
   ·simp [if_neg e, same] at hr
  ·simp only [step, if_neg hm, T, st, A, rst]
   have : ¬ (x.op = 2 ∧ x.ser = 0) := fun h => g h.1 h.2
   rw [if_neg this]
   split <;> split <;> omega
 | b0 n k => simp only [step, T, if_true]; omega
 | b1 n k u =>
  by_cases hm : M.W 32 = u
  ·have e2 : T x M.W (.b1 n k u) = 1 + Tk k := by simp only [T, if_pos hm]
   rw [e2]
   simp only [step, if_pos hm]
   have := after_T x (M.set 32 (u - n) []).W hs.2
   show T x (M.set 32 (u - n) []).W (after n k).1 + 1 ≤ _
   omega
  ·simp only [step, if_neg hm, T]; omega
 | e0 =>
  have hk : ((M.W 0 + 1) / 2).toNat ≤ 4 := by omega
  have : 2 ^ ((M.W 0 + 1) / 2).toNat ≤ 2 ^ 4 := Nat.pow_le_pow_right (by omega) hk
  show (if M.W 0 % 2 = 0 then 2 + 4 else 6 + 4) + 10 * (2 ^ ((M.W 0 + 1) / 2).toNat - 1 - 0) + 1 ≤ 161
  split <;> omega
 | eC j sh g w v m =>
  obtain ⟨a, b, c⟩ := hs
  simp only [step]
  split
  ·have := further_T x M.W (g := g) a
   show T x M.W (further j sh g).1 + 1 ≤ 4 + 10 * (sh - 1 - j)
   omega
  ·simp only [T]; omega
 | eS j sh g w v m n =>
  obtain ⟨a, b, c⟩ := hs
  by_cases hm : M.W w = v
  ·simp only [step, if_pos hm, T, Tk]; omega
  ·simp only [step, if_neg hm]
   have := further_T x M.W (g := g) a
   show T x M.W (further j sh g).1 + 1 ≤ 3 + 10 * (sh - 1 - j)
   omega
 | s0 =>
  by_cases h1 : M.W 0 % 2 = 1
  ·simp only [step, if_pos h1, T]
   have := U_le (lv := (M.W 0 / 2).toNat) (i := 0) (by omega)
   omega
  ·by_cases h2 : M.W 0 / 2 = 4
   ·simp [step, if_neg h1, if_pos h2] at hr
   ·simp only [step, if_neg h1, if_neg h2, T]
    rw [if_pos (by omega)]; omega
 | sM lv =>
  have := U_le (i := 0) hs
  by_cases hm : M.W 0 = 2 * lv
  ·simp only [step, if_pos hm, T]; omega
  ·simp only [step, if_neg hm, T]; omega
 | sF lv i =>
  obtain ⟨g1, g2⟩ := U_succ hs.2.1
  by_cases e : FZ ≤ M.W (2 ^ lv + i)
  ·simp only [step, if_pos e, T]; simp; omega
  ·simp only [step, if_neg e, T, if_true]; omega
 | sG lv i v m =>
  obtain ⟨g1, g2⟩ := U_succ hs.2.1
  by_cases hm : M.W (2 ^ lv + i) = v
  ·simp only [step, if_pos hm, T]; simp; omega
  ·simp only [step, if_neg hm, T]; omega
 | sH lv i up m =>
  obtain ⟨g1, g2⟩ := U_succ hs.2.1
  by_cases hm : M.W (upW lv i up) = 0
  ·simp only [step, if_pos hm, T]; split <;> omega
  ·simp only [step, if_neg hm]
   have := T_on (x := x) (W := M.W) (up := up) (h := m) hs.2.1
   show T x M.W (on lv i up m) + 1 ≤ U lv i - (if up then 4 else 2)
   cases up <;> simp at this ⊢ <;> omega
 | sL lv i up m =>
  obtain ⟨g1, g2⟩ := U_succ hs.2.1
  simp only [step]
  exact T_on (x := x) hs.2.1
 | sV lv => simp [step] at hr
end Core
end Go.Proofs.YtplpofmnhcclbaaGreat

namespace Go.Proofs.YtplpofmnhcclbaaGreat
namespace Core
open Dir (FZ plc upd upW Iw okW lowW upd_same upd_ne pow_pos2 plc_sh plc_low sh_32 sh_16 sh_inj word_sh sumN remW rem)
def Qk (x : X) : Nat := 70 + (if x.res = true then 0 else 14) + (if x.ser = 0 then 14 else 0)
def Qf (x : X) : Fc → Nat
 | .key => Qk x
 | .ev j sh _ => 84 * (sh - j)
def Qb : Bk → Nat
 | .lv _ => 0
 | .ev j sh _ => 14 + 84 * (sh - 1 - j)
def Q (x : X) : CS → Nat
 | .k0 f => Qf x f
 | .kE f _ => Qf x f
 | .kF f _ _ => Qf x f
 | .kG f _ _ _ _ => Qf x f
 | .kH f _ _ _ => Qf x f
 | .kL f _ _ _ => Qf x f
 | .al _ => Qk x
 | .a0 _ => Qk x
 | .a1 _ _ => Qk x
 | .p0 _ _ _ => Qk x
 | .p1 _ _ _ _ => Qk x
 | .pS _ _ _ => Qk x
 | .b0 _ k => Qb k
 | .b1 _ k _ => Qb k
 | .e0 => 1344
 | .eC j sh _ _ _ _ => 84 * (sh - j)
 | .eS j sh _ _ _ _ _ => 84 * (sh - j)
 | _ => 0
end Core
end Go.Proofs.YtplpofmnhcclbaaGreat

namespace Go.Proofs.YtplpofmnhcclbaaGreat
namespace Core
open Dir (FZ upd Iw sumN rem)
structure Wk where
 x : X
 s : CS
deriving Inhabited
structure Inv (M : Mc) (S : Nat → Wk) (B : Int) : Prop where
 iw : Iw M.W B
 b : 1 ≤ B
 c33 : 0 ≤ M.W 33
 cw : ∀ i, Cw (S i).x M.W (S i).s
 ser : ∀ i, 0 ≤ (S i).x.ser
def V (W : Nat → Int) (k : Wk) : Nat := match k.s with
 | .none => 1510
 | s => T k.x W s + Q k.x s
def left (M : Mc) (S : Nat → Wk) : Nat := sumN 8 (fun i => V M.W (S i)) + 70 * rem M.W
def nx (P : Ops) (M : Mc) (S : Nat → Wk) (i : Nat) : Nat → Wk := upd S i ⟨(step P M (S i).x (S i).s).x, (step P M (S i).x (S i).s).s⟩
def mx (P : Ops) (M : Mc) (S : Nat → Wk) (i : Nat) : Mc := (step P M (S i).x (S i).s).M
theorem step_ser {P : Ops} {M : Mc} {x : X} (h : 0 ≤ x.ser) {s : CS} (hs : Cw x M.W s) : 0 ≤ (step P M x s).x.ser := by
 cases s with
 | a1 f u =>
  simp only [step]; split
  ·have := hs.2.1; show 0 ≤ u + 1; omega
  ·exact h
 | p1 f c r u => simp only [step]; split <;> exact h
 | _ => (first | exact h | (simp only [step]; split <;> exact h) | (simp only [step]; split <;> (try split) <;> exact h))
theorem step_33 {P : Ops} {M : Mc} {B : Int} (h : Iw M.W B) (hB : 1 ≤ B ∧ B + 1 < FZ) {x : X} (hx : 0 ≤ x.ser) (h33 : 0 ≤ M.W 33) {s : CS} (hs : Cw x M.W s) : 0 ≤ (step P M x s).M.W 33 := by
 cases (step_ok (P := P) h hB hx h33 hs).chg with
 | no h => rw [h]; exact h33
 | d h1 h2 => rw [h1, Dir.upd_ne _ _ (by omega)]; exact h33
 | fz w h0 h1 h2 => rw [h2, Dir.upd_ne _ _ (by omega)]; exact h33
 | lay w h0 h1 h2 => rw [h2, Dir.upd_ne _ _ (by omega)]; exact h33
 | key w h0 h1 h2 => rw [h2, Dir.upd_ne _ _ (by omega)]; exact h33
 | cnt y h2 => rw [h2, Dir.upd_ne _ _ (by omega)]; exact h33
 | ser h1 h2 => rw [h2, Dir.upd_same]; omega
theorem Inv.step {P : Ops} {M : Mc} {S : Nat → Wk} {B : Int} (h : Inv M S B) (hB : B + 1 < FZ) (i : Nat) : Inv (mx P M S i) (nx P M S i) (B + 1) := by
 have ho := step_ok (P := P) h.iw ⟨h.b, hB⟩ (h.ser i) h.c33 (h.cw i)
 refine ⟨ho.iw, by have := h.b; omega, step_33 h.iw ⟨h.b, hB⟩ (h.ser i) h.c33 (h.cw i), fun j => ?_, fun j => ?_⟩
 ·by_cases e : j = i
  ·subst e; unfold nx; rw [Dir.upd_same]; exact ho.cw
  ·unfold nx; rw [Dir.upd_ne _ _ e]; exact ho.gr.cw (h.cw j)
 ·by_cases e : j = i
  ·subst e; unfold nx; rw [Dir.upd_same]; exact step_ser (h.ser j) (h.cw j)
  ·unfold nx; rw [Dir.upd_ne _ _ e]; exact h.ser j
theorem Inv.start {M : Mc} {S : Nat → Wk} {B : Int} (h : Inv M S B) (i : Nat) {k : Wk} (hc : Cw k.x M.W k.s) (hs : 0 ≤ k.x.ser) : Inv M (upd S i k) B := by
 refine ⟨h.iw, h.b, h.c33, fun j => ?_, fun j => ?_⟩
 ·by_cases e : j = i
  ·subst e; rw [Dir.upd_same]; exact hc
  ·rw [Dir.upd_ne _ _ e]; exact h.cw j
 ·by_cases e : j = i
  ·subst e; rw [Dir.upd_same]; exact hs
  ·rw [Dir.upd_ne _ _ e]; exact h.ser j
theorem step_some {P : Ops} {M : Mc} {x : X} {s : CS} (hn : s ≠ .none) (hr : (Core.step P M x s).r.done = false) : (Core.step P M x s).s ≠ .none := by
 have hle : ∀ r, (leave x r).2.done = false → (leave x r).1 ≠ .none := fun r h => by unfold leave at h ⊢; split at h <;> simp_all
 have hput : ∀ f c r, put x f c r ≠ .none := fun f c r => by unfold put; split <;> simp
 have hfu : ∀ j sh g, (further j sh g).2.done = false → (further j sh g).1 ≠ .none := fun j sh g h => by unfold further at h ⊢; split at h <;> simp_all
 have hfk : ∀ f, (foundK P x f).2.done = false → (foundK P x f).1 ≠ .none := fun f h => by
  unfold foundK at h ⊢
  by_cases h1 : x.op = 1
  ·rw [if_pos h1]; simp
  rw [if_neg h1] at h ⊢
  by_cases h2 : x.op = 2
  ·rw [if_pos h2] at h ⊢
   by_cases h3 : (f.cell.held.length : Int) = (P.pol x.pol).permits
   ·rw [if_pos h3] at h ⊢; exact hle _ h
   rw [if_neg h3] at h ⊢
   by_cases h4 : 0 < x.ser
   ·rw [if_pos h4]; exact hput _ _ _
   ·rw [if_neg h4]; simp
  rw [if_neg h2] at h ⊢
  by_cases h5 : x.op = 3
  ·rw [if_pos h5] at h ⊢
   by_cases h6 : (P.rel (P.pol x.pol) f.cell x.n).1.e = 0
   ·rw [if_pos h6]; exact hput _ _ _
   ·rw [if_neg h6] at h; simp at h
  rw [if_neg h5] at h ⊢
  by_cases h7 : (P.pol x.pol).kind = 2
  ·rw [if_pos h7] at h; simp at h
  ·rw [if_neg h7]; simp
 have hen : ∀ f w v hh, (entered P x f w v hh).2.done = false → (entered P x f w v hh).1 ≠ .none := fun f w v hh h => by
  unfold entered at h ⊢
  split at h
  ·rename_i e; rw [if_pos e]; simp
  ·rename_i e; rw [if_neg e]
   cases f with
   | key => exact hfk _ h
   | ev j sh g =>
    simp only [found] at h ⊢
    split at h
    ·rename_i e; rw [if_pos e]; exact hfu _ _ _ h
    ·rename_i e; rw [if_neg e]; simp
 have hmv : ∀ lv i, move lv i ≠ .none := fun lv i => by unfold move; split <;> simp
 have hon : ∀ lv i up hh, on lv i up hh ≠ .none := fun lv i up hh => by unfold on; split; exact hmv _ _; simp
 cases s with
 | none => exact absurd rfl hn
 | k0 f => simp only [Core.step]; split <;> simp
 | kE f w => exact hen _ _ _ _ hr
 | kF f lv w => simp only [Core.step]; split <;> simp [toH]
 | kG f lv w v m => simp only [Core.step]; split <;> simp [toH]
 | kH f lv w m =>
  by_cases e : M.W w = 0
  ·simp only [Core.step, if_pos e]; simp
  ·simp only [Core.step, if_neg e] at hr ⊢; exact hen _ _ _ _ hr
 | kL f lv w m => simp [Core.step]
 | al f =>
  simp only [Core.step] at hr ⊢
  split at hr <;> rename_i e
  ·rw [if_pos e]; exact hle _ hr
  ·rw [if_neg e]; exact hput _ _ _
 | pk c => simp [Core.step] at hr
 | a0 f =>
  simp only [Core.step] at hr ⊢
  split at hr <;> rename_i e
  ·rw [if_pos e]; exact hle _ hr
  ·rw [if_neg e]; simp
 | a1 f u =>
  simp only [Core.step]
  split
  ·exact hput _ _ _
  ·simp
 | p0 f c r =>
  simp only [Core.step] at hr ⊢
  split at hr <;> rename_i e
  ·simp at hr
  ·rw [if_neg e]; simp
 | p1 f c r u => simp only [Core.step]; split <;> simp
 | pS f c r =>
  simp only [Core.step] at hr ⊢
  split at hr <;> rename_i e
  ·rw [if_pos e]
   simp only [same] at hr ⊢
   split at hr <;> rename_i e2
   ·rw [if_pos e2]; exact hle _ hr
   ·simp at hr
  ·rw [if_neg e]; simp
 | b0 n k => simp [Core.step]
 | b1 n k u =>
  simp only [Core.step] at hr ⊢
  split at hr <;> rename_i e
  ·rw [if_pos e]
   cases k with
   | lv r => simp [same, after] at hr
   | ev j sh g => exact hfu _ _ _ hr
  ·rw [if_neg e]; simp
 | e0 => simp [Core.step]
 | eC j sh g w v m =>
  simp only [Core.step] at hr ⊢
  split at hr <;> rename_i e
  ·rw [if_pos e]; exact hfu _ _ _ hr
  ·rw [if_neg e]; simp
 | eS j sh g w v m n =>
  simp only [Core.step] at hr ⊢
  split at hr <;> rename_i e
  ·rw [if_pos e]; simp
  ·rw [if_neg e]; exact hfu _ _ _ hr
 | s0 =>
  simp only [Core.step] at hr ⊢
  split at hr <;> rename_i e
  ·rw [if_pos e]; simp
  ·rw [if_neg e]
   split at hr <;> rename_i e2
   ·simp at hr
   ·rw [if_neg e2]; simp
 | sM lv => simp only [Core.step]; split <;> simp
 | sF lv i => simp only [Core.step]; split <;> simp
 | sG lv i v m => simp only [Core.step]; split <;> simp
 | sH lv i up m =>
  simp only [Core.step]; split
  ·simp
  ·exact hon _ _ _ _
 | sL lv i up m => exact hon _ _ _ _
 | sV lv => simp [Core.step] at hr
end Core
end Go.Proofs.YtplpofmnhcclbaaGreat

namespace Go.Proofs.YtplpofmnhcclbaaGreat
namespace Core
open Dir (FZ upd upd_same upd_ne)
variable {P : Ops}
structure OpsSer (P : Ops) : Prop where
 allow : ∀ p c t n, (P.allow p c t n).1.serial = 0
 rel : ∀ p c n, (P.rel p c n).1.serial = 0
 peek : ∀ p c t, (P.peek p c t).serial = 0
 acq : ∀ p c n, (P.acq p c n).1.serial ≠ 0 → (P.acq p c n).1.serial = n ∧ (P.acq p c n).1.g = true
def Rp (x : X) (r : Rpl) : Prop := r.serial ≠ 0 → r.serial = x.ser ∧ r.g = true
def Sb (x : X) : Bk → Prop
 | .lv r => Rp x r
 | .ev _ _ _ => True
def Sr (x : X) : CS → Prop
 | .p0 _ _ r => Rp x r
 | .p1 _ _ r _ => Rp x r
 | .pS _ _ r => Rp x r
 | .b0 _ k => Sb x k
 | .b1 _ k _ => Sb x k
 | _ => True
theorem Rp.zero {x : X} {r : Rpl} (h : r.serial = 0) : Rp x r := fun e => absurd h e
def So (x : X) (p : CS × Rs) : Prop := Sr x p.1 ∧ Rp x p.2.r
theorem r0_rp (x : X) : Rp x r0.r := .zero rfl
theorem leave_so {x : X} {r : Rpl} (h : Rp x r) : So x (leave x r) := by
 unfold leave; split
 ·exact ⟨h, r0_rp x⟩
 ·exact ⟨trivial, h⟩
theorem put_sr {x y : X} {f : Fd} {c : Cel} {r : Rpl} (h : Rp x r) : Sr x (put y f c r) := by unfold put; split <;> exact h
theorem further_so (x : X) (j sh : Nat) (g : Int) : So x (further j sh g) := by
 unfold further; split
 ·exact ⟨trivial, .zero rfl⟩
 ·exact ⟨trivial, .zero rfl⟩
theorem foundK_so (hP : OpsSer P) (x : X) (f : Fd) : So x (foundK P x f) := by
 unfold foundK
 split
 ·exact ⟨trivial, r0_rp x⟩
 ·split
  ·split
   ·exact leave_so (.zero rfl)
   ·split
    ·exact ⟨put_sr (hP.acq _ _ _), r0_rp x⟩
    ·exact ⟨trivial, r0_rp x⟩
  ·split
   ·split
    ·exact ⟨put_sr (.zero (hP.rel _ _ _)), r0_rp x⟩
    ·exact ⟨trivial, .zero (hP.rel _ _ _)⟩
   ·split
    ·exact ⟨trivial, .zero (hP.peek _ _ _)⟩
    ·exact ⟨trivial, r0_rp x⟩
theorem entered_so (hP : OpsSer P) (x : X) (f : Fc) (w : Nat) (v : Int) (h : List Cel) : So x (entered P x f w v h) := by
 unfold entered
 split
 ·exact ⟨trivial, r0_rp x⟩
 ·unfold found
  cases f with
  | key => exact foundK_so hP _ _
  | ev j sh g =>
   dsimp only; split
   ·exact further_so _ _ _ _
   ·exact ⟨trivial, r0_rp x⟩
theorem on_sr (x : X) (lv i : Nat) (up : Bool) (m : List Cel) : Sr x (on lv i up m) := by
 unfold on move; (repeat' split) <;> trivial
theorem step_sr (hP : OpsSer P) {M : Mc} {x : X} {s : CS} (h : Sr x s) : Sr (Core.step P M x s).x (Core.step P M x s).s ∧ Rp (Core.step P M x s).x (Core.step P M x s).r.r := by
 have r0r := r0_rp x
 cases s with
 | none => exact ⟨trivial, r0r⟩
 | k0 f => simp only [step]; split <;> exact ⟨trivial, r0r⟩
 | kE f w => exact entered_so hP _ _ _ _ _
 | kF f lv w => simp only [step]; split <;> exact ⟨trivial, r0r⟩
 | kG f lv w v m => simp only [step]; split <;> exact ⟨trivial, r0r⟩
 | kH f lv w m =>
  simp only [step]; split
  ·exact ⟨trivial, r0r⟩
  ·exact entered_so hP _ _ _ _ _
 | kL f lv w m => exact ⟨trivial, r0r⟩
 | al f =>
  simp only [step]; split
  ·exact leave_so (.zero (hP.allow _ _ _ _))
  ·exact ⟨put_sr (.zero (hP.allow _ _ _ _)), r0r⟩
 | pk c => exact ⟨trivial, .zero (hP.peek _ _ _)⟩
 | a0 f =>
  simp only [step]; split
  ·exact leave_so (.zero rfl)
  ·exact ⟨trivial, r0r⟩
 | a1 f u =>
  simp only [step]; split
  ·exact ⟨put_sr (x := { x with ser := u + 1 }) (hP.acq _ _ _), .zero rfl⟩
  ·exact ⟨trivial, r0r⟩
 | p0 f c r =>
  simp only [step]; split
  ·exact ⟨trivial, .zero rfl⟩
  ·exact ⟨h, r0r⟩
 | p1 f c r u =>
  simp only [step]; split
  ·exact ⟨h, .zero rfl⟩
  ·exact ⟨h, r0r⟩
 | pS f c r =>
  simp only [step]; split
  ·show So x (if _ then _ else _ : CS × Rs)
   split
   ·exact leave_so h
   ·exact ⟨trivial, h⟩
  ·exact ⟨trivial, r0r⟩
 | b0 n k => exact ⟨h, r0r⟩
 | b1 n k u =>
  simp only [step]; split
  ·show So x (after n k)
   cases k with
   | lv r => exact ⟨trivial, h⟩
   | ev j sh g => exact further_so _ _ _ _
  ·exact ⟨h, r0r⟩
 | e0 => exact ⟨trivial, r0r⟩
 | eC j sh g w v m =>
  simp only [step]; split
  ·exact further_so _ _ _ _
  ·exact ⟨trivial, r0r⟩
 | eS j sh g w v m n =>
  simp only [step]; split
  ·exact ⟨trivial, r0r⟩
  ·exact further_so _ _ _ _
 | s0 =>
  simp only [step]; split
  ·exact ⟨trivial, r0r⟩
  ·split
   ·exact ⟨trivial, .zero rfl⟩
   ·exact ⟨trivial, r0r⟩
 | sM lv => simp only [step]; split <;> exact ⟨trivial, r0r⟩
 | sF lv i => simp only [step]; split <;> exact ⟨trivial, r0r⟩
 | sG lv i v m => simp only [step]; split <;> exact ⟨trivial, r0r⟩
 | sH lv i up m =>
  simp only [step]; split
  ·exact ⟨trivial, r0r⟩
  ·exact ⟨on_sr _ _ _ _ _, r0r⟩
 | sL lv i up m => exact ⟨on_sr _ _ _ _ _, r0r⟩
 | sV lv => exact ⟨trivial, .zero rfl⟩
theorem step_ser33 {M : Mc} {B : Int} (h : Dir.Iw M.W B) (hB : 1 ≤ B ∧ B + 1 < FZ) {x : X} (hx : 0 ≤ x.ser) (h33 : 0 ≤ M.W 33) {s : CS} (hs : Cw x M.W s) :
  ((Core.step P M x s).M.W 33 = M.W 33 ∧ (Core.step P M x s).x.ser = x.ser) ∨
  ((Core.step P M x s).M.W 33 = M.W 33 + 1 ∧ (Core.step P M x s).x.ser = M.W 33 + 1 ∧ x.ser = 0 ∧ (Core.step P M x s).r.done = false) := by
 by_cases hk : kd s = 3
 ·cases s with
  | a1 f u =>
   by_cases hm : M.W 33 = u
   ·right
    simp only [step, if_pos hm]
    exact ⟨by show upd M.W 33 (u + 1) 33 = _; rw [upd_same, hm], by rw [hm], hs.2.2.2, rfl⟩
   ·left; simp only [step, if_neg hm]; exact ⟨trivial, trivial⟩
  | _ => exact absurd hk (by simp [kd])
 ·left
  constructor
  ·cases (step_ok (P := P) h hB hx h33 hs).chg with
   | no h => rw [h]
   | d h1 h2 => rw [h1, upd_ne _ _ (by omega)]
   | fz w h0 h1 h2 => rw [h2, upd_ne _ _ (by omega)]
   | lay w h0 h1 h2 => rw [h2, upd_ne _ _ (by omega)]
   | key w h0 h1 h2 => rw [h2, upd_ne _ _ (by omega)]
   | cnt y h2 => rw [h2, upd_ne _ _ (by omega)]
   | ser h1 h2 h3 => exact absurd h3 hk
  ·cases s with
   | a1 f u => exact absurd rfl hk
   | _ => (first | rfl | (simp only [step]; split <;> rfl) | (simp only [step]; split <;> (try split) <;> rfl))
end Core
end Go.Proofs.YtplpofmnhcclbaaGreat

namespace Go.Proofs.YtplpofmnhcclbaaGreat
namespace Hm
open Dir (FZ plc upd upW Iw okW lowW upd_same upd_ne pow_pos2 plc_sh plc_low sh_lt sh_32 sh_16 sh_inj word_sh Cw.gone)
def home (W : Nat → Int) (s : Int) : Nat :=
 if W 0 % 2 = 0 ∨ W (plc (W 0 / 2).toNat s) < FZ ∨ W (plc ((W 0 / 2).toNat + 1) s) = 0 then plc (W 0 / 2).toNat s else plc ((W 0 / 2).toNat + 1) s
theorem plc_pos (lv : Nat) (s : Int) : 1 ≤ plc lv s := by have := pow_pos2 lv; unfold plc; omega
theorem plc_ne (lv : Nat) (s t : Int) : plc lv s ≠ plc (lv + 1) t := by
 obtain ⟨i, h1, h2⟩ := plc_sh lv s
 obtain ⟨j, h3, h4⟩ := plc_sh (lv + 1) t
 intro e; rw [h2, h4] at e
 have := sh_inj h1 h3 e; omega
theorem home_congr {W W' : Nat → Int} (h0 : W' 0 = W 0) (h : ∀ p, 1 ≤ p → (W' p < FZ ↔ W p < FZ) ∧ (W' p = 0 ↔ W p = 0)) (s : Int) : home W' s = home W s := by
 unfold home
 simp only [h0, (h _ (plc_pos _ s)).1, (h _ (plc_pos _ s)).2]
theorem iw_plc {W : Nat → Int} {B : Int} (h : Iw W B) {lv : Nat} (hl : lv ≤ 4) (s : Int) : okW (W 0) lv (W (plc lv s)) (W (plc (lv - 1) s)) B ∨ lv = 0 ∧ okW (W 0) lv (W (Dir.plc lv s)) (W (Dir.plc 0 s)) B := by
 obtain ⟨i, h1, h2⟩ := plc_sh lv s
 have ho := h.sh hl h1
 rcases Nat.eq_zero_or_pos lv with e | e
 ·subst e
  obtain rfl : i = 0 := by simp at h1; omega
  have hp : Dir.plc 0 s = 1 := by rw [h2]
  right; refine ⟨rfl, ?_⟩
  rw [hp]; exact ho
 ·left
  have h3 := plc_low (lv - 1) s
  rw [Nat.sub_add_cancel e, h2, Nat.add_sub_cancel_left] at h3
  unfold lowW at ho
  rw [h3, ← h2] at ho
  exact ho
theorem iw_at0 {W : Nat → Int} {B : Int} (h : Iw W B) {lv : Nat} (hl : lv ≤ 4) (s : Int) : ∃ low, okW (W 0) lv (W (Dir.plc lv s)) low B := by
 rcases iw_plc h hl s with h | ⟨_, h⟩ <;> exact ⟨_, h⟩
theorem iw_at1 {W : Nat → Int} {B : Int} (h : Iw W B) {lv : Nat} (hl : lv ≤ 3) (s : Int) : okW (W 0) (lv + 1) (W (Dir.plc (lv + 1) s)) (W (Dir.plc lv s)) B := by
 rcases iw_plc h (lv := lv + 1) (by omega) s with h | ⟨h, _⟩
 ·exact h
 ·omega
theorem home_live {W : Nat → Int} {B : Int} (h : Iw W B) {lv : Nat} (hl : lv ≤ 4) {s : Int} (hv : 0 < W (plc lv s) ∧ W (plc lv s) < FZ) : home W s = plc lv s := by
 obtain ⟨low, ho⟩ := iw_at0 h hl s
 have hd := h.d
 unfold home
 by_cases e1 : W 0 = 2 * lv
 ·rw [if_pos (.inl (by omega)), show (W 0 / 2).toNat = lv by omega]
 ·by_cases e2 : W 0 = 2 * lv + 1
  ·rw [show (W 0 / 2).toNat = lv by omega, if_pos (.inr (.inl hv.2))]
  ·have e3 : W 0 + 1 = 2 * lv := by unfold okW at ho; omega
   obtain ⟨l, rfl⟩ : ∃ l, lv = l + 1 := ⟨lv - 1, by omega⟩
   have ho1 := iw_at1 h (by omega : l ≤ 3) s
   rw [show (W 0 / 2).toNat = l by omega]
   rw [if_neg]
   unfold okW at ho1; omega
theorem home_freeze {W : Nat → Int} {B : Int} (h : Iw W B) {lv i : Nat} (hl : lv ≤ 3) (hi : i < 2 ^ lv) (hd : W 0 = 2 * lv + 1) (hv : 0 < W (2 ^ lv + i) ∧ W (2 ^ lv + i) < FZ) (s : Int) :
  home (upd W (2 ^ lv + i) (W (2 ^ lv + i) + FZ)) s = home W s := by
 have hw := sh_16 hl hi
 have e0 : upd W (2 ^ lv + i) (W (2 ^ lv + i) + FZ) 0 = W 0 := upd_ne _ _ (by omega)
 have ho1 := iw_at1 h hl s
 unfold home
 rw [e0, show (W 0 / 2).toNat = lv by omega]
 by_cases e : plc lv s = 2 ^ lv + i
 ·have e1 : plc (lv + 1) s ≠ 2 ^ lv + i := by rw [← e]; exact (plc_ne lv s s).symm
  have hz : W (plc (lv + 1) s) = 0 := by
   rw [e] at ho1
   unfold okW at ho1; omega
  rw [if_pos (.inr (.inr (by rw [upd_ne _ _ e1]; exact hz))), if_pos (.inr (.inr hz))]
 ·rw [upd_ne _ _ e]
  by_cases e1 : plc (lv + 1) s = 2 ^ lv + i
  ·exfalso
   obtain ⟨j, h3, h4⟩ := plc_sh (lv + 1) s
   rw [h4] at e1
   have := sh_inj h3 hi e1; omega
  ·rw [upd_ne _ _ e1]
theorem home_lay {W : Nat → Int} {B : Int} (h : Iw W B) {lv i : Nat} (hl : lv ≤ 3) (hi : i < 2 ^ (lv + 1)) (hd : 2 * (lv : Int) + 1 ≤ W 0) (hz : W (2 ^ (lv + 1) + i) = 0) (hlow : FZ ≤ W (2 ^ lv + i % 2 ^ lv)) (s : Int) :
  (plc (lv + 1) s = 2 ^ (lv + 1) + i → home W s = 2 ^ lv + i % 2 ^ lv ∧ home (upd W (2 ^ (lv + 1) + i) 1) s = 2 ^ (lv + 1) + i) ∧
  (plc (lv + 1) s ≠ 2 ^ (lv + 1) + i → home (upd W (2 ^ (lv + 1) + i) 1) s = home W s ∧ home W s ≠ 2 ^ (lv + 1) + i) := by
 have hw := sh_32 (by omega : lv + 1 ≤ 4) hi
 have ho := h.sh (by omega : lv + 1 ≤ 4) hi
 have hD : W 0 = 2 * lv + 1 := by
  have hF : FZ = 4611686018427387904 := rfl
  rw [hz] at ho; unfold okW at ho; omega
 have e0 : upd W (2 ^ (lv + 1) + i) 1 0 = W 0 := upd_ne _ _ (by omega)
 have hp : plc lv s ≠ 2 ^ (lv + 1) + i := fun e => by
  obtain ⟨j, h3, h4⟩ := plc_sh lv s
  rw [h4] at e
  have := sh_inj h3 hi e; omega
 unfold home
 rw [e0, show (W 0 / 2).toNat = lv by omega, upd_ne _ _ hp]
 constructor
 ·intro e
  have h3 := plc_low lv s
  rw [e, Nat.add_sub_cancel_left] at h3
  rw [e, upd_same, if_pos (.inr (.inr hz)), if_neg (by rw [← h3]; have hF : FZ = 4611686018427387904 := rfl; omega)]
  exact ⟨h3.symm, rfl⟩
 ·intro e
  rw [upd_ne _ _ e]
  refine ⟨rfl, ?_⟩
  split
  ·exact hp
  ·exact e
theorem home_begin {W : Nat → Int} {B : Int} (h : Iw W B) {k : Nat} (hk : k ≤ 3) (e : W 0 = 2 * k) (s : Int) : home (upd W 0 (2 * k + 1)) s = home W s := by
 obtain ⟨low, ho⟩ := iw_at0 h (by omega : k ≤ 4) s
 have hp := plc_pos k s
 unfold home
 have hx : W (plc k s) < FZ := by unfold okW at ho; omega
 rw [upd_same, show ((2 * (k : Int) + 1) / 2).toNat = k by omega, show (W 0 / 2).toNat = k by omega, if_pos (.inr (.inl (by rw [upd_ne _ _ (by omega)]; exact hx))), if_pos (.inl (by omega : W 0 % 2 = 0))]
theorem home_fin {W : Nat → Int} {k : Nat} (e : W 0 = 2 * k + 1) (hg : Cw.gone W k (2 ^ k)) (s : Int) : home (upd W 0 (2 * k + 2)) s = home W s := by
 unfold home
 rw [upd_same, show ((2 * (k : Int) + 2) / 2).toNat = k + 1 by omega, show (W 0 / 2).toNat = k by omega, if_pos (.inl (by omega : (2 * (k : Int) + 2) % 2 = 0)), if_neg]
 obtain ⟨i, h1, h2⟩ := plc_sh k s
 have g := hg i h1
 have hq : W (plc (k + 1) s) ≠ 0 := by
  obtain ⟨j, h3, h4⟩ := plc_sh (k + 1) s
  rw [h4]
  by_cases hlt : j < 2 ^ k
  ·exact (hg j hlt).2.1
  ·have hj : j - 2 ^ k < 2 ^ k := by rw [Nat.pow_succ] at h3; omega
   have := (hg _ hj).2.2
   rwa [Nat.sub_add_cancel (by omega)] at this
 rw [h2]
 omega
end Hm
end Go.Proofs.YtplpofmnhcclbaaGreat

namespace Go.Proofs.YtplpofmnhcclbaaGreat
open Go.RowKit
theorem cmpI_self : ∀ a : List Int, cmpI a a = 0
 | [] => rfl
 | x :: r => by simp only [cmpI]; rw [if_neg (by omega), if_neg (by omega)]; exact cmpI_self r
theorem cmpI_eq : ∀ {a b : List Int}, cmpI a b = 0 → a = b
 | [], [], _ => rfl
 | [], _ :: _, h => by simp [cmpI] at h
 | _ :: _, [], h => by simp [cmpI] at h
 | x :: a, y :: b, h => by
  simp only [cmpI] at h
  split at h
  ·omega
  ·split at h
   ·omega
   ·rw [cmpI_eq h, show x = y by omega]
theorem cmpI_swap : ∀ a b : List Int, cmpI b a = - cmpI a b
 | [], [] => rfl
 | [], _ :: _ => rfl
 | _ :: _, [] => rfl
 | x :: a, y :: b => by
  simp only [cmpI]
  by_cases h1 : x < y
  ·rw [if_neg (by omega), if_pos h1, if_pos h1]; rfl
  ·by_cases h2 : y < x
   ·rw [if_pos h2, if_neg h1, if_pos h2]
   ·rw [if_neg h2, if_neg h1, if_neg h1, if_neg h2]; exact cmpI_swap a b
theorem cmpI_trans : ∀ {a b c : List Int}, cmpI a b < 0 → cmpI b c < 0 → cmpI a c < 0
 | [], [], _, h, _ => by simp [cmpI] at h
 | [], _ :: _, [], _, h => by simp [cmpI] at h
 | [], _ :: _, _ :: _, _, _ => by simp [cmpI]
 | _ :: _, [], _, h, _ => by simp [cmpI] at h
 | _ :: _, _ :: _, [], _, h => by simp [cmpI] at h
 | x :: a, y :: b, z :: c, h1, h2 => by
  simp only [cmpI] at h1 h2 ⊢
  by_cases e1 : x < y
  ·by_cases e2 : y < z
   ·rw [if_pos (by omega)]; omega
   ·by_cases e3 : z < y
    ·rw [if_neg e2, if_pos e3] at h2; omega
    ·rw [if_pos (by omega)]; omega
  ·by_cases e2 : y < x
   ·rw [if_neg e1, if_pos e2] at h1; omega
   ·rw [if_neg e1, if_neg e2] at h1
    by_cases e3 : y < z
    ·rw [if_pos (by omega)]; omega
    ·by_cases e4 : z < y
     ·rw [if_neg e3, if_pos e4] at h2; omega
     ·rw [if_neg e3, if_neg e4] at h2
      rw [if_neg (by omega), if_neg (by omega)]
      exact cmpI_trans h1 h2
def idn (c : Cel) : List Int := c.pol :: c.key
def okId (pol : Int) (key : List Int) : Prop := 0 ≤ pol ∧ pol < 32 ∧ key.length ≤ 255
theorem identL_ok {pol : Int} {key : List Int} (h : okId pol key) : identL pol key = pol :: key := by
 obtain ⟨h1, h2, h3⟩ := h
 rw [identL, if_pos (by rw [identE, if_neg (by omega), if_neg (by omega)])]
theorem ordC_id {a b : Cel} (ha : okId a.pol a.key) (hb : okId b.pol b.key) : ordC a b = cmpI (idn a) (idn b) := by
 rw [ordC, identL_ok ha, identL_ok hb]; rfl
theorem bsF_spec {lt : Nat → Bool} {n : Nat} (mono : ∀ i j, i ≤ j → j < n → lt j = true → lt i = true) : ∀ (q i j : Nat), i ≤ j → j ≤ n → j - i < q → (∀ k, k < i → lt k = true) → (∀ k, j ≤ k → k < n → lt k = false) →
  (∀ k, k < bsF lt q i j → lt k = true) ∧ ∀ k, bsF lt q i j ≤ k → k < n → lt k = false
 | 0, i, j, _, _, h, _, _ => by omega
 | q + 1, i, j, h1, h2, h3, h4, h5 => by
  unfold bsF
  by_cases hij : i < j
  ·rw [if_pos hij]
   by_cases hl : lt ((i + j) / 2) = true
   ·rw [if_pos hl]
    exact bsF_spec mono q _ _ (by omega) h2 (by omega) (fun k hk => mono k ((i + j) / 2) (by omega) (by omega) hl) h5
   ·rw [if_neg hl]
    refine bsF_spec mono q _ _ (by omega) (by omega) (by omega) h4 (fun k hk hkn => ?_)
    cases hlk : lt k with
    | false => rfl
    | true => exact absurd (mono _ k hk hkn hlk) hl
  ·rw [if_neg hij]
   exact ⟨h4, fun k hk hkn => h5 k (by omega) hkn⟩
theorem bs_spec {lt : Nat → Bool} {n : Nat} (mono : ∀ i j, i ≤ j → j < n → lt j = true → lt i = true) : (∀ k, k < bs lt n → lt k = true) ∧ ∀ k, bs lt n ≤ k → k < n → lt k = false :=
 bsF_spec mono (n + 1) 0 n (Nat.zero_le _) (Nat.le_refl _) (by omega) (fun k hk => by omega) (fun k hk hkn => by omega)
structure Srt (xs : List Cel) : Prop where
 ok : ∀ c ∈ xs, okId c.pol c.key
 lt : xs.Pairwise fun a b => cmpI (idn a) (idn b) < 0
theorem getD_mem {xs : List Cel} {k : Nat} (h : k < xs.length) : xs.getD k default ∈ xs := by
 rw [List.getD_eq_getElem?_getD, List.getElem?_eq_getElem h]; exact List.getElem_mem h
theorem getD_get {xs : List Cel} {k : Nat} (h : k < xs.length) : xs.getD k default = xs[k] := by
 rw [List.getD_eq_getElem?_getD, List.getElem?_eq_getElem h]; rfl
theorem Srt.at {xs : List Cel} (h : Srt xs) {i j : Nat} (hij : i < j) (hj : j < xs.length) : cmpI (idn (xs.getD i default)) (idn (xs.getD j default)) < 0 := by
 rw [getD_get hj, getD_get (show i < xs.length by omega)]
 exact List.pairwise_iff_getElem.1 h.lt i j (by omega) hj hij
theorem pos_spec {xs : List Cel} (h : Srt xs) {t : Cel} (ht : okId t.pol t.key) : posC xs t ≤ xs.length ∧ (∀ k, k < posC xs t → cmpI (idn (xs.getD k default)) (idn t) < 0) ∧ ∀ k, posC xs t ≤ k → k < xs.length → ¬ cmpI (idn (xs.getD k default)) (idn t) < 0 := by
 have hle : posC xs t ≤ xs.length := posC_le xs t
 have hord : ∀ k, k < xs.length → ordC (xs.getD k default) t = cmpI (idn (xs.getD k default)) (idn t) := fun k hk => ordC_id (h.ok _ (getD_mem hk)) ht
 have := bs_spec (lt := fun k => decide (ordC (xs.getD k default) t < 0)) (n := xs.length) (fun i j hij hj hlt => by
  simp only [decide_eq_true_eq] at hlt ⊢
  rw [hord j hj] at hlt
  rw [hord i (by omega)]
  by_cases e : i = j
  ·subst e; exact hlt
  ·exact cmpI_trans (h.at (by omega) hj) hlt)
 refine ⟨hle, fun k hk => ?_, fun k hk hkn => ?_⟩
 ·have := this.1 k hk
  simp only [decide_eq_true_eq] at this
  rw [hord k (by omega)] at this; exact this
 ·have := this.2 k hk hkn
  simp only [decide_eq_false_iff_not] at this
  rw [hord k hkn] at this; exact this
def look (xs : List Cel) (i : List Int) : Option Cel := xs.find? fun c => decide (idn c = i)
theorem look_mem {xs : List Cel} {i : List Int} {c : Cel} (h : look xs i = some c) : c ∈ xs ∧ idn c = i := by
 unfold look at h
 exact ⟨List.mem_of_find?_eq_some h, by simpa using List.find?_some h⟩
theorem Srt.uniq {xs : List Cel} (h : Srt xs) {a b : Cel} (ha : a ∈ xs) (hb : b ∈ xs) (e : idn a = idn b) : a = b := by
 obtain ⟨i, hi, rfl⟩ := List.getElem_of_mem ha
 obtain ⟨j, hj, rfl⟩ := List.getElem_of_mem hb
 have hp := List.pairwise_iff_getElem.1 h.lt
 rcases Nat.lt_trichotomy i j with hlt | rfl | hlt
 ·have := hp i j hi hj hlt; rw [e, cmpI_self] at this; omega
 ·rfl
 ·have := hp j i hj hi hlt; rw [e, cmpI_self] at this; omega
theorem Srt.look_of {xs : List Cel} (h : Srt xs) {c : Cel} (hc : c ∈ xs) : look xs (idn c) = some c := by
 cases hl : look xs (idn c) with
 | none => unfold look at hl; rw [List.find?_eq_none] at hl; exact absurd (by simp) (hl c hc)
 | some d => obtain ⟨h1, h2⟩ := look_mem hl; rw [h.uniq h1 hc h2]
theorem look_none {xs : List Cel} {i : List Int} : look xs i = none ↔ ∀ c ∈ xs, idn c ≠ i := by unfold look; rw [List.find?_eq_none]; simp
theorem has_look {xs : List Cel} (h : Srt xs) {t : Cel} (ht : okId t.pol t.key) : (hasC xs t = true → look xs (idn t) = some (xs.getD (posC xs t) default)) ∧ (hasC xs t = false → look xs (idn t) = none) := by
 obtain ⟨h1, h2, h3⟩ := pos_spec h ht
 constructor
 ·intro hh
  obtain ⟨p1, p2⟩ := (hasC_t _ _).1 hh
  rw [ordC_id (h.ok _ (getD_mem p1)) ht] at p2
  rw [← cmpI_eq p2]
  exact h.look_of (getD_mem p1)
 ·intro hh
  rw [look_none]
  intro c hc e
  obtain ⟨k, hk, rfl⟩ := List.getElem_of_mem hc
  rw [← getD_get hk] at e
  have h9 : ¬ k < posC xs t := fun hlt => by have := h2 k hlt; rw [e, cmpI_self] at this; omega
  by_cases hkp : k = posC xs t
  ·subst hkp
   have : hasC xs t = true := (hasC_t _ _).2 ⟨hk, by rw [ordC_id (h.ok _ (getD_mem hk)) ht, e, cmpI_self]⟩
   rw [this] at hh; cases hh
  ·have := h3 (posC xs t) (Nat.le_refl _) (by omega)
   have h8 := h.at (show posC xs t < k by omega) hk
   rw [e] at h8
   exact this h8
theorem has_iff {xs : List Cel} (h : Srt xs) {t : Cel} (ht : okId t.pol t.key) : hasC xs t = (look xs (idn t)).isSome := by
 obtain ⟨h1, h2⟩ := has_look h ht
 cases hh : hasC xs t with
 | true => rw [h1 hh]; rfl
 | false => rw [h2 hh]; rfl
theorem find_look {xs : List Cel} (h : Srt xs) {pol : Int} {key : List Int} (ht : okId pol key) : findC xs pol key = (look xs (pol :: key)).getD (newC pol key) := by
 obtain ⟨h1, h2⟩ := has_look h (t := newC pol key) ht
 unfold findC
 by_cases hh : hasC xs (newC pol key) = true
 ·rw [if_pos hh]; have := h1 hh; rw [show idn (newC pol key) = pol :: key from rfl] at this; rw [this]; rfl
 ·rw [if_neg hh]; have := h2 (by simpa using hh); rw [show idn (newC pol key) = pol :: key from rfl] at this; rw [this]; rfl
theorem look_iff {xs : List Cel} (h : Srt xs) {i : List Int} {d : Cel} : look xs i = some d ↔ d ∈ xs ∧ idn d = i :=
 ⟨look_mem, fun ⟨h1, h2⟩ => by rw [← h2]; exact h.look_of h1⟩
theorem opt_ext {α : Type} {a b : Option α} (h : ∀ d, a = some d ↔ b = some d) : a = b := by
 cases a with
 | none => cases b with
  | none => rfl
  | some d => have := (h d).2 rfl; cases this
 | some d => exact ((h d).1 rfl).symm
theorem Srt.ids {xs : List Cel} (h : Srt xs) : (xs.map idn).Pairwise fun a b => cmpI a b < 0 := by rw [List.pairwise_map]; exact h.lt
theorem set_mem {xs : List Cel} (h : Srt xs) {p : Nat} {c : Cel} (hp : p < xs.length) (e : idn (xs.getD p default) = idn c) (d : Cel) : d ∈ xs.set p c ↔ d = c ∨ (d ∈ xs ∧ idn d ≠ idn c) := by
 rw [getD_get hp] at e
 constructor
 ·intro hd
  obtain ⟨k, hk, rfl⟩ := List.getElem_of_mem hd
  rw [List.length_set] at hk
  rw [List.getElem_set]
  by_cases hkp : p = k
  ·rw [if_pos hkp]; exact Or.inl rfl
  ·rw [if_neg hkp]
   refine Or.inr ⟨List.getElem_mem hk, fun e2 => ?_⟩
   have hp2 := List.pairwise_iff_getElem.1 h.lt
   rw [← e] at e2
   rcases Nat.lt_or_gt_of_ne hkp with hlt | hlt
   ·have := hp2 p k hp hk hlt; rw [e2, cmpI_self] at this; omega
   ·have := hp2 k p hk hp hlt; rw [e2, cmpI_self] at this; omega
 ·rintro (rfl | ⟨h1, h2⟩)
  ·exact List.mem_set hp _
  ·obtain ⟨k, hk, rfl⟩ := List.getElem_of_mem h1
   have hkp : ¬ p = k := fun e2 => by subst e2; exact h2 e
   have : (xs.set p c)[k]'(by rw [List.length_set]; exact hk) = xs[k] := by rw [List.getElem_set, if_neg hkp]
   rw [← this]; exact List.getElem_mem _
theorem with_srt {xs : List Cel} (h : Srt xs) {t c : Cel} (hc : okId c.pol c.key) (e : idn c = idn t) :
  Srt (withC xs (posC xs t) (hasC xs t) c) ∧ (∀ d, d ∈ withC xs (posC xs t) (hasC xs t) c ↔ d = c ∨ (d ∈ xs ∧ idn d ≠ idn c)) ∧ (withC xs (posC xs t) (hasC xs t) c).length = if hasC xs t = true then xs.length else xs.length + 1 := by
 have ht : okId t.pol t.key := by
  have e1 : c.pol = t.pol := by have := e; simp only [idn, List.cons.injEq] at this; exact this.1
  have e2 : c.key = t.key := by have := e; simp only [idn, List.cons.injEq] at this; exact this.2
  rw [← e1, ← e2]; exact hc
 obtain ⟨h1, h2, h3⟩ := pos_spec h ht
 cases hh : hasC xs t with
 | true =>
  obtain ⟨p1, p2⟩ := (hasC_t _ _).1 hh
  rw [ordC_id (h.ok _ (getD_mem p1)) ht] at p2
  have p3 : idn (xs.getD (posC xs t) default) = idn c := by rw [cmpI_eq p2, e]
  have hm := set_mem h p1 p3
  simp only [withC, if_true]
  refine ⟨⟨fun d hd => ?_, ?_⟩, hm, List.length_set ..⟩
  ·rcases (hm d).1 hd with rfl | ⟨hd, _⟩
   ·exact hc
   ·exact h.ok d hd
  ·rw [← List.pairwise_map (f := idn) (R := fun a b => cmpI a b < 0), List.map_set, ← p3]
   have : (xs.map idn).set (posC xs t) (idn (xs.getD (posC xs t) default)) = xs.map idn := by
    rw [getD_get p1]
    have : idn xs[posC xs t] = (xs.map idn)[posC xs t]'(by simpa using p1) := by simp
    rw [this]; exact List.set_getElem_self _
   rw [this]; exact h.ids
 | false =>
  simp only [withC, Bool.false_eq_true, if_false]
  have hn := look_none.1 ((has_look h ht).2 hh)
  have hge : ∀ k, posC xs t ≤ k → k < xs.length → cmpI (idn c) (idn (xs.getD k default)) < 0 := fun k hk hkn => by
   have h9 := h3 k hk hkn
   have h8 := cmpI_swap (idn (xs.getD k default)) (idn t)
   rw [e, h8]
   have h7 : cmpI (idn (xs.getD k default)) (idn t) ≠ 0 := fun h0 => hn _ (getD_mem hkn) (cmpI_eq h0)
   omega
  have hm : ∀ d, d ∈ insAt xs (posC xs t) c ↔ d = c ∨ (d ∈ xs ∧ idn d ≠ idn c) := fun d => by
   have hx : d ∈ insAt xs (posC xs t) c ↔ d = c ∨ d ∈ xs := by
    unfold insAt
    rw [List.mem_append, List.mem_append, List.mem_singleton]
    constructor
    ·rintro ((h | h) | h)
     ·exact Or.inr (List.mem_of_mem_take h)
     ·exact Or.inl h
     ·exact Or.inr (List.mem_of_mem_drop h)
    ·rintro (h | h)
     ·exact Or.inl (Or.inr h)
     ·rw [← List.take_append_drop (posC xs t) xs] at h
      rcases List.mem_append.1 h with h | h
      ·exact Or.inl (Or.inl h)
      ·exact Or.inr h
   rw [hx]
   constructor
   ·rintro (h | h)
    ·exact Or.inl h
    ·exact Or.inr ⟨h, by rw [e]; exact hn d h⟩
   ·rintro (h | ⟨h, _⟩)
    ·exact Or.inl h
    ·exact Or.inr h
  refine ⟨⟨fun d hd => ?_, ?_⟩, hm, insAt_length _ _ _ h1⟩
  ·rcases (hm d).1 hd with rfl | ⟨hd, _⟩
   ·exact hc
   ·exact h.ok d hd
  ·unfold insAt
   rw [List.append_assoc, List.pairwise_append]
   have hpt : (xs.take (posC xs t)).Pairwise fun a b => cmpI (idn a) (idn b) < 0 := h.lt.sublist (List.take_sublist _ _)
   have hpd : (xs.drop (posC xs t)).Pairwise fun a b => cmpI (idn a) (idn b) < 0 := h.lt.sublist (List.drop_sublist _ _)
   have htl : ∀ a ∈ xs.take (posC xs t), cmpI (idn a) (idn c) < 0 := fun a ha => by
    obtain ⟨k, hk, rfl⟩ := List.getElem_of_mem ha
    rw [List.length_take] at hk
    rw [List.getElem_take, ← getD_get (show k < xs.length by omega), e]
    exact h2 k (by omega)
   have hdl : ∀ b ∈ xs.drop (posC xs t), cmpI (idn c) (idn b) < 0 := fun b hb => by
    obtain ⟨k, hk, rfl⟩ := List.getElem_of_mem hb
    rw [List.length_drop] at hk
    rw [List.getElem_drop, ← getD_get (show posC xs t + k < xs.length by omega)]
    exact hge _ (by omega) (by omega)
   refine ⟨hpt, ?_, fun a ha b hb => ?_⟩
   ·rw [List.singleton_append, List.pairwise_cons]; exact ⟨hdl, hpd⟩
   ·rw [List.singleton_append] at hb
    rcases List.mem_cons.1 hb with rfl | hb
    ·exact htl a ha
    ·exact cmpI_trans (htl a ha) (hdl b hb)
theorem with_look {xs : List Cel} (h : Srt xs) {t c : Cel} (hc : okId c.pol c.key) (e : idn c = idn t) (i : List Int) : look (withC xs (posC xs t) (hasC xs t) c) i = if i = idn c then some c else look xs i := by
 obtain ⟨h1, h2, _⟩ := with_srt h hc e
 refine opt_ext fun d => ?_
 rw [look_iff h1, h2]
 by_cases hi : i = idn c
 ·rw [if_pos hi]
  constructor
  ·rintro ⟨rfl | ⟨_, h4⟩, h5⟩
   ·rfl
   ·exact absurd (h5.trans hi) h4
  ·intro h; cases h; exact ⟨Or.inl rfl, hi.symm⟩
 ·rw [if_neg hi, look_iff h]
  constructor
  ·rintro ⟨rfl | ⟨h3, _⟩, h5⟩
   ·exact absurd h5.symm hi
   ·exact ⟨h3, h5⟩
  ·rintro ⟨h3, h5⟩; exact ⟨Or.inr ⟨h3, fun e2 => hi (h5.symm.trans e2)⟩, h5⟩
theorem Srt.filter {xs : List Cel} (h : Srt xs) (q : Cel → Bool) : Srt (xs.filter q) := ⟨fun c hc => h.ok c (List.mem_filter.1 hc).1, h.lt.filter _⟩
theorem filter_look {xs : List Cel} (h : Srt xs) (q : Cel → Bool) (i : List Int) : look (xs.filter q) i = (look xs i).filter q := by
 refine opt_ext fun d => ?_
 rw [look_iff (h.filter q), List.mem_filter, Option.filter_eq_some_iff, look_iff h]
 exact ⟨fun ⟨⟨a, b⟩, c⟩ => ⟨⟨a, c⟩, b⟩, fun ⟨⟨a, c⟩, b⟩ => ⟨⟨a, b⟩, c⟩⟩
end Go.Proofs.YtplpofmnhcclbaaGreat

namespace Go.Proofs.YtplpofmnhcclbaaGreat
namespace Core
open Dir (FZ plc upd upW Iw okW lowW upd_same upd_ne pow_pos2 plc_sh plc_low sh_32 sh_16 sh_inj word_sh)
open Hm (home plc_pos)
structure OpsOk (sm : List Int → Int) (P : Ops) : Prop where
 cut : ∀ h lv i, Srt h → Srt (P.cut h lv i) ∧ ∀ c, c ∈ P.cut h lv i ↔ c ∈ h ∧ sm (idn c) % 2 ^ lv = (i : Int)
 fnd : ∀ h pol key, Srt h → okId pol key → (P.fnd h pol key).2.1 = (look h (pol :: key)).isSome ∧ (P.fnd h pol key).2.2 = (look h (pol :: key)).getD ⟨pol, key, 0, []⟩
 wth : ∀ h pol key c, Srt h → okId pol key → idn c = pol :: key → Srt (P.wth h (P.fnd h pol key).1 (P.fnd h pol key).2.1 c) ∧
  ∀ i, look (P.wth h (P.fnd h pol key).1 (P.fnd h pol key).2.1 c) i = if i = pol :: key then some c else look h i
 allow : ∀ p c t n, idn (P.allow p c t n).2 = idn c
 acq : ∀ p c n, idn (P.acq p c n).2 = idn c
 rel : ∀ p c n, idn (P.rel p c n).2 = idn c
 rel0 : ∀ p c n, (P.rel p c n).1.e = 0 → c.held ≠ []
section
variable (sm : List Int → Int)
def Ih (M : Mc) : Prop := ∀ lv i, lv ≤ 4 → i < 2 ^ lv → Srt (M.Hd (2 ^ lv + i)) ∧ ∀ c ∈ M.Hd (2 ^ lv + i), sm (idn c) % 2 ^ lv = (i : Int)
def own (M : Mc) (k : List Int) : Option Cel := look (M.Hd (home M.W (sm k))) k
def K (x : X) : Prop := okId x.pol x.key ∧ x.sum = sm (x.pol :: x.key)
def KF (x : X) : Fc → Prop
 | .key => K sm x
 | .ev _ _ _ => True
structure Kd (P : Ops) (x : X) (M : Mc) (f : Fd) : Prop where
 k : K sm x
 lv : ∃ lv, lv ≤ 4 ∧ f.w = plc lv x.sum
 le : f.v ≤ M.W f.w
 hd : M.W f.w = f.v → M.Hd f.w = f.h
 srt : Srt f.h
 fd : f = fdOf P x f.w f.v f.h
def Kc (x : X) (c : Cel) : Prop := idn c = x.pol :: x.key
def Ch (P : Ops) (x : X) (M : Mc) : CS → Prop
 | .none => True
 | .k0 f => KF sm x f
 | .kE f w => KF sm x f ∧ ∃ lv, lv ≤ 4 ∧ w = plc lv (sumF x f)
 | .kF f _ _ => KF sm x f
 | .kG f _ w v h => KF sm x f ∧ v ≤ M.W w ∧ (M.W w = v → M.Hd w = h)
 | .kH f lv _ h => KF sm x f ∧ M.Hd (plc (lv - 1) (sumF x f)) = h
 | .kL f lv _ h => KF sm x f ∧ M.Hd (plc (lv - 1) (sumF x f)) = h
 | .al f => Kd sm P x M f
 | .pk c => K sm x ∧ Kc x c
 | .a0 f => Kd sm P x M f
 | .a1 f _ => Kd sm P x M f
 | .p0 f c _ => Kd sm P x M f ∧ Kc x c
 | .p1 f c _ _ => Kd sm P x M f ∧ Kc x c
 | .pS f c _ => Kd sm P x M f ∧ Kc x c
 | .b0 _ _ => True
 | .b1 _ _ _ => True
 | .e0 => True
 | .eC _ _ _ w v h => v ≤ M.W w ∧ (M.W w = v → M.Hd w = h) ∧ Srt h
 | .eS _ _ _ w v m n => v ≤ M.W w ∧ ∃ h t, Srt h ∧ (M.W w = v → M.Hd w = h) ∧ t ≤ M.clk ∧ m = rest P h t ∧ n = (h.length : Int) - m.length
 | .s0 => True
 | .sM _ => True
 | .sF _ _ => True
 | .sG lv i v h => v ≤ M.W (2 ^ lv + i) ∧ (M.W (2 ^ lv + i) = v → M.Hd (2 ^ lv + i) = h)
 | .sH lv i _ h => M.Hd (2 ^ lv + i) = h
 | .sL lv i _ h => M.Hd (2 ^ lv + i) = h
 | .sV _ => True
end
structure Mono (M M' : Mc) : Prop where
 le : ∀ w, w < 32 → M.W w ≤ M'.W w
 hd : ∀ w, 1 ≤ w → w < 32 → M'.W w = M.W w → M'.Hd w = M.Hd w
 fz : ∀ w, w < 32 → FZ ≤ M.W w → M'.W w = M.W w
 clk : M.clk ≤ M'.clk
theorem Mono.refl (M : Mc) : Mono M M := ⟨fun _ _ => Int.le_refl _, fun _ _ _ _ => rfl, fun _ _ _ => rfl, Int.le_refl _⟩
theorem Mono.tick (M : Mc) {t : Int} (h : M.clk ≤ t) : Mono M ⟨M.W, M.Hd, t⟩ := ⟨fun _ _ => Int.le_refl _, fun _ _ _ _ => rfl, fun _ _ _ => rfl, h⟩
theorem Mono.set {M : Mc} {w : Nat} {x : Int} {h : List Cel} (h1 : M.W w < x) (h2 : M.W w < FZ) : Mono M (M.set w x h) := by
 refine ⟨fun j _ => ?_, fun j _ _ hj => ?_, fun j _ hj => ?_, Int.le_refl _⟩
 ·show _ ≤ upd M.W w x j
  unfold upd; split
  ·rename_i e; subst e; omega
  ·omega
 ·replace hj : upd M.W w x j = M.W j := hj
  show upd M.Hd w h j = _
  unfold upd at hj ⊢
  split at hj
  ·rename_i e; subst e; omega
  ·rename_i e; rw [if_neg e]
 ·show upd M.W w x j = _
  unfold upd; split
  ·rename_i e; subst e; omega
  ·rfl
theorem Mono.hi (M : Mc) {w : Nat} (hw : 32 ≤ w) (x : Int) (h : List Cel) : Mono M (M.set w x h) :=
 ⟨fun j hj => by show _ ≤ upd M.W w x j; rw [upd_ne _ _ (by omega)]; exact Int.le_refl _, fun j _ hj _ => upd_ne _ _ (by omega), fun j hj _ => upd_ne _ _ (by omega), Int.le_refl _⟩
variable {sm : List Int → Int}
theorem Mono.kd {P : Ops} {x : X} {M M' : Mc} (h : Mono M M') {f : Fd} (ho : okFd f) (hf : Kd sm P x M f) : Kd sm P x M' f := by
 have h3 := h.le f.w ho.2.1
 have h4 := hf.le
 refine ⟨hf.k, hf.lv, by omega, fun e => ?_, hf.srt, hf.fd⟩
 have e2 : M.W f.w = f.v := by omega
 rw [h.hd f.w ho.1 ho.2.1 (by omega)]; exact hf.hd e2
theorem Mono.ch {P : Ops} {x : X} {M M' : Mc} (h : Mono M M') {s : CS} (hc : Cw x M.W s) (hs : Ch sm P x M s) : Ch sm P x M' s := by
 have swp : ∀ {w : Nat} {v : Int} {q : List Cel → Prop}, 1 ≤ w → w < 32 → v ≤ M.W w → (M.W w = v → q (M.Hd w)) → v ≤ M'.W w ∧ (M'.W w = v → q (M'.Hd w)) := by
  intro w v q hw hw2 h1 h2
  have h3 := h.le w hw2
  refine ⟨by omega, fun e => ?_⟩
  have e2 : M.W w = v := by omega
  rw [h.hd w hw hw2 (by omega)]; exact h2 e2
 have p32 : ∀ lv, lv ≤ 4 → ∀ s : Int, plc lv s < 32 := fun lv hl s => by obtain ⟨i, h1, h2⟩ := plc_sh lv s; rw [h2]; exact (sh_32 hl h1).2
 cases s with
 | kG f lv w v m =>
  obtain ⟨a, b, d⟩ := hs
  have hw : 1 ≤ w := by rw [hc.2.2.1]; exact plc_pos _ _
  have hw2 : w < 32 := by rw [hc.2.2.1]; exact p32 _ (by have := hc.2.1; omega) _
  have := swp (q := fun x => x = m) hw hw2 b d
  exact ⟨a, this.1, this.2⟩
 | kH f lv w m =>
  refine ⟨hs.1, ?_⟩
  have hl := p32 (lv - 1) (by have := hc.2.2.1; omega) (sumF x f)
  have := h.hd _ (plc_pos _ _) hl (h.fz _ hl hc.2.2.2.2.2)
  exact this.trans hs.2
 | kL f lv w m =>
  refine ⟨hs.1, ?_⟩
  have hl := p32 (lv - 1) (by have := hc.2.2.1; omega) (sumF x f)
  have := h.hd _ (plc_pos _ _) hl (h.fz _ hl hc.2.2.2.2.2)
  exact this.trans hs.2
 | al f => exact h.kd hc.1 hs
 | a0 f => exact h.kd hc.1 hs
 | a1 f u => exact h.kd hc.1 hs
 | p0 f c r => exact ⟨h.kd hc.1 hs.1, hs.2⟩
 | p1 f c r u => exact ⟨h.kd hc.1 hs.1, hs.2⟩
 | pS f c r => exact ⟨h.kd hc.1 hs.1, hs.2⟩
 | eC j sh g w v m =>
  have := swp (q := fun x => x = m) hc.2.2.1 hc.2.2.2.1 hs.1 hs.2.1
  exact ⟨this.1, this.2, hs.2.2⟩
 | eS j sh g w v m n =>
  obtain ⟨a, h0, t, b, d, e, f⟩ := hs
  have := swp (q := fun x => x = h0) hc.2.2.1 hc.2.2.2.1 a d
  have hk := h.clk
  exact ⟨this.1, h0, t, b, this.2, by omega, f⟩
 | sG lv i v m =>
  have hw := sh_32 (by have := hc.1; omega : lv ≤ 4) hc.2.1
  exact swp (q := fun x => x = m) hw.1 hw.2 hs.1 hs.2
 | sH lv i up m =>
  have hw := sh_32 (by have := hc.1; omega : lv ≤ 4) hc.2.1
  show M'.Hd _ = _
  rw [h.hd _ hw.1 hw.2 (h.fz _ hw.2 hc.2.2.2.2.1)]; exact hs
 | sL lv i up m =>
  have hw := sh_32 (by have := hc.1; omega : lv ≤ 4) hc.2.1
  show M'.Hd _ = _
  rw [h.hd _ hw.1 hw.2 (h.fz _ hw.2 hc.2.2.2.2.1)]; exact hs
 | _ => exact hs
end Core
end Go.Proofs.YtplpofmnhcclbaaGreat
