/- Lemmas of Cq3, Cq4, Cq5, Cq6, Cq7, Cq8, Cs2, Cs3, Cs4, Cs5, Dp5, Cq9, Sx23, Dr1, Cc0, Sx25, Sx28. No condition. -/
import Derived.Test.YtpdhdnhkhidmpaaGreatME7
set_option linter.unusedVariables false
set_option linter.unusedSimpArgs false
set_option maxHeartbeats 80000000
set_option maxRecDepth 100000
namespace Go.Proofs.YtpdhdnhkhidmpaaGreat
open Go.RowKit
section
namespace Core
open Dir (FZ plc upd upW Iw okW dq upd_same upd_ne pow_pos2 plc_sh bg sh_32 sh_16 bS aJ bO upW_sh)
open Hm (a6 bQ fJ cj ez kJ fK kK oC)
variable {sm : List Int → Int} {P : Ops}
theorem rU {lv i : Nat} {s : Int} (e : plc (lv + 1) s = 2 ^ (lv + 1) + i) : 2 ^ lv + i % 2 ^ lv = plc lv s := by
 have h3 := bg lv s
 rwa [e, Nat.add_sub_cancel_left] at h3
theorem gw (hP : OpsOk sm P) {M : Mc} {B : Int} (h : Iw M.W B) (hB : 1 ≤ B ∧ B + 1 < FZ) {x : X} {s : CS} (hs : Cw x M.W s) (hI : Ih sm M) (hc : Ch sm P x M s) :
  Eff sm P M x s (step P M x s) := by
 have hF : FZ = 4611686018427387904 := rfl
 have hd := h.d
 cases s with
 | none => exact .same hI trivial
 | k0 f =>
  refine .same hI ?_
  show Ch sm P x M (if _ then _ else _)
  split
  ·exact ⟨hc, _, by omega, rfl⟩
  ·exact hc
 | kE f w => exact .same hI (jM hP hI hc.1 hc.2)
 | kF f lv w =>
  obtain ⟨z, a, b, d⟩ := hs
  refine .same hI ?_
  show Ch sm P x M (if _ then _ else _)
  split
  ·exact ⟨hc, by rw [Nat.add_sub_cancel]; exact congrArg M.Hd b.symm⟩
  ·exact ⟨hc, Int.le_refl _, fun _ => rfl⟩
 | kG f lv w v m =>
  obtain ⟨z, a, b, d, e⟩ := hs
  obtain ⟨hop, c1, c2⟩ := hc
  by_cases hm : M.W w = v
  ·simp only [step, if_pos hm]
   obtain ⟨i, h1, h2⟩ := plc_sh lv (sumF x f)
   have hb := b
   rw [h2] at hb
   have hHd := c2 hm
   subst hb
   obtain ⟨g1, g2, g3⟩ := jD h hI a h1 d e hm hHd
   refine ⟨g1, g2, ⟨hop, ?_⟩, .calm rfl g3⟩
   rw [Nat.add_sub_cancel]
   show upd M.Hd _ m (plc lv (sumF x f)) = m
   rw [h2, upd_same]
  ·simp only [step, if_neg hm]
   exact .same hI hop
 | kH f lv w m =>
  obtain ⟨z, a, b, d, e, g⟩ := hs
  by_cases hm : M.W w = 0
  ·simp only [step, if_pos hm]; exact .same hI hc
  ·simp only [step, if_neg hm]; exact .same hI (jM hP hI hc.1 ⟨lv, b, d⟩)
 | kL f lv w m =>
  obtain ⟨z, a, b, d, e, g⟩ := hs
  obtain ⟨hop, hHd⟩ := hc
  by_cases hm : M.W w = 0
  ·simp only [step, if_pos hm]
   obtain ⟨l, rfl⟩ : ∃ l, lv = l + 1 := ⟨lv - 1, by omega⟩
   obtain ⟨i, h1, h2⟩ := plc_sh (l + 1) (sumF x f)
   rw [Nat.add_sub_cancel] at g hHd
   have hlow := rU h2
   have hb := d
   rw [h2] at hb
   subst hb
   have g := rX hP h hI (by omega) h1 (by omega) hm (by rw [hlow]; exact g) (m := m) (by rw [hlow]; exact hHd)
   rw [Nat.add_sub_cancel_left]
   exact ⟨g.1, g.2.1, ⟨hop, l + 1, b, d⟩, .calm rfl g.2.2⟩
  ·simp only [step, if_neg hm]
   exact .same hI ⟨hop, lv, b, d⟩
 | al f =>
  simp only [step]
  split
  ·exact .same hI (gJ _ _ _)
  ·exact .same hI (od hc (by unfold Kc; rw [hP.allow]; exact Kd.cell hP hc))
 | pk c => exact .same hI trivial
 | a0 f =>
  simp only [step]
  split
  ·exact .same hI (gJ _ _ _)
  ·exact .same hI hc
 | a1 f u =>
  by_cases hm : M.W 33 = u
  ·simp only [step, if_pos hm]
   refine ⟨.hi _ (by omega) _ _, hI.hi (by omega) _ _, ?_, .calm rfl fun k => rD h (by omega) _ _ k⟩
   have hk : Kd sm P { x with ser := u + 1 } (M.set 33 (u + 1) []) f := (iV.kd (iV.hi M (by omega) (u + 1) []) hs.1 hc).ser (u + 1)
   have hcell : idn f.cell = x.pol :: x.key := Kd.cell hP (show Kd sm P x M f from hc)
   exact od (y := x) hk (by show idn (P.acq (P.pol x.pol) f.cell (u + 1)).2 = x.pol :: x.key; rw [hP.acq]; exact hcell)
  ·simp only [step, if_neg hm]; exact .same hI hc
 | p0 f c r =>
  simp only [step]
  split
  ·exact .same hI trivial
  ·exact .same hI hc
 | p1 f c r u =>
  by_cases hm : M.W 32 = u
  ·simp only [step, if_pos hm]
   refine ⟨.hi _ (by omega) _ _, hI.hi (by omega) _ _, ?_, .calm rfl fun k => rD h (by omega) _ _ k⟩
   exact ⟨(iV.kd (iV.hi M (by omega) (u + 1) []) hs.1 hc.1).res true, hc.2⟩
  ·simp only [step, if_neg hm]; exact .same hI hc
 | pS f c r =>
  obtain ⟨⟨a, b, d, e⟩, g, k⟩ := hs
  obtain ⟨hk, hid⟩ := hc
  by_cases hm : M.W f.w = f.v
  ·simp only [step, if_pos hm]
   have hHd := hk.hd hm
   have hwt := hP.wth f.h x.pol x.key c hk.srt hk.k.1 hid
   have e1 : f.at' = (P.fnd f.h x.pol x.key).1 := by rw [hk.fd]; rfl
   have e2 : f.there = (P.fnd f.h x.pol x.key).2.1 := by rw [hk.fd]; rfl
   rw [← e1, ← e2] at hwt
   have hlv : 0 < M.W f.w ∧ M.W f.w < FZ := by omega
   obtain ⟨lv, hl, hwe⟩ := hk.lv
   have hsum : x.sum = sm (x.pol :: x.key) := hk.k.2
   have hhome : a6 M.W (sm (x.pol :: x.key)) = f.w := by rw [← hsum, hwe]; rw [hwe] at hlv; exact cj h hl hlv
   obtain ⟨i, h1, h2⟩ := plc_sh lv x.sum
   refine ⟨.set (by omega) (by omega), ?_, ?_, .put f c r rfl hm ?_ fun q => ?_⟩
   ·show Ih sm (M.set f.w (f.v + 1) _)
    rw [hwe, h2]
    refine hI.set hl h1 hwt.1 fun y hy => ?_
    have hy2 := hwt.1.look_of hy
    rw [hwt.2] at hy2
    by_cases ey : idn y = x.pol :: x.key
    ·rw [ey, ← hsum]; exact cC.1 h2
    ·rw [if_neg ey] at hy2
     have := (bE hy2).1
     rw [← hHd, hwe, h2] at this
     exact (hI lv i hl h1).2 y this
   ·show Ch sm P x _ (if _ then _ else _ : CS × Rs).1
    split
    ·exact gJ _ _ _
    ·trivial
   ·unfold own; rw [hhome, hHd]
   ·unfold own
    show look (upd M.Hd f.w _ (a6 (upd M.W f.w (f.v + 1)) (sm q))) q = _
    have hh : a6 (upd M.W f.w (f.v + 1)) (sm q) = a6 M.W (sm q) := by rw [← hm]; exact oH h hB.2 ⟨a, b⟩ hlv _
    rw [hh]
    by_cases ew : a6 M.W (sm q) = f.w
    ·rw [ew, upd_same, hwt.2, hHd]
    ·rw [upd_ne _ _ ew, if_neg]
     intro e3; subst e3; exact ew hhome
  ·simp only [step, if_neg hm]; exact .same hI hk.k (by simp [dC, hm])
 | b0 n k => exact .same hI trivial
 | b1 n k u =>
  by_cases hm : M.W 32 = u
  ·simp only [step, if_pos hm]
   refine ⟨.hi _ (by omega) _ _, hI.hi (by omega) _ _, ?_, .calm rfl fun k => rD h (by omega) _ _ k⟩
   show Ch sm P x _ (after n k).1
   cases k with
   | lv r => trivial
   | ev j sh g => exact dX _ _ _ _ _
  ·simp only [step, if_neg hm]; exact .same hI trivial
 | e0 => exact .same hI trivial
 | eC j sh g w v m =>
  simp only [step]
  split
  ·exact .same hI (dX _ _ _ _ _)
  ·exact .same hI ⟨hc.1, m, M.clk, hc.2.2, hc.2.1, Int.le_refl _, rfl, rfl⟩
 | eS j sh g w v m n =>
  obtain ⟨a, b, c, d, e, e', k⟩ := hs
  obtain ⟨c1, h0, t, c2, c3, c4, c5, c6⟩ := hc
  by_cases hm : M.W w = v
  ·simp only [step, if_pos hm]
   have hHd := c3 hm
   have hlv : 0 < M.W w ∧ M.W w < FZ := by omega
   obtain ⟨lv, i, hl, h1, h2⟩ := aJ ⟨c, d⟩
   have hsr : Srt m := by rw [c5]; exact c2.filter _
   refine ⟨.set (by omega) (by omega), ?_, trivial, .evict j sh g w v m n rfl hm t c4 (by rw [hHd]; exact c5) (by rw [hHd]; exact c6) fun q => ?_⟩
   ·show Ih sm (M.set w (v + 1) _)
    rw [h2]
    refine hI.set hl h1 hsr fun y hy => ?_
    have hy2 : y ∈ h0 := by rw [c5] at hy; exact (List.mem_filter.1 hy).1
    rw [← hHd, h2] at hy2
    exact (hI lv i hl h1).2 y hy2
   ·unfold own
    show look (upd M.Hd w _ (a6 (upd M.W w (v + 1)) (sm q))) q = _
    have hh : a6 (upd M.W w (v + 1)) (sm q) = a6 M.W (sm q) := by rw [← hm]; exact oH h hB.2 ⟨c, d⟩ hlv _
    rw [hh]
    by_cases ew : a6 M.W (sm q) = w
    ·rw [ew, upd_same, if_pos rfl]
    ·rw [upd_ne _ _ ew, if_neg ew]
  ·simp only [step, if_neg hm]; exact .same hI (dX _ _ _ _ _) (by simp [dC, hm])
 | s0 =>
  simp only [step]
  split
  ·exact .same hI trivial
  ·split <;> exact .same hI trivial
 | sM lv =>
  by_cases hm : M.W 0 = 2 * lv
  ·simp only [step, if_pos hm]
   exact ⟨.set (by omega) (by omega), hI.set0, trivial, .calm rfl fun k => own_0 (fun s => fK h hs hm s) k⟩
  ·simp only [step, if_neg hm]; exact .same hI trivial
 | sF lv i =>
  refine .same hI ?_
  show Ch sm P x M (if _ then _ else _)
  split
  ·rfl
  ·exact ⟨Int.le_refl _, fun _ => rfl⟩
 | sG lv i v m =>
  obtain ⟨a, b, d, e, f⟩ := hs
  by_cases hm : M.W (2 ^ lv + i) = v
  ·simp only [step, if_pos hm]
   obtain ⟨g1, g2, g3⟩ := jD h hI a b d f hm (hc.2 hm)
   refine ⟨g1, g2, ?_, .calm rfl g3⟩
   show upd M.Hd _ m _ = m
   rw [upd_same]
  ·simp only [step, if_neg hm]; exact .same hI trivial
 | sH lv i up m =>
  refine .same hI ?_
  show Ch sm P x M (if _ then _ else _)
  split
  ·exact hc
  ·exact on_ch hc
 | sL lv i up m =>
  obtain ⟨a, b, d, e, f, g⟩ := hs
  obtain ⟨j, h1, h2, h3⟩ := upW_sh (up := up) b
  by_cases hm : M.W (upW lv i up) = 0
  ·simp only [step, if_pos hm]
   rw [h2] at hm ⊢
   rw [Nat.add_sub_cancel_left]
   have g := rX hP h hI a h1 d hm (by rw [h3]; exact f) (m := m) (by rw [h3]; exact hc)
   refine ⟨g.1, g.2.1, on_ch ?_, .calm rfl g.2.2⟩
   show upd M.Hd _ _ _ = m
   rw [upd_ne _ _ (fun e9 => by have := bS b h1 e9; omega)]
   exact hc
  ·simp only [step, if_neg hm]; exact .same hI (on_ch hc)
 | sV lv =>
  obtain ⟨a, b, d⟩ := hs
  by_cases hm : M.W 0 = 2 * lv + 1
  ·simp only [step, if_pos hm]
   exact ⟨.set (by omega) (by omega), hI.set0, trivial, .calm rfl fun k => own_0 (fun s => kK hm d s) k⟩
  ·simp only [step, if_neg hm]; exact .same hI trivial
end Core
end
section
namespace Core
open Dir (FZ plc upd upW Iw okW dq upd_same upd_ne pow_pos2 plc_sh bg sh_32 sh_16 bS aJ)
open Hm (a6 bQ)
variable {sm : List Int → Int} {P : Ops}
theorem dB {xs : List Cel} (h : Srt xs) {x : Cel} : look xs (idn x) = some x ↔ x ∈ xs := (cX h).trans (and_iff_left rfl)
def lvl (M : Mc) : Nat := (M.W 0 / 2).toNat
def nxt (P : Ops) (M : Mc) (i j : Nat) : List Cel := if M.W (2 ^ (lvl M + 1) + j) = 0 then P.cut (M.Hd (2 ^ lvl M + i)) (lvl M + 1) j else M.Hd (2 ^ (lvl M + 1) + j)
def partL (P : Ops) (M : Mc) (i : Nat) : List (List Cel) := if M.W 0 % 2 = 0 ∨ M.W (2 ^ lvl M + i) < FZ then [M.Hd (2 ^ lvl M + i)] else [nxt P M i i, nxt P M i (i + 2 ^ lvl M)]
def allL (P : Ops) (M : Mc) : List (List Cel) := (List.range (2 ^ lvl M)).flatMap (partL P M)
def allE (P : Ops) (M : Mc) : List Cel := (List.range (2 ^ lvl M)).flatMap fun i => (partL P M i).flatten
theorem allE_eq (P : Ops) (M : Mc) : (allL P M).flatten = allE P M := by
 unfold allL allE
 rw [List.flatMap_def, List.flatMap_def, List.flatten_flatten, List.map_map]; rfl
theorem ot {lv : Nat} {s : Int} {j : Nat} (h : s % 2 ^ (lv + 1) = j) : s % 2 ^ lv = ((j % 2 ^ lv : Nat) : Int) := by
 have h1 := rU (cC.2 h)
 exact cC.1 h1.symm
theorem rM {lv : Nat} {s : Int} {i : Nat} (hi : i < 2 ^ lv) (h : s % 2 ^ lv = i) : s % 2 ^ (lv + 1) = i ∨ s % 2 ^ (lv + 1) = ((i + 2 ^ lv : Nat) : Int) := by
 obtain ⟨j, h1, h2⟩ := plc_sh (lv + 1) s
 have h3 := cC.1 h2
 have h4 := ot h3
 rw [h] at h4
 have h5 : j < 2 ^ lv * 2 := by rw [← Nat.pow_succ]; exact h1
 have h6 : i = j % 2 ^ lv := by omega
 rw [h3]
 by_cases h7 : j < 2 ^ lv
 ·rw [Nat.mod_eq_of_lt h7] at h6; left; omega
 ·have h8 : j % 2 ^ lv = j - 2 ^ lv := by rw [Nat.mod_eq_sub_mod (by omega), Nat.mod_eq_of_lt (by omega)]
  right; omega
theorem vN (hP : OpsOk sm P) {M : Mc} {B : Int} (h : Iw M.W B) (hI : Ih sm M) {i j : Nat} (hl : lvl M ≤ 3) (hi : i < 2 ^ lvl M) (hj : j < 2 ^ (lvl M + 1)) (hij : j % 2 ^ lvl M = i) (hf : ¬ (M.W 0 % 2 = 0 ∨ M.W (2 ^ lvl M + i) < FZ)) :
  Srt (nxt P M i j) ∧ (∀ e ∈ nxt P M i j, sm (idn e) % 2 ^ (lvl M + 1) = (j : Int)) ∧ ∀ k, sm k % 2 ^ (lvl M + 1) = (j : Int) → own sm M k = look (nxt P M i j) k := by
 have h0 := hI (lvl M) i (by omega) hi
 have h1 := hI (lvl M + 1) j (by omega) hj
 have hp : ∀ s : Int, s % 2 ^ (lvl M + 1) = (j : Int) → plc (lvl M) s = 2 ^ lvl M + i ∧ plc (lvl M + 1) s = 2 ^ (lvl M + 1) + j := fun s hs => ⟨cC.2 (by rw [ot hs, hij]), cC.2 hs⟩
 unfold nxt
 by_cases e : M.W (2 ^ (lvl M + 1) + j) = 0
 ·rw [if_pos e]
  obtain ⟨c1, c2, c3⟩ := v6 hP h0.1 (lvl M + 1) j
  refine ⟨c1, c2, fun k hk => ?_⟩
  rw [c3 k hk]
  obtain ⟨p1, p2⟩ := hp _ hk
  unfold own a6
  show look (M.Hd (if M.W 0 % 2 = 0 ∨ M.W (plc (lvl M) (sm k)) < FZ ∨ M.W (plc (lvl M + 1) (sm k)) = 0 then plc (lvl M) (sm k) else plc (lvl M + 1) (sm k))) k = _
  rw [p1, p2, if_pos (.inr (.inr e))]
 ·rw [if_neg e]
  refine ⟨h1.1, h1.2, fun k hk => ?_⟩
  obtain ⟨p1, p2⟩ := hp _ hk
  unfold own a6
  show look (M.Hd (if M.W 0 % 2 = 0 ∨ M.W (plc (lvl M) (sm k)) < FZ ∨ M.W (plc (lvl M + 1) (sm k)) = 0 then plc (lvl M) (sm k) else plc (lvl M + 1) (sm k))) k = _
  rw [p1, p2, if_neg (by omega)]
theorem ik (hP : OpsOk sm P) {M : Mc} {B : Int} (h : Iw M.W B) (hI : Ih sm M) {i : Nat} (hi : i < 2 ^ lvl M) :
  (partL P M i).flatten.Pairwise (fun a b => idn a ≠ idn b) ∧ (∀ e ∈ (partL P M i).flatten, sm (idn e) % 2 ^ lvl M = (i : Int)) ∧ ∀ e : Cel, sm (idn e) % 2 ^ lvl M = (i : Int) → (e ∈ (partL P M i).flatten ↔ own sm M (idn e) = some e) := by
 have hd := h.d
 have hlv : lvl M ≤ 4 := by unfold lvl; omega
 have h0 := hI (lvl M) i hlv hi
 have pw : ∀ {l : List Cel}, Srt l → l.Pairwise (fun a b => idn a ≠ idn b) := fun s => List.Pairwise.imp (fun {a b} hab e => by rw [e, bc] at hab; omega) s.lt
 unfold partL
 by_cases e : M.W 0 % 2 = 0 ∨ M.W (2 ^ lvl M + i) < FZ
 ·rw [if_pos e]
  rw [show [M.Hd (2 ^ lvl M + i)].flatten = M.Hd (2 ^ lvl M + i) by simp]
  refine ⟨pw h0.1, h0.2, fun x hx => ?_⟩
  have hp : plc (lvl M) (sm (idn x)) = 2 ^ lvl M + i := cC.2 hx
  unfold own a6
  show _ ↔ look (M.Hd (if M.W 0 % 2 = 0 ∨ M.W (plc (lvl M) (sm (idn x))) < FZ ∨ M.W (plc (lvl M + 1) (sm (idn x))) = 0 then plc (lvl M) (sm (idn x)) else plc (lvl M + 1) (sm (idn x)))) (idn x) = _
  rw [hp, if_pos (by rcases e with e | e <;> simp [e]), dB h0.1]
 ·rw [if_neg e]
  have hl3 : lvl M ≤ 3 := by unfold lvl; omega
  have hpw : 2 ^ (lvl M + 1) = 2 ^ lvl M * 2 := Nat.pow_succ 2 _
  obtain ⟨a1, a2, a3⟩ := vN hP h hI hl3 hi (j := i) (by omega) (Nat.mod_eq_of_lt hi) e
  obtain ⟨b1, b2, b3⟩ := vN hP h hI hl3 hi (j := i + 2 ^ lvl M) (by omega) (by rw [Nat.add_mod_right, Nat.mod_eq_of_lt hi]) e
  rw [show [nxt P M i i, nxt P M i (i + 2 ^ lvl M)].flatten = nxt P M i i ++ nxt P M i (i + 2 ^ lvl M) by simp]
  refine ⟨?_, ?_, ?_⟩
  ·rw [List.pairwise_append]
   refine ⟨pw a1, pw b1, fun x hx y hy e2 => ?_⟩
   have g1 := a2 x hx
   have g2 := b2 y hy
   rw [e2, g2] at g1
   have := pow_pos2 (lvl M)
   omega
  ·intro x hx
   rcases List.mem_append.1 hx with hx | hx
   ·rw [ot (a2 x hx), Nat.mod_eq_of_lt hi]
   ·rw [ot (b2 x hx), Nat.add_mod_right, Nat.mod_eq_of_lt hi]
  ·intro x hx
   rw [List.mem_append]
   have hpp := pow_pos2 (lvl M)
   rcases rM hi hx with g | g
   ·rw [a3 _ g, dB a1]
    refine ⟨fun hh => hh.resolve_right fun hh2 => ?_, .inl⟩
    have := b2 x hh2
    rw [g] at this; omega
   ·rw [b3 _ g, dB b1]
    refine ⟨fun hh => hh.resolve_left fun hh2 => ?_, .inr⟩
    have := a2 x hh2
    rw [g] at this; omega
theorem all_ok (hP : OpsOk sm P) {M : Mc} {B : Int} (h : Iw M.W B) (hI : Ih sm M) : (allE P M).Pairwise (fun a b => idn a ≠ idn b) ∧ ∀ e : Cel, e ∈ allE P M ↔ own sm M (idn e) = some e := by
 unfold allE
 refine ⟨?_, fun e => ?_⟩
 ·rw [List.pairwise_flatMap]
  refine ⟨fun i hi => (ik hP h hI (List.mem_range.1 hi)).1, ?_⟩
  refine List.Pairwise.imp_of_mem ?_ (List.pairwise_lt_range (n := 2 ^ lvl M))
  intro i j hi hj hij x hx y hy e
  have g1 := (ik hP h hI (List.mem_range.1 hi)).2.1 x hx
  have g2 := (ik hP h hI (List.mem_range.1 hj)).2.1 y hy
  rw [e, g2] at g1
  omega
 ·rw [List.mem_flatMap]
  obtain ⟨i, h1, h2⟩ := plc_sh (lvl M) (sm (idn e))
  have h3 := cC.1 h2
  rw [← (ik hP h hI h1).2.2 e h3]
  constructor
  ·rintro ⟨j, hj, hm⟩
   have := (ik hP h hI (List.mem_range.1 hj)).2.1 e hm
   rw [h3] at this
   have : j = i := by omega
   subst this; exact hm
  ·exact fun hm => ⟨i, List.mem_range.2 h1, hm⟩
end Core
end
section
namespace Core
open Dir (FZ plc upd upW Iw okW dq upd_same upd_ne pow_pos2 plc_sh bg sh_32 sh_16 bS aJ)
open Hm (a6 bQ cj)
variable {sm : List Int → Int} {P : Ops}
def ids (P : Ops) (M : Mc) : List (List Int) := (allE P M).map idn
theorem fI (P : Ops) (M : Mc) : (ids P M).length = (allE P M).length := List.length_map _
theorem cK (hP : OpsOk sm P) {M : Mc} {B : Int} (h : Iw M.W B) (hI : Ih sm M) : (ids P M).Nodup := by
 unfold ids
 rw [List.nodup_iff_pairwise_ne, List.pairwise_map]
 exact (all_ok hP h hI).1
theorem fD {M : Mc} {k : List Int} {c : Cel} (h : own sm M k = some c) : idn c = k := (bE h).2
theorem dG (hP : OpsOk sm P) {M : Mc} {B : Int} (h : Iw M.W B) (hI : Ih sm M) (k : List Int) : k ∈ ids P M ↔ (own sm M k).isSome = true := by
 unfold ids
 rw [List.mem_map]
 constructor
 ·rintro ⟨c, hc, rfl⟩
  rw [((all_ok hP h hI).2 c).1 hc]; rfl
 ·intro hk
  cases e : own sm M k with
  | none => rw [e] at hk; cases hk
  | some c =>
   have := fD e
   exact ⟨c, ((all_ok hP h hI).2 c).2 (by rw [this]; exact e), this⟩
theorem oA (hP : OpsOk sm P) {M M' : Mc} {B B' : Int} (h : Iw M.W B) (hI : Ih sm M) (h' : Iw M'.W B') (hI' : Ih sm M') (ho : ∀ k, (own sm M' k).isSome = (own sm M k).isSome) : (allE P M').length = (allE P M).length := by
 rw [← fI, ← fI]
 refine ((List.perm_ext_iff_of_nodup (cK hP h' hI') (cK hP h hI)).2 fun k => ?_).length_eq
 rw [dG hP h' hI', dG hP h hI, ho]
theorem uL (hP : OpsOk sm P) {M M' : Mc} {B B' : Int} (h : Iw M.W B) (hI : Ih sm M) (h' : Iw M'.W B') (hI' : Ih sm M') {i : List Int} (hn : own sm M i = none) (ho : ∀ k, (own sm M' k).isSome = true ↔ k = i ∨ (own sm M k).isSome = true) :
  (allE P M').length = (allE P M).length + 1 := by
 rw [← fI, ← fI]
 have hp : (ids P M').Perm (i :: ids P M) := (List.perm_ext_iff_of_nodup (cK hP h' hI') (List.nodup_cons.2 ⟨by rw [dG hP h hI, hn]; simp, cK hP h hI⟩)).2 fun k => by
  rw [dG hP h' hI', ho, List.mem_cons, dG hP h hI]
 rw [hp.length_eq]; rfl
theorem oR (q : Cel → Bool) : ∀ l : List Cel, (l.filter q).length + (l.filter fun c => !q c).length = l.length
 | [] => rfl
 | c :: l => by
  have := oR q l
  cases e : q c <;> simp [e] <;> omega
theorem uM (hP : OpsOk sm P) {M M' : Mc} {B B' : Int} (h : Iw M.W B) (hI : Ih sm M) (h' : Iw M'.W B') (hI' : Ih sm M') {w : Nat} (hw : 1 ≤ w ∧ w < 32) (hv : 0 < M.W w ∧ M.W w < FZ) (t : Int)
  (ho : ∀ k, own sm M' k = if a6 M.W (sm k) = w then look (gl P (M.Hd w) t) k else own sm M k) :
  ((allE P M').length : Int) = (allE P M).length - ((M.Hd w).length - (gl P (M.Hd w) t).length) := by
 have hs : Srt (M.Hd w) := hI.word hw
 have hr : Srt (gl P (M.Hd w) t) := hs.filter _
 have hG : Srt ((M.Hd w).filter fun c => P.idle c t) := hs.filter _
 have hhome : ∀ c ∈ M.Hd w, a6 M.W (sm (idn c)) = w := fun c hc => by
  obtain ⟨lv, i, hl, hi, e⟩ := aJ hw
  have h1 := (hI lv i hl hi).2 c (by rw [← e]; exact hc)
  have h2 := cC.2 h1
  rw [← e] at h2
  rw [← h2]; rw [← h2] at hv
  exact cj h hl hv
 have hown : ∀ k, a6 M.W (sm k) = w → own sm M k = look (M.Hd w) k := fun k hk => by unfold own; rw [hk]
 have hgn : (((M.Hd w).filter fun c => P.idle c t).map idn).Nodup := by
  rw [List.nodup_iff_pairwise_ne]
  exact hG.ids.imp fun {a b} hab e => by rw [e, bc] at hab; omega
 have key : (ids P M).Perm (ids P M' ++ ((M.Hd w).filter fun c => P.idle c t).map idn) := by
  refine (List.perm_ext_iff_of_nodup (cK hP h hI) ?_).2 fun k => ?_
  ·rw [List.nodup_append]
   refine ⟨cK hP h' hI', hgn, fun a ha b hb e => ?_⟩
   subst e
   obtain ⟨g, hg, e⟩ := List.mem_map.1 hb
   obtain ⟨g1, g2⟩ := List.mem_filter.1 hg
   rw [dG hP h' hI', ho, ← e, if_pos (hhome g g1)] at ha
   cases e3 : look (gl P (M.Hd w) t) (idn g) with
   | none => rw [e3] at ha; cases ha
   | some c =>
    obtain ⟨m1, m2⟩ := bE e3
    obtain ⟨m3, m4⟩ := List.mem_filter.1 m1
    have := hs.uniq m3 g1 m2
    subst this
    rw [g2] at m4; cases m4
  ·rw [List.mem_append, dG hP h hI, dG hP h' hI', ho]
   by_cases e : a6 M.W (sm k) = w
   ·rw [if_pos e, hown k e]
    constructor
    ·intro hk
     cases e3 : look (M.Hd w) k with
     | none => rw [e3] at hk; cases hk
     | some c =>
      obtain ⟨m1, m2⟩ := bE e3
      by_cases e4 : P.idle c t = true
      ·exact .inr (List.mem_map.2 ⟨c, List.mem_filter.2 ⟨m1, e4⟩, m2⟩)
      ·have : c ∈ gl P (M.Hd w) t := List.mem_filter.2 ⟨m1, by simpa using e4⟩
       have := hr.look_of this
       rw [m2] at this
       exact .inl (by rw [this]; rfl)
    ·rintro (hk | hk)
     ·cases e3 : look (gl P (M.Hd w) t) k with
      | none => rw [e3] at hk; cases hk
      | some c =>
       obtain ⟨m1, m2⟩ := bE e3
       have := hs.look_of (List.mem_filter.1 m1).1
       rw [m2] at this; rw [this]; rfl
     ·obtain ⟨c, hc, m2⟩ := List.mem_map.1 hk
      have := hs.look_of (List.mem_filter.1 hc).1
      rw [m2] at this; rw [this]; rfl
   ·rw [if_neg e]
    constructor
    ·exact .inl
    ·rintro (hk | hk)
     ·exact hk
     ·obtain ⟨c, hc, m2⟩ := List.mem_map.1 hk
      exact absurd (by rw [← m2]; exact hhome c (List.mem_filter.1 hc).1) e
 have hl := key.length_eq
 rw [Q9, List.length_map, fI, fI] at hl
 have hf := oR (fun c => P.idle c t) (M.Hd w)
 have hr2 : (gl P (M.Hd w) t).length = ((M.Hd w).filter fun c => !P.idle c t).length := rfl
 omega
end Core
end
section
namespace Core
open Dir (FZ plc upd upW Iw okW dq upd_same upd_ne pow_pos2 plc_sh sh_32 aJ upW_sh)
variable {sm : List Int → Int} {P : Ops}
def owes (x : X) : CS → Int
 | .none => 0
 | .b0 n _ => n
 | .b1 n _ _ => n
 | _ => if x.res = true then 1 else 0
def Rf (x : X) : Fc → Prop
 | .key => True
 | .ev _ _ _ => x.res = false
def Rb (x : X) : Bk → Prop
 | .lv _ => True
 | .ev _ _ _ => x.res = false
def Rs' (x : X) : CS → Prop
 | .k0 f => Rf x f
 | .kE f _ => Rf x f
 | .kF f _ _ => Rf x f
 | .kG f _ _ _ _ => Rf x f
 | .kH f _ _ _ => Rf x f
 | .kL f _ _ _ => Rf x f
 | .pk _ => x.res = false
 | .a0 _ => x.op = 2
 | .a1 _ _ => x.op = 2
 | .p0 _ _ _ => x.op = 1 ∨ x.op = 2
 | .p1 _ _ _ _ => x.op = 1 ∨ x.op = 2
 | .b0 _ k => Rb x k
 | .b1 _ k _ => Rb x k
 | .e0 => x.res = false
 | .eC _ _ _ _ _ _ => x.res = false
 | .eS _ _ _ _ _ _ _ => x.res = false
 | .s0 => x.res = false
 | .sM _ => x.res = false
 | .sF _ _ => x.res = false
 | .sG _ _ _ _ => x.res = false
 | .sH _ _ _ _ => x.res = false
 | .sL _ _ _ _ => x.res = false
 | .sV _ => x.res = false
 | _ => True
structure Rx (x : X) (s : CS) : Prop where
 op : x.res = true → x.op = 1 ∨ x.op = 2
 st : Rs' x s
theorem dN {x : X} (r : Rpl) : owes x (leave x r).1 = if x.res = true then 1 else 0 := by
 unfold leave; split <;> simp [owes]
theorem gy (x y : X) (f : Fd) (c : Cel) (r : Rpl) : owes x (put y f c r) = if x.res = true then 1 else 0 := by
 unfold put; split <;> rfl
theorem cr {x : X} (h : x.res = false) (j sh : Nat) (g : Int) : owes x (further j sh g).1 = 0 := by
 unfold further; split
 ·rfl
 ·simp [owes, h]
theorem nA {x : X} {f : Fd} (h : Rx x (.k0 .key)) : owes x (foundK P x f).1 = if x.res = true then 1 else 0 := by
 have hr : ¬ x.op = 1 → ¬ x.op = 2 → x.res = false := fun h1 h2 => by
  cases e : x.res with
  | false => rfl
  | true => rcases h.op e with h3 | h3 <;> contradiction
 unfold foundK
 by_cases h1 : x.op = 1
 ·rw [if_pos h1]; rfl
 rw [if_neg h1]
 by_cases h2 : x.op = 2
 ·rw [if_pos h2]
  split
  ·exact dN _
  ·split
   ·exact gy _ _ _ _ _
   ·rfl
 rw [if_neg h2]
 have h3 := hr h1 h2
 split
 ·split
  ·exact gy _ _ _ _ _
  ·simp [owes, h3]
 ·split
  ·simp [owes, h3]
  ·rfl
theorem f9 {x : X} {f : Fc} {w : Nat} {v : Int} {h : List Cel} (hr : Rx x (.k0 f)) : owes x (entered P x f w v h).1 = if x.res = true then 1 else 0 := by
 unfold entered
 split
 ·rfl
 ·unfold found
  cases f with
  | key => exact nA hr
  | ev j sh g =>
   have h0 : x.res = false := hr.st
   dsimp only
   split
   ·rw [cr h0, h0]; rfl
   ·rfl
theorem rI (x : X) (lv i : Nat) (up : Bool) (h : List Cel) : owes x (on lv i up h) = if x.res = true then 1 else 0 := by
 unfold on move; split
 ·split <;> rfl
 ·rfl
theorem qP {M : Mc} {x : X} {s : CS} (hs : Cw x M.W s) (hr : Rx x s) :
  (step P M x s).M.W 32 = M.W 32 + dC M s + owes (step P M x s).x (step P M x s).s - owes x s := by
 have p32 : ∀ lv, lv ≤ 4 → ∀ s : Int, plc lv s < 32 := fun lv hl s => by obtain ⟨i, h1, h2⟩ := plc_sh lv s; rw [h2]; exact (sh_32 hl h1).2
 have ne : ∀ (w : Nat) (v : Int) (h : List Cel), w < 32 → (M.set w v h).W 32 = M.W 32 := fun w v h hw => upd_ne _ _ (by omega)
 cases s with
 | none => simp [step, dC, owes]
 | k0 f => simp only [step, dC]; split <;> simp only [owes] <;> omega
 | kE f w =>
  show M.W 32 = M.W 32 + 0 + owes x (entered P x f w (M.W w) (M.Hd w)).1 - (if x.res = true then 1 else 0)
  rw [f9 ⟨hr.op, hr.st⟩]; omega
 | kF f lv w => simp only [step, dC]; split <;> simp only [owes, toH] <;> omega
 | kG f lv w v m =>
  simp only [step, dC]; split
  ·show (M.set w (v + FZ) m).W 32 = _
   rw [ne _ _ _ (by rw [hs.2.2.1]; exact p32 _ (by have := hs.2.1; omega) _)]
   simp only [owes, toH]; omega
  ·simp only [owes]; omega
 | kH f lv w m =>
  simp only [step, dC]; split
  ·simp only [owes]; omega
  ·show M.W 32 = M.W 32 + 0 + owes x (entered P x f w (M.W w) (M.Hd w)).1 - (if x.res = true then 1 else 0)
   rw [f9 ⟨hr.op, hr.st⟩]; omega
 | kL f lv w m =>
  simp only [step, dC]; split
  ·rw [ne _ _ _ (by rw [hs.2.2.2.1]; exact p32 _ hs.2.2.1 _)]; simp only [owes]; omega
  ·simp only [owes]; omega
 | al f =>
  simp only [step, dC]; split
  ·show M.W 32 = M.W 32 + 0 + owes x (leave x _).1 - (if x.res = true then 1 else 0)
   rw [dN]; omega
  ·show M.W 32 = M.W 32 + 0 + owes x (put x _ _ _) - (if x.res = true then 1 else 0)
   rw [gy]; omega
 | pk c => have : x.res = false := hr.st; simp [step, dC, owes, this]
 | a0 f =>
  simp only [step, dC]; split
  ·show M.W 32 = M.W 32 + 0 + owes x (leave x _).1 - (if x.res = true then 1 else 0)
   rw [dN]; omega
  ·simp only [owes]; omega
 | a1 f u =>
  simp only [step, dC]; split
  ·show upd M.W 33 (u + 1) 32 = M.W 32 + 0 + owes { x with ser := u + 1 } (put x _ _ _) - (if x.res = true then 1 else 0)
   rw [upd_ne _ _ (by omega), gy]; dsimp only; omega
  ·simp only [owes]; omega
 | p0 f c r =>
  have : x.res = false := hs.2.2.1
  simp only [step, dC]; split
  ·simp [owes, this]
  ·simp only [owes]; omega
 | p1 f c r u =>
  have : x.res = false := hs.2.2.1
  simp only [step, dC]; split
  ·rename_i hm
   show upd M.W 32 (u + 1) 32 = _
   rw [upd_same, hm]; simp [owes, this]
  ·simp only [owes]; omega
 | pS f c r =>
  obtain ⟨⟨a, b, d, e⟩, g, k⟩ := hs
  simp only [step, dC]; split
  ·rename_i hm
   show (M.set f.w (f.v + 1) _).W 32 = M.W 32 + _ + owes x (if _ then _ else _ : CS × Rs).1 - (if x.res = true then 1 else 0)
   rw [ne _ _ _ b]
   cases ht : f.there with
   | true => rw [if_neg (by simp), if_pos rfl, dN]; omega
   | false =>
    have hres : x.res = true := by rcases k with k | k; rw [ht] at k; cases k; exact k
    rw [if_pos ⟨hm, rfl⟩, if_neg (by simp), hres]; simp [owes]
  ·rename_i hm
   rw [if_neg (fun h => hm h.1)]; simp only [owes]; omega
 | b0 n k => simp only [step, dC, owes]; omega
 | b1 n k u =>
  simp only [step, dC]; split
  ·rename_i hm
   show upd M.W 32 (u - n) 32 = M.W 32 + 0 + owes x (after n k).1 - n
   rw [upd_same]
   cases k with
   | lv r => simp only [after, owes]; omega
   | ev j sh g => rw [show (after n (.ev j sh g)) = further j sh (g + n) from rfl, cr hr.st]; omega
  ·simp only [owes]; omega
 | e0 => show M.W 32 = M.W 32 + 0 + (if x.res = true then 1 else 0) - (if x.res = true then 1 else 0); omega
 | eC j sh g w v m =>
  have : x.res = false := hr.st
  simp only [step, dC]; split
  ·show M.W 32 = M.W 32 + 0 + owes x (further j sh g).1 - (if x.res = true then 1 else 0)
   rw [cr this, this]; simp
  ·simp only [owes]; omega
 | eS j sh g w v m n =>
  have : x.res = false := hr.st
  simp only [step, dC]; split
  ·rw [ne _ _ _ hs.2.2.2.1]; simp only [owes, this]; simp; omega
  ·show M.W 32 = M.W 32 + 0 + owes x (further j sh g).1 - (if x.res = true then 1 else 0)
   rw [cr this, this]; simp
 | s0 =>
  have : x.res = false := hr.st
  simp only [step, dC]; split
  ·simp only [owes]; omega
  ·split
   ·simp [owes, this]
   ·simp only [owes]; omega
 | sM lv =>
  simp only [step, dC]; split
  ·rw [ne _ _ _ (by omega)]; simp only [owes]; omega
  ·simp only [owes]; omega
 | sF lv i => simp only [step, dC]; split <;> simp only [owes] <;> omega
 | sG lv i v m =>
  simp only [step, dC]; split
  ·rw [ne _ _ _ (sh_32 (by have := hs.1; omega) hs.2.1).2]; simp only [owes]; omega
  ·simp only [owes]; omega
 | sH lv i up m =>
  simp only [step, dC]; split
  ·simp only [owes]; omega
  ·rw [rI]; simp only [owes]; omega
 | sL lv i up m =>
  obtain ⟨j, h1, h2, h3⟩ := upW_sh (up := up) hs.2.1
  have hw := sh_32 (by have := hs.1; omega : lv + 1 ≤ 4) h1
  show (if _ then _ else _ : Mc).W 32 = M.W 32 + 0 + owes x (on lv i up m) - (if x.res = true then 1 else 0)
  rw [rI]
  split
  ·rw [ne _ _ _ (by omega)]; omega
  ·omega
 | sV lv =>
  have : x.res = false := hr.st
  show (if _ then _ else _ : Mc).W 32 = M.W 32 + 0 + 0 - (if x.res = true then 1 else 0)
  rw [this]
  split
  ·rw [ne _ _ _ (by omega)]; simp
  ·simp
end Core
end
section
namespace Core
open Dir (FZ plc upd upW Iw okW dq upd_same upd_ne pow_pos2 plc_sh sh_32 aJ upW_sh)
variable {sm : List Int → Int} {P : Ops}
theorem po (hP : OpsOk sm P) {M : Mc} {B : Int} (h : Iw M.W B) (hB : 1 ≤ B ∧ B + 1 < FZ) {x : X} (hx : 0 ≤ x.ser) (h33 : 0 ≤ M.W 33) {s : CS} (hs : Cw x M.W s) (hI : Ih sm M) (hc : Ch sm P x M s) :
  ((allE P (step P M x s).M).length : Int) = (allE P M).length + dC M s := by
 have he := gw hP h hB hs hI hc
 have iw' := (cT (P := P) h hB hx h33 hs).iw
 cases he.own with
 | calm hd ho => rw [oA hP h hI iw' he.ih fun k => by rw [ho], hd]; omega
 | put f c r e hw h0 ho =>
  subst e
  have hk : Kd sm P x M f := hc.1
  have ht : f.there = (look f.h (x.pol :: x.key)).isSome := by rw [hk.fd]; exact (hP.fnd f.h x.pol x.key hk.srt hk.k.1).1
  rw [← h0] at ht
  cases e2 : own sm M (x.pol :: x.key) with
  | none =>
   rw [e2] at ht
   rw [uL hP h hI iw' he.ih e2 fun k => by
    rw [ho]; by_cases ek : k = x.pol :: x.key
    ·rw [if_pos ek]; simp [ek]
    ·rw [if_neg ek]; simp [ek]]
   show _ = _ + (if M.W f.w = f.v ∧ f.there = false then (1 : Int) else 0)
   rw [if_pos ⟨hw, ht⟩]; omega
  | some d =>
   rw [e2] at ht
   rw [oA hP h hI iw' he.ih fun k => by
    rw [ho]; by_cases ek : k = x.pol :: x.key
    ·rw [if_pos ek, ek, e2]; rfl
    ·rw [if_neg ek]]
   show _ = _ + (if M.W f.w = f.v ∧ f.there = false then (1 : Int) else 0)
   rw [if_neg (by rw [ht]; simp)]; omega
 | evict j sh g w v m n e hw t ht hm hn ho =>
  subst e
  obtain ⟨a, b, c, d, e, e', k⟩ := hs
  rw [uM hP h hI iw' he.ih ⟨c, d⟩ (by omega) t fun k => by rw [ho, hm]]
  show _ = _ + (if M.W w = v then -n else (0 : Int))
  rw [if_pos hw, hn, ← hm]; omega
def sumI (n : Nat) (f : Nat → Int) : Int :=
 match n with
 | 0 => 0
 | n + 1 => sumI n f + f n
theorem jd {f g : Nat → Int} : ∀ {n : Nat}, (∀ j, j < n → g j = f j) → sumI n g = sumI n f
 | 0, _ => rfl
 | n + 1, h => by simp only [sumI]; rw [jd (n := n) fun j hj => h j (by omega), h n (by omega)]
theorem cS {f g : Nat → Int} {i : Nat} : ∀ {n : Nat}, i < n → (∀ j, j < n → j ≠ i → g j = f j) → sumI n g = sumI n f + g i - f i
 | 0, h, _ => by omega
 | n + 1, h, hh => by
  simp only [sumI]
  by_cases e : i = n
  ·subst e
   rw [jd (n := i) fun j hj => hh j (by omega) (by omega)]; omega
  ·rw [cS (n := n) (by omega) fun j hj hne => hh j (by omega) hne, hh n (by omega) (fun e' => e e'.symm)]; omega
theorem j4 {f : Nat → Int} : ∀ {n : Nat}, (∀ j, j < n → 0 ≤ f j) → 0 ≤ sumI n f
 | 0, _ => Int.le_refl _
 | n + 1, h => by
  have := j4 (n := n) fun j hj => h j (by omega)
  have := h n (by omega)
  simp only [sumI]; omega
theorem rG {x : X} {W : Nat → Int} {s : CS} (hs : Cw x W s) : 0 ≤ owes x s := by
 cases s with
 | none => exact Int.le_refl _
 | b0 n k => have := hs.1; simp only [owes]; omega
 | b1 n k u => have := hs.1; simp only [owes]; omega
 | _ => simp only [owes]; split <;> omega
def Ru (P : Ops) : CS → Prop
 | .p1 _ _ _ u => u ≠ P.room
 | _ => True
structure All (sm : List Int → Int) (P : Ops) (M : Mc) (S : Nat → Wk) (B : Int) : Prop where
 inv : Inv M S B
 ih : Ih sm M
 ch : ∀ i, Ch sm P (S i).x M (S i).s
 rx : ∀ i, Rx (S i).x (S i).s
 ru : ∀ i, Ru P (S i).s
 cnt : M.W 32 = (allE P M).length + sumI 64 fun i => owes (S i).x (S i).s
 room : M.W 32 ≤ P.room
theorem All.ge {M : Mc} {S : Nat → Wk} {B : Int} (h : All sm P M S B) : ((allE P M).length : Int) ≤ M.W 32 := by
 have := j4 (f := fun i => owes (S i).x (S i).s) (n := 64) fun j _ => rG (h.inv.cw j)
 have := h.cnt
 omega
end Core
end
section
namespace Core
open Dir (FZ plc upd upW Iw okW dq upd_same upd_ne pow_pos2 plc_sh sh_32 aJ upW_sh)
variable {sm : List Int → Int} {P : Ops}
theorem gE {x : X} (h : x.res = true → x.op = 1 ∨ x.op = 2) (r : Rpl) : Rx x (leave x r).1 := by
 unfold leave; split
 ·exact ⟨h, trivial⟩
 ·exact ⟨h, trivial⟩
theorem n9 {x y : X} (h : x.res = true → x.op = 1 ∨ x.op = 2) {f : Fd} (h2 : f.there = true ∨ x.op = 1 ∨ x.op = 2) (c : Cel) (r : Rpl) (hy : y.res = x.res) : Rx x (put y f c r) := by
 unfold put; split
 ·exact ⟨h, trivial⟩
 ·rename_i e
  refine ⟨h, ?_⟩
  rcases h2 with h2 | h2
  ·exact absurd (.inl h2) e
  ·exact h2
theorem dR {x : X} (h : x.res = true → x.op = 1 ∨ x.op = 2) (h0 : x.res = false) (j sh : Nat) (g : Int) : Rx x (further j sh g).1 := by
 unfold further; split
 ·exact ⟨h, trivial⟩
 ·exact ⟨h, h0⟩
theorem jI (hP : OpsOk sm P) {M : Mc} (hI : Ih sm M) {x : X} {f : Fc} (hr : Rx x (.k0 f)) (hk : KF sm x f) {w : Nat} (hw : ∃ lv, lv ≤ 4 ∧ w = plc lv (sumF x f)) : Rx x (entered P x f w (M.W w) (M.Hd w)).1 := by
 have hsrt : Srt (M.Hd w) := by obtain ⟨lv, hl, rfl⟩ := hw; exact hI.word (plc_32 hl _)
 have h := hr.op
 unfold entered
 split
 ·exact hr
 ·unfold found
  cases f with
  | key =>
   show Rx x (foundK P x (fdOf P x w (M.W w) (M.Hd w))).1
   have hres : ¬ x.op = 1 → ¬ x.op = 2 → x.res = false := fun h1 h2 => by
    cases e : x.res with
    | false => rfl
    | true => rcases h e with h3 | h3 <;> contradiction
   have hf := hP.fnd (M.Hd w) x.pol x.key hsrt (show K sm x from hk).1
   unfold foundK
   by_cases h1 : x.op = 1
   ·rw [if_pos h1]; exact ⟨h, trivial⟩
   rw [if_neg h1]
   by_cases h2 : x.op = 2
   ·rw [if_pos h2]
    split
    ·exact gE h _
    ·split
     ·exact n9 h (.inr (.inr h2)) _ _ rfl
     ·exact ⟨h, h2⟩
   rw [if_neg h2]
   split
   ·split
    ·rename_i he
     refine n9 h (.inl ?_) _ _ rfl
     have h5 := hP.rel0 _ _ _ he
     show (P.fnd (M.Hd w) x.pol x.key).2.1 = true
     replace h5 : (P.fnd (M.Hd w) x.pol x.key).2.2.held ≠ [] := h5
     rw [hf.1]
     rw [hf.2] at h5
     cases e : look (M.Hd w) (x.pol :: x.key) with
     | none => rw [e] at h5; exact absurd rfl h5
     | some d => rfl
    ·exact ⟨h, trivial⟩
   ·split
    ·exact ⟨h, trivial⟩
    ·exact ⟨h, hres h1 h2⟩
  | ev j sh g =>
   have h0 : x.res = false := hr.st
   dsimp only
   split
   ·exact dR h h0 _ _ _
   ·exact ⟨h, h0⟩
theorem on_rx {x : X} (h : x.res = true → x.op = 1 ∨ x.op = 2) (h0 : x.res = false) (lv i : Nat) (up : Bool) (m : List Cel) : Rx x (on lv i up m) := by
 unfold on move; split
 ·split <;> exact ⟨h, h0⟩
 ·exact ⟨h, h0⟩
theorem step_rx (hP : OpsOk sm P) {M : Mc} {x : X} {s : CS} (hs : Cw x M.W s) (hI : Ih sm M) (hc : Ch sm P x M s) (hr : Rx x s) : Rx (step P M x s).x (step P M x s).s := by
 have h := hr.op
 cases s with
 | none => exact hr
 | k0 f => simp only [step]; split <;> exact ⟨h, hr.st⟩
 | kE f w => exact jI hP hI ⟨h, hr.st⟩ hc.1 hc.2
 | kF f lv w => simp only [step]; split <;> exact ⟨h, hr.st⟩
 | kG f lv w v m => simp only [step]; split <;> exact ⟨h, hr.st⟩
 | kH f lv w m =>
  simp only [step]; split
  ·exact ⟨h, hr.st⟩
  ·exact jI hP hI ⟨h, hr.st⟩ hc.1 ⟨lv, hs.2.2.1, hs.2.2.2.1⟩
 | kL f lv w m => exact ⟨h, hr.st⟩
 | al f =>
  have h1 : x.op = 1 := hs.2
  simp only [step]; split
  ·exact gE h _
  ·exact n9 h (.inr (.inl h1)) _ _ rfl
 | pk c => exact ⟨h, trivial⟩
 | a0 f =>
  simp only [step]; split
  ·exact gE h _
  ·exact ⟨h, hr.st⟩
 | a1 f u =>
  simp only [step]; split
  ·have h2 : x.op = 2 := hr.st
   exact n9 (x := { x with ser := u + 1 }) h (.inr (.inr h2)) _ _ rfl
  ·exact ⟨h, hr.st⟩
 | p0 f c r =>
  simp only [step]; split
  ·exact ⟨h, trivial⟩
  ·exact ⟨h, hr.st⟩
 | p1 f c r u =>
  simp only [step]; split
  ·exact ⟨fun _ => hr.st, trivial⟩
  ·exact ⟨h, hr.st⟩
 | pS f c r =>
  simp only [step]; split
  ·show Rx x (if _ then _ else _ : CS × Rs).1
   split
   ·exact gE h _
   ·exact ⟨h, trivial⟩
  ·exact ⟨h, trivial⟩
 | b0 n k => exact ⟨h, hr.st⟩
 | b1 n k u =>
  simp only [step]; split
  ·show Rx x (after n k).1
   cases k with
   | lv r => exact ⟨h, trivial⟩
   | ev j sh g => exact dR h hr.st _ _ _
  ·exact ⟨h, hr.st⟩
 | e0 => exact ⟨h, hr.st⟩
 | eC j sh g w v m =>
  simp only [step]; split
  ·exact dR h hr.st _ _ _
  ·exact ⟨h, hr.st⟩
 | eS j sh g w v m n =>
  simp only [step]; split
  ·exact ⟨h, hr.st⟩
  ·exact dR h hr.st _ _ _
 | s0 =>
  simp only [step]; split
  ·exact ⟨h, hr.st⟩
  ·split
   ·exact ⟨h, trivial⟩
   ·exact ⟨h, hr.st⟩
 | sM lv => simp only [step]; split <;> exact ⟨h, hr.st⟩
 | sF lv i => simp only [step]; split <;> exact ⟨h, hr.st⟩
 | sG lv i v m => simp only [step]; split <;> exact ⟨h, hr.st⟩
 | sH lv i up m =>
  simp only [step]; split
  ·exact ⟨h, hr.st⟩
  ·exact on_rx h hr.st _ _ _ _
 | sL lv i up m => exact on_rx h hr.st _ _ _ _
 | sV lv => exact ⟨h, trivial⟩
theorem gF (x : X) (r : Rpl) : Ru P (leave x r).1 := by unfold leave; split <;> trivial
theorem ro (x : X) (f : Fd) (c : Cel) (r : Rpl) : Ru P (put x f c r) := by unfold put; split <;> trivial
theorem dS (j sh : Nat) (g : Int) : Ru P (further j sh g).1 := by unfold further; split <;> trivial
theorem jJ (x : X) (f : Fc) (w : Nat) (v : Int) (h : List Cel) : Ru P (entered P x f w v h).1 := by
 unfold entered; split
 ·trivial
 ·unfold found
  cases f with
  | key =>
   show Ru P (foundK P x (fdOf P x w v h)).1
   unfold foundK
   (repeat' split) <;> first | trivial | exact gF _ _ | exact ro _ _ _ _
  | ev j sh g => dsimp only; split; exact dS _ _ _; trivial
theorem on_ru (lv i : Nat) (up : Bool) (m : List Cel) : Ru P (on lv i up m) := by
 unfold on move; (repeat' split) <;> trivial
theorem step_ru {M : Mc} {x : X} {s : CS} (hr : Ru P s) : Ru P (Core.step P M x s).s := by
 cases s with
 | none => trivial
 | k0 f => simp only [step]; split <;> trivial
 | kE f w => exact jJ _ _ _ _ _
 | kF f lv w => simp only [step]; split <;> trivial
 | kG f lv w v m => simp only [step]; split <;> trivial
 | kH f lv w m => simp only [step]; split; trivial; exact jJ _ _ _ _ _
 | kL f lv w m => trivial
 | al f => simp only [step]; split; exact gF _ _; exact ro _ _ _ _
 | pk c => trivial
 | a0 f => simp only [step]; split; exact gF _ _; trivial
 | a1 f u => simp only [step]; split; exact ro _ _ _ _; trivial
 | p0 f c r =>
  simp only [step]; split
  ·trivial
  ·rename_i e; exact e
 | p1 f c r u => simp only [step]; split; trivial; trivial
 | pS f c r =>
  simp only [step]; split
  ·show Ru P (if _ then _ else _ : CS × Rs).1
   split
   ·exact gF _ _
   ·trivial
  ·trivial
 | b0 n k => trivial
 | b1 n k u =>
  simp only [step]; split
  ·show Ru P (after n k).1
   cases k with
   | lv r => trivial
   | ev j sh g => exact dS _ _ _
  ·trivial
 | e0 => trivial
 | eC j sh g w v m => simp only [step]; split; exact dS _ _ _; trivial
 | eS j sh g w v m n => simp only [step]; split; trivial; exact dS _ _ _
 | s0 => simp only [step]; split; trivial; split <;> trivial
 | sM lv => simp only [step]; split <;> trivial
 | sF lv i => simp only [step]; split <;> trivial
 | sG lv i v m => simp only [step]; split <;> trivial
 | sH lv i up m => simp only [step]; split; trivial; exact on_ru _ _ _ _
 | sL lv i up m => exact on_ru _ _ _ _
 | sV lv => trivial
theorem qM {M : Mc} {B : Int} (h : Iw M.W B) (hB : 1 ≤ B ∧ B + 1 < FZ) {x : X} (hx : 0 ≤ x.ser) (h33 : 0 ≤ M.W 33) {s : CS} (hs : Cw x M.W s) (hr : Ru P s) (hm : M.W 32 ≤ P.room) : (Core.step P M x s).M.W 32 ≤ P.room := by
 cases (cT (P := P) h hB hx h33 hs).chg with
 | no h => rw [h]; exact hm
 | d h1 h2 => rw [h1, upd_ne _ _ (by omega)]; exact hm
 | fz w h0 h1 h2 => rw [h2, upd_ne _ _ (by omega)]; exact hm
 | lay w h0 h1 h2 => rw [h2, upd_ne _ _ (by omega)]; exact hm
 | key w h0 h1 h2 => rw [h2, upd_ne _ _ (by omega)]; exact hm
 | ser h1 h2 => rw [h2, upd_ne _ _ (by omega)]; exact hm
 | cnt y h2 k2 =>
  cases s with
  | p1 f c r u =>
   have hr : u ≠ P.room := hr
   simp only [step]; split
   ·show upd M.W 32 (u + 1) 32 ≤ _
    rw [upd_same]; omega
   ·exact hm
  | b1 n k u =>
   have := hs.1
   simp only [step]; split
   ·show upd M.W 32 (u - n) 32 ≤ _
    rw [upd_same]; omega
   ·exact hm
  | _ => exact absurd k2 (by simp [kd])
theorem All.step (hP : OpsOk sm P) {M : Mc} {S : Nat → Wk} {B : Int} (h : All sm P M S B) (hB : B + 1 < FZ) {i : Nat} (hi : i < 64) : All sm P (mx P M S i) (nx P M S i) (B + 1) := by
 have hI := h.inv
 have he := gw hP hI.iw ⟨hI.b, hB⟩ (hI.cw i) h.ih (h.ch i)
 have hs := hI.step (P := P) hB i
 have ho := qP (P := P) (hI.cw i) (h.rx i)
 have hcl := po hP hI.iw ⟨hI.b, hB⟩ (hI.ser i) hI.c33 (hI.cw i) h.ih (h.ch i)
 have at_ : ∀ {q : Wk → Prop}, q ⟨(Core.step P M (S i).x (S i).s).x, (Core.step P M (S i).x (S i).s).s⟩ → (∀ j, j ≠ i → q (S j)) → ∀ j, q (nx P M S i j) := fun {q} h1 h2 j => by
  unfold nx
  by_cases e : j = i
  ·rw [e, upd_same]; exact h1
  ·rw [upd_ne _ _ e]; exact h2 j e
 have hsum := cS (f := fun j => owes (S j).x (S j).s) (g := fun j => owes (nx P M S i j).x (nx P M S i j).s) (i := i) (n := 64) hi fun j _ hne => by
  show owes (nx P M S i j).x (nx P M S i j).s = _
  unfold nx; rw [upd_ne _ _ hne]
 have hii : nx P M S i i = ⟨(Core.step P M (S i).x (S i).s).x, (Core.step P M (S i).x (S i).s).s⟩ := by unfold nx; rw [upd_same]
 simp only [hii] at hsum
 have hcnt := h.cnt
 refine ⟨hs, he.ih, at_ (q := fun k => Ch sm P k.x (mx P M S i) k.s) he.ch fun j _ => he.mono.ch (hI.cw j) (h.ch j), at_ (q := fun k => Rx k.x k.s) (step_rx hP (hI.cw i) h.ih (h.ch i) (h.rx i)) fun j _ => h.rx j, at_ (q := fun k => Ru P k.s) (step_ru (h.ru i)) fun j _ => h.ru j, ?_, qM hI.iw ⟨hI.b, hB⟩ (hI.ser i) hI.c33 (hI.cw i) (h.ru i) h.room⟩
 ·show (Core.step P M (S i).x (S i).s).M.W 32 = ((allE P (Core.step P M (S i).x (S i).s).M).length : Int) + sumI 64 fun j => owes (nx P M S i j).x (nx P M S i j).s
  rw [hsum, hcl, ho, hcnt]; omega
end Core
end
section
namespace Core
open Dir (FZ upd upd_same upd_ne)
variable {P : Ops}
theorem step_none {M : Mc} {x : X} {s : CS} (hr : (Core.step P M x s).r.done = true) : (Core.step P M x s).s = .none := by
 have lv : ∀ r, (leave x r).2.done = true → (leave x r).1 = .none := fun r h => by unfold leave at h ⊢; split at h <;> simp_all [r0]
 have fu : ∀ j sh g, (further j sh g).2.done = true → (further j sh g).1 = .none := fun j sh g h => by unfold further at h ⊢; split at h <;> simp_all [r0]
 have hfk : ∀ f, (foundK P x f).2.done = true → (foundK P x f).1 = .none := fun f h => by
  unfold foundK at h ⊢
  by_cases h1 : x.op = 1
  ·rw [if_pos h1] at h; simp [r0] at h
  rw [if_neg h1] at h ⊢
  by_cases h2 : x.op = 2
  ·rw [if_pos h2] at h ⊢
   by_cases h3 : (f.cell.held.length : Int) = (P.pol x.pol).permits
   ·rw [if_pos h3] at h ⊢; exact lv _ h
   rw [if_neg h3] at h ⊢
   by_cases h4 : 0 < x.ser
   ·rw [if_pos h4] at h; simp [r0] at h
   ·rw [if_neg h4] at h; simp [r0] at h
  rw [if_neg h2] at h ⊢
  by_cases h5 : x.op = 3
  ·rw [if_pos h5] at h ⊢
   by_cases h6 : (P.rel (P.pol x.pol) f.cell x.n).1.e = 0
   ·rw [if_pos h6] at h; simp [r0] at h
   ·rw [if_neg h6]
  rw [if_neg h5] at h ⊢
  by_cases h7 : (P.pol x.pol).kind = 2
  ·rw [if_pos h7]
  ·rw [if_neg h7] at h; simp [r0] at h
 have hen : ∀ f w v hh, (entered P x f w v hh).2.done = true → (entered P x f w v hh).1 = .none := fun f w v hh h => by
  unfold entered at h ⊢
  split at h
  ·simp [r0] at h
  ·rename_i e; rw [if_neg e]
   cases f with
   | key => exact hfk _ h
   | ev j sh g =>
    simp only [found] at h ⊢
    split at h
    ·rename_i e; rw [if_pos e]; exact fu _ _ _ h
    ·simp [r0] at h
 cases s with
 | none => rfl
 | k0 f => simp [step, r0] at hr
 | kE f w => exact hen _ _ _ _ hr
 | kF f lv w => simp [step, r0] at hr
 | kG f lv w v m => simp only [step] at hr; split at hr <;> simp [r0] at hr
 | kH f lv w m =>
  by_cases e : M.W w = 0
  ·simp [step, if_pos e, r0] at hr
  ·simp only [step, if_neg e] at hr ⊢; exact hen _ _ _ _ hr
 | kL f lv w m => simp [step, r0] at hr
 | al f =>
  simp only [step] at hr ⊢
  split at hr <;> rename_i e
  ·rw [if_pos e]; exact lv _ hr
  ·simp [r0] at hr
 | pk c => rfl
 | a0 f =>
  simp only [step] at hr ⊢
  split at hr <;> rename_i e
  ·rw [if_pos e]; exact lv _ hr
  ·simp [r0] at hr
 | a1 f u => simp only [step] at hr; split at hr <;> simp [r0] at hr
 | p0 f c r =>
  simp only [step] at hr ⊢
  split at hr <;> rename_i e
  ·rw [if_pos e]
  ·simp [r0] at hr
 | p1 f c r u => simp only [step] at hr; split at hr <;> simp [r0] at hr
 | pS f c r =>
  simp only [step] at hr ⊢
  split at hr <;> rename_i e
  ·rw [if_pos e]
   simp only [same] at hr ⊢
   split at hr <;> rename_i e2
   ·rw [if_pos e2]; exact lv _ hr
   ·rw [if_neg e2]
  ·simp [r0] at hr
 | b0 n k => simp [step, r0] at hr
 | b1 n k u =>
  simp only [step] at hr ⊢
  split at hr <;> rename_i e
  ·rw [if_pos e]
   cases k with
   | lv r => rfl
   | ev j sh g => exact fu _ _ _ hr
  ·simp [r0] at hr
 | e0 => simp [step, r0] at hr
 | eC j sh g w v m =>
  simp only [step] at hr ⊢
  split at hr <;> rename_i e
  ·rw [if_pos e]; exact fu _ _ _ hr
  ·simp [r0] at hr
 | eS j sh g w v m n =>
  simp only [step] at hr ⊢
  split at hr <;> rename_i e
  ·simp [r0] at hr
  ·rw [if_neg e]; exact fu _ _ _ hr
 | s0 =>
  simp only [step] at hr ⊢
  split at hr <;> rename_i e
  ·simp [r0] at hr
  ·rw [if_neg e]
   split at hr <;> rename_i e2
   ·rw [if_pos e2]
   ·simp [r0] at hr
 | sM lv => simp only [step] at hr; split at hr <;> simp [r0] at hr
 | sF lv i => simp [step, r0] at hr
 | sG lv i v m => simp only [step] at hr; split at hr <;> simp [r0] at hr
 | sH lv i up m => simp [step, r0] at hr
 | sL lv i up m => simp [step, r0] at hr
 | sV lv => rfl
structure Sers (M : Mc) (S : Nat → Wk) (G : List Int) : Prop where
 le : ∀ i, (S i).x.ser ≤ M.W 33
 ne : ∀ i j, i ≠ j → (S i).s ≠ .none → (S j).s ≠ .none → (S i).x.ser ≠ 0 → (S i).x.ser ≠ (S j).x.ser
 gv : ∀ g ∈ G, 1 ≤ g ∧ g ≤ M.W 33 ∧ ∀ i, (S i).s ≠ .none → (S i).x.ser ≠ g
 nd : G.Nodup
 sr : ∀ i, Sr (S i).x (S i).s
def give (r : Rpl) (G : List Int) : List Int := if r.serial = 0 then G else r.serial :: G
theorem Sers.step (hP : pg P) {M : Mc} {S : Nat → Wk} {B : Int} (h : Inv M S B) (hB : B + 1 < FZ) {G : List Int} (hs : Sers M S G) (i : Nat) (hn : (S i).s ≠ .none) (hd : (Core.step P M (S i).x (S i).s).r.done = false → (Core.step P M (S i).x (S i).s).r.r.serial = 0) :
  Sers (mx P M S i) (nx P M S i) (give (Core.step P M (S i).x (S i).s).r.r G) := by
 have h1 := jg (P := P) h.iw ⟨h.b, hB⟩ (h.ser i) h.c33 (h.cw i)
 have h2 := step_sr hP (M := M) (hs.sr i)
 have hii : nx P M S i i = ⟨(Core.step P M (S i).x (S i).s).x, (Core.step P M (S i).x (S i).s).s⟩ := by unfold nx; rw [upd_same]
 have hij : ∀ j, j ≠ i → nx P M S i j = S j := fun j e => by unfold nx; rw [upd_ne _ _ e]
 have hsr : ∀ j, Sr (nx P M S i j).x (nx P M S i j).s := fun j => by
  by_cases e : j = i
  ·subst e; rw [hii]; exact h2.1
  ·rw [hij _ e]; exact hs.sr j
 rcases h1 with ⟨a, b⟩ | ⟨a, b, c, d⟩
 ·have le' : ∀ j, (nx P M S i j).x.ser ≤ (mx P M S i).W 33 := fun j => by
   show _ ≤ (Core.step P M (S i).x (S i).s).M.W 33
   rw [a]
   by_cases e : j = i
   ·subst e; rw [hii]; show (Core.step P M (S j).x (S j).s).x.ser ≤ _; rw [b]; exact hs.le j
   ·rw [hij _ e]; exact hs.le j
  have act : ∀ j, (nx P M S i j).s ≠ .none → (S j).s ≠ .none ∧ (nx P M S i j).x.ser = (S j).x.ser := fun j hj => by
   by_cases e : j = i
   ·subst e; rw [hii]; exact ⟨hn, b⟩
   ·rw [hij _ e] at hj ⊢; exact ⟨hj, rfl⟩
  refine ⟨le', fun j k hjk hj hk h0 => ?_, ?_, ?_, hsr⟩
  ·rw [(act j hj).2] at h0 ⊢; rw [(act k hk).2]
   exact hs.ne j k hjk (act j hj).1 (act k hk).1 h0
  ·intro g hg
   show 1 ≤ g ∧ g ≤ (Core.step P M (S i).x (S i).s).M.W 33 ∧ _
   rw [a]
   unfold give at hg
   split at hg
   ·obtain ⟨g1, g2, g3⟩ := hs.gv g hg
    exact ⟨g1, g2, fun j hj => by rw [(act j hj).2]; exact g3 j (act j hj).1⟩
   ·rename_i h0
    rcases Q22 hg with e | hg
    ·have e2 := (h2.2 h0).1
     rw [b] at e2
     have hdn : (Core.step P M (S i).x (S i).s).r.done = true := by
      cases e3 : (Core.step P M (S i).x (S i).s).r.done with
      | true => rfl
      | false => exact absurd (hd e3) h0
     have hno := step_none hdn
     have := h.ser i
     have := hs.le i
     refine ⟨by omega, by omega, fun j hj => ?_⟩
     have hji : j ≠ i := fun e4 => by subst e4; rw [hii] at hj; exact hj hno
     rw [(act j hj).2, e, e2]
     exact fun e5 => hs.ne i j (fun e => hji e.symm) hn (act j hj).1 (by omega) e5.symm
    ·obtain ⟨g1, g2, g3⟩ := hs.gv g hg
     exact ⟨g1, g2, fun j hj => by rw [(act j hj).2]; exact g3 j (act j hj).1⟩
  ·unfold give
   split
   ·exact hs.nd
   ·rename_i h0
    have e2 := (h2.2 h0).1
    rw [b] at e2
    rw [List.nodup_cons, e2]
    exact ⟨fun hm => (hs.gv _ hm).2.2 i hn rfl, hs.nd⟩
 ·have act : ∀ j, (nx P M S i j).s ≠ .none → (S j).s ≠ .none ∧ (j ≠ i → (nx P M S i j).x.ser = (S j).x.ser) ∧ (j = i → (nx P M S i j).x.ser = M.W 33 + 1) := fun j hj => by
   by_cases e : j = i
   ·subst e; rw [hii]; exact ⟨hn, fun e => absurd rfl e, fun _ => b⟩
   ·rw [hij _ e] at hj ⊢; exact ⟨hj, fun _ => rfl, fun e' => absurd e' e⟩
  have h33 := h.c33
  refine ⟨fun j => ?_, fun j k hjk hj hk h0 => ?_, ?_, ?_, hsr⟩
  ·show _ ≤ (Core.step P M (S i).x (S i).s).M.W 33
   rw [a]
   by_cases e : j = i
   ·subst e; rw [hii]; show (Core.step P M (S j).x (S j).s).x.ser ≤ _; rw [b]; exact Int.le_refl _
   ·rw [hij _ e]; have := hs.le j; omega
  ·by_cases e : j = i
   ·have hk' : k ≠ i := fun e2 => hjk (e.trans e2.symm)
    rw [(act j hj).2.2 e, (act k hk).2.1 hk']
    have := hs.le k; omega
   ·rw [(act j hj).2.1 e] at h0 ⊢
    by_cases e2 : k = i
    ·rw [(act k hk).2.2 e2]; have := hs.le j; omega
    ·rw [(act k hk).2.1 e2]; exact hs.ne j k hjk (act j hj).1 (act k hk).1 h0
  ·intro g hg
   show 1 ≤ g ∧ g ≤ (Core.step P M (S i).x (S i).s).M.W 33 ∧ _
   rw [a]
   have hg : g ∈ G := by unfold give at hg; rw [if_pos (hd d)] at hg; exact hg
   obtain ⟨g1, g2, g3⟩ := hs.gv g hg
   refine ⟨g1, by omega, fun j hj => ?_⟩
   by_cases e : j = i
   ·rw [(act j hj).2.2 e]; omega
   ·rw [(act j hj).2.1 e]; exact g3 j (act j hj).1
  ·unfold give; rw [if_pos (hd d)]; exact hs.nd
end Core
end
section
namespace Core
open Dir (FZ upd upd_same upd_ne)
variable {P : Ops}
theorem Sers.start {M : Mc} {S : Nat → Wk} {G : List Int} (hs : Sers M S G) (h33 : 0 ≤ M.W 33) {i : Nat} {k : Wk} (h0 : k.x.ser = 0) (hk : Sr k.x k.s) : Sers M (upd S i k) G := by
 have hii : upd S i k i = k := upd_same _ _ _
 have hij : ∀ j, j ≠ i → upd S i k j = S j := fun j e => upd_ne _ _ e
 refine ⟨fun j => ?_, fun j l hjl hj hl hne => ?_, fun g hg => ?_, hs.nd, fun j => ?_⟩
 ·by_cases e : j = i
  ·subst e; rw [hii, h0]; exact h33
  ·rw [hij _ e]; exact hs.le j
 ·by_cases e : j = i
  ·subst e; rw [hii] at hne; exact absurd h0 hne
  ·rw [hij _ e] at hj hne ⊢
   by_cases e2 : l = i
   ·subst e2; rw [hii, h0]; exact hne
   ·rw [hij _ e2] at hl ⊢; exact hs.ne j l hjl hj hl hne
 ·obtain ⟨g1, g2, g3⟩ := hs.gv g hg
  refine ⟨g1, g2, fun j hj => ?_⟩
  by_cases e : j = i
  ·subst e; rw [hii, h0]; omega
  ·rw [hij _ e] at hj ⊢; exact g3 j hj
 ·by_cases e : j = i
  ·subst e; rw [hii]; exact hk
  ·rw [hij _ e]; exact hs.sr j
end Core
end
section
namespace Core
open Dir (FZ upd upd_same upd_ne)
variable {P : Ops}
theorem step_op (M : Mc) (x : X) (s : CS) : (Core.step P M x s).x.op = x.op := by
 cases s with
 | s0 => simp only [step]; split; rfl; split <;> rfl
 | _ => (first | rfl | (simp only [step]; split <;> rfl))
def pd (k : Wk) : Int := match k.s with
 | .none => 0
 | _ => if k.x.op = 2 ∧ k.x.ser = 0 then 1 else 0
def pend (S : Nat → Wk) : Int := sumI 64 fun i => pd (S i)
end Core
end
section
namespace Core
open Dir (FZ upd upW upd_same upd_ne pow_pos2 sh_32 upW_sh)
variable {P : Ops}
end Core
end
namespace Dir
def left (P : Ops) (W : Nat → Int) (cs : Nat → CS) : Nat := sumN 8 (fun j => T P W (cs j)) + 56 * rem W
structure Inv (P : Ops) (M : Mc) (cs : Nat → CS) (B : Int) : Prop where
 iw : Iw M.W B
 b : 1 ≤ B
 cw : ∀ j, Cw P M.W (cs j)
theorem Inv.step {P : Ops} (hP : ∀ c h r, P.fnd c h = .inl r → r.done = true) {M : Mc} {cs : Nat → CS} {B : Int} (h : Inv P M cs B) (hB : B + 1 < FZ) (i : Nat) : Inv P (step P M (cs i)).1 (upd cs i (Dir.step P M (cs i)).2.1) (B + 1) := by
 have h1 := cT hP h.iw ⟨h.b, hB⟩ (h.cw i)
 refine ⟨h1.iw, by have := h.b; omega, fun j => ?_⟩
 by_cases e : j = i
 ·subst e; rw [upd_same]; exact h1.cw
 ·rw [upd_ne _ _ e]; exact h1.gr.cw (h.cw j)
def M0 : Mc := ⟨fun w => if w = 1 then 1 else 0, fun _ => []⟩
theorem Inv.zero (P : Ops) : Inv P M0 (fun _ => .none) 1 := by
 refine ⟨⟨by simp [M0], fun lv i hl hi => ?_⟩, by omega, fun j => trivial⟩
 have hF : FZ = 4611686018427387904 := rfl
 have h0 : M0.W 0 = 0 := rfl
 rw [h0]
 by_cases e : lv = 0
 ·subst e
  obtain rfl : i = 0 := by omega
  show okW 0 0 1 _ 1
  unfold okW; omega
 ·have : M0.W (2 ^ lv + i) = 0 := by
   have : 2 ^ 1 ≤ 2 ^ lv := Q16 (by omega) (by omega)
   simp only [M0]; rw [if_neg (by omega)]
  rw [this]; unfold okW; omega
end Dir
section
namespace Core
open Dir (FZ plc upd upW Iw okW dq upd_same upd_ne pow_pos2)
variable {sm : List Int → Int} {P : Ops}
def M0 : Mc := ⟨Dir.M0.W, fun _ => [], 0⟩
def first (x : X) : CS := if x.op = 6 then .s0 else if x.op = 5 then .e0 else .k0 .key
def okNew (sm : List Int → Int) (x : X) : Prop := x.res = false ∧ x.ser = 0 ∧ (x.op = 5 ∨ x.op = 6 ∨ K sm x)
theorem sumI_zero : ∀ {n : Nat}, sumI n (fun _ => 0) = 0
 | 0 => rfl
 | n + 1 => by simp only [sumI]; rw [sumI_zero (n := n)]; rfl
theorem tz : allE P M0 = [] := rfl
theorem All.zero (h : 0 ≤ P.room) : All sm P M0 (fun _ => ⟨default, .none⟩) 1 := by
 have hi := Dir.Inv.zero ⟨fun _ => 0, fun _ _ _ => [], fun _ _ => .inl Dir.r0⟩
 refine ⟨⟨hi.iw, by omega, by show (0 : Int) ≤ Dir.M0.W 33; decide, fun _ => trivial, fun _ => by show (0 : Int) ≤ (default : X).ser; decide⟩, fun lv i _ _ => ⟨⟨(fun c hc => nomatch hc), List.Pairwise.nil⟩, (fun c hc => nomatch hc)⟩, fun _ => trivial, fun _ => ⟨(fun h => nomatch h), trivial⟩, fun _ => trivial, ?_, h⟩
 show Dir.M0.W 32 = ((allE P M0).length : Int) + sumI 64 fun _ => 0
 rw [tz, sumI_zero]; rfl
theorem All.start {M : Mc} {S : Nat → Wk} {B : Int} (h : All sm P M S B) {i : Nat} (hi : i < 64) (hn : (S i).s = .none) {x : X} (hx : okNew sm x) : All sm P M (upd S i ⟨x, first x⟩) B := by
 obtain ⟨h1, h2, h3⟩ := hx
 have at_ : ∀ {q : Wk → Prop}, q ⟨x, first x⟩ → (∀ j, q (S j)) → ∀ j, q (upd S i ⟨x, first x⟩ j) := fun {q} g1 g2 j => by
  by_cases e : j = i
  ·rw [e, upd_same]; exact g1
  ·rw [upd_ne _ _ e]; exact g2 j
 have hcw : Cw x M.W (first x) := by unfold first; (repeat' split) <;> trivial
 have how : owes x (first x) = 0 := by unfold first; (repeat' split) <;> simp [owes, h1]
 have hsum := cS (f := fun j => owes (S j).x (S j).s) (g := fun j => owes (upd S i ⟨x, first x⟩ j).x (upd S i ⟨x, first x⟩ j).s) (i := i) (n := 64) hi fun j _ hne => by
  show owes (upd S i ⟨x, first x⟩ j).x (upd S i ⟨x, first x⟩ j).s = _
  rw [upd_ne _ _ hne]
 have e1 : owes (S i).x (S i).s = 0 := by rw [hn]; rfl
 have e2 : owes (upd S i ⟨x, first x⟩ i).x (upd S i ⟨x, first x⟩ i).s = 0 := by rw [upd_same]; exact how
 replace hsum : sumI 64 (fun j => owes (upd S i ⟨x, first x⟩ j).x (upd S i ⟨x, first x⟩ j).s) = sumI 64 (fun j => owes (S j).x (S j).s) + owes (upd S i ⟨x, first x⟩ i).x (upd S i ⟨x, first x⟩ i).s - owes (S i).x (S i).s := hsum
 rw [e1, e2] at hsum
 refine ⟨h.inv.start i hcw (by rw [h2]; omega), h.ih, at_ (q := fun k => Ch sm P k.x M k.s) ?_ h.ch, at_ (q := fun k => Rx k.x k.s) ⟨fun e => absurd (h1.symm.trans e) (by decide), ?_⟩ h.rx, at_ (q := fun k => Ru P k.s) ?_ h.ru, ?_, h.room⟩
 ·show Ch sm P x M (first x)
  unfold first
  split
  ·trivial
  ·split
   ·trivial
   ·rcases h3 with h3 | h3 | h3
    ·contradiction
    ·contradiction
    ·exact h3
 ·show Rs' x (first x)
  unfold first; (repeat' split) <;> first | exact h1 | trivial
 ·show Ru P (first x)
  unfold first; (repeat' split) <;> trivial
 ·have := h.cnt
  rw [hsum]; omega
theorem All.tick {M : Mc} {S : Nat → Wk} {B : Int} (h : All sm P M S B) {t : Int} (ht : M.clk ≤ t) : All sm P ⟨M.W, M.Hd, t⟩ S B :=
 ⟨⟨h.inv.iw, h.inv.b, h.inv.c33, h.inv.cw, h.inv.ser⟩, h.ih, fun i => (iV.tick M ht).ch (h.inv.cw i) (h.ch i), h.rx, h.ru, h.cnt, h.room⟩
theorem alone_T {M : Mc} {S : Nat → Wk} {B : Int} (h : Inv M S B) {i : Nat} (hn : (S i).s ≠ .none) (hr : (Core.step P M (S i).x (S i).s).r.done = false) :
  (nx P M S i i).s ≠ .none ∧ T (nx P M S i i).x (mx P M S i).W (nx P M S i i).s + 1 ≤ T (S i).x M.W (S i).s := by
 have h1 := step_T (P := P) h.iw (h.ser i) hn (h.cw i) hr
 have h2 := step_some (P := P) hn hr
 unfold nx; rw [upd_same]
 exact ⟨h2, h1⟩
end Core
end
theorem pc (k : IntKind) (hk : k.bits = 64) (x : Int) (n : Nat) (hn : n ≤ 30) : bits .and k x (2 ^ n - 1) = x % 2 ^ n := by
 have hp : (0 : Int) < 2 ^ n := Int.pow_pos (by decide)
 have hle : (2 : Nat) ^ n ≤ 2 ^ 30 := Q16 (by decide) hn
 have hpe : ((2 ^ n : Nat) : Int) = 2 ^ n := by simp
 have e1 : (BitVec.ofInt k.bits ((2 : Int) ^ n - 1)).toNat = 2 ^ n - 1 := by
  rw [BitVec.toNat_ofInt, hk]
  have : ((2 : Int) ^ n - 1) % ((2 ^ 64 : Nat) : Int) = 2 ^ n - 1 := Int.emod_eq_of_lt (by omega) (by omega)
  rw [this]; omega
 have e2 : ((BitVec.ofInt k.bits x &&& BitVec.ofInt k.bits ((2 : Int) ^ n - 1)).toNat : Int) = x % 2 ^ n := by
  rw [BitVec.toNat_and, e1, Nat.and_two_pow_sub_one_eq_mod, BitVec.toNat_ofInt, hk]
  have h0 : 0 ≤ x % ((2 ^ 64 : Nat) : Int) := Int.emod_nonneg _ (by decide)
  rw [Int.natCast_emod, Int.toNat_of_nonneg h0, hpe]
  refine Int.emod_emod_of_dvd x ?_
  obtain ⟨d, hd⟩ : ∃ d, 64 = n + d := ⟨64 - n, by omega⟩
  rw [hd]
  exact ⟨2 ^ d, by rw [← Int.pow_add]; norm_cast⟩
 have h1 := Int.emod_nonneg x (by omega : (2 ^ n : Int) ≠ 0)
 have h2 := Int.emod_lt_of_pos x hp
 unfold bits
 simp only
 rw [e2]
 have hw : ∀ v : Int, 0 ≤ v → v < 2 ^ 30 → k.wrap v = v := by
  intro v h3 h4
  cases k <;> first | (exact IntWalk.i64_in _ (by omega)) | (exact IntWalk.u64_in _ (by omega)) | (simp [IntKind.bits] at hk) | (unfold IntKind.wrap; simp [IntKind.bits, IntKind.signed]; omega)
 exact hw _ h1 (by omega)
theorem tV (s : Int) (n : Nat) (hn : n ≤ 30) : IntKind.i64.wrap s % 2 ^ n = s % 2 ^ n := by
 have hw : ∃ q : Int, IntKind.i64.wrap s = s + 2 ^ 64 * q := by
  have hdef := Int.emod_def s (2 ^ 64)
  show ∃ q : Int, (if (IntKind.i64.signed && decide (s % 2 ^ 64 ≥ 2 ^ 63)) = true then s % 2 ^ 64 - 2 ^ 64 else s % 2 ^ 64) = _
  split
  ·exact ⟨-(s / 2 ^ 64) - 1, by rw [hdef, Int.mul_sub, Int.mul_neg]; omega⟩
  ·exact ⟨-(s / 2 ^ 64), by rw [hdef, Int.mul_neg]; omega⟩
 obtain ⟨q, hq⟩ := hw
 rw [hq]
 obtain ⟨d, hd⟩ : ∃ d, 64 = n + d := ⟨64 - n, by omega⟩
 rw [hd, Int.pow_add, Int.mul_assoc, Int.add_mul_emod_self_left]
theorem bt (n : Int) : Pure TC 35 [.i .i64 n] (.b (decide (0 ≤ n) && decide (n < 64))) := by
 refine Pure.mk' Tryz.func35 rfl rfl zN ?_
 (repeat' (first | ((first | refine Wp.any ac rfl ?_ | (with_reducible first | refine Go.mk ?_ | apply ah.of)); conv => whnf) | ((refine aq (fun hc => ?_) (fun hc => ?_)) <;> (try simp only [wz9] at hc) <;> (try (exfalso; omega)) <;> (conv => whnf))))
 all_goals exact .b (by simp; omega)
theorem cV (who word words : Int) : Pure TC 120 [.i .i64 who, .i .i64 word, .i .i64 words] (.i .i64 (if (0 ≤ who ∧ who < 64) ∧ 0 ≤ word ∧ word < words then 0 else 1)) := by
 refine Pure.mk' Tryz.func120 rfl rfl zN ?_
 (repeat' (first | ((first | refine Wp.any ac rfl ?_ | (with_reducible first | refine Go.mk ?_ | apply ah.of)); conv => whnf) | ((refine aq (fun hc => ?_) (fun hc => ?_)) <;> (try simp only [wz9] at hc) <;> (try (exfalso; omega)) <;> (conv => whnf))))
 all_goals first | exact .i (by rw [if_pos (by omega)]) | exact .i (by rw [if_neg (by omega)])
theorem rv (lv : Nat) (hl : lv ≤ 4) (s : Int) : IntKind.i64.wrap (IntKind.i64.wrap (1 * 2 ^ min ((lv : Nat) : Int).toNat IntKind.i64.bits) + bits .and .i64 (IntKind.i64.wrap s) (IntKind.i64.wrap (IntKind.i64.wrap (1 * 2 ^ min ((lv : Nat) : Int).toNat IntKind.i64.bits) - 1))) = Dir.plc lv s := by
 have e1 : IntKind.i64.wrap (1 * 2 ^ min ((lv : Nat) : Int).toNat IntKind.i64.bits) = 2 ^ lv ∧ IntKind.i64.wrap (2 ^ lv - 1) = 2 ^ lv - 1 ∧ (2 : Int) ^ lv ≤ 16 ∧ (0 : Int) < 2 ^ lv := by
  have hlv : lv = 0 ∨ lv = 1 ∨ lv = 2 ∨ lv = 3 ∨ lv = 4 := by omega
  rcases hlv with rfl | rfl | rfl | rfl | rfl <;> decide
 obtain ⟨e1, e2, e3, e4⟩ := e1
 rw [e1, e2, pc .i64 rfl _ lv (by omega), tV s lv (by omega)]
 have h1 := Int.emod_nonneg s (by omega : (2 ^ lv : Int) ≠ 0)
 have h2 := Int.emod_lt_of_pos s e4
 rw [IntWalk.i64_in _ (by omega)]
 unfold Dir.plc
 have : ((2 ^ lv : Nat) : Int) = 2 ^ lv := by simp
 omega
theorem b6 (lv : Nat) (hl : lv ≤ 4) (s : Int) : Pure TC 64 [.i .i64 lv, .i .u64 s] (.i .i64 (Dir.plc lv s)) := by
 refine Pure.mk' Tryz.func64 rfl rfl zN ?_
 (repeat' (first | ((first | refine Wp.any ac rfl ?_ | (with_reducible first | refine Go.mk ?_ | apply ah.of | refine And.intro zC ?_ | refine Ov.mk ?_)); conv => whnf)))
 exact .i (rv lv hl s)
def sumF (h : Int) : List Int → Int
 | [] => h
 | x :: r => sumF (IntKind.u64.wrap (bits .xor .u64 h (IntKind.u64.wrap x) * 1099511628211)) r
def lz (key : List Int) : Int := sumF 14695981039346656037 key
theorem qK (h : Int) (x : Int) : ∀ l : List Int, sumF h (l ++ [x]) = IntKind.u64.wrap (bits .xor .u64 (sumF h l) (IntKind.u64.wrap x) * 1099511628211) := by
 intro l
 induction l generalizing h with
 | nil => rfl
 | cons y r ih => exact ih _
theorem qJ (h : Int) {p : List Int} {k : Nat} (hk : k < p.length) : sumF h (p.take (k + 1)) = IntKind.u64.wrap (bits .xor .u64 (sumF h (p.take k)) (IntKind.u64.wrap (p.getD (k : Int).toNat default)) * 1099511628211) := by
 rw [List.take_succ_eq_append_getElem hk, qK, Q13, Q1, Q0 hk]; rfl
theorem nq (h : Int) (p : List Int) : Pure TC 123 [.i .u64 h, .d (am 1 (aF .u8) p)] (.i .u64 (sumF h p)) := by
 refine Pure.lens (.mk Tryz.func123 rfl rfl) fun hlen => ?_
 have ha := hlen p.length (by simp [ec, am])
 clear hlen
 refine Pure.mk' Tryz.func123 rfl rfl zN ?_
 (repeat' (first | ((first | refine Wp.any ac rfl ?_ | (with_reducible first | refine Go.mk ?_ | apply ah.of)); conv => whnf)))
 refine Wp.loopP (ι := Nat) (fun k => k ≤ p.length) (fun k => ⟨⟨Tryz.f123.ntmps, 0⟩, 0, [(0, .i .u64 (sumF h (p.take k))), (7, .d (am 1 (aF .u8) p)), (8, .i .i64 p.length), (9, .i .i64 k)], []⟩) (fun k => p.length - k) 0 (Nat.zero_le _) ?_ ?_
 ·(refine Le.by [] rfl rfl rfl rfl ?_ ?_ <;> (conv => whnf) <;> (repeat' (first | exact trivial | exact ae.rfl rfl | ((with_reducible refine And.intro ?_ ?_) <;> (conv => whnf)))))
 ·rintro k h1
  (repeat' (first | ((first | refine Wp.any ac rfl ?_ | (with_reducible first | refine Go.mk ?_ | apply ah.of | refine Ov.ok zO ?_ | refine And.intro zC ?_ | refine Ov.mk ?_)); conv => whnf) | ((refine aq (fun hc => ?_) (fun hc => ?_)) <;> (try simp only [wz9] at hc) <;> (try (exfalso; omega)) <;> (conv => whnf))))
  ·refine ⟨k + 1, by dsimp only; omega, by dsimp only; omega, ?_⟩
   dsimp only
   rw [qJ h (by omega)]
   (refine Le.by [] rfl rfl rfl rfl ?_ ?_ <;> (conv => whnf) <;> (repeat' (first | exact trivial | exact ae.rfl rfl | ((with_reducible refine And.intro ?_ ?_) <;> (conv => whnf)))))
  ·obtain rfl : k = p.length := by omega
   rw [List.take_length]; exact .i rfl
theorem oI (p : List Int) : Pure TC 93 [.d (am 1 (aF .u8) p)] (.i .u64 (lz p)) := by
 refine Pure.mk' Tryz.func93 rfl rfl zN ?_
 (repeat' (first | ((first | refine Wp.any ac rfl ?_ | (with_reducible first | refine Go.mk ?_ | apply ah.of | refine ab.pure (nq 14695981039346656037 p) rfl rfl ?_)); conv => whnf)))
 exact .i (by unfold lz; rfl)
theorem qX (lv : Nat) (hl : lv ≤ 4) (s : Int) : IntKind.i64.wrap (bits .and .u64 s (IntKind.u64.wrap (IntKind.u64.wrap (1 * 2 ^ min ((lv : Nat) : Int).toNat IntKind.u64.bits) - 1))) = s % 2 ^ lv := by
 have e1 : IntKind.u64.wrap (1 * 2 ^ min ((lv : Nat) : Int).toNat IntKind.u64.bits) = 2 ^ lv ∧ IntKind.u64.wrap (2 ^ lv - 1) = 2 ^ lv - 1 ∧ (2 : Int) ^ lv ≤ 16 ∧ (0 : Int) < 2 ^ lv := by
  have hlv : lv = 0 ∨ lv = 1 ∨ lv = 2 ∨ lv = 3 ∨ lv = 4 := by omega
  rcases hlv with rfl | rfl | rfl | rfl | rfl <;> decide
 obtain ⟨e1, e2, e3, e4⟩ := e1
 rw [e1, e2, pc .u64 rfl _ lv (by omega)]
 have h1 := Int.emod_nonneg s (by omega : (2 ^ lv : Int) ≠ 0)
 have h2 := Int.emod_lt_of_pos s e4
 exact IntWalk.i64_in _ (by omega)
theorem pK (p : List Int) (lv : Nat) (hl : lv ≤ 4) : Pure TC 66 [.d (am 1 (aF .u8) p), .i .i64 lv] (.tup [.i .i64 (lz p % 2 ^ lv), .i .i64 0]) := by
 refine Pure.mk' Tryz.func66 rfl rfl zN ?_
 (repeat' (first | ((first | refine Wp.any ac rfl ?_ | (with_reducible first | refine Go.mk ?_ | apply ah.of)); conv => whnf) | with_reducible exact rfl | ((first | refine zV ?_ | with_reducible refine And.intro zC ?_); conv => whnf) | (with_reducible refine Or.inl ?_) | ((with_reducible first | refine ag.pure (oI _) rfl rfl ?_ | refine Ov.mk ?_); conv => whnf) | ((refine aq (fun hc => ?_) (fun hc => ?_)) <;> (try simp only [wz9] at hc) <;> (try (exfalso; omega)) <;> (conv => whnf))))
 all_goals try (exfalso; omega)
 exact .tup (.cons (.i (qX lv hl _)) (.cons (.rfl _) .nil))
section
def se (lv sh : Nat) (c : Cel) : Bool := decide (lz (bN c.pol c.key) % 2 ^ lv = (sh : Int))
def gt (xs : List Cel) (lv sh : Nat) : List Cel := xs.filter (se lv sh)
def aa (ps : List Pol) (room : Int) : Core.Ops where
 cut := gt
 fnd h pol key := (ce h (newC pol key), gp h (newC pol key), gq h pol key)
 wth := dv
 allow p c t n := (jW p c t n, mJ p c t n)
 acq p c n := (pf p c n, nN p c n)
 rel p c n := (py p c n, pz p c n)
 peek := lY
 idle c t := bM ps c t
 pol i := ps.getD i.toNat default
 room := room
theorem d9 (ps : List Pol) (room : Int) : Core.OpsOk lz (aa ps room) where
 cut h lv i hs := by
  refine ⟨hs.filter _, fun c => ?_⟩
  show c ∈ h.filter _ ↔ _
  rw [List.mem_filter]
  refine and_congr_right fun hc => ?_
  unfold se
  rw [cL (hs.ok c hc)]
  show decide (lz (idn c) % 2 ^ lv = (i : Int)) = true ↔ _
  rw [decide_eq_true_iff]
 fnd h pol key hs hi := by
  have h1 := has_iff hs (t := newC pol key) hi
  have h2 := sJ hs hi
  exact ⟨h1, h2⟩
 wth h pol key c hs hi e := by
  have e' : idn c = idn (newC pol key) := e
  have hc : gz c.pol c.key := by
   have h1 : c.pol = pol ∧ c.key = key := by simpa [idn] using e
   rw [h1.1, h1.2]; exact hi
  have h1 := nS hs hc e'
  refine ⟨h1.1, fun i => ?_⟩
  have h2 := qz hs hc e' i
  rw [e] at h2
  exact h2
 allow p c t n := rfl
 acq p c n := by show idn (nN p c n) = _; unfold nN; split <;> rfl
 rel p c n := by show idn (pz p c n) = _; unfold pz; split <;> rfl
 rel0 p c n h := by
  replace h : (py p c n).e = 0 := h
  unfold py at h
  intro e
  by_cases h0 : c8 p.permits c.held n = 0
  ·have := nr (sj.1 h0).2
   rw [e] at this; simp at this
  ·rw [if_neg h0] at h; exact h0 h
theorem pl {xs : List Cel} {p : Nat} {t : Bool} {c : Cel} (h : p ≤ xs.length) : (dv xs p t c).length ≤ xs.length + 1 := by
 unfold dv; split
 ·simp
 ·rw [aN _ _ _ h]; omega
structure eE (ps : List Pol) (c : Cel) : Prop where
 byt : IsB c.key
 key : c.key.length ≤ 255
 held : c.held.length ≤ 64
 pol : 0 ≤ c.pol ∧ c.pol < ps.length
structure Hc (ps : List Pol) (n : Nat) (h : List Cel) : Prop where
 len : h.length ≤ n
 cel : ∀ c ∈ h, eE ps c
variable {ps : List Pol} {room : Int}
theorem Hc.mono {n m : Nat} {h : List Cel} (x : Hc ps n h) (e : n ≤ m) : Hc ps m h := ⟨Nat.le_trans x.len e, x.cel⟩
theorem Hc.nil {n : Nat} : Hc ps n [] := ⟨Nat.zero_le _, by simp⟩
theorem Hc.filter {n : Nat} {h : List Cel} (x : Hc ps n h) (q : Cel → Bool) : Hc ps n (h.filter q) := ⟨Nat.le_trans (List.length_filter_le _ _) x.len, fun c hc => x.cel c (List.mem_filter.1 hc).1⟩
theorem Hc.get {n : Nat} {h : List Cel} (x : Hc ps n h) {k : Nat} (hk : k < h.length) : eE ps (h.getD k default) := x.cel _ (c9 hk)
theorem Hc.byt {n : Nat} {h : List Cel} (x : Hc ps n h) (k : Nat) : IsB (h.getD k default).key := by
 by_cases hk : k < h.length
 ·exact (x.get hk).byt
 ·rw [Q1, List.getElem?_eq_none (by omega)]; intro y hy; exact absurd hy (by simp [default, instInhabitedCel.default])
theorem Hc.find {n : Nat} {h : List Cel} (x : Hc ps n h) {pol : Int} {key : List Int} (hk : eE ps (newC pol key)) : eE ps (gq h pol key) := by
 unfold gq
 split
 ·rename_i e
  refine x.get ?_
  have := (eU _ _).1 e
  exact this.1
 ·exact hk
theorem Hc.wth {n : Nat} {h : List Cel} (x : Hc ps n h) {a : Nat} (ha : a ≤ h.length) {b : Bool} {c : Cel} (hc : eE ps c) : Hc ps (n + 1) (dv h a b c) := by
 refine ⟨Nat.le_trans (pl ha) (by have := x.len; omega), fun d hd => ?_⟩
 unfold dv at hd
 split at hd
 ·rcases List.mem_or_eq_of_mem_set hd with hd | rfl
  ·exact x.cel d hd
  ·exact hc
 ·unfold cZ at hd
  rcases List.mem_append.1 hd with hd | hd
  ·rcases List.mem_append.1 hd with hd | hd
   ·exact x.cel d (List.mem_of_mem_take hd)
   ·rw [List.mem_singleton] at hd; subst hd; exact hc
  ·exact x.cel d (List.mem_of_mem_drop hd)
theorem eE.allow {c : Cel} (h : eE ps c) (p : Pol) (t n : Int) : eE ps (mJ p c t n) := ⟨h.byt, h.key, h.held, h.pol⟩
theorem eE.acq {c : Cel} (h : eE ps c) (p : Pol) (n : Int) : eE ps (nN p c n) := by
 unfold nN
 split
 ·rename_i h0
  have := nU h0
  exact ⟨h.byt, h.key, by show (gV p.permits c.held n).length ≤ 64; omega, h.pol⟩
 ·exact h
theorem eE.rel {c : Cel} (h : eE ps c) (p : Pol) (n : Int) : eE ps (pz p c n) := by
 unfold pz
 split
 ·rename_i h0
  have := oK h0
  exact ⟨h.byt, h.key, by show (kO p.permits c.held n).length ≤ 64; omega, h.pol⟩
 ·exact h
namespace Core
def Kx (ps : List Pol) (x : X) : Prop := eE ps (newC x.pol x.key)
structure Fdk (ps : List Pol) (n : Nat) (x : X) (f : Fd) : Prop where
 k : Kx ps x
 h : Hc ps n f.h
 a : f.at' ≤ f.h.length
 c : eE ps f.cell
 t : f.there = true → f.at' < f.h.length
def fcK (ps : List Pol) (x : X) : Fc → Prop
 | .key => Kx ps x
 | .ev _ _ _ => True
def okH (ps : List Pol) (n : Nat) (x : X) : CS → Prop
 | .none => True
 | .k0 f => fcK ps x f
 | .kE f _ => fcK ps x f
 | .kF f _ _ => fcK ps x f
 | .kG f _ _ v h => fcK ps x f ∧ Hc ps n h ∧ 0 ≤ v
 | .kH f _ _ h => fcK ps x f ∧ Hc ps n h
 | .kL f _ _ h => fcK ps x f ∧ Hc ps n h
 | .al f => Fdk ps n x f
 | .pk c => Kx ps x ∧ eE ps c
 | .a0 f => Fdk ps n x f
 | .a1 f _ => Fdk ps n x f
 | .p0 f c _ => Fdk ps n x f ∧ eE ps c
 | .p1 f c _ _ => Fdk ps n x f ∧ eE ps c
 | .pS f c _ => Fdk ps n x f ∧ eE ps c
 | .eC _ _ _ _ _ h => Hc ps n h
 | .eS _ _ _ _ _ m _ => Hc ps n m
 | .sG _ _ v h => Hc ps n h ∧ 0 ≤ v
 | .sH _ _ _ h => Hc ps n h
 | .sL _ _ _ h => Hc ps n h
 | _ => True
theorem Fdk.mono {n m : Nat} (e : n ≤ m) {x : X} {f : Fd} (h : Fdk ps n x f) : Fdk ps m x f := ⟨h.k, h.h.mono e, h.a, h.c, h.t⟩
theorem Fdk.ser {n : Nat} {x : X} {f : Fd} (h : Fdk ps n x f) (k : Int) : Fdk ps n { x with ser := k } f := ⟨h.k, h.h, h.a, h.c, h.t⟩
theorem Fdk.res {n : Nat} {x : X} {f : Fd} (h : Fdk ps n x f) (b : Bool) : Fdk ps n { x with res := b } f := ⟨h.k, h.h, h.a, h.c, h.t⟩
theorem okH.mono {n m : Nat} (e : n ≤ m) {x : X} {s : CS} (h : okH ps n x s) : okH ps m x s := by
 cases s <;> first | trivial | exact h | exact Fdk.mono e h | exact Hc.mono h e | exact ⟨h.1, h.2.1.mono e, h.2.2⟩ | exact ⟨Fdk.mono e h.1, h.2⟩ | exact ⟨Hc.mono h.1 e, h.2⟩ | exact ⟨h.1, h.2.mono e⟩
theorem kB {n : Nat} (x : X) (r : Rpl) : okH ps n x (leave x r).1 := by unfold leave; split <;> trivial
theorem eX {n : Nat} (x : X) (j sh : Nat) (g : Int) : okH ps n x (further j sh g).1 := by unfold further; split <;> trivial
theorem after_H {n : Nat} (x : X) (k : Int) (b : Bk) : okH ps n x (after k b).1 := by
 cases b with
 | lv r => trivial
 | ev j sh g => exact eX x j sh _
theorem uz {n : Nat} {x : X} {f : Fd} {c : Cel} {r : Rpl} (h : Fdk ps n x f) (hc : eE ps c) (y : X) : okH ps n x (put y f c r) := by unfold put; split <;> exact ⟨h, hc⟩
theorem fdOf_H {n : Nat} {x : X} (hk : Kx ps x) (w : Nat) (v : Int) {h : List Cel} (hh : Hc ps n h) : Fdk ps n x (fdOf (aa ps room) x w v h) :=
 ⟨hk, hh, rt _ _, hh.find hk, fun e => ((eU _ _).1 e).1⟩
theorem uZ {n : Nat} {x : X} {f : Fd} (h : Fdk ps n x f) : okH ps n x (foundK (aa ps room) x f).1 := by
 unfold foundK
 split
 ·exact h
 split
 ·split
  ·exact kB _ _
  ·split
   ·exact uz h (h.c.acq _ _) _
   ·exact h
 split
 ·split
  ·exact uz h (h.c.rel _ _) _
  ·trivial
 split
 ·trivial
 ·exact ⟨h.k, h.c⟩
theorem mq {n : Nat} {x : X} {f : Fc} (hf : fcK ps x f) (w : Nat) (v : Int) {h : List Cel} (hh : Hc ps n h) : okH ps n x (entered (aa ps room) x f w v h).1 := by
 unfold entered
 split
 ·exact hf
 ·unfold found
  split
  ·exact uZ (fdOf_H hf w v hh)
  ·split
   ·exact eX _ _ _ _
   ·exact hh
theorem on_H {n lv i : Nat} {up : Bool} {x : X} {h : List Cel} (hh : Hc ps n h) : okH ps n x (on lv i up h) := by
 unfold on move
 split
 ·split <;> trivial
 ·exact hh
theorem upd_H {n : Nat} {f : Nat → List Cel} (hf : ∀ w, Hc ps n (f w)) {w : Nat} {h : List Cel} (hh : Hc ps n h) : ∀ j, Hc ps n (Dir.upd f w h j) := fun j => by
 unfold Dir.upd; split
 ·exact hh
 ·exact hf j
open Dir (Iw plc plc_sh) in
theorem step_H {n : Nat} {M : Mc} {B : Int} (hI : Iw M.W B) (hM : ∀ w, Hc ps n (M.Hd w)) {x : X} {s : CS} (hs : Cw x M.W s) (h : okH ps n x s) :
    (∀ w, Hc ps (n + 1) ((step (aa ps room) M x s).M.Hd w)) ∧ okH ps (n + 1) (step (aa ps room) M x s).x (step (aa ps room) M x s).s := by
  have hM' : ∀ w, Hc ps (n + 1) (M.Hd w) := fun w => (hM w).mono (by omega)
  have h' : okH ps (n + 1) x s := h.mono (Nat.le_succ n)
  have hw : ∀ lv, lv ≤ 4 → ∀ q : Int, 0 ≤ M.W (plc lv q) := fun lv hl q => by
    obtain ⟨i, h1, h2⟩ := plc_sh lv q
    rw [h2]; exact (hI.w lv i hl h1).1
  cases s with
  | none => exact ⟨hM', trivial⟩
  | k0 f => exact ⟨hM', by simp only [step]; split <;> exact h⟩
  | kE f w => exact ⟨hM', mq h _ _ (hM' w)⟩
  | kF f lv w =>
    refine ⟨hM', ?_⟩
    have := hw lv (by have := hs.2.1; omega) (sumF x f)
    rw [← hs.2.2.1] at this
    simp only [step]; split
    · exact ⟨h, hM' w⟩
    · exact ⟨h, hM' w, this⟩
  | kG f lv w v l =>
    simp only [step]; split
    · exact ⟨upd_H hM' h'.2.1, h.1, h'.2.1⟩
    · exact ⟨hM', h.1⟩
  | kH f lv w l =>
    simp only [step]; split
    · exact ⟨hM', h'⟩
    · exact ⟨hM', mq h.1 _ _ (hM' w)⟩
  | kL f lv w l =>
    refine ⟨?_, h.1⟩
    simp only [step]; split
    · exact upd_H hM' (h'.2.filter _)
    · exact hM'
  | al f =>
    simp only [step]; split
    · exact ⟨hM', kB _ _⟩
    · exact ⟨hM', uz h' (eE.allow h'.c _ _ _) _⟩
  | pk c => exact ⟨hM', trivial⟩
  | a0 f =>
    simp only [step]; split
    · exact ⟨hM', kB _ _⟩
    · exact ⟨hM', h'⟩
  | a1 f u =>
    simp only [step]; split
    · exact ⟨upd_H hM' .nil, uz (Fdk.ser h' _) (eE.acq h'.c _ _) _⟩
    · exact ⟨hM', h'⟩
  | p0 f c r =>
    simp only [step]; split
    · exact ⟨hM', trivial⟩
    · exact ⟨hM', h'⟩
  | p1 f c r u =>
    simp only [step]; split
    · exact ⟨upd_H hM' .nil, Fdk.res h'.1 _, h'.2⟩
    · exact ⟨hM', h'⟩
  | pS f c r =>
    simp only [step]; split
    · refine ⟨upd_H hM' (h.1.h.wth h.1.a h.2), ?_⟩
      show okH ps (n + 1) x (if f.there = true then leave x r else (.none, ⟨true, r⟩)).1
      split
      · exact kB _ _
      · trivial
    · exact ⟨hM', h'.1.k⟩
  | b0 k b => exact ⟨hM', trivial⟩
  | b1 k b u =>
    simp only [step]; split
    · exact ⟨upd_H hM' .nil, after_H _ _ _⟩
    · exact ⟨hM', trivial⟩
  | e0 => exact ⟨hM', trivial⟩
  | eC j sh g w v l =>
    simp only [step]; split
    · exact ⟨hM', eX _ _ _ _⟩
    · exact ⟨hM', Hc.filter h' _⟩
  | eS j sh g w v m k =>
    simp only [step]; split
    · exact ⟨upd_H hM' h', trivial⟩
    · exact ⟨hM', eX _ _ _ _⟩
  | s0 => simp only [step]; split
          · exact ⟨hM', trivial⟩
          · split <;> exact ⟨hM', trivial⟩
  | sM lv => simp only [step]; split
             · exact ⟨upd_H hM' .nil, trivial⟩
             · exact ⟨hM', trivial⟩
  | sF lv i =>
    refine ⟨hM', ?_⟩
    have hw : 0 ≤ M.W (2 ^ lv + i) := (hI.w lv i (by have := hs.1; omega) hs.2.1).1
    simp only [step]; split
    · exact hM' _
    · exact ⟨hM' _, hw⟩
  | sG lv i v l =>
    simp only [step]; split
    · exact ⟨upd_H hM' h'.1, h'.1⟩
    · exact ⟨hM', trivial⟩
  | sH lv i up l =>
    simp only [step]; split
    · exact ⟨hM', h'⟩
    · exact ⟨hM', on_H h'⟩
  | sL lv i up l =>
    refine ⟨?_, on_H h'⟩
    simp only [step]; split
    · exact upd_H hM' (Hc.filter h' _)
    · exact hM'
  | sV lv =>
    refine ⟨?_, trivial⟩
    simp only [step]; split
    · exact upd_H hM' .nil
    · exact hM'
end Core
end
theorem SV.Lt.mono {m n : Nat} (hmn : m ≤ n) {x : SV} (h : SV.Lt m x) : SV.Lt n x := by
 induction h with
 | any => exact .any
 | d x => exact .d x
 | ptr l o h => exact .ptr l o (by omega)
 | rp l e i o h => exact .rp l e i o (by omega)
 | sl l e i o h => exact .sl l e i o (by omega)
 | agg vs _ ih => exact .agg vs ih
 | tup vs _ ih => exact .tup vs ih
 | fn f vs _ ih => exact .fn f vs ih
 | iref vs o _ ih => exact .iref vs o ih
mutual
def ks (l : Nat) : SV → Bool
 | .ptr m _ => Nat.beq m l
 | .rp m _ _ _ => Nat.beq m l
 | .sl m _ _ _ => Nat.beq m l
 | .d _ => false
 | .any => false
 | .agg vs => kr l vs
 | .tup vs => kr l vs
 | .fn _ _ => false
 | .iref vs _ => kr l vs
def kr (l : Nat) : List SV → Bool
 | [] => false
 | x :: r => ks l x || kr l r
end
mutual
def pR (n : Nat) : SV → Prop
 | .fn f vs => SV.Lt n (.fn f vs)
 | .agg vs => nC n vs
 | .tup vs => nC n vs
 | .iref vs _ => nC n vs
 | _ => True
def nC (n : Nat) : List SV → Prop
 | [] => True
 | x :: r => pR n x ∧ nC n r
end
mutual
theorem rP {n l : Nat} (hl : n ≤ l) : ∀ {x : SV}, SV.Lt n x → bw l x = false
 | .any, _ => by unfold bw; rfl
 | .d _, _ => by unfold bw; rfl
 | .ptr _ _, h => by cases h with | ptr _ _ h => unfold bw; cases e : Nat.beq _ l with | false => rfl | true => have := Q2 e; omega
 | .rp _ _ _ _, h => by cases h with | rp _ _ _ _ h => unfold bw; cases e : Nat.beq _ l with | false => rfl | true => have := Q2 e; omega
 | .sl _ _ _ _, h => by cases h with | sl _ _ _ _ h => unfold bw; cases e : Nat.beq _ l with | false => rfl | true => have := Q2 e; omega
 | .agg vs, h => by cases h with | agg _ h => unfold bw; exact eN hl h
 | .tup vs, h => by cases h with | tup _ h => unfold bw; exact eN hl h
 | .fn _ vs, h => by cases h with | fn _ _ h => unfold bw; exact eN hl h
 | .iref vs _, h => by cases h with | iref _ _ h => unfold bw; exact eN hl h
theorem eN {n l : Nat} (hl : n ≤ l) : ∀ {xs : List SV}, (∀ x ∈ xs, SV.Lt n x) → bL l xs = false
 | [], _ => by unfold bL; rfl
 | x :: r, h => by
  have h1 : bw l x = false := rP hl (h x (by simp))
  have h2 : bL l r = false := eN hl (fun y hy => h y (by simp [hy]))
  unfold bL; rw [h1, h2]; rfl
end
mutual
theorem ko {n l : Nat} (hl : n ≤ l) : ∀ {x : SV}, pR n x → ks l x = false → bw l x = false
 | .any, _, h => by unfold bw; rfl
 | .d _, _, h => by unfold bw; rfl
 | .ptr _ _, _, h => by unfold ks at h; unfold bw; exact h
 | .rp _ _ _ _, _, h => by unfold ks at h; unfold bw; exact h
 | .sl _ _ _ _, _, h => by unfold ks at h; unfold bw; exact h
 | .agg vs, hf, h => by unfold ks at h; unfold pR at hf; unfold bw; exact eM hl hf h
 | .tup vs, hf, h => by unfold ks at h; unfold pR at hf; unfold bw; exact eM hl hf h
 | .fn _ vs, hf, h => by unfold pR at hf; exact rP hl hf
 | .iref vs _, hf, h => by unfold ks at h; unfold pR at hf; unfold bw; exact eM hl hf h
theorem eM {n l : Nat} (hl : n ≤ l) : ∀ {xs : List SV}, nC n xs → kr l xs = false → bL l xs = false
 | [], _, _ => by unfold bL; rfl
 | x :: r, hf, h => by
  unfold nC at hf; unfold kr at h
  rw [Bool.or_eq_false_iff] at h
  have h1 : bw l x = false := ko hl hf.1 h.1
  have h2 : bL l r = false := eM hl hf.2 h.2
  unfold bL; rw [h1, h2]; rfl
end
def fnOKB (n : Nat) : Option Blk → Prop
 | some (.cells cs) => nC n cs
 | _ => True
def nf (l : Nat) : Option Blk → Bool
 | some (.cells cs) => kr l cs
 | some (.cf m _ _) => Nat.blt l m
 | _ => false
theorem ip (l : Nat) : ∀ (cs : List SV), cs.any (mem1 l) = bL l cs
 | [] => by unfold bL; rfl
 | x :: r => by unfold bL; rw [List.any_cons, ip l r]
theorem uJ {n l : Nat} (hl : n ≤ l) {b : Option Blk} (hf : fnOKB n b) (h : nf l b = false) : ng l b = false := by
 cases b with
 | none => rfl
 | some b =>
  cases b with
  | cells cs => show cs.any (mem1 l) = false; rw [ip]; exact eM hl hf h
  | row _ _ _ _ => rfl
  | cf m _ _ => exact h
def lf (pre : List Nat) (ops : List Oper) (n0 i j : Nat) (labs : List Nat) (p q : Pt) : Bool :=
 (match p.1.dst, q.1.dst with | some a, some b => !Nat.beq a b | _, _ => true) &&
 (p.2.ed.all (fun x => q.2.ed.all fun y => !Nat.beq x.1 y.1) || jy pre i j) &&
 ((match q.1.dst with | some d => (ni ops p.1).all fun t => !Nat.beq d t | none => true) || jy pre i j) &&
 ((labs.all (fun l => q.2.ed.all fun y => !Nat.beq y.1 l) && p.2.rd.all (fun l => q.2.ed.all fun y => !Nat.beq y.1 l)) || jy pre i j) &&
 (!cF p.1.op || (!ks (n0 + i) q.2.val && q.2.ed.all (fun y => !Nat.beq y.1 (n0 + i) && !nf (n0 + i) y.2)) || (Nat.blt i j && jy pre i j))
def lc (pre : List Nat) (ops : List Oper) (n0 i : Nat) (labs : List Nat) (p : Pt) : List Pt → Nat → Bool
 | [], _ => true
 | q :: r, j => (Nat.beq i j || lf pre ops n0 i j labs p q) && lc pre ops n0 i labs p r (j + 1)
def li (pre : List Nat) (ops : List Oper) (n0 : Nat) (all : List Pt) (S0 : St) : List Pt → Nat → St → Bool
 | [], _, _ => true
 | p :: r, i, S => lc pre ops n0 i (fZ S p.1.op) p all 0 && (!cF p.1.op || (S0.fr.all (fun x => !ks (n0 + i) x.2) && S0.hp.all (fun x => !Nat.beq x.1 (n0 + i) && !nf (n0 + i) x.2))) &&
   (p.1.after.toList.all fun e => !Region.binds .any e || Nat.blt e.on i) && (match p.1.dst with | some n => Nat.blt n S0.nt.n | none => true) && li pre ops n0 all S0 r (i + 1) (S.step p.1.dst p.2)
def i8 (ops : List Oper) (efs : List Ef) (n0 : Nat) (S0 : St) : Bool := li (eb ops []) ops n0 (ops.zip efs) S0 (ops.zip efs) 0 S0
def fN (n : Nat) : List (Nat × Option Blk) → Prop
 | [] => True
 | x :: r => fnOKB n x.2 ∧ fN n r
def nD (n : Nat) : List (Nat × SV) → Prop
 | [] => True
 | x :: r => pR n x.2 ∧ nD n r
def u1 (n : Nat) : List Ef → Prop
 | [] => True
 | x :: r => pR n x.val ∧ fN n x.ed ∧ u1 n r
theorem oM {n : Nat} : ∀ {l : List (Nat × Option Blk)}, fN n l → ∀ x ∈ l, fnOKB n x.2
 | [], _, x, hx => by simp at hx
 | y :: r, h, x, hx => by
  unfold fN at h
  rcases Q22 hx with rfl | hx
  ·exact h.1
  ·exact oM h.2 x hx
theorem kU {n : Nat} : ∀ {l : List (Nat × SV)}, nD n l → ∀ x ∈ l, pR n x.2
 | [], _, x, hx => by simp at hx
 | y :: r, h, x, hx => by
  unfold nD at h
  rcases Q22 hx with rfl | hx
  ·exact h.1
  ·exact kU h.2 x hx
theorem oO {n : Nat} : ∀ {l : List Ef}, u1 n l → ∀ x ∈ l, pR n x.val ∧ fN n x.ed
 | [], _, x, hx => by simp at hx
 | y :: r, h, x, hx => by
  unfold u1 at h
  rcases Q22 hx with rfl | hx
  ·exact ⟨h.1, h.2.1⟩
  ·exact oO h.2.2 x hx
theorem sU {n l : Nat} (hl : n ≤ l) {ed : List (Nat × Option Blk)} (hf : fN n ed) (h : ed.all (fun y => !Nat.beq y.1 l && !nf l y.2) = true) : ed.all (fun y => !Nat.beq y.1 l && !ng l y.2) = true := by
 rw [Q23] at h ⊢
 intro y hy
 have := h y hy
 rw [Q5] at this ⊢
 refine ⟨this.1, ?_⟩
 have h2 := this.2
 rw [Bool.not_eq_true'] at h2 ⊢
 exact uJ hl (oM hf y hy) h2
theorem nM {pre : List Nat} {ops : List Oper} {n0 i j : Nat} {labs : List Nat} {p q : Pt} (hv : pR n0 q.2.val) (he : fN n0 q.2.ed) (h : lf pre ops n0 i j labs p q = true) : bC pre ops n0 i j labs p q = true := by
 unfold lf at h; unfold bC
 rw [Q5] at h ⊢
 refine ⟨h.1, ?_⟩
 have h := h.2
 rw [Q20, Q20, Q5] at h ⊢
 rcases h with (h | h) | h
 ·exact .inl (.inl h)
 ·refine .inl (.inr ⟨?_, sU (by omega) he h.2⟩)
  have h1 := h.1
  rw [Bool.not_eq_true'] at h1 ⊢
  exact ko (by omega) hv h1
 ·exact .inr h
theorem jR {pre : List Nat} {ops : List Oper} {n0 i : Nat} {labs : List Nat} {p : Pt} : ∀ (l : List Pt) (k : Nat), (∀ q ∈ l, pR n0 q.2.val ∧ fN n0 q.2.ed) → lc pre ops n0 i labs p l k = true → ee pre ops n0 i labs p l k = true
 | [], _, _, _ => by unfold ee; rfl
 | q :: r, k, hf, h => by
  unfold lc at h; unfold ee
  rw [Q5, Q20] at h ⊢
  refine ⟨?_, jR r (k + 1) (fun q hq => hf q (List.mem_cons_of_mem _ hq)) h.2⟩
  rcases h.1 with h1 | h1
  ·exact .inl h1
  ·exact .inr (nM (hf q (List.mem_cons_self ..)).1 (hf q (List.mem_cons_self ..)).2 h1)
theorem jT {pre : List Nat} {ops : List Oper} {n0 : Nat} {all : List Pt} {S0 : St} (ha : ∀ q ∈ all, pR n0 q.2.val ∧ fN n0 q.2.ed) (hF : nD n0 S0.fr) (hH : fN n0 S0.hp) :
  ∀ (l : List Pt) (i : Nat) (S : St), li pre ops n0 all S0 l i S = true → eg pre ops n0 all S0 l i S = true
 | [], _, _, _ => by unfold eg; rfl
 | p :: r, i, S, h => by
  unfold li at h; unfold eg
  rw [Q5, Q5, Q5, Q5] at h ⊢
  obtain ⟨⟨⟨⟨h1, h2⟩, h3⟩, h4⟩, h5⟩ := h
  refine ⟨⟨⟨⟨jR all 0 ha h1, ?_⟩, h3⟩, h4⟩, jT ha hF hH r (i + 1) _ h5⟩
  rw [Q20, Q5] at h2 ⊢
  rcases h2 with h2 | h2
  ·exact .inl h2
  ·refine .inr ⟨?_, sU (by omega) hH h2.2⟩
   have h6 := h2.1
   rw [Q23] at h6 ⊢
   intro x hx
   have h7 := h6 x hx
   rw [Bool.not_eq_true'] at h7 ⊢
   exact ko (by omega) (kU hF x hx) h7
theorem bZ {ops : List Oper} {efs : List Ef} {n0 : Nat} {S0 : St} (h : i8 ops efs n0 S0 = true) (hE : u1 n0 efs) (hF : nD n0 S0.fr) (hH : fN n0 S0.hp) : dI ops efs n0 S0 = true := by
 refine jT (fun q hq => ?_) hF hH _ 0 S0 h
 exact oO hE q.2 (List.of_mem_zip hq).2
mutual
theorem SV.ren_same {π : Nat → Nat} {m : Nat} (hπ : ∀ l, l < m → π l = l) : ∀ {x : SV}, SV.Lt m x → SV.ren π x = x
 | .any, _ => by unfold SV.ren; rfl
 | .d _, _ => by unfold SV.ren; rfl
 | .ptr _ _, h => by cases h with | ptr _ _ h => unfold SV.ren; rw [hπ _ h]
 | .rp _ _ _ _, h => by cases h with | rp _ _ _ _ h => unfold SV.ren; rw [hπ _ h]
 | .sl _ _ _ _, h => by cases h with | sl _ _ _ _ h => unfold SV.ren; rw [hπ _ h]
 | .agg vs, h => by cases h with | agg _ h => unfold SV.ren; rw [SV.renL_same hπ h]
 | .tup vs, h => by cases h with | tup _ h => unfold SV.ren; rw [SV.renL_same hπ h]
 | .fn _ vs, h => by cases h with | fn _ _ h => unfold SV.ren; rw [SV.renL_same hπ h]
 | .iref vs _, h => by cases h with | iref _ _ h => unfold SV.ren; rw [SV.renL_same hπ h]
theorem SV.renL_same {π : Nat → Nat} {m : Nat} (hπ : ∀ l, l < m → π l = l) : ∀ {xs : List SV}, (∀ x ∈ xs, SV.Lt m x) → SV.renL π xs = xs
 | [], _ => rfl
 | x :: r, h => by
  have h1 : SV.ren π x = x := SV.ren_same hπ (h x (by simp))
  have h2 : SV.renL π r = r := SV.renL_same hπ (fun y hy => h y (by simp [hy]))
  unfold SV.renL; rw [h1, h2]
end
theorem RS.unrenX {E : Env} {nx : Nat} {w : World} {π1 π2 : Nat → Nat} {L : List Nat} {m : Nat} (H : ∀ l, l < m → π2 l < L.length ∧ L.getD (π2 l) 0 = π1 l) :
  ∀ {x : SV}, SV.Lt m x → ∀ {v : Value}, RS E nx w (SV.ren π1 x) v → RS ⟨fun i => E.ρ (L.getD i 0), fun i => E.κ (L.getD i 0), E.Im⟩ L.length w (SV.ren π2 x) v := by
 intro x hx
 induction hx with
 | any => intro v _; exact .any v
 | d x => intro v h; cases h with | d _ _ h => exact .d _ _ h
 | ptr l off hl =>
  intro v h
  cases h with
  | ptr _ _ h =>
   obtain ⟨h1, h2⟩ := H l hl
   have := RS.ptr (E := ⟨fun i => E.ρ (L.getD i 0), fun i => E.κ (L.getD i 0), E.Im⟩) (w := w) (π2 l) off h1
   simp only [h2] at this; exact this
 | rp l esz i off hl =>
  intro v h
  cases h with
  | rp _ _ _ _ h =>
   obtain ⟨h1, h2⟩ := H l hl
   have := RS.rp (E := ⟨fun i => E.ρ (L.getD i 0), fun i => E.κ (L.getD i 0), E.Im⟩) (w := w) (π2 l) esz i off h1
   simp only [h2] at this; exact this
 | sl l esz off len hl =>
  intro v h
  cases h with
  | sl _ _ _ _ a cap h hc hm ha h0 =>
   obtain ⟨h1, h2⟩ := H l hl
   exact .sl _ _ _ _ a cap h1 hc hm (by simp only [h2]; exact ha) (by simp only [h2]; exact h0)
 | agg vs hv ih =>
  intro v h
  simp only [SV.ren, SV.renL_map] at h ⊢
  cases h with
  | agg _ us hs h1 hh =>
   refine .agg _ _ (by simpa using hs) h1 fun j hj => ?_
   have hj' : j < vs.length := by simpa using hj
   rw [List.getElem_map]
   refine ih _ (Q14 hj') ?_
   have := hh j (by simpa using hj')
   rwa [List.getElem_map] at this
 | tup vs hv ih =>
  intro v h
  simp only [SV.ren, SV.renL_map] at h ⊢
  cases h with
  | tup _ us hs hh =>
   refine .tup _ _ (by simpa using hs) fun j hj => ?_
   have hj' : j < vs.length := by simpa using hj
   rw [List.getElem_map]
   refine ih _ (Q14 hj') ?_
   have := hh j (by simpa using hj')
   rwa [List.getElem_map] at this
 | fn f vs hv ih =>
  intro v h
  simp only [SV.ren, SV.renL_map] at h ⊢
  cases h with
  | fn _ _ us hs hh =>
   refine .fn _ _ _ (by simpa using hs) fun j hj => ?_
   have hj' : j < vs.length := by simpa using hj
   rw [List.getElem_map]
   refine ih _ (Q14 hj') ?_
   have := hh j (by simpa using hj')
   rwa [List.getElem_map] at this
 | iref vs off hv ih =>
  intro v h
  simp only [SV.ren, SV.renL_map] at h ⊢
  cases h with
  | iref _ _ b o g hb hcell h1 hh =>
   refine .iref _ _ b o g hb (by simpa using hcell) (by simpa using h1) fun j hj => ?_
   have hj' : j < vs.length := by simpa using hj
   rw [List.getElem_map]
   refine ih _ (Q14 hj') ?_
   have := hh j (by simpa using hj')
   rwa [List.getElem_map] at this
theorem ae.renX {π1 π2 : Nat → Nat} {L : List Nat} {m : Nat} {x : SV} (hx : SV.Lt m x) (H : ∀ l, l < m → π2 l < L.length ∧ L.getD (π2 l) 0 = π1 l) : ae L (SV.ren π1 x) (SV.ren π2 x) := ⟨fun _ _ _ _ h => h.unrenX H hx⟩
theorem ai.renX {S : St} {π1 π2 : Nat → Nat} {L : List Nat} {m : Nat} {x : SV} (hx : SV.Lt m x) (H : ∀ l, l < m → π2 l < L.length ∧ L.getD (π2 l) 0 = π1 l) : ai S L (SV.ren π1 x) (SV.ren π2 x) :=
 ⟨fun O E a w v hs hv => RS.mono (E := ⟨fun i => E.ρ (L.getD i 0), fun i => E.κ (L.getD i 0), E.Im⟩) (E' := E.end S L) (w := w) (fun _ _ => ⟨rfl, rfl⟩) (Q4 _) (fun b hb => Or.inl hb) (fun _ _ => rfl) (hv.unrenX H hx)⟩
def pJ (S : St) (L V : List Nat) : List (Nat × Option Blk) → Prop
 | [] => True
 | (_, none) :: r => pJ S L V r
 | (i, some b) :: r => bif Nat.blt i L.length then (bif V.any (Nat.beq i) then (match b with | .cf m n _ => m ≤ L.length ∧ n = 0 | _ => False) else blkS S L (lkh S.hp (L.getD i 0)) b) ∧ pJ S L V r else False
def eH (L V : List Nat) : List (Nat × Option Blk) → List Nat
 | [] => []
 | (_, none) :: r => eH L V r
 | (i, some _) :: r => bif V.any (Nat.beq i) then eH L V r else L.getD i 0 :: eH L V r
theorem iA {S : St} {L V : List Nat} : ∀ {H : List (Nat × Option Blk)}, pJ S L V H → ∀ i b, lkh H i = some b → i < L.length ∧ ((V.any (Nat.beq i) = true ∧ ∃ m g, b = .cf m 0 g ∧ m ≤ L.length) ∨ (V.any (Nat.beq i) = false ∧ blkS S L (lkh S.hp (L.getD i 0)) b))
 | [], _, i, b, h => by simp [lkh] at h
 | (j, none) :: r, hk, i, b, h => iA (H := r) hk i b (aB h).2
 | (j, some b') :: r, hk, i, b, h => by
  unfold pJ at hk
  cases hb : Nat.blt j L.length with
  | false => simp [hb] at hk
  | true =>
   simp only [hb, cond_true] at hk
   rw [aj] at h
   by_cases e : j = i
   ·subst e; rw [if_pos rfl] at h; cases h
    refine ⟨by simpa using hb, ?_⟩
    cases hv : V.any (Nat.beq j) with
    | true =>
     left
     rw [hv, cond_true] at hk
     refine ⟨rfl, ?_⟩
     have h1 := hk.1
     split at h1
     ·obtain ⟨h2, rfl⟩ := h1; exact ⟨_, _, rfl, h2⟩
     ·exact h1.elim
    | false =>
     right
     rw [hv, cond_false] at hk
     exact ⟨rfl, hk.1⟩
   ·rw [if_neg e] at h; exact iA hk.2 i b h
theorem nk : ∀ {H : List (Nat × Option Blk)} {i : Nat} {b : Blk}, lkh H i = some b → (i, some b) ∈ H
 | [], i, b, h => by simp [lkh] at h
 | (j, o) :: r, i, b, h => by
  rw [aj] at h
  by_cases e : j = i
  ·subst e; rw [if_pos rfl] at h; subst h; simp
  ·rw [if_neg e] at h; exact List.mem_cons_of_mem _ (nk h)
theorem ie {L V : List Nat} : ∀ {H : List (Nat × Option Blk)} {i : Nat} {b : Blk}, (i, some b) ∈ H → V.any (Nat.beq i) = false → L.getD i 0 ∈ eH L V H
 | (j, none) :: r, i, b, h, hv => by
  unfold eH
  rcases Q22 h with h | h
  ·cases h
  ·exact ie h hv
 | (j, some c) :: r, i, b, h, hv => by
  unfold eH
  rcases Q22 h with h | h
  ·cases h; rw [hv, cond_false]; simp
  ·have := ie (L := L) (V := V) h hv
   cases V.any (Nat.beq j) with
   | true => exact this
   | false => exact List.mem_cons_of_mem _ this
theorem kc {L V : List Nat} : ∀ {H : List (Nat × Option Blk)}, bh (eH L V H) = true → ∀ {i j : Nat} {b c : Blk}, (i, some b) ∈ H → (j, some c) ∈ H → V.any (Nat.beq i) = false → V.any (Nat.beq j) = false → i ≠ j → L.getD i 0 ≠ L.getD j 0
 | (q, none) :: r, hd, i, j, b, c, hi, hj, vi, vj, hne => by
  unfold eH at hd
  rcases Q22 hi with hi | hi
  ·cases hi
  ·rcases Q22 hj with hj | hj
   ·cases hj
   ·exact kc hd hi hj vi vj hne
 | (q, some d) :: r, hd, i, j, b, c, hi, hj, vi, vj, hne => by
  unfold eH at hd
  have key : ∀ {k : Nat} {e : Blk}, V.any (Nat.beq q) = false → (k, some e) ∈ r → V.any (Nat.beq k) = false → L.getD q 0 ≠ L.getD k 0 := by
   intro k e hq hk vk h
   rw [hq, cond_false] at hd
   unfold bh at hd
   cases h1 : (eH L V r).any (Nat.beq (L.getD q 0)) with
   | true => rw [h1] at hd; exact absurd hd (by simp)
   | false =>
    rw [List.any_eq_false] at h1
    exact h1 _ (ie (L := L) hk vk) (by rw [h]; exact Nat.beq_refl _)
  have hd' : bh (eH L V r) = true := by
   cases hq : V.any (Nat.beq q) with
   | true => rw [hq, cond_true] at hd; exact hd
   | false =>
    rw [hq, cond_false] at hd
    unfold bh at hd
    cases h1 : (eH L V r).any (Nat.beq (L.getD q 0)) with
    | true => rw [h1] at hd; exact absurd hd (by simp)
    | false => rw [h1] at hd; exact hd
  rcases Q22 hi with hi' | hi'
  ·cases hi'
   rcases Q22 hj with hj' | hj'
   ·cases hj'; exact absurd rfl hne
   ·exact key vi hj' vj
  ·rcases Q22 hj with hj' | hj'
   ·cases hj'; exact (key vj hi' vi).symm
   ·exact kc hd' hi' hj' vi vj hne
theorem af.sealC {m m' : Nat} {S : St} {x r : SV} {H' : List (Nat × Option Blk)} (L V : List Nat) (hlen : L.length = m') (hmm : idP L m = true) (hd : bh (eH L V H') = true) (hx : ai S L x r) (hH : pJ S L V H') : af m S x m' r H' := by
 have hm : ∀ i, i < m → L.getD i 0 = i := fun i hi => by unfold idP at hmm; rw [Q23] at hmm; exact Q2 (hmm i (by simpa using hi))
 refine ⟨fun O E a w v hO hs hv => ?_⟩
 subst hlen
 have hblk : ∀ i b, lkh H' i = some b → i < L.length ∧ (b.real (E.κ (L.getD i 0)) → ∃ b0, V.any (Nat.beq i) = false ∧ lkh S.hp (L.getD i 0) = some b0 ∧ b0.real (E.κ (L.getD i 0))) ∧ BS (E.end S L) L.length w i b := by
  intro i b hb
  obtain ⟨g1, g2⟩ := iA hH i b hb
  rcases g2 with ⟨_, m, g, rfl, hm'⟩ | ⟨hV, g2⟩
  ·exact ⟨g1, fun h => absurd h (Nat.lt_irrefl 0), hm', fun h => absurd h (Nat.lt_irrefl 0)⟩
  unfold blkS at g2
  split at g2
  ·rename_i cs cs' hl
   refine ⟨g1, fun _ => ⟨_, hV, hl, trivial⟩, ?_⟩
   obtain ⟨vs, T, k1, k2, k3⟩ := hs.hp _ _ hl
   have hlen := g2.out.1
   refine ⟨vs, T, k1, by omega, fun j hj => ?_⟩
   obtain ⟨q1, q2⟩ := g2.at hj
   exact ⟨q2.out O E a w _ hs (k3 j q1).1, (k3 j q1).2⟩
  ·rename_i e z n f e' z' n' f' hl
   obtain ⟨⟨rfl, rfl, rfl⟩, g3⟩ := g2
   refine ⟨g1, fun h => ⟨_, hV, hl, h⟩, ?_⟩
   obtain ⟨k1, k2, k3, k4, k5⟩ := hs.hp _ _ hl
   refine ⟨k1, k2, k3, fun i hi => by rw [← (g3 i hi).out.1]; exact k4 i hi, fun hk => ?_⟩
   obtain ⟨vs, q1, q2, q3, q4⟩ := k5 hk
   refine ⟨vs, q1, q2, q3, fun i j hi hj => ?_⟩
   obtain ⟨p1, p2⟩ := (g3 i hi).out
   exact ((p2 j (by omega) hj).out _ _ _ (q4 i j hi (by omega))).mono (fun b hb => Or.inl hb) fun _ _ => rfl
  ·rename_i m n g m' n' g' hl
   obtain ⟨⟨rfl, hm'⟩, g3⟩ := g2
   refine ⟨g1, fun h => ⟨_, hV, hl, h⟩, ?_⟩
   obtain ⟨k0, hh⟩ := hs.hp _ _ hl
   refine ⟨hm', fun hp => ?_⟩
   obtain ⟨vs, T, k1, k2, k3⟩ := hh hp
   exact ⟨vs, T, k1, k2, fun j hj => ⟨(g3 j hj).2, (g3 j hj).1.out O E a w _ hs (k3 j hj).2.1, (k3 j hj).2.2⟩⟩
  ·rename_i cs m' n' g' hl
   obtain ⟨hm', g3, g4⟩ := g2
   refine ⟨g1, fun _ => ⟨_, hV, hl, trivial⟩, ?_⟩
   obtain ⟨vs, T, k1, k2, k3⟩ := hs.hp _ _ hl
   have hlen := g3.out.1
   refine ⟨hm', fun _ => ⟨vs, T, k1, by simp at hlen; omega, fun j hj => ?_⟩⟩
   obtain ⟨q1, q2⟩ := g3.at (j := j) (by simpa using hj)
   simp only [List.getElem_map, List.getElem_range] at q2
   exact ⟨g4 j hj, q2.out O E a w _ hs (k3 j q1).1, (k3 j q1).2⟩
  ·exact g2.elim
 have hmem : ∀ i, i < L.length → L.getD i 0 ∈ L := fun i hi => by simp [List.getD, Q0 hi]
 refine ⟨E.end S L, ⟨fun i b hb => (hblk i b hb).2.2, fun i b hb => (hblk i b hb).1, ?_, ?_⟩, fun l hl => by simp only [Env.end]; rw [hm l hl]; exact ⟨rfl, rfl⟩, ?_, ?_, fun b hb => Or.inl hb, hx.out O E a w v hs hv⟩
 ·intro i j b b' hi hj hr hr' hne
  obtain ⟨b0, v0, g2, g3⟩ := (hblk i b hi).2.1 hr
  obtain ⟨b1, v1, g5, g6⟩ := (hblk j b' hj).2.1 hr'
  exact hs.inj _ _ _ _ g2 g5 g3 g6 (kc hd (nk hi) (nk hj) v0 v1 hne)
 ·intro b hb
  rcases hb with hb | ⟨l, y, hl, hr, rfl, hn⟩
  ·obtain ⟨k1, _, k3⟩ := hs.im b hb
   refine ⟨k1, fun i z hz hzr => ?_⟩
   obtain ⟨b0, v0, g2, g3⟩ := (hblk i z hz).2.1 hzr
   exact k3 _ _ g2 g3
  ·refine ⟨(hs.hp _ _ hl).lt hr, fun i z hz hzr => ?_⟩
   obtain ⟨b0, v0, g2, g3⟩ := (hblk i z hz).2.1 hzr
   exact hs.inj _ _ _ _ g2 hl g3 hr (fun e => hn (e ▸ hmem i (hblk i z hz).1))
 ·rintro b ⟨i, z, hz, hzr, rfl⟩
  obtain ⟨b0, v0, g2, g3⟩ := (hblk i z hz).2.1 hzr
  exact ⟨_, _, g2, g3, rfl⟩
 ·rintro b (hb | ⟨l, y, hl, hr, rfl, hn⟩)
  ·exact Or.inl hb
  ·exact Or.inr ⟨l, y, hl, hr, rfl⟩
end Go.Proofs.YtpdhdnhkhidmpaaGreat
