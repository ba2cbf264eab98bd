/- Parts of the proof, one behind the other: Ct3, Ct4, Pl8a, Ct9, Cv6, Cv7, Ct5, Ct5p, Ct6, Ct7, Ct8, Cf4, Cu1. Lemmas and contracts of functions; no condition of its own. -/
import Derived.Test.YtplpofmnhcclbaaGreatMU21
set_option linter.unusedVariables false
set_option linter.unusedSimpArgs false
namespace Go.Proofs.YtplpofmnhcclbaaGreat
namespace Core
open Dir (FZ plc upd upW Iw okW lowW upd_same upd_ne pow_pos2)
open Hm (home)
variable {sm : List Int → Int} {P : Ops} {V : Cel → Prop} {Q : Int → Int → List Int → Prop}
theorem entered_ok3 {x : X} (h : x.op = 3) {f : Fc} (hf : Fo x f) (w : Nat) (v : Int) (l : List Cel) : okD (entered P x f w v l).2 = false := by
 unfold entered
 split
 ·rfl
 ·unfold found
  cases f with
  | key =>
   show okD (foundK P x (fdOf P x w v l)).2 = false
   unfold foundK
   rw [if_neg (by omega), if_neg (by omega), if_pos h]
   split
   ·rfl
   ·rename_i h9; simp [okD, h9]
  | ev j sh g => have : x.op = 5 := hf; omega
theorem step_ret3 {M : Mc} {x : X} {s : CS} (hs : Cw x M.W s) (h : Fr P x s) (hr : Rx x s) (ho : x.op = 3) : okD (step P M x s).r = hit M s := by
 have no5 : ∀ {q : Prop}, x.op = 5 → q := fun e => by omega
 have no6 : ∀ {q : Prop}, x.op = 6 → q := fun e => by omega
 have no1 : ∀ {q : Prop}, x.op = 1 → q := fun e => by omega
 have no2 : ∀ {q : Prop}, x.op = 2 → q := fun e => by omega
 have nres : x.res = false := by
  cases e : x.res with
  | false => rfl
  | true => rcases hr.op e with h9 | h9 <;> omega
 cases s with
 | none => rfl
 | k0 f => rfl
 | kE f w => exact entered_ok3 ho h _ _ _
 | kF f lv w => rfl
 | kG f lv w v m => simp only [step]; split <;> rfl
 | kH f lv w m =>
  simp only [step]; split
  ·rfl
  ·exact entered_ok3 ho h _ _ _
 | kL f lv w m => rfl
 | al f => exact no1 h
 | pk c => exact absurd ho h.2.2.1
 | a0 f => exact no2 h.1
 | a1 f u => exact no2 h.1
 | p0 f c r => simp only [step]; split <;> rfl
 | p1 f c r u => simp only [step]; split <;> rfl
 | pS f c r =>
  have hr0 : r.e = 0 := by
   rcases h with ⟨a, _⟩ | ⟨a, _⟩ | ⟨_, _, a⟩
   ·exact no1 a
   ·exact no2 a
   ·exact a
  by_cases hm : M.W f.w = f.v
  ·simp only [step, if_pos hm]
   have e1 : hit M (.pS f c r) = true := by simpa [hit] using hm
   rw [e1]
   show okD (if f.there = true then leave x r else (.none, ⟨true, r⟩) : CS × Rs).2 = true
   split
   ·unfold leave; rw [if_neg (by simp [nres])]; simp [okD, hr0]
   ·simp [okD, hr0]
  ·simp only [step, if_neg hm]
   have e1 : hit M (.pS f c r) = false := by simpa [hit] using hm
   rw [e1]; rfl
 | b0 n k =>
  cases k with
  | lv r => rcases h.1 with ⟨a, _⟩ | ⟨a, _⟩; exact no1 a; exact no2 a
  | ev j sh g => exact no5 h
 | b1 n k u =>
  cases k with
  | lv r => rcases h.1 with ⟨a, _⟩ | ⟨a, _⟩; exact no1 a; exact no2 a
  | ev j sh g => exact no5 h
 | e0 => exact no5 h
 | eC j sh g w v m => exact no5 h
 | eS j sh g w v m n => exact no5 h
 | s0 => exact no6 h
 | sM lv => exact no6 h
 | sF lv i => exact no6 h
 | sG lv i v m => exact no6 h
 | sH lv i up m => exact no6 h
 | sL lv i up m => exact no6 h
 | sV lv => exact no6 h
structure Pm (sm : List Int → Int) (P : Ops) (V : Cel → Prop) (Q : Int → Int → List Int → Prop) (M : Mc) (S : Nat → Wk) (A : Int) (R : List Int) : Prop where
 v : ∀ k c, own sm M k = some c → V c
 b : ∀ s ∈ hel P M, 1 ≤ s ∧ s ≤ M.W 33
 nd : (hel P M).Nodup
 pr : ∀ i, (S i).s ≠ .none → (S i).x.op = 2 → swB (S i).x (S i).s = false → (S i).x.ser ∉ hel P M
 q : ∀ i, (S i).s ≠ .none → Q (S i).x.op (S i).x.pol (S i).x.key
 fr : ∀ i, Fr P (S i).x (S i).s
 rl : ∀ s ∈ R, (1 ≤ s ∧ s ≤ M.W 33) ∧ s ∉ hel P M ∧ ∀ i, (S i).s ≠ .none → (S i).x.op = 2 → swB (S i).x (S i).s = false → (S i).x.ser ≠ s
 rn : R.Nodup
 cnt : ((hel P M).length : Int) = A + sumI 64 (fun i => b1 (swB (S i).x (S i).s)) - R.length
def tellA (x : X) (r : Rs) (A : Int) : Int := if x.op = 2 ∧ okD r = true then A + 1 else A
def tellR (x : X) (r : Rs) (R : List Int) : List Int := if x.op = 3 ∧ okD r = true then x.n :: R else R
theorem step_kn (M : Mc) (x : X) (s : CS) : (Core.step P M x s).x.pol = x.pol ∧ (Core.step P M x s).x.key = x.key ∧ (Core.step P M x s).x.n = x.n := by
 cases s with
 | s0 => simp only [step]; split; exact ⟨rfl, rfl, rfl⟩; split <;> exact ⟨rfl, rfl, rfl⟩
 | _ => (first | exact ⟨rfl, rfl, rfl⟩ | (simp only [step]; split <;> exact ⟨rfl, rfl, rfl⟩))
theorem swB_2 {x : X} {s : CS} (h : swB x s = true) : x.op = 2 := by
 cases s with
 | b0 n k => cases k <;> simp [swB] at h; exact h.1
 | b1 n k u => cases k <;> simp [swB] at h; exact h.1
 | _ => simp [swB] at h
theorem swB_b {x : X} {s : CS} (h : swB x s = true) (M : Mc) : hit M s = false ∧ s ≠ .none := by
 cases s with
 | b0 n k => exact ⟨rfl, by simp⟩
 | b1 n k u => exact ⟨rfl, by simp⟩
 | _ => simp [swB] at h
end Core
end Go.Proofs.YtplpofmnhcclbaaGreat

namespace Go.Proofs.YtplpofmnhcclbaaGreat
namespace Core
open Dir (FZ plc upd upW Iw okW lowW upd_same upd_ne pow_pos2)
open Hm (home)
variable {sm : List Int → Int} {P : Ops} {V : Cel → Prop} {Q : Int → Int → List Int → Prop}
theorem b1_bd (b : Bool) : 0 ≤ b1 b ∧ b1 b ≤ 1 := by unfold b1; split <;> omega
theorem b1_z {b : Bool} (h : b1 b = 0) : b = false := by cases b with
 | false => rfl
 | true => simp [b1] at h
theorem sw_0 {x : X} (h : x.op ≠ 2) (s : CS) : swB x s = false := by
 cases e : swB x s with
 | false => rfl
 | true => exact absurd (swB_2 e) h
theorem okD_none {M : Mc} {x : X} {s : CS} (h : (Core.step P M x s).s ≠ .none) : okD (Core.step P M x s).r = false := by
 cases e : (Core.step P M x s).r.done with
 | false => unfold okD; rw [e]; rfl
 | true => exact absurd (step_none e) h
theorem hit_acq {M M' : Mc} {x : X} {s : CS} (h : PE P M x s M') (h2 : x.op = 2) (hh : hit M s = true) : ∀ f c r, s = .pS f c r → r.e = 0 := by
 cases h with
 | calm a b => have := b hh; omega
 | acq a b c d => exact d
 | rel a b c d => omega
theorem Pm.step (hP : OpsOk sm P) (hQ : OpsPm P V Q) (hR : OpsRe P) {M : Mc} {S : Nat → Wk} {B : Int} (hA : All sm P M S B) (hB : B + 1 < FZ) {G : List Int} (hS : Sers M S G) (hM : M.W 33 ≤ MAX) {A : Int} {R : List Int} (hp : Pm sm P V Q M S A R) {i : Nat} (hi : i < 64) (hn : (S i).s ≠ .none) :
  Pm sm P V Q (mx P M S i) (nx P M S i) (tellA (S i).x (Core.step P M (S i).x (S i).s).r A) (tellR (S i).x (Core.step P M (S i).x (S i).s).r R) := by
 have hI := hA.inv
 have hfr := hp.fr i
 have sw0 : hit M (S i).s = true → swB (S i).x (S i).s = false := fun hh => by
  cases e : swB (S i).x (S i).s with
  | false => rfl
  | true => rw [(swB_b e M).1] at hh; cases hh
 obtain ⟨hv, hpe⟩ := step_pm hP hQ hI.iw ⟨hI.b, hB⟩ (hI.ser i) hI.c33 (hI.cw i) hA.ih (hA.ch i) hfr hp.v (hp.q i) (by have := hS.le i; omega) (fun h2 hh => hp.pr i hn h2 (sw0 hh))
 have h33 := step_ser33 (P := P) hI.iw ⟨hI.b, hB⟩ (hI.ser i) hI.c33 (hI.cw i)
 have hle : M.W 33 ≤ (Core.step P M (S i).x (S i).s).M.W 33 := by omega
 have hop := step_op (P := P) M (S i).x (S i).s
 have hkn := step_kn (P := P) M (S i).x (S i).s
 have hii : nx P M S i i = ⟨(Core.step P M (S i).x (S i).s).x, (Core.step P M (S i).x (S i).s).s⟩ := by unfold nx; rw [upd_same]
 have hij : ∀ j, j ≠ i → nx P M S i j = S j := fun j e => by unfold nx; rw [upd_ne _ _ e]
 have ret2 : (S i).x.op = 2 → b1 (swB (Core.step P M (S i).x (S i).s).x (Core.step P M (S i).x (S i).s).s) + b1 (okD (Core.step P M (S i).x (S i).s).r) = b1 (swB (S i).x (S i).s) + b1 (hit M (S i).s) := fun h2 => step_ret2 hfr h2 (hit_acq hpe h2)
 have ret3 : (S i).x.op = 3 → okD (Core.step P M (S i).x (S i).s).r = hit M (S i).s := fun h3 => step_ret3 (hI.cw i) hfr (hA.rx i) h3
 have hmM : mx P M S i = (Core.step P M (S i).x (S i).s).M := rfl
 have own2 : (Core.step P M (S i).x (S i).s).s ≠ .none → (S i).x.op = 2 → swB (Core.step P M (S i).x (S i).s).x (Core.step P M (S i).x (S i).s).s = false → swB (S i).x (S i).s = false ∧ hit M (S i).s = false := fun g1 g2 g3 => by
  have h9 := ret2 g2
  rw [g3, okD_none g1] at h9
  have a1 := b1_bd (swB (S i).x (S i).s)
  have a2 := b1_bd (hit M (S i).s)
  have a3 : b1 false = 0 := rfl
  exact ⟨b1_z (by omega), b1_z (by omega)⟩
 have hsub : (hit M (S i).s = true → (S i).x.op ≠ 2) → ∀ s, s ∈ hel P (Core.step P M (S i).x (S i).s).M → s ∈ hel P M := fun hh s hs => by
  cases hpe with
  | calm a b => exact a.mem_iff.1 hs
  | acq a b c d => exact absurd b (hh a)
  | rel a b c d => exact c.mem_iff.2 (List.mem_cons_of_mem _ hs)
 have hpos : hit M (S i).s = true → (S i).x.op = 2 → 0 < (S i).x.ser := fun hh h2 => by
  cases e : (S i).s with
  | pS f c r =>
   rw [e] at hfr
   rcases hfr with ⟨a, _⟩ | ⟨_, _, _, a⟩ | ⟨a, _⟩
   ·omega
   ·exact a
   ·omega
  | _ => rw [e] at hh; simp [hit] at hh
 have hpr : ∀ j, (nx P M S i j).s ≠ .none → (nx P M S i j).x.op = 2 → swB (nx P M S i j).x (nx P M S i j).s = false → (nx P M S i j).x.ser ∉ hel P (Core.step P M (S i).x (S i).s).M := fun j g1 g2 g3 => by
  by_cases e : j = i
  ·subst e
   rw [hii] at g1 g2 g3 ⊢
   dsimp only at g1 g2 g3 ⊢
   rw [hop] at g2
   obtain ⟨k1, k2⟩ := own2 g1 g2 g3
   have h9 := hsub (fun hh => by rw [k2] at hh; cases hh)
   rcases h33 with ⟨a, b⟩ | ⟨a, b, c, d⟩
   ·rw [b]; exact fun hx => hp.pr j hn g2 k1 (h9 _ hx)
   ·intro hx
    have := hp.b _ (h9 _ hx)
    omega
  ·rw [hij j e] at g1 g2 g3 ⊢
   have h9 := hp.pr j g1 g2 g3
   cases hpe with
   | calm a b => exact fun hx => h9 (a.mem_iff.1 hx)
   | acq a b c d =>
    intro hx
    rcases List.mem_cons.1 (c.mem_iff.1 hx) with hx | hx
    ·have h0 := hpos a b
     exact hS.ne i j (fun e9 => e e9.symm) hn g1 (by omega) hx.symm
    ·exact h9 hx
   | rel a b c d => exact fun hx => h9 (c.mem_iff.2 (List.mem_cons_of_mem _ hx))
 have hsum := sumI_one (f := fun j => b1 (swB (S j).x (S j).s)) (g := fun j => b1 (swB (nx P M S i j).x (nx P M S i j).s)) (i := i) (n := 64) hi fun j _ hne => by
  show b1 (swB (nx P M S i j).x (nx P M S i j).s) = _
  rw [hij j hne]
 have hsum2 : sumI 64 (fun j => b1 (swB (nx P M S i j).x (nx P M S i j).s)) = sumI 64 (fun j => b1 (swB (S j).x (S j).s)) + b1 (swB (Core.step P M (S i).x (S i).s).x (Core.step P M (S i).x (S i).s).s) - b1 (swB (S i).x (S i).s) := by
  have h9 : nx P M S i i = ⟨(Core.step P M (S i).x (S i).s).x, (Core.step P M (S i).x (S i).s).s⟩ := hii
  simp only [h9] at hsum
  exact hsum
 have hcnt := hp.cnt
 have hb : ∀ s ∈ hel P (Core.step P M (S i).x (S i).s).M, 1 ≤ s ∧ s ≤ (Core.step P M (S i).x (S i).s).M.W 33 := fun s hs => by
  cases hpe with
  | calm a b => have := hp.b s (a.mem_iff.1 hs); omega
  | acq a b c d =>
   rcases List.mem_cons.1 (c.mem_iff.1 hs) with hx | hx
   ·have h1 := hpos a b
    have h2 := hS.le i
    omega
   ·have := hp.b s hx; omega
  | rel a b c d => have := hp.b s (c.mem_iff.2 (List.mem_cons_of_mem _ hs)); omega
 have hnd : (hel P (Core.step P M (S i).x (S i).s).M).Nodup := by
  cases hpe with
  | calm a b => exact a.nodup_iff.2 hp.nd
  | acq a b c d => exact c.nodup_iff.2 (List.nodup_cons.2 ⟨hp.pr i hn b (sw0 a), hp.nd⟩)
  | rel a b c d => exact (List.nodup_cons.1 (c.nodup_iff.1 hp.nd)).2
 have hold : ∀ s ∈ R, (1 ≤ s ∧ s ≤ (Core.step P M (S i).x (S i).s).M.W 33) ∧ s ∉ hel P (Core.step P M (S i).x (S i).s).M ∧ ∀ j, (nx P M S i j).s ≠ .none → (nx P M S i j).x.op = 2 → swB (nx P M S i j).x (nx P M S i j).s = false → (nx P M S i j).x.ser ≠ s := fun s hs => by
  obtain ⟨a1, a2, a3⟩ := hp.rl s hs
  refine ⟨by omega, fun hx => ?_, fun j g1 g2 g3 => ?_⟩
  ·cases hpe with
   | calm a b => exact a2 (a.mem_iff.1 hx)
   | acq a b c d =>
    rcases List.mem_cons.1 (c.mem_iff.1 hx) with hx | hx
    ·exact a3 i hn b (sw0 a) hx.symm
    ·exact a2 hx
   | rel a b c d => exact a2 (c.mem_iff.2 (List.mem_cons_of_mem _ hx))
  ·by_cases e : j = i
   ·subst e
    rw [hii] at g1 g2 g3 ⊢
    dsimp only at g1 g2 g3 ⊢
    rw [hop] at g2
    obtain ⟨k1, k2⟩ := own2 g1 g2 g3
    rcases h33 with ⟨a, b⟩ | ⟨a, b, c, d⟩
    ·rw [b]; exact a3 j hn g2 k1
    ·omega
   ·rw [hij j e] at g1 g2 g3 ⊢
    exact a3 j g1 g2 g3
 have hfr' := step_fr hR (M := M) (hI.cw i) hfr (hA.rx i)
 refine ⟨hv, hb, hnd, hpr, fun j g1 => ?_, fun j => ?_, ?_, ?_, ?_⟩
 ·by_cases e : j = i
  ·subst e; rw [hii]; dsimp only; rw [hop, hkn.1, hkn.2.1]; exact hp.q j hn
  ·rw [hij j e] at g1 ⊢; exact hp.q j g1
 ·by_cases e : j = i
  ·subst e; rw [hii]; exact hfr'.1
  ·rw [hij j e]; exact hp.fr j
 ·unfold tellR
  split
  ·rename_i h9
   have hh := ret3 h9.1
   rw [h9.2] at hh
   cases hpe with
   | calm a b => have := b hh.symm; omega
   | acq a b c d => omega
   | rel a b c d =>
    have hnm : (S i).x.n ∈ hel P M := c.mem_iff.2 (List.mem_cons_self ..)
    have hnn := (List.nodup_cons.1 (c.nodup_iff.1 hp.nd)).1
    intro s hs
    rcases List.mem_cons.1 hs with rfl | hs
    ·refine ⟨by have := hp.b _ hnm; rw [hmM]; omega, hnn, fun j g1 g2 g3 => ?_⟩
     by_cases e : j = i
     ·subst e; rw [hii] at g2; dsimp only at g2; rw [hop] at g2; omega
     ·rw [hij j e] at g1 g2 g3 ⊢
      exact fun e9 => hp.pr j g1 g2 g3 (by rw [e9]; exact hnm)
    ·exact hold s hs
  ·exact hold
 ·unfold tellR
  split
  ·rename_i h9
   have hh := ret3 h9.1
   rw [h9.2] at hh
   cases hpe with
   | calm a b => have := b hh.symm; omega
   | acq a b c d => omega
   | rel a b c d => exact List.nodup_cons.2 ⟨fun hx => (hp.rl _ hx).2.1 (c.mem_iff.2 (List.mem_cons_self ..)), hp.rn⟩
  ·exact hp.rn
 ·rw [hsum2, hmM]
  by_cases h2 : (S i).x.op = 2
  ·have h9 := ret2 h2
   have eR : tellR (S i).x (Core.step P M (S i).x (S i).s).r R = R := by unfold tellR; rw [if_neg (by omega)]
   have eA : tellA (S i).x (Core.step P M (S i).x (S i).s).r A = A + b1 (okD (Core.step P M (S i).x (S i).s).r) := by
    unfold tellA b1; cases okD (Core.step P M (S i).x (S i).s).r <;> simp [h2]
   rw [eR, eA]
   cases hpe with
   | calm a b =>
    have e9 : hit M (S i).s = false := by
     cases e : hit M (S i).s with
     | false => rfl
     | true => have := b e; omega
    rw [e9] at h9
    have : b1 false = 0 := rfl
    rw [a.length_eq]; omega
   | acq a b c d =>
    rw [a] at h9
    have : b1 true = 1 := rfl
    rw [c.length_eq, List.length_cons]; omega
   | rel a b c d => omega
  ·have s1 := sw_0 h2 (S i).s
   have s2 := sw_0 (x := (Core.step P M (S i).x (S i).s).x) (by rw [hop]; exact h2) (Core.step P M (S i).x (S i).s).s
   have eA : tellA (S i).x (Core.step P M (S i).x (S i).s).r A = A := by unfold tellA; rw [if_neg (fun h9 => h2 h9.1)]
   rw [s1, s2, eA]
   by_cases h3 : (S i).x.op = 3
   ·have hh := ret3 h3
    unfold tellR
    cases hpe with
    | calm a b =>
     have e9 : hit M (S i).s = false := by
      cases e : hit M (S i).s with
      | false => rfl
      | true => have := b e; omega
     rw [e9] at hh
     rw [hh, if_neg (by simp), a.length_eq]; omega
    | acq a b c d => omega
    | rel a b c d =>
     rw [a] at hh
     rw [hh, if_pos ⟨h3, rfl⟩]
     have := c.length_eq
     rw [List.length_cons] at this ⊢; omega
   ·have eR : tellR (S i).x (Core.step P M (S i).x (S i).s).r R = R := by unfold tellR; rw [if_neg (fun h9 => h3 h9.1)]
    rw [eR]
    cases hpe with
    | calm a b => rw [a.length_eq]; omega
    | acq a b c d => omega
    | rel a b c d => omega
end Core
end Go.Proofs.YtplpofmnhcclbaaGreat

namespace Go.Proofs.YtplpofmnhcclbaaGreat
open Go.RowKit
section
variable {ys : List Int} {t : Int}
end
end Go.Proofs.YtplpofmnhcclbaaGreat

namespace Go.Proofs.YtplpofmnhcclbaaGreat
open Go.RowKit
set_option maxRecDepth 100000
theorem coreOps_re (ps : List Pol) (room : Int) : Core.OpsRe (coreOps ps room) where
 allow p c t n := rfl
 acq p c n := by
  show (acqR p c n).e ≠ 10
  unfold acqR
  split
  ·show (0 : Int) ≠ 10; decide
  ·show takeE p.permits c.held n ≠ 10
   unfold takeE semE
   (repeat' split) <;> omega
 acqs p c n h := by
  replace h : (acqR p c n).e = 0 := h
  show (acqR p c n).serial = n
  unfold acqR at h ⊢
  split
  ·rfl
  ·rename_i h0; rw [if_neg h0] at h; exact absurd h h0
 rel p c n := by
  show (relR p c n).e ≠ 10
  unfold relR
  split
  ·show (0 : Int) ≠ 10; decide
  ·show giveE p.permits c.held n ≠ 10
   unfold giveE semE
   (repeat' split) <;> omega
 peek p c t := by show (peekR p c t).e = 0; unfold peekR; split <;> rfl
def Vt (c : Cel) : Prop := (c.pol = 0 ∧ c.held = []) ∨ (c.pol = 1 ∧ semE 2 c.held = 0)
def Qt (op pol : Int) (_ : List Int) : Prop := (op ≤ 4 → pol = 0 ∨ pol = 1) ∧ (op = 2 ∨ op = 3 → pol = 1)
end Go.Proofs.YtplpofmnhcclbaaGreat

namespace Go.Proofs.YtplpofmnhcclbaaGreat
open Go.RowKit
set_option maxRecDepth 100000
variable {room : Int} {w k : Nat} {c c0 : Cst} {n : Nat} {tr : Nat → Cst} {rs : Nat → Core.Rs}
theorem AloneC.at' (A : AloneC tab2 room w k c0 n tr rs) {i : Nat} (hi : i < n) : (tr (i + 1)).M = (Core.step (coreOps tab2 room) (tr i).M ((tr i).S w).x ((tr i).S w).s).M ∧ (tr (i + 1)).S w = ⟨(Core.step (coreOps tab2 room) (tr i).M ((tr i).S w).x ((tr i).S w).s).x, (Core.step (coreOps tab2 room) (tr i).M ((tr i).S w).x ((tr i).S w).s).s⟩ ∧ ∀ j, j ≠ w → (tr (i + 1)).S j = (tr i).S j := by
 obtain ⟨d, e, g⟩ := A.mx i hi
 refine ⟨d, ?_, fun j hj => ?_⟩
 ·rw [e]; unfold Core.nx; rw [Dir.upd_same]
 ·rw [e]; unfold Core.nx; rw [Dir.upd_ne _ _ hj]
theorem AloneC.oth (A : AloneC tab2 room w k c0 n tr rs) : ∀ i, i ≤ n → ∀ j, j ≠ w → (tr i).S j = c0.S j := by
 intro i
 induction i with
 | zero => intro _ j _; rw [A.z]
 | succ i ih => intro hi j hj; rw [(A.at' (by omega)).2.2 j hj, ih (by omega) j hj]
theorem step_clk {P : Core.Ops} {M : Core.Mc} {x : Core.X} {s : Core.CS} : (Core.step P M x s).M.clk = M.clk := by
 cases s <;> simp only [Core.step] <;> (repeat' split) <;> rfl
def z0 (c : Cst) (x : Core.X) : Core.At0 := ⟨Core.own sumK c.M, c.M.W 32, c.M.W 33, c.M.clk, x⟩
theorem AloneC.key (A : AloneC tab2 room w k c0 n tr rs) (hk : k ≤ 500000) (hn : n ≤ 1000) {x : Core.X} (h0 : c0.S w = ⟨x, .k0 .key⟩) (hx : x.ser = 0 ∧ x.res = false) (hr : c0.M.W 32 ≠ room) : Core.Jd sumK (coreOps tab2 room) (z0 c0 x) (tr n).M (rs (n - 1)).r := by
 have go : ∀ i, i < n → Core.Jk sumK (coreOps tab2 room) (z0 c0 x) (tr i).M ((tr i).S w).x ((tr i).S w).s := by
  intro i
  induction i with
  | zero =>
   intro _
   rw [A.z, h0]
   exact ⟨rfl, ⟨fun _ => rfl, rfl, rfl, ⟨rfl, rfl, rfl, rfl, rfl⟩⟩, hx.1, hx.2, rfl⟩
  | succ i ih =>
   intro hi
   have hL := A.law i (by omega)
   have hI := hL.all.inv
   have hJ := Core.step_J (coreOps_ok tab2 room) hI.iw ⟨hI.b, by unfold Dir.FZ; omega⟩ (hI.cw w) hL.all.ih (hL.all.ch w) hr (ih (by omega))
   obtain ⟨d, e, _⟩ := A.at' (i := i) (by omega)
   have hd := A.no i hi
   rw [(A.mx i (by omega)).2.2] at hd
   rw [d, e]
   exact hJ.go hd
 have hp := A.pos
 obtain ⟨m, rfl⟩ : ∃ m, n = m + 1 := ⟨n - 1, by omega⟩
 have hL := A.law m (by omega)
 have hI := hL.all.inv
 have hJ := Core.step_J (coreOps_ok tab2 room) hI.iw ⟨hI.b, by unfold Dir.FZ; omega⟩ (hI.cw w) hL.all.ih (hL.all.ch w) hr (go m (by omega))
 have hy := A.yes
 rw [show m + 1 - 1 = m by omega] at hy ⊢
 rw [(A.mx m (by omega)).2.2] at hy ⊢
 rw [(A.at' (i := m) (by omega)).1]
 exact hJ.out hy
theorem AloneC.ev (A : AloneC tab2 room w k c0 n tr rs) (hk : k ≤ 500000) (hn : n ≤ 1000) {x : Core.X} {s : Core.CS} (h0 : c0.S w = ⟨x, s⟩) (hf : Core.Fr (coreOps tab2 room) x s) (ho : x.op = 5 ∨ x.op = 6) :
  Core.Less sumK (coreOps tab2 room) (Core.own sumK c0.M) (tr n).M ∧ (tr n).M.W 33 = c0.M.W 33 ∧ (tr n).M.clk = c0.M.clk ∧ ((x.op = 5 → (rs (n - 1)).r.e = 0) ∧ (x.op = 6 → (rs (n - 1)).r.e = 0 ∨ (rs (n - 1)).r.e = 5)) := by
 have go : ∀ i, i ≤ n → (Core.Less sumK (coreOps tab2 room) (Core.own sumK c0.M) (tr i).M ∧ (tr i).M.W 33 = c0.M.W 33 ∧ (tr i).M.clk = c0.M.clk) ∧ Core.Fr (coreOps tab2 room) ((tr i).S w).x ((tr i).S w).s ∧ ((tr i).S w).x.op = x.op := by
  intro i
  induction i with
  | zero =>
   intro _
   rw [A.z, h0]
   exact ⟨⟨fun _ => .inl rfl, rfl, rfl⟩, hf, rfl⟩
  | succ i ih =>
   intro hi
   have hL := A.law i (by omega)
   have hI := hL.all.inv
   obtain ⟨⟨h1, h2, h3⟩, h4, h5⟩ := ih (by omega)
   obtain ⟨d, e, _⟩ := A.at' (i := i) (by omega)
   have ho' : ((tr i).S w).x.op = 5 ∨ ((tr i).S w).x.op = 6 := by rw [h5]; exact ho
   have g1 := Core.step_less (coreOps_ok tab2 room) hI.iw ⟨hI.b, by unfold Dir.FZ; omega⟩ (hI.cw w) hL.all.ih (hL.all.ch w) h4 ho' step_clk h1
   have g2 := Core.step_w56 (P := coreOps tab2 room) hI.iw ⟨hI.b, by unfold Dir.FZ; omega⟩ (hI.ser w) hI.c33 (hI.cw w) h4 ho'
   rw [d, e]
   refine ⟨⟨g1, by rw [g2, h2], by rw [step_clk, h3]⟩, (Core.step_fr (coreOps_re tab2 room) (hI.cw w) h4 (hL.all.rx w)).1, ?_⟩
   dsimp only
   rw [Core.step_op]; exact h5
 have hp := A.pos
 refine ⟨(go n (Nat.le_refl _)).1.1, (go n (Nat.le_refl _)).1.2.1, (go n (Nat.le_refl _)).1.2.2, ?_⟩
 obtain ⟨m, rfl⟩ : ∃ m, n = m + 1 := ⟨n - 1, by omega⟩
 obtain ⟨_, h4, h5⟩ := go m (by omega)
 have hon := isC_ne (A.on m (by omega))
 have := Core.step_e56 (M := (tr m).M) h4 hon
 rw [show m + 1 - 1 = m by omega, (A.mx m (by omega)).2.2, ← h5]
 exact this
end Go.Proofs.YtplpofmnhcclbaaGreat

namespace Go.Proofs.YtplpofmnhcclbaaGreat
open Go.RowKit
set_option maxRecDepth 100000
structure UnI (i : Nat) (a b : Cst) (ka kb : Nat) : Prop where
 la : LawC tab2 4096 ka a.M a.S a.xs a.nl ((ka : Int) + 1)
 lb : LawC tab2 4096 kb b.M b.S b.xs b.nl ((kb : Int) + 1)
 na : ∀ j, (a.S j).s = .none
 nb : ∀ j, (b.S j).s = .none
 ka : ka ≤ 165 * i
 kb : kb ≤ 165 * i
 un : Core.Un sumK (coreOps tab2 4096) Vu a.M b.M
 c : a.M.W 32 ≤ i
theorem w32_len {k : Nat} {c : Cst} (h : LawC tab2 4096 k c.M c.S c.xs c.nl ((k : Int) + 1)) (hn : ∀ j, (c.S j).s = .none) : c.M.W 32 = (Core.allE (coreOps tab2 4096) c.M).length := by
 have h1 := h.all.cnt
 have h2 : (fun i => Core.owes (c.S i).x (c.S i).s) = fun _ => 0 := by funext i; rw [hn i]; rfl
 rw [h2, Core.sumI_zero] at h1
 omega
variable {i ka kb : Nat} {a b : Cst}
theorem UnI.zero : UnI 0 cst0 cst0 0 0 :=
 ⟨law0 (by decide), law0 (by decide), fun _ => rfl, fun _ => rfl, Nat.le_refl _, Nat.le_refl _, .zero, by decide⟩
theorem UnI.cnt (h : UnI i a b ka kb) : b.M.W 32 ≤ a.M.W 32 := by
 have := h.un.len (coreOps_ok tab2 4096) h.la.all.inv.iw h.la.all.ih h.lb.all.inv.iw h.lb.all.ih
 rw [w32_len h.la h.na, w32_len h.lb h.nb]
 omega
theorem UnI.tick (h : UnI i a b ka kb) {t : Int} (ht : a.M.clk ≤ t ∧ t ≤ 4611686018427387903) : UnI (i + 1) ⟨⟨a.M.W, a.M.Hd, t⟩, a.S, a.xs, a.nl, a.f⟩ ⟨⟨b.M.W, b.M.Hd, t⟩, b.S, b.xs, b.nl, b.f⟩ ka kb := by
 have hk := h.ka; have hk2 := h.kb; have hc := h.c
 exact ⟨h.la.tick ht, h.lb.tick (by rw [h.un.clk]; exact ht), h.na, h.nb, by omega, by omega, h.un.tick ht.1, by show a.M.W 32 ≤ _; omega⟩
theorem first_key {op pol : Int} {key : List Int} {n : Int} (h : 1 ≤ op ∧ op ≤ 4) : Core.first (newX op pol key n) = .k0 .key := by
 have h5 : ¬ (newX op pol key n).op = 5 := by show ¬ op = 5; omega
 have h6 : ¬ (newX op pol key n).op = 6 := by show ¬ op = 6; omega
 unfold Core.first
 first
  | rw [if_neg h5, if_neg h6]
  | rw [if_neg h6, if_neg h5]
theorem AloneC.idle {w k : Nat} {c : Cst} {z : Core.Wk} {xs : Nat → XB} {n : Nat} {tr : Nat → Cst} {rs : Nat → Core.Rs} (A : AloneC tab2 4096 w k ⟨c.M, Dir.upd c.S w z, xs, c.nl, c.f⟩ n tr rs) (h : ∀ j, (c.S j).s = .none) : ∀ j, ((tr n).S j).s = .none := fun j => by
 by_cases e : j = w
 ·rw [e]; exact A.ends
 ·rw [A.oth n (Nat.le_refl _) j e]
  show (Dir.upd c.S w z j).s = .none
  rw [Dir.upd_ne _ _ e]; exact h j
theorem UnI.key (h : UnI i a b ka kb) (hi : i < 80) {op pol : Int} {key : List Int} {m : Int} (hE : chkE tab2 op pol key m = 0) (ho : 1 ≤ op ∧ op ≤ 4) {xa xb : Nat → XB} {n n' : Nat} {tr tr' : Nat → Cst} {rs rs' : Nat → Core.Rs} (hn : n ≤ 165) (hn' : n' ≤ 165)
  (A : AloneC tab2 4096 0 ka ⟨a.M, Dir.upd a.S 0 ⟨newX op pol key m, Core.first (newX op pol key m)⟩, xa, a.nl, a.f⟩ n tr rs)
  (A' : AloneC tab2 4096 0 kb ⟨b.M, Dir.upd b.S 0 ⟨newX op pol key m, Core.first (newX op pol key m)⟩, xb, b.nl, b.f⟩ n' tr' rs') :
  (rs' (n' - 1)).r = (rs (n - 1)).r ∧ UnI (i + 1) (tr n) (tr' n') (ka + n) (kb + n') := by
 have hk := h.ka; have hk2 := h.kb; have hc := h.c; have hcb := h.cnt
 have hq := chk_Qu hE ho
 rw [first_key ho] at A A'
 have J := A.key (by omega) (by omega) (x := newX op pol key m) (Dir.upd_same a.S 0 _) ⟨rfl, rfl⟩ (by show a.M.W 32 ≠ 4096; omega)
 have J' := A'.key (by omega) (by omega) (x := newX op pol key m) (Dir.upd_same b.S 0 _) ⟨rfl, rfl⟩ (by show b.M.W 32 ≠ 4096; omega)
 obtain ⟨e, u⟩ := Core.Un.key (tab2_un 4096) J J' h.un rfl rfl rfl rfl rfl rfl rfl hq h.la.clk
 refine ⟨e, ?_, ?_, A.idle h.na, A'.idle h.nb, by omega, by omega, u, ?_⟩
 ·have := A.law n (Nat.le_refl _)
  rw [show ((ka + n : Nat) : Int) + 1 = (ka : Int) + n + 1 by omega]; exact this
 ·have := A'.law n' (Nat.le_refl _)
  rw [show ((kb + n' : Nat) : Int) + 1 = (kb : Int) + n' + 1 by omega]; exact this
 ·rw [J.w32]
  split
  ·show a.M.W 32 + 1 ≤ ((i + 1 : Nat) : Int); omega
  ·show a.M.W 32 ≤ ((i + 1 : Nat) : Int); omega
theorem UnI.ev (h : UnI i a b ka kb) (hi : i < 80) {op pol : Int} {key : List Int} {m : Int} (ho : op = 5 ∨ op = 6) {xb : Nat → XB} {n' : Nat} {tr' : Nat → Cst} {rs' : Nat → Core.Rs} (hn' : n' ≤ 165)
  (A' : AloneC tab2 4096 0 kb ⟨b.M, Dir.upd b.S 0 ⟨newX op pol key m, Core.first (newX op pol key m)⟩, xb, b.nl, b.f⟩ n' tr' rs') :
  ((op = 5 → (rs' (n' - 1)).r.e = 0) ∧ (op = 6 → (rs' (n' - 1)).r.e = 0 ∨ (rs' (n' - 1)).r.e = 5)) ∧ UnI (i + 1) a (tr' n') ka (kb + n') := by
 have hk := h.ka; have hk2 := h.kb; have hc := h.c
 have hf : Core.Fr (coreOps tab2 4096) (newX op pol key m) (Core.first (newX op pol key m)) := by
  unfold Core.first
  split
  ·assumption
  ·split
   ·assumption
   ·exact ⟨by assumption, by assumption⟩
 obtain ⟨g1, g2, g3, g4⟩ := A'.ev (by omega) (by omega) (x := newX op pol key m) (s := Core.first (newX op pol key m)) (Dir.upd_same b.S 0 _) hf ho
 refine ⟨g4, h.la, ?_, h.na, A'.idle h.nb, by omega, by omega, h.un.evict g1 g2 g3, by omega⟩
 have := A'.law n' (Nat.le_refl _)
 rw [show ((kb + n' : Nat) : Int) + 1 = (kb : Int) + n' + 1 by omega]; exact this
def up14 (l : Nat) : Nat := l + 14
def xB2 (o : XB) : Blk := .cf 15 o.n fun j => SV.ren up14 (o.f j)
def coreH2 (ps : List Pol) (room : Int) (S : Nat → Core.Wk) (M : Core.Mc) (o : Nat → XB) (nl : Nat) (f : Nat → List D) (cnt : Int) : List (Nat × Option Blk) :=
  [(14, some (.cf 27 67 fun j => SV.ren up14 (coreF ps room (gOf (coreOps ps room) 4 S) j))), (15, some (machB 16 27 34 nl M.clk cnt)), (16, some (wordB 34 M.W)), (17, some (holdB M.Hd)),
   (18, some (xB2 (o 0))), (19, some (xB2 (o 1))), (20, some (xB2 (o 2))), (21, some (xB2 (o 3))), (22, some (xB2 (o 4))), (23, some (xB2 (o 5))), (24, some (xB2 (o 6))), (25, some (xB2 (o 7))), (26, some (xB2 (o 8))), (27, some (lastB nl f))]
theorem lt_renU {π : Nat → Nat} {m n : Nat} (H : ∀ l, l < m → π l < n) {x : SV} (hx : SV.Lt m x) : SV.Lt n (SV.ren π x) := SV.ren_lt H hx
theorem law_arg2 {ps : List Pol} {room : Int} {S : Nat → Core.Wk} {b : Nat} {L : List Nat} {π : Nat → Nat} (h4 : ∀ l, l < 4 → l + 14 < L.length ∧ L.getD (l + 14) 0 = π l) (hq : ∀ q, q < 9 → 18 + q < L.length ∧ L.getD (18 + q) 0 = π (b + q)) :
  ∀ j, j < 67 → ArgLe L (SV.ren π (coreF ps room (gOf (coreOps ps room) b S) j)) (SV.ren up14 (coreF ps room (gOf (coreOps ps room) 4 S) j)) ∧ SV.Lt 27 (SV.ren up14 (coreF ps room (gOf (coreOps ps room) 4 S) j)) := fun j _ => by
 refine ⟨?_, lt_renU (fun l hl => by show l + 14 < 27; omega) (coreF_lt (gOf_lt4 _ S) j)⟩
 have hl : ∀ x, SV.Lt 4 x → ArgLe L (SV.ren π x) (SV.ren up14 x) := fun x hx => ArgLe.renX hx h4
 rcases j with _ | _ | _ | j
 ·exact hl _ (.of rfl)
 ·exact hl _ (.of rfl)
 ·exact hl _ (.of rfl)
 ·show ArgLe L (SV.ren π (SV.ren (at4 (b + slot j)) (cl (coreOps ps room) j (S j).x (S j).s))) (SV.ren up14 (SV.ren (at4 (4 + slot j)) (cl (coreOps ps room) j (S j).x (S j).s)))
  rw [SV.ren_ren, SV.ren_ren]
  refine ArgLe.renX (cl_lt _ _ _ _) fun l hl => ?_
  by_cases e : l = 4
  ·subst e
   have := hq _ (slot_lt j)
   show 4 + slot j + 14 < L.length ∧ L.getD (4 + slot j + 14) 0 = _
   rw [show 4 + slot j + 14 = 18 + slot j by omega]; exact this
  ·rw [at4_lo (by omega), at4_lo (by omega)]; exact h4 l (by omega)
theorem x_arg2 {xs : Nat → XB} {i n : Nat} {π : Nat → Nat} {L : List Nat} (H : ∀ i j, SV.Lt 1 ((xs i).f j)) (h1 : 14 < L.length) (h2 : L.getD 14 0 = π 0) : ∀ j, j < n → ArgLe L (SV.ren π ((xs i).f j)) (SV.ren up14 ((xs i).f j)) ∧ SV.Lt 15 (SV.ren up14 ((xs i).f j)) := fun j _ =>
 ⟨ArgLe.renX (H i j) fun l hl => by obtain rfl : l = 0 := (by omega); exact ⟨h1, h2⟩, lt_renU (fun l hl => by show l + 14 < 15; omega) (H i j)⟩
theorem x_argS {xs : Nat → XB} {i n : Nat} (H : ∀ i j, SV.Lt 1 ((xs i).f j)) {L : List Nat} : ∀ j, j < n → ArgLe (14 :: L) (SV.ren up14 ((xs i).f j)) ((xs i).f j) ∧ SV.Lt 1 ((xs i).f j) := fun j _ =>
 ⟨by
  have := ArgLe.renX (π1 := up14) (π2 := fun l => l) (L := 14 :: L) (H i j) fun l hl => by obtain rfl : l = 0 := (by omega); exact ⟨by simp, rfl⟩
  rwa [SV.ren_same (π := fun l => l) (m := 1) (fun _ _ => rfl) (H i j)] at this, H i j⟩
end Go.Proofs.YtplpofmnhcclbaaGreat

namespace Go.Proofs.YtplpofmnhcclbaaGreat
open Go.RowKit
set_option maxRecDepth 100000
variable {ps : List Pol} {room : Int}
end Go.Proofs.YtplpofmnhcclbaaGreat

namespace Go.Proofs.YtplpofmnhcclbaaGreat
namespace Core
theorem cmp_eq : ∀ {a b : List Int}, cmpI a b = 0 → a = b
 | [], [], _ => rfl
 | [], _ :: _, h => by simp [cmpI] at h
 | _ :: _, [], h => by simp [cmpI] at h
 | x :: a, y :: b, h => by
  simp only [cmpI] at h
  split at h
  ·cases h
  ·split at h
   ·cases h
   ·have : x = y := by omega
    rw [this, cmp_eq h]
end Core
end Go.Proofs.YtplpofmnhcclbaaGreat

namespace Go.Proofs.YtplpofmnhcclbaaGreat
open Go.RowKit
set_option maxRecDepth 100000
set_option maxHeartbeats 1000000
set_option maxRecDepth 100000
set_option maxHeartbeats 1000000
end Go.Proofs.YtplpofmnhcclbaaGreat

namespace Go.Proofs.YtplpofmnhcclbaaGreat
open Go.RowKit
set_option maxRecDepth 100000
set_option maxHeartbeats 4000000
variable {ps : List Pol} {room : Int} {S : Nat → Core.Wk} {M : Core.Mc} {xs : Nat → XB} {nl nl0 : Nat} {f : Nat → List D} {cnt cnt0 who : Int}
end Go.Proofs.YtplpofmnhcclbaaGreat

namespace Go.Proofs.YtplpofmnhcclbaaGreat
open Go.RowKit
set_option maxRecDepth 100000
set_option maxHeartbeats 4000000
structure SerI (M : Core.Mc) (S : Nat → Core.Wk) (L : List Int) (n : Int) : Prop where
 s : Core.Sers M S L.reverse
 le : M.W 33 + Core.pend S ≤ n
theorem SerI.zero : SerI Core.M0 S0 [] 0 :=
 ⟨⟨fun _ => Int.le_refl _, fun i _ _ h => absurd rfl h, fun _ h => by simp at h, by simp, fun _ => trivial⟩, by decide⟩
end Go.Proofs.YtplpofmnhcclbaaGreat

namespace Go.Proofs.YtplpofmnhcclbaaGreat
open Go.RowKit
set_option maxRecDepth 100000
set_option maxHeartbeats 4000000
section
variable {ps : List Pol} {room : Int} {k : Nat} {M : Core.Mc} {S : Nat → Core.Wk} {xs : Nat → XB} {nl : Nat} {f : Nat → List D} {cnt : Int}
theorem law_Count (h : LawC ps room k M S xs nl cnt) (hk : k ≤ 1000000) :
  Fun TC 27 14 [.ptr 0 0] (coreH ps room (gOf (coreOps ps room) 4 S) M xs nl f cnt) 14 (.i .i64 (M.W 32)) (coreH ps room (gOf (coreOps ps room) 4 S) M xs nl f cnt) :=
 core_Count (h.cok hk 0 (by decide))
end
structure PmI (room : Int) (M : Core.Mc) (S : Nat → Core.Wk) (A : Int) (R L : List Int) (n : Int) : Prop where
 s : SerI M S L n
 p : Core.Pm sumK (coreOps tab2 room) Vt Qt M S A R
theorem hel_zero (P : Core.Ops) : Core.hel P Core.M0 = [] := rfl
theorem PmI.zero (room : Int) : PmI room Core.M0 S0 0 [] [] 0 := by
 refine ⟨.zero, ⟨fun k c h => ?_, fun s h => ?_, ?_, fun i h => absurd rfl h, fun i h => absurd rfl h, fun i => trivial, fun s h => absurd h (by simp), List.nodup_nil, ?_⟩⟩
 ·have : Core.own sumK Core.M0 k = none := rfl
  rw [this] at h; cases h
 ·rw [hel_zero] at h; simp at h
 ·rw [hel_zero]; exact List.nodup_nil
 ·rw [hel_zero]
  show (0 : Int) = 0 + Core.sumI 64 (fun _ => 0) - 0
  rw [Core.sumI_zero]; rfl
end Go.Proofs.YtplpofmnhcclbaaGreat
