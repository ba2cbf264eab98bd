/- Parts of the proof, one behind the other: Ct3, Ct4, Pl8a, Ct9, Sx25b. Lemmas and contracts of functions; no condition of its own. -/
import Derived.Test.YtplpofmnhcclbaaGreatMB19
set_option linter.unusedVariables false
set_option linter.unusedSimpArgs false
namespace Go.Proofs.YtplpofmnhcclbaaGreat
namespace Core
open Dir (FZ plc upd upW Iw okW lowW upd_same upd_ne pow_pos2)
open Hm (home)
variable {sm : List Int → Int} {P : Ops} {V : Cel → Prop} {Q : Int → Int → List Int → Prop}
theorem entered_ok3 {x : X} (h : x.op = 3) {f : Fc} (hf : Fo x f) (w : Nat) (v : Int) (l : List Cel) : okD (entered P x f w v l).2 = false := by
 unfold entered
 split
 ·rfl
 ·unfold found
  cases f with
  | key =>
   show okD (foundK P x (fdOf P x w v l)).2 = false
   unfold foundK
   rw [if_neg (by omega), if_neg (by omega), if_pos h]
   split
   ·rfl
   ·rename_i h9; simp [okD, h9]
  | ev j sh g => have : x.op = 5 := hf; omega
theorem step_ret3 {M : Mc} {x : X} {s : CS} (hs : Cw x M.W s) (h : Fr P x s) (hr : Rx x s) (ho : x.op = 3) : okD (step P M x s).r = hit M s := by
 have no5 : ∀ {q : Prop}, x.op = 5 → q := fun e => by omega
 have no6 : ∀ {q : Prop}, x.op = 6 → q := fun e => by omega
 have no1 : ∀ {q : Prop}, x.op = 1 → q := fun e => by omega
 have no2 : ∀ {q : Prop}, x.op = 2 → q := fun e => by omega
 have nres : x.res = false := by
  cases e : x.res with
  | false => rfl
  | true => rcases hr.op e with h9 | h9 <;> omega
 cases s with
 | none => rfl
 | k0 f => rfl
 | kE f w => exact entered_ok3 ho h _ _ _
 | kF f lv w => rfl
 | kG f lv w v m => simp only [step]; split <;> rfl
 | kH f lv w m =>
  simp only [step]; split
  ·rfl
  ·exact entered_ok3 ho h _ _ _
 | kL f lv w m => rfl
 | al f => exact no1 h
 | pk c => exact absurd ho h.2.2.1
 | a0 f => exact no2 h.1
 | a1 f u => exact no2 h.1
 | p0 f c r => simp only [step]; split <;> rfl
 | p1 f c r u => simp only [step]; split <;> rfl
 | pS f c r =>
  have hr0 : r.e = 0 := by
   rcases h with ⟨a, _⟩ | ⟨a, _⟩ | ⟨_, _, a⟩
   ·exact no1 a
   ·exact no2 a
   ·exact a
  by_cases hm : M.W f.w = f.v
  ·simp only [step, if_pos hm]
   have e1 : hit M (.pS f c r) = true := by simpa [hit] using hm
   rw [e1]
   show okD (if f.there = true then leave x r else (.none, ⟨true, r⟩) : CS × Rs).2 = true
   split
   ·unfold leave; rw [if_neg (by simp [nres])]; simp [okD, hr0]
   ·simp [okD, hr0]
  ·simp only [step, if_neg hm]
   have e1 : hit M (.pS f c r) = false := by simpa [hit] using hm
   rw [e1]; rfl
 | b0 n k =>
  cases k with
  | lv r => rcases h.1 with ⟨a, _⟩ | ⟨a, _⟩; exact no1 a; exact no2 a
  | ev j sh g => exact no5 h
 | b1 n k u =>
  cases k with
  | lv r => rcases h.1 with ⟨a, _⟩ | ⟨a, _⟩; exact no1 a; exact no2 a
  | ev j sh g => exact no5 h
 | e0 => exact no5 h
 | eC j sh g w v m => exact no5 h
 | eS j sh g w v m n => exact no5 h
 | s0 => exact no6 h
 | sM lv => exact no6 h
 | sF lv i => exact no6 h
 | sG lv i v m => exact no6 h
 | sH lv i up m => exact no6 h
 | sL lv i up m => exact no6 h
 | sV lv => exact no6 h
theorem step_still (hP : OpsOk sm P) {M : Mc} {B : Int} (h : Iw M.W B) (hB : 1 ≤ B ∧ B + 1 < FZ) {x : X} {s : CS} (hs : Cw x M.W s) (hI : Ih sm M) (hc : Ch sm P x M s) (hf : Fr P x s)
  (hacq : x.op = 2 → hit M s = true → ∀ f c r, s = .pS f c r → r.e = 0) (hal : ∀ p c t n, (P.allow p c t n).1.e = 0)
  (ho : x.op = 4 ∨ x.op = 6 ∨ (step P M x s).r.done = true ∧ ((step P M x s).r.r.e ≠ 0 ∨ x.op = 1 ∧ ((step P M x s).r.r.g = false ∨ x.n = 0))) (k : List Int) : own sm (step P M x s).M k = own sm M k := by
 refine step_calm (P := P) hP h hB hs hI hc ?_ ?_ k
 ·cases s with
  | pS f c r =>
   cases e : hit M (.pS f c r) with
   | false => rfl
   | true =>
    exfalso
    have hm : M.W f.w = f.v := by simpa [hit] using e
    have hfc : FrC P x f c r := hf
    have hop : x.op = 1 ∨ x.op = 2 ∨ x.op = 3 := by rcases hfc with a | a | a; exact .inl a.1; exact .inr (.inl a.1); exact .inr (.inr a.1)
    rcases ho with ho | ho | ⟨hd, ho⟩
    ·omega
    ·omega
    ·simp only [step, if_pos hm] at hd ho
     replace hd : (if f.there = true then leave x r else (.none, ⟨true, r⟩) : CS × Rs).2.done = true := hd
     replace ho : (if f.there = true then leave x r else (.none, ⟨true, r⟩) : CS × Rs).2.r.e ≠ 0 ∨ x.op = 1 ∧ ((if f.there = true then leave x r else (.none, ⟨true, r⟩) : CS × Rs).2.r.g = false ∨ x.n = 0) := ho
     have hrep : (if f.there = true then leave x r else (.none, ⟨true, r⟩) : CS × Rs).2.r = r := by
      unfold leave at hd ⊢
      split
      ·rename_i e9
       rw [if_pos e9] at hd
       split
       ·rename_i e8; rw [if_pos e8] at hd; cases hd
       ·rfl
      ·rfl
     rw [hrep] at ho
     rcases hfc with ⟨a, ⟨t, b⟩, c1, c2⟩ | ⟨a, b⟩ | ⟨a, b, c1⟩
     ·have h9 := hal (P.pol x.pol) f.cell t x.n
      rw [b] at h9
      rcases ho with ho | ⟨_, ho | ho⟩
      ·exact ho h9
      ·rw [c1] at ho; cases ho
      ·exact c2 ho
     ·rcases ho with ho | ⟨ho, _⟩
      ·exact ho (hacq a e f c r rfl)
      ·omega
     ·rcases ho with ho | ⟨ho, _⟩
      ·exact ho c1
      ·omega
  | _ => rfl
 ·rintro j sh g w v m n rfl
  have h5 : x.op = 5 := hf
  rcases ho with ho | ho | ⟨hd, ho⟩
  ·omega
  ·omega
  ·rcases ho with ho | ⟨ho, _⟩
   ·apply ho
    simp only [step]
    split
    ·rfl
    ·show (further j sh g).2.r.e = 0
     unfold further; split <;> rfl
   ·omega
structure Pm (sm : List Int → Int) (P : Ops) (V : Cel → Prop) (Q : Int → Int → List Int → Prop) (M : Mc) (S : Nat → Wk) (A : Int) (R : List Int) : Prop where
 v : ∀ k c, own sm M k = some c → V c
 b : ∀ s ∈ hel P M, 1 ≤ s ∧ s ≤ M.W 33
 nd : (hel P M).Nodup
 pr : ∀ i, (S i).s ≠ .none → (S i).x.op = 2 → swB (S i).x (S i).s = false → (S i).x.ser ∉ hel P M
 q : ∀ i, (S i).s ≠ .none → Q (S i).x.op (S i).x.pol (S i).x.key
 fr : ∀ i, Fr P (S i).x (S i).s
 rl : ∀ s ∈ R, (1 ≤ s ∧ s ≤ M.W 33) ∧ s ∉ hel P M ∧ ∀ i, (S i).s ≠ .none → (S i).x.op = 2 → swB (S i).x (S i).s = false → (S i).x.ser ≠ s
 rn : R.Nodup
 cnt : ((hel P M).length : Int) = A + sumI 64 (fun i => b1 (swB (S i).x (S i).s)) - R.length
def tellA (x : X) (r : Rs) (A : Int) : Int := if x.op = 2 ∧ okD r = true then A + 1 else A
def tellR (x : X) (r : Rs) (R : List Int) : List Int := if x.op = 3 ∧ okD r = true then x.n :: R else R
theorem step_kn (M : Mc) (x : X) (s : CS) : (Core.step P M x s).x.pol = x.pol ∧ (Core.step P M x s).x.key = x.key ∧ (Core.step P M x s).x.n = x.n := by
 cases s with
 | s0 => simp only [step]; split; exact ⟨rfl, rfl, rfl⟩; split <;> exact ⟨rfl, rfl, rfl⟩
 | _ => (first | exact ⟨rfl, rfl, rfl⟩ | (simp only [step]; split <;> exact ⟨rfl, rfl, rfl⟩))
theorem swB_2 {x : X} {s : CS} (h : swB x s = true) : x.op = 2 := by
 cases s with
 | b0 n k => cases k <;> simp [swB] at h; exact h.1
 | b1 n k u => cases k <;> simp [swB] at h; exact h.1
 | _ => simp [swB] at h
theorem swB_b {x : X} {s : CS} (h : swB x s = true) (M : Mc) : hit M s = false ∧ s ≠ .none := by
 cases s with
 | b0 n k => exact ⟨rfl, by simp⟩
 | b1 n k u => exact ⟨rfl, by simp⟩
 | _ => simp [swB] at h
end Core
end Go.Proofs.YtplpofmnhcclbaaGreat

namespace Go.Proofs.YtplpofmnhcclbaaGreat
namespace Core
open Dir (FZ plc upd upW Iw okW lowW upd_same upd_ne pow_pos2)
open Hm (home)
variable {sm : List Int → Int} {P : Ops} {V : Cel → Prop} {Q : Int → Int → List Int → Prop}
theorem b1_bd (b : Bool) : 0 ≤ b1 b ∧ b1 b ≤ 1 := by unfold b1; split <;> omega
theorem b1_z {b : Bool} (h : b1 b = 0) : b = false := by cases b with
 | false => rfl
 | true => simp [b1] at h
theorem sw_0 {x : X} (h : x.op ≠ 2) (s : CS) : swB x s = false := by
 cases e : swB x s with
 | false => rfl
 | true => exact absurd (swB_2 e) h
theorem okD_none {M : Mc} {x : X} {s : CS} (h : (Core.step P M x s).s ≠ .none) : okD (Core.step P M x s).r = false := by
 cases e : (Core.step P M x s).r.done with
 | false => unfold okD; rw [e]; rfl
 | true => exact absurd (step_none e) h
theorem hit_acq {M M' : Mc} {x : X} {s : CS} (h : PE P M x s M') (h2 : x.op = 2) (hh : hit M s = true) : ∀ f c r, s = .pS f c r → r.e = 0 := by
 cases h with
 | calm a b => have := b hh; omega
 | acq a b c d => exact d
 | rel a b c d => omega
theorem Pm.step (hP : OpsOk sm P) (hQ : OpsPm P V Q) (hR : OpsRe P) {M : Mc} {S : Nat → Wk} {B : Int} (hA : All sm P M S B) (hB : B + 1 < FZ) {G : List Int} (hS : Sers M S G) (hM : M.W 33 ≤ MAX) {A : Int} {R : List Int} (hp : Pm sm P V Q M S A R) {i : Nat} (hi : i < 64) (hn : (S i).s ≠ .none) :
  Pm sm P V Q (mx P M S i) (nx P M S i) (tellA (S i).x (Core.step P M (S i).x (S i).s).r A) (tellR (S i).x (Core.step P M (S i).x (S i).s).r R) := by
 have hI := hA.inv
 have hfr := hp.fr i
 have sw0 : hit M (S i).s = true → swB (S i).x (S i).s = false := fun hh => by
  cases e : swB (S i).x (S i).s with
  | false => rfl
  | true => rw [(swB_b e M).1] at hh; cases hh
 obtain ⟨hv, hpe⟩ := step_pm hP hQ hI.iw ⟨hI.b, hB⟩ (hI.ser i) hI.c33 (hI.cw i) hA.ih (hA.ch i) hfr hp.v (hp.q i) (by have := hS.le i; omega) (fun h2 hh => hp.pr i hn h2 (sw0 hh))
 have h33 := step_ser33 (P := P) hI.iw ⟨hI.b, hB⟩ (hI.ser i) hI.c33 (hI.cw i)
 have hle : M.W 33 ≤ (Core.step P M (S i).x (S i).s).M.W 33 := by omega
 have hop := step_op (P := P) M (S i).x (S i).s
 have hkn := step_kn (P := P) M (S i).x (S i).s
 have hii : nx P M S i i = ⟨(Core.step P M (S i).x (S i).s).x, (Core.step P M (S i).x (S i).s).s⟩ := by unfold nx; rw [upd_same]
 have hij : ∀ j, j ≠ i → nx P M S i j = S j := fun j e => by unfold nx; rw [upd_ne _ _ e]
 have ret2 : (S i).x.op = 2 → b1 (swB (Core.step P M (S i).x (S i).s).x (Core.step P M (S i).x (S i).s).s) + b1 (okD (Core.step P M (S i).x (S i).s).r) = b1 (swB (S i).x (S i).s) + b1 (hit M (S i).s) := fun h2 => step_ret2 hfr h2 (hit_acq hpe h2)
 have ret3 : (S i).x.op = 3 → okD (Core.step P M (S i).x (S i).s).r = hit M (S i).s := fun h3 => step_ret3 (hI.cw i) hfr (hA.rx i) h3
 have hmM : mx P M S i = (Core.step P M (S i).x (S i).s).M := rfl
 have own2 : (Core.step P M (S i).x (S i).s).s ≠ .none → (S i).x.op = 2 → swB (Core.step P M (S i).x (S i).s).x (Core.step P M (S i).x (S i).s).s = false → swB (S i).x (S i).s = false ∧ hit M (S i).s = false := fun g1 g2 g3 => by
  have h9 := ret2 g2
  rw [g3, okD_none g1] at h9
  have a1 := b1_bd (swB (S i).x (S i).s)
  have a2 := b1_bd (hit M (S i).s)
  have a3 : b1 false = 0 := rfl
  exact ⟨b1_z (by omega), b1_z (by omega)⟩
 have hsub : (hit M (S i).s = true → (S i).x.op ≠ 2) → ∀ s, s ∈ hel P (Core.step P M (S i).x (S i).s).M → s ∈ hel P M := fun hh s hs => by
  cases hpe with
  | calm a b => exact a.mem_iff.1 hs
  | acq a b c d => exact absurd b (hh a)
  | rel a b c d => exact c.mem_iff.2 (List.mem_cons_of_mem _ hs)
 have hpos : hit M (S i).s = true → (S i).x.op = 2 → 0 < (S i).x.ser := fun hh h2 => by
  cases e : (S i).s with
  | pS f c r =>
   rw [e] at hfr
   rcases hfr with ⟨a, _⟩ | ⟨_, _, _, a⟩ | ⟨a, _⟩
   ·omega
   ·exact a
   ·omega
  | _ => rw [e] at hh; simp [hit] at hh
 have hpr : ∀ j, (nx P M S i j).s ≠ .none → (nx P M S i j).x.op = 2 → swB (nx P M S i j).x (nx P M S i j).s = false → (nx P M S i j).x.ser ∉ hel P (Core.step P M (S i).x (S i).s).M := fun j g1 g2 g3 => by
  by_cases e : j = i
  ·subst e
   rw [hii] at g1 g2 g3 ⊢
   dsimp only at g1 g2 g3 ⊢
   rw [hop] at g2
   obtain ⟨k1, k2⟩ := own2 g1 g2 g3
   have h9 := hsub (fun hh => by rw [k2] at hh; cases hh)
   rcases h33 with ⟨a, b⟩ | ⟨a, b, c, d⟩
   ·rw [b]; exact fun hx => hp.pr j hn g2 k1 (h9 _ hx)
   ·intro hx
    have := hp.b _ (h9 _ hx)
    omega
  ·rw [hij j e] at g1 g2 g3 ⊢
   have h9 := hp.pr j g1 g2 g3
   cases hpe with
   | calm a b => exact fun hx => h9 (a.mem_iff.1 hx)
   | acq a b c d =>
    intro hx
    rcases List.mem_cons.1 (c.mem_iff.1 hx) with hx | hx
    ·have h0 := hpos a b
     exact hS.ne i j (fun e9 => e e9.symm) hn g1 (by omega) hx.symm
    ·exact h9 hx
   | rel a b c d => exact fun hx => h9 (c.mem_iff.2 (List.mem_cons_of_mem _ hx))
 have hsum := sumI_one (f := fun j => b1 (swB (S j).x (S j).s)) (g := fun j => b1 (swB (nx P M S i j).x (nx P M S i j).s)) (i := i) (n := 64) hi fun j _ hne => by
  show b1 (swB (nx P M S i j).x (nx P M S i j).s) = _
  rw [hij j hne]
 have hsum2 : sumI 64 (fun j => b1 (swB (nx P M S i j).x (nx P M S i j).s)) = sumI 64 (fun j => b1 (swB (S j).x (S j).s)) + b1 (swB (Core.step P M (S i).x (S i).s).x (Core.step P M (S i).x (S i).s).s) - b1 (swB (S i).x (S i).s) := by
  have h9 : nx P M S i i = ⟨(Core.step P M (S i).x (S i).s).x, (Core.step P M (S i).x (S i).s).s⟩ := hii
  simp only [h9] at hsum
  exact hsum
 have hcnt := hp.cnt
 have hb : ∀ s ∈ hel P (Core.step P M (S i).x (S i).s).M, 1 ≤ s ∧ s ≤ (Core.step P M (S i).x (S i).s).M.W 33 := fun s hs => by
  cases hpe with
  | calm a b => have := hp.b s (a.mem_iff.1 hs); omega
  | acq a b c d =>
   rcases List.mem_cons.1 (c.mem_iff.1 hs) with hx | hx
   ·have h1 := hpos a b
    have h2 := hS.le i
    omega
   ·have := hp.b s hx; omega
  | rel a b c d => have := hp.b s (c.mem_iff.2 (List.mem_cons_of_mem _ hs)); omega
 have hnd : (hel P (Core.step P M (S i).x (S i).s).M).Nodup := by
  cases hpe with
  | calm a b => exact a.nodup_iff.2 hp.nd
  | acq a b c d => exact c.nodup_iff.2 (List.nodup_cons.2 ⟨hp.pr i hn b (sw0 a), hp.nd⟩)
  | rel a b c d => exact (List.nodup_cons.1 (c.nodup_iff.1 hp.nd)).2
 have hold : ∀ s ∈ R, (1 ≤ s ∧ s ≤ (Core.step P M (S i).x (S i).s).M.W 33) ∧ s ∉ hel P (Core.step P M (S i).x (S i).s).M ∧ ∀ j, (nx P M S i j).s ≠ .none → (nx P M S i j).x.op = 2 → swB (nx P M S i j).x (nx P M S i j).s = false → (nx P M S i j).x.ser ≠ s := fun s hs => by
  obtain ⟨a1, a2, a3⟩ := hp.rl s hs
  refine ⟨by omega, fun hx => ?_, fun j g1 g2 g3 => ?_⟩
  ·cases hpe with
   | calm a b => exact a2 (a.mem_iff.1 hx)
   | acq a b c d =>
    rcases List.mem_cons.1 (c.mem_iff.1 hx) with hx | hx
    ·exact a3 i hn b (sw0 a) hx.symm
    ·exact a2 hx
   | rel a b c d => exact a2 (c.mem_iff.2 (List.mem_cons_of_mem _ hx))
  ·by_cases e : j = i
   ·subst e
    rw [hii] at g1 g2 g3 ⊢
    dsimp only at g1 g2 g3 ⊢
    rw [hop] at g2
    obtain ⟨k1, k2⟩ := own2 g1 g2 g3
    rcases h33 with ⟨a, b⟩ | ⟨a, b, c, d⟩
    ·rw [b]; exact a3 j hn g2 k1
    ·omega
   ·rw [hij j e] at g1 g2 g3 ⊢
    exact a3 j g1 g2 g3
 have hfr' := step_fr hR (M := M) (hI.cw i) hfr (hA.rx i)
 refine ⟨hv, hb, hnd, hpr, fun j g1 => ?_, fun j => ?_, ?_, ?_, ?_⟩
 ·by_cases e : j = i
  ·subst e; rw [hii]; dsimp only; rw [hop, hkn.1, hkn.2.1]; exact hp.q j hn
  ·rw [hij j e] at g1 ⊢; exact hp.q j g1
 ·by_cases e : j = i
  ·subst e; rw [hii]; exact hfr'.1
  ·rw [hij j e]; exact hp.fr j
 ·unfold tellR
  split
  ·rename_i h9
   have hh := ret3 h9.1
   rw [h9.2] at hh
   cases hpe with
   | calm a b => have := b hh.symm; omega
   | acq a b c d => omega
   | rel a b c d =>
    have hnm : (S i).x.n ∈ hel P M := c.mem_iff.2 (List.mem_cons_self ..)
    have hnn := (List.nodup_cons.1 (c.nodup_iff.1 hp.nd)).1
    intro s hs
    rcases List.mem_cons.1 hs with rfl | hs
    ·refine ⟨by have := hp.b _ hnm; rw [hmM]; omega, hnn, fun j g1 g2 g3 => ?_⟩
     by_cases e : j = i
     ·subst e; rw [hii] at g2; dsimp only at g2; rw [hop] at g2; omega
     ·rw [hij j e] at g1 g2 g3 ⊢
      exact fun e9 => hp.pr j g1 g2 g3 (by rw [e9]; exact hnm)
    ·exact hold s hs
  ·exact hold
 ·unfold tellR
  split
  ·rename_i h9
   have hh := ret3 h9.1
   rw [h9.2] at hh
   cases hpe with
   | calm a b => have := b hh.symm; omega
   | acq a b c d => omega
   | rel a b c d => exact List.nodup_cons.2 ⟨fun hx => (hp.rl _ hx).2.1 (c.mem_iff.2 (List.mem_cons_self ..)), hp.rn⟩
  ·exact hp.rn
 ·rw [hsum2, hmM]
  by_cases h2 : (S i).x.op = 2
  ·have h9 := ret2 h2
   have eR : tellR (S i).x (Core.step P M (S i).x (S i).s).r R = R := by unfold tellR; rw [if_neg (by omega)]
   have eA : tellA (S i).x (Core.step P M (S i).x (S i).s).r A = A + b1 (okD (Core.step P M (S i).x (S i).s).r) := by
    unfold tellA b1; cases okD (Core.step P M (S i).x (S i).s).r <;> simp [h2]
   rw [eR, eA]
   cases hpe with
   | calm a b =>
    have e9 : hit M (S i).s = false := by
     cases e : hit M (S i).s with
     | false => rfl
     | true => have := b e; omega
    rw [e9] at h9
    have : b1 false = 0 := rfl
    rw [a.length_eq]; omega
   | acq a b c d =>
    rw [a] at h9
    have : b1 true = 1 := rfl
    rw [c.length_eq, List.length_cons]; omega
   | rel a b c d => omega
  ·have s1 := sw_0 h2 (S i).s
   have s2 := sw_0 (x := (Core.step P M (S i).x (S i).s).x) (by rw [hop]; exact h2) (Core.step P M (S i).x (S i).s).s
   have eA : tellA (S i).x (Core.step P M (S i).x (S i).s).r A = A := by unfold tellA; rw [if_neg (fun h9 => h2 h9.1)]
   rw [s1, s2, eA]
   by_cases h3 : (S i).x.op = 3
   ·have hh := ret3 h3
    unfold tellR
    cases hpe with
    | calm a b =>
     have e9 : hit M (S i).s = false := by
      cases e : hit M (S i).s with
      | false => rfl
      | true => have := b e; omega
     rw [e9] at hh
     rw [hh, if_neg (by simp), a.length_eq]; omega
    | acq a b c d => omega
    | rel a b c d =>
     rw [a] at hh
     rw [hh, if_pos ⟨h3, rfl⟩]
     have := c.length_eq
     rw [List.length_cons] at this ⊢; omega
   ·have eR : tellR (S i).x (Core.step P M (S i).x (S i).s).r R = R := by unfold tellR; rw [if_neg (fun h9 => h3 h9.1)]
    rw [eR]
    cases hpe with
    | calm a b => rw [a.length_eq]; omega
    | acq a b c d => omega
    | rel a b c d => omega
theorem Pm.start (hQ : OpsPm P V Q) {M : Mc} {S : Nat → Wk} {A : Int} {R : List Int} (hp : Pm sm P V Q M S A R) {i : Nat} (hi : i < 64) (hn : (S i).s = .none) {x : X} (hx : x.ser = 0) (hq : Q x.op x.pol x.key) (ho : 1 ≤ x.op ∧ x.op ≤ 6) :
  Pm sm P V Q M (upd S i ⟨x, first x⟩) A R := by
 have hs0 : swB x (first x) = false := by unfold first; (repeat' split) <;> rfl
 have hpos : (0 : Int) ∉ hel P M := fun h => by have := hp.b _ h; omega
 have at_ : ∀ {q : Wk → Prop}, q ⟨x, first x⟩ → (∀ j, q (S j)) → ∀ j, q (upd S i ⟨x, first x⟩ j) := fun {q} g1 g2 j => by
  by_cases e : j = i
  ·rw [e, upd_same]; exact g1
  ·rw [upd_ne _ _ e]; exact g2 j
 refine ⟨hp.v, hp.b, hp.nd, at_ (q := fun k => k.s ≠ .none → k.x.op = 2 → swB k.x k.s = false → k.x.ser ∉ hel P M) (fun _ _ _ => by dsimp only; rw [hx]; exact hpos) hp.pr, at_ (q := fun k => k.s ≠ .none → Q k.x.op k.x.pol k.x.key) (fun _ => hq) hp.q, at_ (q := fun k => Fr P k.x k.s) ?_ hp.fr, fun s hs => ?_, hp.rn, ?_⟩
 ·show Fr P x (first x)
  unfold first
  split
  ·assumption
  ·split
   ·assumption
   ·exact ⟨by assumption, by assumption⟩
 ·obtain ⟨a, b, c⟩ := hp.rl s hs
  exact ⟨a, b, at_ (q := fun k => k.s ≠ .none → k.x.op = 2 → swB k.x k.s = false → k.x.ser ≠ s) (fun _ _ _ => by dsimp only; rw [hx]; omega) c⟩
 ·have hsum := sumI_one (f := fun j => b1 (swB (S j).x (S j).s)) (g := fun j => b1 (swB (upd S i ⟨x, first x⟩ j).x (upd S i ⟨x, first x⟩ j).s)) (i := i) (n := 64) hi fun j _ hne => by
   show b1 (swB (upd S i ⟨x, first x⟩ j).x (upd S i ⟨x, first x⟩ j).s) = _
   rw [upd_ne _ _ hne]
  have e1 : b1 (swB (S i).x (S i).s) = 0 := by rw [hn]; rfl
  have e2 : b1 (swB (upd S i ⟨x, first x⟩ i).x (upd S i ⟨x, first x⟩ i).s) = 0 := by rw [upd_same]; dsimp only; rw [hs0]; rfl
  have h9 := hp.cnt
  rw [hsum]
  omega
end Core
end Go.Proofs.YtplpofmnhcclbaaGreat

namespace Go.Proofs.YtplpofmnhcclbaaGreat
open Go.RowKit
theorem rise_iff : ∀ {ys : List Int} {l : Int}, riseB l ys = true ↔ (∀ x ∈ ys, serB x = true ∧ l < x) ∧ ys.Pairwise (· < ·)
 | [], l => by simp [riseB]
 | x :: r, l => by
  have ih := rise_iff (ys := r) (l := x)
  simp only [riseB, Bool.and_eq_true, decide_eq_true_eq, ih, List.mem_cons, List.pairwise_cons]
  constructor
  ·rintro ⟨⟨h1, h2⟩, h3, h4⟩
   refine ⟨fun y hy => ?_, fun y hy => (h3 y hy).2, h4⟩
   rcases hy with rfl | hy
   ·exact ⟨h1, h2⟩
   ·exact ⟨(h3 y hy).1, by have := (h3 y hy).2; omega⟩
  ·rintro ⟨h1, h2, h3⟩
   exact ⟨h1 x (Or.inl rfl), fun y hy => ⟨(h1 y (Or.inr hy)).1, h2 y hy⟩, h3⟩
theorem getD_memI {ys : List Int} {k : Nat} (h : k < ys.length) : ys.getD k default ∈ ys := by
 rw [List.getD_eq_getElem?_getD, List.getElem?_eq_getElem h]; exact List.getElem_mem h
theorem getD_getI {ys : List Int} {k : Nat} (h : k < ys.length) : ys.getD k default = ys[k] := by
 rw [List.getD_eq_getElem?_getD, List.getElem?_eq_getElem h]; rfl
section
variable {ys : List Int} {t : Int}
theorem posI_spec (h : ys.Pairwise (· < ·)) : (∀ k, k < posI ys t → ys.getD k default < t) ∧ ∀ k, posI ys t ≤ k → k < ys.length → ¬ ys.getD k default < t := by
 have := bs_spec (lt := fun k => decide (ys.getD k default < t)) (n := ys.length) (fun i j hij hj hlt => by
  simp only [decide_eq_true_eq] at hlt ⊢
  by_cases e : i = j
  ·subst e; exact hlt
  ·have := List.pairwise_iff_getElem.1 h i j (by omega) hj (by omega)
   rw [getD_getI hj] at hlt
   rw [getD_getI (show i < ys.length by omega)]
   omega)
 refine ⟨fun k hk => ?_, fun k hk hkn => ?_⟩
 ·have := this.1 k hk
  simpa using this
 ·have := this.2 k hk hkn
  simp only [decide_eq_false_iff_not] at this
  exact this
theorem hasI_iff (h : ys.Pairwise (· < ·)) : hasI ys t = true ↔ t ∈ ys := by
 obtain ⟨h1, h2⟩ := posI_spec (t := t) h
 unfold hasI
 simp only [Bool.and_eq_true, decide_eq_true_eq]
 constructor
 ·rintro ⟨a, b⟩
  rw [← b]; exact getD_memI a
 ·intro hm
  obtain ⟨k, hk, rfl⟩ := List.getElem_of_mem hm
  have g1 : ¬ k < posI ys ys[k] := fun hlt => by have := h1 k hlt; rw [getD_getI hk] at this; omega
  have g2 : ¬ posI ys ys[k] < k := fun hlt => by
   have := h2 _ (Nat.le_refl _) (by omega)
   rw [getD_getI (show posI ys ys[k] < ys.length by omega)] at this
   have := List.pairwise_iff_getElem.1 h _ k (show posI ys ys[k] < ys.length by omega) hk hlt
   omega
  have e : posI ys ys[k] = k := by omega
  rw [e, getD_getI hk]
  exact ⟨hk, rfl⟩
theorem ins_rise (h : riseB 0 ys = true) (ht : serB t = true) (hn : t ∉ ys) : riseB 0 (insAt ys (posI ys t) t) = true ∧ ∀ x, x ∈ insAt ys (posI ys t) t ↔ x = t ∨ x ∈ ys := by
 obtain ⟨a, b⟩ := rise_iff.1 h
 obtain ⟨h1, h2⟩ := posI_spec (t := t) b
 have hm : ∀ x, x ∈ insAt ys (posI ys t) t ↔ x = t ∨ x ∈ ys := fun x => by
  unfold insAt
  rw [List.mem_append, List.mem_append, List.mem_singleton]
  constructor
  ·rintro ((h | h) | h)
   ·exact Or.inr (List.mem_of_mem_take h)
   ·exact Or.inl h
   ·exact Or.inr (List.mem_of_mem_drop h)
  ·rintro (h | h)
   ·exact Or.inl (Or.inr h)
   ·rw [← List.take_append_drop (posI ys t) ys] at h
    rcases List.mem_append.1 h with h | h
    ·exact Or.inl (Or.inl h)
    ·exact Or.inr h
 refine ⟨rise_iff.2 ⟨fun x hx => ?_, ?_⟩, hm⟩
 ·rcases (hm x).1 hx with rfl | hx
  ·refine ⟨ht, ?_⟩
   simp [serB] at ht; omega
  ·exact a x hx
 ·unfold insAt
  rw [List.append_assoc, List.pairwise_append]
  refine ⟨b.sublist (List.take_sublist _ _), ?_, fun x hx y hy => ?_⟩
  ·rw [List.singleton_append, List.pairwise_cons]
   refine ⟨fun y hy => ?_, b.sublist (List.drop_sublist _ _)⟩
   obtain ⟨k, hk, rfl⟩ := List.getElem_of_mem hy
   rw [List.length_drop] at hk
   rw [List.getElem_drop]
   have h3 := h2 (posI ys t + k) (by omega) (by omega)
   rw [getD_getI (show posI ys t + k < ys.length by omega)] at h3
   have h4 : ys[posI ys t + k] ≠ t := fun e => hn (by rw [← e]; exact List.getElem_mem _)
   omega
  ·obtain ⟨k, hk, rfl⟩ := List.getElem_of_mem hx
   rw [List.length_take] at hk
   rw [List.getElem_take]
   have h3 := h1 k (by omega)
   rw [getD_getI (show k < ys.length by omega)] at h3
   rw [List.singleton_append] at hy
   rcases List.mem_cons.1 hy with rfl | hy
   ·exact h3
   ·obtain ⟨j, hj, rfl⟩ := List.getElem_of_mem hy
    rw [List.length_drop] at hj
    rw [List.getElem_drop]
    exact List.pairwise_iff_getElem.1 b k _ (by omega) (by omega) (by omega)
theorem del_rise (h : riseB 0 ys = true) (hn : t ∈ ys) : riseB 0 (delAt ys (posI ys t)) = true ∧ (∀ x, x ∈ delAt ys (posI ys t) ↔ x ≠ t ∧ x ∈ ys) ∧ (delAt ys (posI ys t)).length + 1 = ys.length := by
 obtain ⟨a, b⟩ := rise_iff.1 h
 have hh := (hasI_iff b).2 hn
 have hl := hasI_lt hh
 have he : ys.getD (posI ys t) default = t := by
  unfold hasI at hh
  simp only [Bool.and_eq_true, decide_eq_true_eq] at hh; exact hh.2
 rw [getD_getI hl] at he
 have hsub : (delAt ys (posI ys t)).Sublist ys := by
  unfold delAt
  have h2 : (ys.take (posI ys t) ++ ys.drop (posI ys t)).Sublist ys := by rw [List.take_append_drop]; exact List.Sublist.refl _
  refine List.Sublist.trans (List.Sublist.append (List.Sublist.refl _) ?_) h2
  rw [List.drop_eq_getElem_cons hl]
  exact List.sublist_cons_self _ _
 refine ⟨rise_iff.2 ⟨fun x hx => a x (hsub.subset hx), b.sublist hsub⟩, fun x => ?_, by rw [delAt_length _ _ hl]; omega⟩
 constructor
 ·intro hx
  refine ⟨fun e => ?_, hsub.subset hx⟩
  subst e
  unfold delAt at hx
  rcases List.mem_append.1 hx with hx | hx
  ·obtain ⟨k, hk, e⟩ := List.getElem_of_mem hx
   rw [List.length_take] at hk
   rw [List.getElem_take] at e
   have := List.pairwise_iff_getElem.1 b k _ (by omega) hl (by omega)
   omega
  ·obtain ⟨k, hk, e⟩ := List.getElem_of_mem hx
   rw [List.length_drop] at hk
   rw [List.getElem_drop] at e
   have := List.pairwise_iff_getElem.1 b _ (posI ys x + 1 + k) hl (by omega) (by omega)
   omega
 ·rintro ⟨h1, h2⟩
  unfold delAt
  rw [← List.take_append_drop (posI ys t) ys] at h2
  rcases List.mem_append.1 h2 with h2 | h2
  ·exact List.mem_append_left _ h2
  ·rw [List.drop_eq_getElem_cons hl, he] at h2
   rcases List.mem_cons.1 h2 with h2 | h2
   ·exact absurd h2 h1
   ·exact List.mem_append_right _ h2
end
end Go.Proofs.YtplpofmnhcclbaaGreat

namespace Go.Proofs.YtplpofmnhcclbaaGreat
open Go.RowKit
set_option maxRecDepth 100000
theorem coreOps_re (ps : List Pol) (room : Int) : Core.OpsRe (coreOps ps room) where
 allow p c t n := rfl
 acq p c n := by
  show (acqR p c n).e ≠ 10
  unfold acqR
  split
  ·show (0 : Int) ≠ 10; decide
  ·show takeE p.permits c.held n ≠ 10
   unfold takeE semE
   (repeat' split) <;> omega
 acqs p c n h := by
  replace h : (acqR p c n).e = 0 := h
  show (acqR p c n).serial = n
  unfold acqR at h ⊢
  split
  ·rfl
  ·rename_i h0; rw [if_neg h0] at h; exact absurd h h0
 rel p c n := by
  show (relR p c n).e ≠ 10
  unfold relR
  split
  ·show (0 : Int) ≠ 10; decide
  ·show giveE p.permits c.held n ≠ 10
   unfold giveE semE
   (repeat' split) <;> omega
 peek p c t := by show (peekR p c t).e = 0; unfold peekR; split <;> rfl
def Vt (c : Cel) : Prop := (c.pol = 0 ∧ c.held = []) ∨ (c.pol = 1 ∧ semE 2 c.held = 0)
def Qt (op pol : Int) (_ : List Int) : Prop := (op ≤ 4 → pol = 0 ∨ pol = 1) ∧ (op = 2 ∨ op = 3 → pol = 1)
theorem sem_rise {p : Int} {xs : List Int} : semE p xs = 0 ↔ 1 ≤ p ∧ p ≤ 64 ∧ (xs.length : Int) ≤ p ∧ riseB 0 xs = true := by
 unfold semE; split
 ·rename_i h; exact ⟨fun _ => h, fun _ => rfl⟩
 ·rename_i h; exact ⟨fun e => by omega, fun e => absurd e h⟩
theorem ins_perm {α : Type} (xs : List α) (i : Nat) (x : α) (h : i ≤ xs.length) : (insAt xs i x).Perm (x :: xs) := by
 unfold insAt
 have := List.perm_middle (l₁ := xs.take i) (a := x) (l₂ := xs.drop i)
 rw [List.take_append_drop] at this
 simpa using this
theorem del_perm {xs : List Int} {n : Int} (h : riseB 0 xs = true) (hn : n ∈ xs) : xs.Perm (n :: delAt xs (posI xs n)) := by
 have h1 := del_rise h hn
 have nd : ∀ {ys : List Int}, riseB 0 ys = true → ys.Nodup := fun h => by
  rw [List.nodup_iff_pairwise_ne]
  exact (rise_iff.1 h).2.imp fun {a b} hab => by omega
 refine (List.perm_ext_iff_of_nodup (nd h) (List.nodup_cons.2 ⟨fun e => ((h1.2.1 n).1 e).1 rfl, nd h1.1⟩)).2 fun y => ?_
 rw [List.mem_cons, h1.2.1]
 by_cases e : y = n
 ·subst e; simp [hn]
 ·simp [e]
theorem tab2_pm (room : Int) : Core.OpsPm (coreOps tab2 room) Vt Qt where
 new op pol key ho h := by
  rcases h.1 (by omega) with e | e
  ·exact .inl ⟨e, rfl⟩
  ·exact .inr ⟨e, by show semE 2 [] = 0; decide⟩
 allow p c t n h := ⟨h, rfl⟩
 acq key c n hq h hn h1 h2 hl := by
  have hp : c.pol = 1 := hq.2 (.inl rfl)
  have hs : semE 2 c.held = 0 := by
   rcases h with ⟨e, _⟩ | ⟨_, e⟩
   ·omega
   ·exact e
  have e2 : (coreOps tab2 room).pol c.pol = ⟨2, 0, 0, 2⟩ := by rw [hp]; rfl
  rw [e2] at hl ⊢
  have hr := (sem_rise.1 hs).2.2.2
  have hh : hasI c.held n = false := by
   cases e : hasI c.held n with
   | false => rfl
   | true => exact absurd ((hasI_iff (rise_iff.1 hr).2).1 e) hn
  have hM : Core.MAX = 4611686018427387903 := rfl
  have hb : serB n = true := by simp [serB]; omega
  have ht : takeE 2 c.held n = 0 := takeE_0.2 ⟨hb, hs, hh, hl⟩
  have hbd := takeE_bd ht
  have hC : acqC ⟨2, 0, 0, 2⟩ c n = ⟨c.pol, c.key, c.tat, insAt c.held (posI c.held n) n⟩ := by
   unfold acqC; rw [if_pos ht, takeL, if_pos ht]
  have hR : acqR ⟨2, 0, 0, 2⟩ c n = ⟨0, true, 2 - (takeL 2 c.held n).length, 0, n, 0⟩ := by unfold acqR; rw [if_pos ht]
  show (acqR ⟨2, 0, 0, 2⟩ c n).e = 0 ∧ (acqR ⟨2, 0, 0, 2⟩ c n).g = true ∧ Vt (acqC ⟨2, 0, 0, 2⟩ c n) ∧ (acqC ⟨2, 0, 0, 2⟩ c n).held.Perm (n :: c.held)
  rw [hR, hC]
  refine ⟨rfl, rfl, .inr ⟨hp, ?_⟩, ins_perm _ _ _ (posI_le _ _)⟩
  refine sem_rise.2 ⟨by omega, by omega, ?_, (ins_rise hr hb hn).1⟩
  have := hbd.2.2
  rwa [takeL, if_pos ht] at this
 rel key c n hq h he := by
  have hp : c.pol = 1 := hq.2 (.inr rfl)
  have hs : semE 2 c.held = 0 := by
   rcases h with ⟨e, _⟩ | ⟨_, e⟩
   ·omega
   ·exact e
  have e2 : (coreOps tab2 room).pol c.pol = ⟨2, 0, 0, 2⟩ := by rw [hp]; rfl
  rw [e2] at he ⊢
  replace he : (relR ⟨2, 0, 0, 2⟩ c n).e = 0 := he
  have hr := (sem_rise.1 hs).2.2.2
  have ht : giveE 2 c.held n = 0 := by
   unfold relR at he
   split at he
   ·assumption
   ·exact he
  have hn : n ∈ c.held := (hasI_iff (rise_iff.1 hr).2).1 (giveE_0.1 ht).2
  have hbd := giveE_bd ht
  have hC : relC ⟨2, 0, 0, 2⟩ c n = ⟨c.pol, c.key, c.tat, delAt c.held (posI c.held n)⟩ := by
   unfold relC; rw [if_pos ht, giveL, if_pos ht]
  show Vt (relC ⟨2, 0, 0, 2⟩ c n) ∧ c.held.Perm (n :: (relC ⟨2, 0, 0, 2⟩ c n).held)
  rw [hC]
  refine ⟨.inr ⟨hp, sem_rise.2 ⟨by omega, by omega, ?_, (del_rise hr hn).1⟩⟩, del_perm hr hn⟩
  have := hbd.2.2
  rw [giveL, if_pos ht] at this
  show ((delAt c.held (posI c.held n)).length : Int) ≤ 2
  omega
 idle c t h hi := by
  rcases h with ⟨_, e⟩ | ⟨e, _⟩
  ·exact e
  ·replace hi : idleB tab2 c t = true := hi
   have hk : (tab2.getD c.pol.toNat default).kind = 2 := by rw [e]; rfl
   unfold idleB at hi
   rw [if_pos hk] at hi
   have : c.held.length = 0 := by simpa using hi
   exact List.eq_nil_of_length_eq_zero this
mutual
def fnOKz (n e : Nat) : SV → Prop
 | .fn f vs => ∀ l, n ≤ l → l ≠ e → memB l (.fn f vs) = false
 | .agg vs => fnOKLz n e vs
 | .tup vs => fnOKLz n e vs
 | .iref vs _ => fnOKLz n e vs
 | _ => True
def fnOKLz (n e : Nat) : List SV → Prop
 | [] => True
 | x :: r => fnOKz n e x ∧ fnOKLz n e r
end
mutual
theorem memX_okz {n e l : Nat} (hl : n ≤ l) (he : l ≠ e) : ∀ {x : SV}, fnOKz n e x → memX l x = false → memB l x = false
 | .any, _, h => by unfold memB; rfl
 | .d _, _, h => by unfold memB; rfl
 | .ptr _ _, _, h => by unfold memX at h; unfold memB; exact h
 | .rp _ _ _ _, _, h => by unfold memX at h; unfold memB; exact h
 | .sl _ _ _ _, _, h => by unfold memX at h; unfold memB; exact h
 | .agg vs, hf, h => by unfold memX at h; unfold fnOKz at hf; unfold memB; exact memXL_okz hl he hf h
 | .tup vs, hf, h => by unfold memX at h; unfold fnOKz at hf; unfold memB; exact memXL_okz hl he hf h
 | .fn _ vs, hf, h => by unfold fnOKz at hf; exact hf l hl he
 | .iref vs _, hf, h => by unfold memX at h; unfold fnOKz at hf; unfold memB; exact memXL_okz hl he hf h
theorem memXL_okz {n e l : Nat} (hl : n ≤ l) (he : l ≠ e) : ∀ {xs : List SV}, fnOKLz n e xs → memXL l xs = false → memBL l xs = false
 | [], _, _ => by unfold memBL; rfl
 | x :: r, hf, h => by
  unfold fnOKLz at hf; unfold memXL at h
  rw [Bool.or_eq_false_iff] at h
  have h1 : memB l x = false := memX_okz hl he hf.1 h.1
  have h2 : memBL l r = false := memXL_okz hl he hf.2 h.2
  unfold memBL; rw [h1, h2]; rfl
end
mutual
theorem memB_ren {π : Nat → Nat} {b l : Nat} (hπ : ∀ i, i < b → π i ≠ l) : ∀ {x : SV}, SV.Lt b x → memB l (SV.ren π x) = false
 | .any, _ => by unfold SV.ren memB; rfl
 | .d _, _ => by unfold SV.ren memB; rfl
 | .ptr _ _, h => by cases h with | ptr _ _ h => unfold SV.ren memB; cases e : Nat.beq _ l with | false => rfl | true => exact absurd (Nat.eq_of_beq_eq_true e) (hπ _ h)
 | .rp _ _ _ _, h => by cases h with | rp _ _ _ _ h => unfold SV.ren memB; cases e : Nat.beq _ l with | false => rfl | true => exact absurd (Nat.eq_of_beq_eq_true e) (hπ _ h)
 | .sl _ _ _ _, h => by cases h with | sl _ _ _ _ h => unfold SV.ren memB; cases e : Nat.beq _ l with | false => rfl | true => exact absurd (Nat.eq_of_beq_eq_true e) (hπ _ h)
 | .agg vs, h => by cases h with | agg _ h => unfold SV.ren memB; exact memBL_ren hπ h
 | .tup vs, h => by cases h with | tup _ h => unfold SV.ren memB; exact memBL_ren hπ h
 | .fn _ vs, h => by cases h with | fn _ _ h => unfold SV.ren memB; exact memBL_ren hπ h
 | .iref vs _, h => by cases h with | iref _ _ h => unfold SV.ren memB; exact memBL_ren hπ h
theorem memBL_ren {π : Nat → Nat} {b l : Nat} (hπ : ∀ i, i < b → π i ≠ l) : ∀ {xs : List SV}, (∀ x ∈ xs, SV.Lt b x) → memBL l (SV.renL π xs) = false
 | [], _ => by unfold SV.renL memBL; rfl
 | x :: r, h => by
  have h1 : memB l (SV.ren π x) = false := memB_ren hπ (h x (by simp))
  have h2 : memBL l (SV.renL π r) = false := memBL_ren hπ (fun y hy => h y (by simp [hy]))
  unfold SV.renL memBL; rw [h1, h2]; rfl
end
theorem renL_z {π : Nat → Nat} {F : Fn} {cs : List SV} {b n e : Nat} (h : SV.Lt b (.fn F cs)) (hπ : ∀ i, i < b → π i < n ∨ π i = e) : fnOKz n e (.fn F (SV.renL π cs)) := by
 unfold fnOKz
 intro l h1 h2
 have := memB_ren (π := π) (l := l) (fun i hi he => by rcases hπ i hi with h | h <;> omega) h
 unfold SV.ren at this
 exact this
def fnOKBz (n e : Nat) : Option Blk → Prop
 | some (.cells cs) => fnOKLz n e cs
 | _ => True
theorem memOX_okz {n e l : Nat} (hl : n ≤ l) (he : l ≠ e) {b : Option Blk} (hf : fnOKBz n e b) (h : memOX l b = false) : memO l b = false := by
 cases b with
 | none => rfl
 | some b =>
  cases b with
  | cells cs => show cs.any (mem1 l) = false; rw [memBL_any]; exact memXL_okz hl he hf h
  | row _ _ _ _ => rfl
  | cf m _ _ => exact h
def memY (e l : Nat) (x : SV) : Bool := bif Nat.beq l e then memB l x else memX l x
def memOY (e l : Nat) (b : Option Blk) : Bool := bif Nat.beq l e then memO l b else memOX l b
theorem memY_ok {n e l : Nat} (hl : n ≤ l) {x : SV} (hf : fnOKz n e x) (h : memY e l x = false) : memB l x = false := by
 unfold memY at h
 cases he : Nat.beq l e with
 | true => rw [he] at h; exact h
 | false => rw [he] at h; exact memX_okz hl (fun q => by rw [q, Nat.beq_refl] at he; cases he) hf h
theorem memOY_ok {n e l : Nat} (hl : n ≤ l) {b : Option Blk} (hf : fnOKBz n e b) (h : memOY e l b = false) : memO l b = false := by
 unfold memOY at h
 cases he : Nat.beq l e with
 | true => rw [he] at h; exact h
 | false => rw [he] at h; exact memOX_okz hl (fun q => by rw [q, Nat.beq_refl] at he; cases he) hf h
def chkPairZ (e : Nat) (pre : List Nat) (ops : List Oper) (n0 i j : Nat) (labs : List Nat) (p q : Pt) : Bool :=
 (match p.1.dst, q.1.dst with | some a, some b => !Nat.beq a b | _, _ => true) &&
 (p.2.ed.all (fun x => q.2.ed.all fun y => !Nat.beq x.1 y.1) || ordB pre i j) &&
 ((match q.1.dst with | some d => (looks ops p.1).all fun t => !Nat.beq d t | none => true) || ordB pre i j) &&
 ((labs.all (fun l => q.2.ed.all fun y => !Nat.beq y.1 l) && p.2.rd.all (fun l => q.2.ed.all fun y => !Nat.beq y.1 l)) || ordB pre i j) &&
 (!isAlloc p.1.op || (Nat.blt i j && ordB pre i j) || (!memY e (n0 + i) q.2.val && q.2.ed.all (fun y => !Nat.beq y.1 (n0 + i) && !memOY e (n0 + i) y.2)))
def chkRowZ (e : Nat) (pre : List Nat) (ops : List Oper) (n0 i : Nat) (labs : List Nat) (p : Pt) : List Pt → Nat → Bool
 | [], _ => true
 | q :: r, j => (Nat.beq i j || chkPairZ e pre ops n0 i j labs p q) && chkRowZ e pre ops n0 i labs p r (j + 1)
def chkAllZ (e : Nat) (pre : List Nat) (ops : List Oper) (n0 : Nat) (all : List Pt) (S0 : St) : List Pt → Nat → St → Bool
 | [], _, _ => true
 | p :: r, i, S => chkRowZ e pre ops n0 i (labsOf S p.1.op) p all 0 && (!isAlloc p.1.op || (S0.fr.all (fun x => !memX (n0 + i) x.2) && S0.hp.all (fun x => !Nat.beq x.1 (n0 + i) && !memOX (n0 + i) x.2))) &&
   (p.1.after.toList.all fun e => !Region.binds .any e || Nat.blt e.on i) && (match p.1.dst with | some n => Nat.blt n S0.nt.n | none => true) && chkAllZ e pre ops n0 all S0 r (i + 1) (S.step p.1.dst p.2)
def drawZ (e : Nat) (ops : List Oper) (efs : List Ef) (n0 : Nat) (S0 : St) : Bool := chkAllZ e (predsG ops []) ops n0 (ops.zip efs) S0 (ops.zip efs) 0 S0
def fnOKHz (n e : Nat) : List (Nat × Option Blk) → Prop
 | [] => True
 | x :: r => fnOKBz n e x.2 ∧ fnOKHz n e r
def fnOKEz (n e : Nat) : List Ef → Prop
 | [] => True
 | x :: r => fnOKz n e x.val ∧ fnOKHz n e x.ed ∧ fnOKEz n e r
theorem fnOKHz_at {n e : Nat} : ∀ {l : List (Nat × Option Blk)}, fnOKHz n e l → ∀ x ∈ l, fnOKBz n e x.2
 | [], _, x, hx => by simp at hx
 | y :: r, h, x, hx => by
  unfold fnOKHz at h
  rcases List.mem_cons.1 hx with rfl | hx
  ·exact h.1
  ·exact fnOKHz_at h.2 x hx
theorem fnOKEz_at {n e : Nat} : ∀ {l : List Ef}, fnOKEz n e l → ∀ x ∈ l, fnOKz n e x.val ∧ fnOKHz n e x.ed
 | [], _, x, hx => by simp at hx
 | y :: r, h, x, hx => by
  unfold fnOKEz at h
  rcases List.mem_cons.1 hx with rfl | hx
  ·exact ⟨h.1, h.2.1⟩
  ·exact fnOKEz_at h.2.2 x hx
theorem edZ_ok {n e l : Nat} (hl : n ≤ l) {ed : List (Nat × Option Blk)} (hf : fnOKHz n e ed) (h : ed.all (fun y => !Nat.beq y.1 l && !memOY e l y.2) = true) : ed.all (fun y => !Nat.beq y.1 l && !memO l y.2) = true := by
 rw [List.all_eq_true] at h ⊢
 intro y hy
 have := h y hy
 rw [Bool.and_eq_true] at this ⊢
 refine ⟨this.1, ?_⟩
 have h2 := this.2
 rw [Bool.not_eq_true'] at h2 ⊢
 exact memOY_ok hl (fnOKHz_at hf y hy) h2
theorem chkPairZ_ok {e : Nat} {pre : List Nat} {ops : List Oper} {n0 i j : Nat} {labs : List Nat} {p q : Pt} (hv : fnOKz n0 e q.2.val) (he : fnOKHz n0 e q.2.ed) (h : chkPairZ e pre ops n0 i j labs p q = true) : chkPair pre ops n0 i j labs p q = true := by
 unfold chkPairZ at h; unfold chkPair
 rw [Bool.and_eq_true] at h ⊢
 refine ⟨h.1, ?_⟩
 have h := h.2
 rw [Bool.or_eq_true, Bool.or_eq_true] at h ⊢
 rcases h with (h | h) | h
 ·exact .inl (.inl h)
 ·exact .inr h
 ·rw [Bool.and_eq_true] at h
  refine .inl (.inr ?_)
  rw [Bool.and_eq_true]
  refine ⟨?_, edZ_ok (by omega) he h.2⟩
  have h1 := h.1
  rw [Bool.not_eq_true'] at h1 ⊢
  exact memY_ok (by omega) hv h1
theorem chkRowZ_ok {e : Nat} {pre : List Nat} {ops : List Oper} {n0 i : Nat} {labs : List Nat} {p : Pt} : ∀ (l : List Pt) (k : Nat), (∀ q ∈ l, fnOKz n0 e q.2.val ∧ fnOKHz n0 e q.2.ed) → chkRowZ e pre ops n0 i labs p l k = true → chkRow pre ops n0 i labs p l k = true
 | [], _, _, _ => by unfold chkRow; rfl
 | q :: r, k, hf, h => by
  unfold chkRowZ at h; unfold chkRow
  rw [Bool.and_eq_true, Bool.or_eq_true] at h ⊢
  refine ⟨?_, chkRowZ_ok r (k + 1) (fun q hq => hf q (List.mem_cons_of_mem _ hq)) h.2⟩
  rcases h.1 with h1 | h1
  ·exact .inl h1
  ·exact .inr (chkPairZ_ok (hf q (List.mem_cons_self ..)).1 (hf q (List.mem_cons_self ..)).2 h1)
theorem chkAllZ_ok {e : Nat} {pre : List Nat} {ops : List Oper} {n0 : Nat} {all : List Pt} {S0 : St} (ha : ∀ q ∈ all, fnOKz n0 e q.2.val ∧ fnOKHz n0 e q.2.ed) (hF : fnOKF n0 S0.fr) (hH : fnOKH n0 S0.hp) :
  ∀ (l : List Pt) (i : Nat) (S : St), chkAllZ e pre ops n0 all S0 l i S = true → chkAll pre ops n0 all S0 l i S = true
 | [], _, _, _ => by unfold chkAll; rfl
 | p :: r, i, S, h => by
  unfold chkAllZ at h; unfold chkAll
  rw [Bool.and_eq_true, Bool.and_eq_true, Bool.and_eq_true, Bool.and_eq_true] at h ⊢
  obtain ⟨⟨⟨⟨h1, h2⟩, h3⟩, h4⟩, h5⟩ := h
  refine ⟨⟨⟨⟨chkRowZ_ok all 0 ha h1, ?_⟩, h3⟩, h4⟩, chkAllZ_ok ha hF hH r (i + 1) _ h5⟩
  rw [Bool.or_eq_true, Bool.and_eq_true] at h2 ⊢
  rcases h2 with h2 | h2
  ·exact .inl h2
  ·refine .inr ⟨?_, edN_ok (by omega) hH h2.2⟩
   have h6 := h2.1
   rw [List.all_eq_true] at h6 ⊢
   intro x hx
   have h7 := h6 x hx
   rw [Bool.not_eq_true'] at h7 ⊢
   exact memX_ok (by omega) (fnOKF_at hF x hx) h7
theorem drawZ_ok {e : Nat} {ops : List Oper} {efs : List Ef} {n0 : Nat} {S0 : St} (h : drawZ e ops efs n0 S0 = true) (hE : fnOKEz n0 e efs) (hF : fnOKF n0 S0.fr) (hH : fnOKH n0 S0.hp) : drawOK ops efs n0 S0 = true := by
 refine chkAllZ_ok (fun q hq => ?_) hF hH _ 0 S0 h
 exact fnOKEz_at hE q.2 (List.of_mem_zip hq).2
end Go.Proofs.YtplpofmnhcclbaaGreat
