/- Parts of the proof, one behind the other: Ce5, Ce6, Ce6b, Ce7, Ce8, Ce8b, Ce9, Cf0, Cv5. Lemmas and contracts of functions; no condition of its own. -/
import Derived.Test.YtplpofmnhcclbaaGreatMU20
set_option linter.unusedVariables false
set_option linter.unusedSimpArgs false
set_option maxHeartbeats 1000000
namespace Go.Proofs.YtplpofmnhcclbaaGreat
open Go.RowKit
set_option maxRecDepth 100000
set_option maxHeartbeats 4000000
namespace Core
theorem T_pos {x : X} {W : Nat → Int} {s : CS} (hs : Cw x W s) (hn : s ≠ .none) : 0 < T x W s := by
 cases s with
 | none => exact absurd rfl hn
 | k0 f => have := A_le x f; simp only [T]; split <;> omega
 | kE f w => have := A_le x f; simp only [T, TE]; split <;> omega
 | kF f lv w => have := A_le x f; simp only [T, TF]; split <;> omega
 | kG f lv w v l => simp only [T]; split <;> omega
 | kH f lv w l => have := A_le x f; simp only [T, TH]; (repeat' split) <;> omega
 | kL f lv w l => simp only [T]; omega
 | al f => simp only [T]; omega
 | pk c => simp only [T]; omega
 | a0 f => simp only [T]; omega
 | a1 f u => simp only [T]; split <;> omega
 | p0 f c r => simp only [T]; omega
 | p1 f c r u => simp only [T]; split <;> omega
 | pS f c r => simp only [T]; split <;> omega
 | b0 k b => simp only [T]; omega
 | b1 k b u => simp only [T]; split <;> omega
 | e0 => simp only [T]; omega
 | eC j sh g w v l => simp only [T]; omega
 | eS j sh g w v m k => simp only [T]; omega
 | s0 => simp only [T]; omega
 | sM lv => simp only [T]; split <;> omega
 | sF lv i => have := U_succ hs.2.1; simp only [T]; omega
 | sG lv i v l => have := U_succ hs.2.1; simp only [T]; split <;> omega
 | sH lv i up l => have := U_succ hs.2.1; simp only [T]; split <;> omega
 | sL lv i up l => have := U_succ hs.2.1; simp only [T]; split <;> omega
 | sV lv => simp only [T]; omega
end Core
structure Cst where
 M : Core.Mc
 S : Nat → Core.Wk
 xs : Nat → XB
 nl : Nat
 f : Nat → List D
structure AloneC (ps : List Pol) (room : Int) (w k : Nat) (c0 : Cst) (n : Nat) (tr : Nat → Cst) (rs : Nat → Core.Rs) : Prop where
 z : tr 0 = c0
 pos : 0 < n
 law : ∀ i, i ≤ n → LawC ps room (k + i) (tr i).M (tr i).S (tr i).xs (tr i).nl ((k : Int) + i + 1)
 on : ∀ i, i < n → isC ((tr i).S w).s = true
 mx : ∀ i, i < n → (tr (i + 1)).M = Core.mx (coreOps ps room) (tr i).M (tr i).S w ∧ (tr (i + 1)).S = Core.nx (coreOps ps room) (tr i).M (tr i).S w ∧ rs i = (Core.step (coreOps ps room) (tr i).M ((tr i).S w).x ((tr i).S w).s).r
 stp : ∀ i, i < n → Fun TC 20 14 [.ptr 0 0, .i .i64 w] (coreH ps room (gOf (coreOps ps room) 4 (tr i).S) (tr i).M (tr i).xs (tr i).nl (tr i).f ((k : Int) + i + 1))
   24 (.tup [rsS (rs i), .i .i64 0]) (coreS ps room (tr (i + 1)).S (tr (i + 1)).M (tr (i + 1)).xs (tr (i + 1)).nl (tr (i + 1)).f ((k : Int) + ((i + 1 : Nat) : Int) + 1))
 no : ∀ i, i + 1 < n → (rs i).done = false
 yes : (rs (n - 1)).done = true
theorem alone_ex {ps : List Pol} {room : Int} {w : Nat} (hw : w < 8 ∨ w = 9) : ∀ (t k : Nat) (c : Cst), k + t ≤ 900000 → LawC ps room k c.M c.S c.xs c.nl ((k : Int) + 1) → isC (c.S w).s = true → Core.T (c.S w).x c.M.W (c.S w).s ≤ t → ∃ n tr rs, n ≤ t ∧ AloneC ps room w k c n tr rs := by
  intro t
  induction t with
  | zero =>
    intro k c hk h hc ht
    exfalso
    have := Core.T_pos (h.all.inv.cw w) (isC_ne hc)
    omega
  | succ t ih =>
    intro k c hk h hc ht
    obtain ⟨xs', f', h1, hF⟩ := law_Step (f := c.f) h (by omega) hw hc
    generalize hr : Core.step (coreOps ps room) c.M (c.S w).x (c.S w).s = Q at hF
    obtain ⟨c1, hc1⟩ : ∃ c1 : Cst, c1 = ⟨Core.mx (coreOps ps room) c.M c.S w, Core.nx (coreOps ps room) c.M c.S w, xs', noteN c.nl, f'⟩ := ⟨_, rfl⟩
    have h1' : LawC ps room (k + 1) c1.M c1.S c1.xs c1.nl ((k : Int) + 1 + 1) := by rw [hc1]; exact h1
    have hF' : Fun TC 20 14 [.ptr 0 0, .i .i64 w] (coreH ps room (gOf (coreOps ps room) 4 c.S) c.M c.xs c.nl c.f ((k : Int) + 1)) 24 (.tup [rsS Q.r, .i .i64 0]) (coreS ps room c1.S c1.M c1.xs c1.nl c1.f ((k : Int) + 1 + 1)) := by rw [hc1]; exact hF
    have e1 : c1.M = Core.mx (coreOps ps room) c.M c.S w ∧ c1.S = Core.nx (coreOps ps room) c.M c.S w := by rw [hc1]; exact ⟨rfl, rfl⟩
    cases hd : Q.r.done with
    | true =>
      refine ⟨1, fun i => match i with | 0 => c | _ + 1 => c1, fun _ => Q.r, by omega, rfl, by omega, fun i hi => ?_, fun i hi => ?_, fun i hi => ?_, fun i hi => ?_, fun i hi => by omega, hd⟩
      · have : i = 0 ∨ i = 1 := by omega
        rcases this with rfl | rfl
        · rw [show (k : Int) + ((0 : Nat) : Int) + 1 = (k : Int) + 1 by omega]; exact h
        · exact h1'
      · obtain rfl : i = 0 := by omega
        exact hc
      · obtain rfl : i = 0 := by omega
        exact ⟨e1.1, e1.2, by show Q.r = _; rw [← hr]⟩
      · obtain rfl : i = 0 := by omega
        rw [show (k : Int) + ((0 : Nat) : Int) + 1 = (k : Int) + 1 by omega]
        exact hF'
    | false =>
      have hd' : (Core.step (coreOps ps room) c.M (c.S w).x (c.S w).s).r.done = false := by rw [hr]; exact hd
      obtain ⟨g1, g2⟩ := Core.alone_T (P := coreOps ps room) h.all.inv (isC_ne hc) hd'
      rw [← e1.1, ← e1.2] at g2
      rw [← e1.2] at g1
      have hc1' : isC (c1.S w).s = true := by
        cases e : isC (c1.S w).s with
        | true => rfl
        | false => exact absurd (isC_no e) g1
      obtain ⟨n, tr, rs, hn, A⟩ := ih (k + 1) c1 (by omega) (by rw [show ((k + 1 : Nat) : Int) + 1 = (k : Int) + 1 + 1 by omega]; exact h1') hc1' (by omega)
      refine ⟨n + 1, fun i => match i with | 0 => c | i + 1 => tr i, fun i => match i with | 0 => Q.r | i + 1 => rs i, by omega, rfl, by omega, fun i hi => ?_, fun i hi => ?_, fun i hi => ?_, fun i hi => ?_, fun i hi => ?_, ?_⟩
      · cases i with
        | zero => rw [show (k : Int) + ((0 : Nat) : Int) + 1 = (k : Int) + 1 by omega]; exact h
        | succ i =>
          have := A.law i (by omega)
          rw [show k + (i + 1) = k + 1 + i by omega, show (k : Int) + ((i + 1 : Nat) : Int) + 1 = ((k + 1 : Nat) : Int) + i + 1 by omega]; exact this
      · cases i with
        | zero => exact hc
        | succ i => exact A.on i (by omega)
      · cases i with
        | zero => refine ⟨?_, ?_, by show Q.r = _; rw [← hr]⟩
                  · show (tr 0).M = _; rw [A.z]; exact e1.1
                  · show (tr 0).S = _; rw [A.z]; exact e1.2
        | succ i => exact A.mx i (by omega)
      · cases i with
        | zero =>
          rw [show (k : Int) + ((0 : Nat) : Int) + 1 = (k : Int) + 1 by omega]
          show Fun TC _ _ _ _ _ _ (coreS ps room (tr 0).S (tr 0).M (tr 0).xs (tr 0).nl (tr 0).f _)
          rw [A.z]; exact hF'
        | succ i =>
          have := A.stp i (by omega)
          rw [show (k : Int) + ((i + 1 : Nat) : Int) + 1 = ((k + 1 : Nat) : Int) + i + 1 by omega, show (k : Int) + ((i + 1 + 1 : Nat) : Int) + 1 = ((k + 1 : Nat) : Int) + ((i + 1 : Nat) : Int) + 1 by omega]
          exact this
      · cases i with
        | zero => exact hd
        | succ i => exact A.no i (by omega)
      · have := A.pos
        show ((match n + 1 - 1 with | 0 => Q.r | i + 1 => rs i) : Core.Rs).done = true
        rw [show n + 1 - 1 = (n - 1) + 1 by omega]
        exact A.yes
def z6 : List SV := [.i .i64 0, .b false, .i .i64 0, .i .i64 0, .i .i64 0, .i .i64 0]
theorem law_run {ps : List Pol} {room : Int} {w k : Nat} {c c0 : Cst} {cnt : Int} (op pol : Int) (key : List Int) (m : Int) (most : Int) (hm2 : most ≤ 1000)
  (hS : Fun TC 19 14 [.ptr 0 0, .i .i64 w, callS op pol key m] (coreH ps room (gOf (coreOps ps room) 4 c.S) c.M c.xs c.nl c.f ((k : Int) + 1)) 24 (.i .i64 0) (coreS ps room c0.S c0.M c0.xs c0.nl c0.f ((k : Int) + 1)))
  (xl : ∀ i j, SV.Lt 1 ((c.xs i).f j)) {n : Nat} {tr : Nat → Cst} {rs : Nat → Core.Rs} (A : AloneC ps room w k c0 n tr rs) (hn : (n : Int) ≤ most) :
  Fun TC 22 14 [.ptr 0 0, .i .i64 w, callS op pol key m, .i .i64 most] (coreH ps room (gOf (coreOps ps room) 4 c.S) c.M c.xs c.nl c.f ((k : Int) + 1))
   24 (.tup [(rs (n - 1)).r.S, .i .i64 n, .b true]) (coreS ps room (tr n).S (tr n).M (tr n).xs (tr n).nl (tr n).f ((k : Int) + n + 1)) := by
 have hz := A.z
 have xl0 := (A.law 0 (by omega)).xl
 refine Fun.mk' Tryz.func22 rfl rfl zN (by decide) ?_
 (repeat' (first | ((first | refine Wp.any TC_mixed rfl ?_ | (with_reducible first | refine Go.mk ?_ | apply Eff1.of)); conv => whnf) | ((refine CallStop.fn (hS) [0,1,2,3,4,5,6,7,8,9,10,11,12,13] rfl rfl rfl rfl rfl ?ha ?hh ?_); (case ha => exact zA); (case hh => exact zz15); (conv => whnf))))
 refine Wp.loopP (ι := Nat) (fun i => i < n) (fun i => ⟨⟨Tryz.f22.ntmps, 14⟩, 26, [(0, .ptr 0 0), (1, .i .i64 w), (3, .i .i64 most), (8, .ptr 15 0), (11, .i .i64 ((i : Int) + 1))],
   lawH 16 ps room (tr i).S (tr i).M (tr i).xs (tr i).nl (tr i).f ((k : Int) + i + 1) ++ [(15, some (.cells z6))]⟩) (fun i => n - i) 0 A.pos ?_ ?_
 ·(try dsimp only)
  rw [hz, show ((k : Int) + ((0 : Nat) : Int) + 1) = (k : Int) + 1 by omega]
  rw [hz] at xl0
  (refine Le.by [0,1,2,3,4,5,6,7,8,9,10,11,12,13,14,15,16,17,18,19,20,21,22,23,24,25] rfl rfl rfl rfl ?_ ?_ <;> ((conv => whnf); repeat' (first | exact trivial | exact law_argR (by decide) (fun l hl => by rcases l with _ | _ | _ | _ | l <;> first | exact ⟨Nat.le_of_ble_eq_true rfl, rfl⟩ | exact ⟨Nat.le_of_ble_eq_true rfl, rfl, rfl⟩ | omega) (fun q hq => by rcases q with _ | _ | _ | _ | _ | _ | _ | _ | _ | q <;> first | exact ⟨Nat.le_of_ble_eq_true rfl, rfl⟩ | omega) | exact ArgLe.rfl rfl | exact ArgLe.ptr rfl | exact ArgLe.sl rfl | exact ⟨rfl, rfl, rfl⟩ | exact ⟨rfl, Nat.le_of_ble_eq_true rfl⟩ | exact x_argRA (by assumption) rfl | exact fun i hi => rfl | ((with_reducible refine And.intro ?_ ?_) <;> (conv => whnf)))))
 ·rintro i h1
  (try dsimp only at h1 ⊢)
  have hT := A.stp i h1
  have xi := (A.law i (by omega)).xl
  have xi1 := (A.law (i + 1) (by omega)).xl
  have hNo := A.no i
  have hL : (rs i).done = true → i = n - 1 := fun e => by
   by_cases h9 : i + 1 < n
   ·rw [hNo h9] at e; cases e
   ·omega
  have hY : (rs i).done = false → i + 1 < n := fun e => by
   by_cases h9 : i + 1 < n
   ·exact h9
   ·have : i = n - 1 := by omega
    subst this; rw [A.yes] at e; cases e
  generalize hr : rs i = r at hT hL hY
  obtain ⟨dn, re⟩ := r
  cases dn with
  | true =>
   have hi := hL rfl
   have hi1 : i + 1 = n := by have := A.pos; omega
   rw [← hi, hr]
   have hcn : (k : Int) + ((i + 1 : Nat) : Int) + 1 = (k : Int) + n + 1 := by omega
   rw [hcn] at hT
   rw [hi1] at hT xi1
   (repeat' (first | ((first | refine Wp.any TC_mixed rfl ?_ | (with_reducible first | refine Go.mk ?_ | apply Eff1.of)); conv => whnf) | ((refine CallStop.fn (hT) [0,1,2,3,16,17,18,19,20,21,22,23,24,25] rfl rfl rfl rfl rfl ?ha ?hh ?_); (case ha => exact zA); (case hh => exact zz15); (conv => whnf)) | ((refine ways (fun hc => ?_) (fun hc => ?_)) <;> (try simp only [wz9] at hc) <;> (try (exfalso; omega)) <;> (conv => whnf))))
   refine FinLe.sealB [0,1,2,3,4,5,6,7,8,9,10,11,12,13,26,27,28,29,30,31,32,33,34,35] rfl rfl rfl ?_ ?_
   ·conv => whnf
    (repeat' (first | exact trivial | exact Seal.d | ((refine Seal.agg ?_); (conv => whnf)) | ((refine Seal.tup ?_); (conv => whnf)) | ((refine And.intro ?_ ?_) <;> (conv => whnf))))
    exact Seal.le Seal.d (SV.Le.i (by omega))
   ·conv => whnf
    (repeat' (first | exact trivial | exact Seal.d | exact law_sealR (by decide) (fun l hl => by rcases l with _ | _ | _ | _ | l <;> first | exact ⟨Nat.le_of_ble_eq_true rfl, rfl⟩ | exact ⟨Nat.le_of_ble_eq_true rfl, rfl, rfl⟩ | omega) (fun q hq => by rcases q with _ | _ | _ | _ | _ | _ | _ | _ | _ | q <;> first | exact ⟨Nat.le_of_ble_eq_true rfl, rfl⟩ | omega) | exact Seal.slL rfl | exact ⟨rfl, rfl, rfl⟩ | exact ⟨rfl, Nat.le_of_ble_eq_true rfl⟩ | exact x_sealRA (by assumption) rfl | exact fun i hi => DLes.refl _ | ((refine And.intro ?_ ?_) <;> (conv => whnf))))
  | false =>
   have hi := hY rfl
   (repeat' (first | ((first | refine Wp.any TC_mixed rfl ?_ | (with_reducible first | refine Go.mk ?_ | apply Eff1.of | refine Ov.ok zO ?_)); conv => whnf) | ((refine CallStop.fn (hT) [0,1,2,3,16,17,18,19,20,21,22,23,24,25] rfl rfl rfl rfl rfl ?ha ?hh ?_); (case ha => exact zA); (case hh => exact zz15); (conv => whnf)) | ((refine ways (fun hc => ?_) (fun hc => ?_)) <;> (try simp only [wz9] at hc) <;> (try (exfalso; omega)) <;> (conv => whnf))))
   refine ⟨i + 1, hi, by dsimp only; omega, ?_⟩
   dsimp only
   (refine Le.by [0,1,2,3,4,5,6,7,8,9,10,11,12,13,14,15,26,27,28,29,30,31,32,33,34,35] rfl rfl rfl rfl ?_ ?_ <;> ((conv => whnf); repeat' (first | exact trivial | exact law_argR (by decide) (fun l hl => by rcases l with _ | _ | _ | _ | l <;> first | exact ⟨Nat.le_of_ble_eq_true rfl, rfl⟩ | exact ⟨Nat.le_of_ble_eq_true rfl, rfl, rfl⟩ | omega) (fun q hq => by rcases q with _ | _ | _ | _ | _ | _ | _ | _ | _ | q <;> first | exact ⟨Nat.le_of_ble_eq_true rfl, rfl⟩ | omega) | exact ArgLe.rfl rfl | exact ArgLe.ptr rfl | exact ArgLe.sl rfl | exact ⟨rfl, rfl, rfl⟩ | exact ⟨rfl, Nat.le_of_ble_eq_true rfl⟩ | exact x_argRA (by assumption) rfl | exact fun i hi => rfl | ((with_reducible refine And.intro ?_ ?_) <;> (conv => whnf)))))
end Go.Proofs.YtplpofmnhcclbaaGreat

namespace Go.Proofs.YtplpofmnhcclbaaGreat
open Go.RowKit
set_option maxRecDepth 100000
set_option maxHeartbeats 4000000
set_option maxRecDepth 100000
set_option maxHeartbeats 4000000
set_option maxRecDepth 100000
set_option maxHeartbeats 4000000
structure Pick.Fit (p : Pick) : Prop where
 kind : 0 ≤ p.kind ∧ p.kind ≤ 2
 who : 0 ≤ p.who ∧ p.who < 5
 op : 1 ≤ p.op ∧ p.op ≤ 6
 chk : chkE tab2 p.op p.pol p.key p.n = 0
 len : p.key.length ≤ 2
 kx : p.op ≠ 5 → p.op ≠ 6 → Core.Kx tab2 (newX p.op p.pol p.key p.n)
 t : 0 ≤ p.t ∧ p.t < 40
theorem fitP_Fit {p : Pick} (h : p.ok) : (fitP p).Fit :=
 have ⟨a, b, c, d, e, f, g⟩ := fit_ok h
 ⟨f, e, d, a, b, c, g⟩
@[reducible] def newW (p : Pick) : Core.Wk := ⟨newX p.op p.pol p.key p.n, Core.first (newX p.op p.pol p.key p.n)⟩
structure Pl where
 M : Core.Mc
 S : Nat → Core.Wk
 r : Core.Rs
 e : Int
end Go.Proofs.YtplpofmnhcclbaaGreat

namespace Go.Proofs.YtplpofmnhcclbaaGreat
open Go.RowKit
set_option maxRecDepth 100000
set_option maxHeartbeats 4000000
def itC (P : Core.Ops) : Nat → Core.Mc × Core.Wk → Core.Mc × Core.Wk
 | 0, z => z
 | n + 1, z => itC P n ((Core.step P z.1 z.2.x z.2.s).M, ⟨(Core.step P z.1 z.2.x z.2.s).x, (Core.step P z.1 z.2.x z.2.s).s⟩)
def itN (P : Core.Ops) (z : Core.Mc × Core.Wk) : Core.Mc × Core.Wk := ((Core.step P z.1 z.2.x z.2.s).M, ⟨(Core.step P z.1 z.2.x z.2.s).x, (Core.step P z.1 z.2.x z.2.s).s⟩)
theorem itC_succ (P : Core.Ops) : ∀ (n : Nat) (z : Core.Mc × Core.Wk), itC P (n + 1) z = itN P (itC P n z)
 | 0, _ => rfl
 | n + 1, z => by
  rw [itC, itC_succ P n]; rfl
variable {ps : List Pol} {room : Int} {w k : Nat} {c0 : Cst} {n : Nat} {tr : Nat → Cst} {rs : Nat → Core.Rs}
theorem AloneC.it (A : AloneC ps room w k c0 n tr rs) : ∀ i, i ≤ n → (tr i).M = (itC (coreOps ps room) i (c0.M, c0.S w)).1 ∧ (tr i).S w = (itC (coreOps ps room) i (c0.M, c0.S w)).2 ∧ ∀ j, j ≠ w → (tr i).S j = c0.S j
 | 0, _ => by rw [A.z]; exact ⟨rfl, rfl, fun _ _ => rfl⟩
 | i + 1, hi => by
  obtain ⟨a, b, c⟩ := A.it i (by omega)
  obtain ⟨d, e, _⟩ := A.mx i (by omega)
  rw [itC_succ]
  refine ⟨?_, ?_, fun j hj => ?_⟩
  ·rw [d, itN, Core.mx, a, b]
  ·rw [e, itN, Core.nx, Dir.upd_same, a, b]
  ·rw [e, Core.nx, Dir.upd_ne _ _ hj]; exact c j hj
def doneC (P : Core.Ops) (z : Core.Mc × Core.Wk) : Core.Rs := (Core.step P z.1 z.2.x z.2.s).r
theorem AloneC.rs_it (A : AloneC ps room w k c0 n tr rs) (i : Nat) (hi : i < n) : rs i = doneC (coreOps ps room) (itC (coreOps ps room) i (c0.M, c0.S w)) := by
 obtain ⟨_, _, e⟩ := A.mx i hi
 obtain ⟨a, b, _⟩ := A.it i (by omega)
 rw [e, doneC, a, b]
theorem AloneC.count (A : AloneC ps room w k c0 n tr rs) (t : Nat) (hf : ∀ i, i < t → (doneC (coreOps ps room) (itC (coreOps ps room) i (c0.M, c0.S w))).done = false) (ht : (doneC (coreOps ps room) (itC (coreOps ps room) t (c0.M, c0.S w))).done = true) : n = t + 1 := by
 have hp := A.pos
 by_cases h1 : n ≤ t
 ·exfalso
  have := A.yes
  rw [A.rs_it (n - 1) (by omega), hf (n - 1) (by omega)] at this
  cases this
 ·by_cases h2 : t + 1 < n
  ·exfalso
   have := A.no t h2
   rw [A.rs_it t (by omega), ht] at this
   cases this
  ·omega
def aw1 : Core.Mc × Core.Wk := (⟨Core.M0.W, Core.M0.Hd, min (0 + 100) 4611686018427387903⟩, newW ⟨0, 0, 1, 0, [97], 1, 0⟩)
def aw2 : Core.Mc × Core.Wk := ((itC (coreOps tab2 2) 6 aw1).1, newW ⟨0, 1, 2, 1, [107], 0, 0⟩)
theorem aw1_no : ∀ i, i < 5 → (doneC (coreOps tab2 2) (itC (coreOps tab2 2) i aw1)).done = false := by
 intro i hi
 rcases i with _ | _ | _ | _ | _ | i <;> first | decide +kernel | omega
theorem aw1_yes : (doneC (coreOps tab2 2) (itC (coreOps tab2 2) 5 aw1)).done = true := by decide +kernel
theorem aw2_no : ∀ i, i < 6 → (doneC (coreOps tab2 2) (itC (coreOps tab2 2) i aw2)).done = false := by
 intro i hi
 rcases i with _ | _ | _ | _ | _ | _ | i <;> first | decide +kernel | omega
theorem aw2_yes : (doneC (coreOps tab2 2) (itC (coreOps tab2 2) 6 aw2)).done = true := by decide +kernel
end Go.Proofs.YtplpofmnhcclbaaGreat

namespace Go.Proofs.YtplpofmnhcclbaaGreat
open Go.RowKit
set_option maxRecDepth 100000
set_option maxHeartbeats 8000000
theorem aw1_r : doneC (coreOps tab2 2) (itC (coreOps tab2 2) 5 aw1) = ⟨true, ⟨0, true, 2, 0, 0, 100⟩⟩ := by kernel_rfl
theorem aw2_r : doneC (coreOps tab2 2) (itC (coreOps tab2 2) 6 aw2) = ⟨true, ⟨0, true, 1, 0, 1, 0⟩⟩ := by kernel_rfl
theorem aw2_c : (itC (coreOps tab2 2) 7 aw2).1.W 32 = 2 := by decide +kernel
theorem fitA : Pick.Fit ⟨0, 0, 1, 0, [97], 1, 0⟩ :=
 ⟨by decide, by decide, by decide, by decide, by decide, fun _ _ => ⟨by intro x hx; have hx2 : x ∈ [97] := hx; simp at hx2; omega, by decide, by decide, by decide⟩, by decide⟩
theorem fitB : Pick.Fit ⟨0, 1, 2, 1, [107], 0, 0⟩ :=
 ⟨by decide, by decide, by decide, by decide, by decide, fun _ _ => ⟨by intro x hx; have hx2 : x ∈ [107] := hx; simp at hx2; omega, by decide, by decide, by decide⟩, by decide⟩
theorem aw_runs : ∃ (c1 c2 c3 : Cst), (∀ i j, SV.Lt 1 ((c1.xs i).f j)) ∧ (∀ i j, SV.Lt 1 ((c2.xs i).f j)) ∧ (∀ i j, SV.Lt 1 ((c3.xs i).f j)) ∧
  Fun TC 15 0 [.d (slOf 4 Pol.D tab2), .i .i64 2] [] 14 (.tup [.ptr 0 0, .i .i64 0]) (coreH tab2 2 (gOf (coreOps tab2 2) 4 S0) Core.M0 xs0 (noteN 0) f0' 1) ∧
  Fun TC 26 14 [.ptr 0 0, .i .i64 100] (coreH tab2 2 (gOf (coreOps tab2 2) 4 S0) Core.M0 xs0 (noteN 0) f0' 1) 14 (.tup [.i .i64 100, .i .i64 0]) (coreH tab2 2 (gOf (coreOps tab2 2) 4 c1.S) c1.M c1.xs c1.nl c1.f 1) ∧
  Fun TC 22 14 [.ptr 0 0, .i .i64 0, callS 1 0 [97] 1, .i .i64 9] (coreH tab2 2 (gOf (coreOps tab2 2) 4 c1.S) c1.M c1.xs c1.nl c1.f 1) 24 (.tup [Rpl.S ⟨0, true, 2, 0, 0, 100⟩, .i .i64 6, .b true]) (coreS tab2 2 c2.S c2.M c2.xs c2.nl c2.f 7) ∧
  Fun TC 22 14 [.ptr 0 0, .i .i64 1, callS 2 1 [107] 0, .i .i64 9] (coreH tab2 2 (gOf (coreOps tab2 2) 4 c2.S) c2.M c2.xs c2.nl c2.f 7) 24 (.tup [Rpl.S ⟨0, true, 1, 0, 1, 0⟩, .i .i64 7, .b true]) (coreS tab2 2 c3.S c3.M c3.xs c3.nl c3.f 14) ∧
  Fun TC 27 14 [.ptr 0 0] (coreH tab2 2 (gOf (coreOps tab2 2) 4 c3.S) c3.M c3.xs c3.nl c3.f 14) 14 (.i .i64 2) (coreH tab2 2 (gOf (coreOps tab2 2) 4 c3.S) c3.M c3.xs c3.nl c3.f 14) ∧
  Fun TC 43 14 [.ptr 0 0] (coreH tab2 2 (gOf (coreOps tab2 2) 4 c3.S) c3.M c3.xs c3.nl c3.f 14) 14 (.i .i64 13) (coreH tab2 2 (gOf (coreOps tab2 2) 4 c3.S) c3.M c3.xs c3.nl c3.f 14) := by
 have L0 : LawC tab2 2 0 Core.M0 S0 xs0 (noteN 0) 1 := LawC.zero tab2_ok (by decide)
 have hT := core_Tick (f := f0') (cnt := 1) (nl := noteN 0) (L0.cok (by decide) 0 (by decide)) (by decide) (by decide) 100 (by decide) (by decide)
 have L1 : LawC tab2 2 0 aw1.1 S0 xs0 (noteN 0) 1 := L0.tick (t := min (Core.M0.clk + 100) 4611686018427387903) (by decide)
 obtain ⟨xs1, L2, hS⟩ := law_Start (f := f0') L1 (by decide) (w := 0) (.inl (by decide)) rfl 1 0 [97] 1 fitA.chk (by decide) fitA.kx
 obtain ⟨n, tr, rs, hn, A⟩ := alone_ex (ps := tab2) (room := 2) (w := 0) (.inl (by decide)) 165 0 ⟨aw1.1, Dir.upd S0 0 aw1.2, xs1, noteN 0, f0'⟩ (by decide) L2 rfl (Core.T_le (L2.all.inv.cw 0))
 have e := A.count 5 aw1_no aw1_yes
 subst e
 have hr5 := A.rs_it 5 (by decide)
 have hr5 : rs 5 = ⟨true, ⟨0, true, 2, 0, 0, 100⟩⟩ := hr5.trans aw1_r
 have R1 := law_run (cnt := 0) (c := ⟨aw1.1, S0, xs0, noteN 0, f0'⟩) 1 0 [97] 1 9 (by decide) hS L1.xl A (by decide)
 rw [show rs (5 + 1 - 1) = rs 5 from rfl, hr5] at R1
 obtain ⟨i1, i2, i3⟩ := A.it 6 (by decide)
 have L6 := A.law 6 (by decide)
 have i1 : (tr 6).M = aw2.1 := i1
 have hS1 : ((tr 6).S 1).s = .none := by rw [i3 1 (by decide)]; rfl
 obtain ⟨xs2, L7, hS2⟩ := law_Start (f := (tr 6).f) L6 (by decide) (w := 1) (.inl (by decide)) hS1 2 1 [107] 0 fitB.chk (by decide) fitB.kx
 obtain ⟨n2, tr2, rs2, hn2, B⟩ := alone_ex (ps := tab2) (room := 2) (w := 1) (.inl (by decide)) 165 6 ⟨(tr 6).M, Dir.upd (tr 6).S 1 aw2.2, xs2, (tr 6).nl, (tr 6).f⟩ (by decide) L7 rfl (Core.T_le (L7.all.inv.cw 1))
 have hz : (((⟨(tr 6).M, Dir.upd (tr 6).S 1 aw2.2, xs2, (tr 6).nl, (tr 6).f⟩ : Cst).M, (⟨(tr 6).M, Dir.upd (tr 6).S 1 aw2.2, xs2, (tr 6).nl, (tr 6).f⟩ : Cst).S 1) : Core.Mc × Core.Wk) = aw2 := by
  show ((tr 6).M, Dir.upd (tr 6).S 1 aw2.2 1) = aw2
  rw [i1, Dir.upd_same]
 have e := B.count 6 (by rw [hz]; exact aw2_no) (by rw [hz]; exact aw2_yes)
 subst e
 have hr6 := B.rs_it 6 (by decide)
 rw [hz] at hr6
 have hr6 : rs2 6 = ⟨true, ⟨0, true, 1, 0, 1, 0⟩⟩ := hr6.trans aw2_r
 have R2 := law_run (cnt := 0) (c := tr 6) 2 1 [107] 0 9 (by decide) hS2 L6.xl B (by decide)
 rw [show rs2 (6 + 1 - 1) = rs2 6 from rfl, hr6] at R2
 obtain ⟨j1, _, _⟩ := B.it 7 (by decide)
 rw [hz] at j1
 have L13 := B.law 7 (by decide)
 have hC := core_Count (f := (tr2 7).f) (nl := (tr2 7).nl) (cnt := 14) (L13.cok (by decide) 0 (by decide))
 rw [show (tr2 7).M.W 32 = 2 by rw [j1]; exact aw2_c] at hC
 have hP := core_Steps (f := (tr2 7).f) (nl := (tr2 7).nl) (cnt := 14) (L13.cok (by decide) 0 (by decide)) (by decide) (by decide)
 exact ⟨⟨aw1.1, S0, xs0, noteN 0, f0'⟩, tr 6, tr2 7, L1.xl, L6.xl, L13.xl, core_New (tab2_new (by decide)), hT, R1, R2, hC, hP⟩
set_option maxRecDepth 100000
set_option maxHeartbeats 8000000
theorem awake_T : Pure TC 14 [] (.b true) := by
 obtain ⟨c1, c2, c3, x1, x2, x3, hN, hT, hR, hR2, hC, hP⟩ := aw_runs
 have x0 : ∀ i j, SV.Lt 1 ((xs0 i).f j) := fun _ _ => .any
 refine Pure.mk' Tryz.func14 rfl rfl zN ?_
 (repeat' (first | ((first | refine Wp.any TC_mixed rfl ?_ | (with_reducible first | refine Go.mk ?_ | apply Eff1.of | refine CallStop.pure (law_table) rfl rfl ?_)); conv => whnf) | ((refine CallStop.fn (hN) [] rfl rfl rfl rfl rfl ?ha ?hh ?_); (case ha => exact zA); (case hh => exact zH); (conv => whnf)) | ((refine CallStop.fn (hT) [0,1,2,3,4,5,6,7,8,9,10,11,12,13] rfl rfl rfl rfl rfl ?ha ?hh ?_); (case ha => exact zA); (case hh => exact zz15); (conv => whnf)) | ((refine CallStop.fn (hR) [0,1,2,3,4,5,6,7,8,9,10,11,12,13] rfl rfl rfl rfl rfl ?ha ?hh ?_); (case ha => exact zA); (case hh => exact zz15); (conv => whnf)) | ((refine CallStop.fn (hR2) [0,1,2,3,15,16,17,18,19,20,21,22,23,24] rfl rfl rfl rfl rfl ?ha ?hh ?_); (case ha => exact zA); (case hh => exact zz15); (conv => whnf)) | ((refine CallStop.fn (hC) [0,1,2,3,27,28,29,30,31,32,33,34,35,36] rfl rfl rfl rfl rfl ?ha ?hh ?_); (case ha => exact zA); (case hh => exact zz15); (conv => whnf)) | ((refine CallStop.fn (hP) [0,1,2,3,27,28,29,30,31,32,33,34,35,36] rfl rfl rfl rfl rfl ?ha ?hh ?_); (case ha => exact zA); (case hh => exact zz15); (conv => whnf))))
 exact .b (by decide)
end Go.Proofs.YtplpofmnhcclbaaGreat

namespace Go.Proofs.YtplpofmnhcclbaaGreat
open Go.RowKit
set_option maxRecDepth 100000
set_option maxHeartbeats 4000000
variable {ps : List Pol} {room : Int} {w k : Nat} {c0 : Cst} {n : Nat} {tr : Nat → Cst} {rs : Nat → Core.Rs}
theorem AloneC.ends (A : AloneC ps room w k c0 n tr rs) : ((tr n).S w).s = .none := by
 have hp := A.pos
 obtain ⟨m, rfl⟩ : ∃ m, n = m + 1 := ⟨n - 1, by omega⟩
 obtain ⟨d, e, g⟩ := A.mx m (by omega)
 have hy := A.yes
 rw [show m + 1 - 1 = m by omega, g] at hy
 rw [e, Core.nx, Dir.upd_same]
 exact Core.step_none hy
@[reducible] def cst0 : Cst := ⟨Core.M0, S0, xs0, noteN 0, f0'⟩
theorem law0 {room : Int} (h : 1 ≤ room ∧ room ≤ 4096) : LawC tab2 room 0 cst0.M cst0.S cst0.xs cst0.nl (((0 : Nat) : Int) + 1) := LawC.zero tab2_ok h
theorem law_alone {room : Int} {k : Nat} {c : Cst} (h : LawC tab2 room k c.M c.S c.xs c.nl ((k : Int) + 1)) (hk : k ≤ 500000) {w : Nat} (hw : w < 8 ∨ w = 9) (hn : (c.S w).s = .none) (op pol : Int) (key : List Int) (m : Int) (hE : chkE tab2 op pol key m = 0) (hkl : key.length ≤ 16777216) (hkx : op ≠ 5 → op ≠ 6 → Core.Kx tab2 (newX op pol key m)) (most : Int) (h1 : 165 ≤ most) (h2 : most ≤ 1000) :
  ∃ (xs' : Nat → XB) (n : Nat) (tr : Nat → Cst) (rs : Nat → Core.Rs), n ≤ 165 ∧ AloneC tab2 room w k ⟨c.M, Dir.upd c.S w ⟨newX op pol key m, Core.first (newX op pol key m)⟩, xs', c.nl, c.f⟩ n tr rs ∧
   Fun TC 22 14 [.ptr 0 0, .i .i64 w, callS op pol key m, .i .i64 most] (coreH tab2 room (gOf (coreOps tab2 room) 4 c.S) c.M c.xs c.nl c.f ((k : Int) + 1))
    24 (.tup [(rs (n - 1)).r.S, .i .i64 n, .b true]) (coreS tab2 room (tr n).S (tr n).M (tr n).xs (tr n).nl (tr n).f ((k : Int) + n + 1)) := by
 obtain ⟨xs', hL, hS⟩ := law_Start (f := c.f) h (by omega) hw hn op pol key m hE hkl hkx
 obtain ⟨n, tr, rs, hn', A⟩ := alone_ex hw 165 k ⟨c.M, Dir.upd c.S w ⟨newX op pol key m, Core.first (newX op pol key m)⟩, xs', c.nl, c.f⟩ (by omega) hL
  (by
   show isC (Dir.upd c.S w _ w).s = true
   rw [Dir.upd_same]
   show isC (Core.first (newX op pol key m)) = true
   unfold Core.first; (repeat' split) <;> rfl)
  (Core.T_le (hL.all.inv.cw w))
 exact ⟨xs', n, tr, rs, hn', A, law_run (cnt := 0) op pol key m most h2 hS h.xl A (by omega)⟩
end Go.Proofs.YtplpofmnhcclbaaGreat

namespace Go.Proofs.YtplpofmnhcclbaaGreat
open Go.RowKit
set_option maxRecDepth 100000
def Vu (c : Cel) : Prop := (c.pol = 0 ∧ c.held = [] ∧ 0 ≤ c.tat) ∨ (c.pol = 1 ∧ c.tat = 0)
def Qu (x : Core.X) : Prop := (1 ≤ x.op ∧ x.op ≤ 4) ∧ ((x.op = 1 ∧ x.pol = 0) ∨ ((x.op = 2 ∨ x.op = 3) ∧ x.pol = 1) ∨ (x.op = 4 ∧ (x.pol = 0 ∨ x.pol = 1)))
theorem chk_Qu {op pol : Int} {key : List Int} {n : Int} (hE : chkE tab2 op pol key n = 0) (h4 : 1 ≤ op ∧ op ≤ 4) : Qu (newX op pol key n) := by
 unfold chkE at hE
 split at hE
 ·cases hE
 split at hE
 ·cases hE
 split at hE
 ·rename_i h9; exact absurd hE h9
 split at hE
 ·cases hE
 rename_i h9
 have hl : ((tab2.length : Nat) : Int) = 2 := rfl
 rw [hl] at h9
 have a1 : ¬ pol < 0 := fun e => h9 ⟨h4.2, .inl e⟩
 have a2 : ¬ 2 ≤ pol := fun e => h9 ⟨h4.2, .inr (.inl e)⟩
 have hk : ¬ (kindE op ≠ 0 ∧ (tab2.getD pol.toNat default).kind ≠ kindE op) := fun e => h9 ⟨h4.2, .inr (.inr e)⟩
 refine ⟨h4, ?_⟩
 show (op = 1 ∧ pol = 0) ∨ ((op = 2 ∨ op = 3) ∧ pol = 1) ∨ (op = 4 ∧ (pol = 0 ∨ pol = 1))
 have hp : pol = 0 ∨ pol = 1 := by omega
 by_cases e4 : op = 4
 ·exact .inr (.inr ⟨e4, hp⟩)
 ·rcases hp with rfl | rfl
  ·by_cases e1 : op = 1
   ·exact .inl ⟨e1, rfl⟩
   ·exfalso
    have e2 : kindE op = 2 := by unfold kindE; rw [if_neg e1, if_pos (by omega)]
    exact hk ⟨by omega, by rw [e2]; decide⟩
  ·by_cases e1 : op = 1
   ·exfalso
    have e2 : kindE op = 1 := if_pos e1
    exact hk ⟨by omega, by rw [e2]; decide⟩
   ·exact .inr (.inl ⟨by omega, rfl⟩)
theorem tab2_un (room : Int) : Core.OpsUn (coreOps tab2 room) Vu Qu where
 idle x c t clk w33 hq hv hid hi ht h0 h1 := by
  have e1 : c.pol = x.pol ∧ c.key = x.key := by simpa [idn] using hid
  replace hi : idleB tab2 c t = true := hi
  rcases hv with ⟨hp, hh, h3⟩ | ⟨hp, h3⟩
  ·have hx : x.pol = 0 := by rw [← e1.1, hp]
   have hpol : (coreOps tab2 room).pol x.pol = ⟨1, 10, 20, 0⟩ := by rw [hx]; rfl
   unfold idleB at hi
   rw [hp, if_neg (by decide)] at hi
   have hi : c.tat ≤ t := by simpa using hi
   have hn : Core.newCl x = newC c.pol c.key := by rw [e1.1, e1.2]; rfl
   have hA : ∀ n, (coreOps tab2 room).allow ⟨1, 10, 20, 0⟩ c clk n = (allowR ⟨1, 10, 20, 0⟩ c clk n, allowC ⟨1, 10, 20, 0⟩ c clk n) := fun _ => rfl
   have hA0 : ∀ n, (coreOps tab2 room).allow ⟨1, 10, 20, 0⟩ (newC c.pol c.key) clk n = (allowR ⟨1, 10, 20, 0⟩ (newC c.pol c.key) clk n, allowC ⟨1, 10, 20, 0⟩ (newC c.pol c.key) clk n) := fun _ => rfl
   have hP : ∀ c, (coreOps tab2 room).peek ⟨1, 10, 20, 0⟩ c clk = peekR ⟨1, 10, 20, 0⟩ c clk := fun _ => rfl
   obtain ⟨g1, g2⟩ := allow_idle (p := ⟨1, 10, 20, 0⟩) (c := c) (now := clk) (n := x.n) hh h3 (by omega) h1
   have g3 := peek_idle (p := ⟨1, 10, 20, 0⟩) (c := c) (now := clk) (by decide) h3 (by omega) h1
   unfold Core.one
   rw [hpol]
   simp only [Option.getD_some, Option.getD_none, hn, hA, hA0, hP, g3]
   rcases hq.2 with ⟨h5, _⟩ | ⟨_, h5⟩ | ⟨h5, _⟩
   ·rw [if_pos h5, if_pos h5, g1]
    split
    ·rfl
    ·rename_i h9
     rw [g2 (by
      rw [g1]
      cases h : (allowR ⟨1, 10, 20, 0⟩ (newC c.pol c.key) clk x.n).g with
      | true => rfl
      | false => exact absurd (Or.inl h) h9) (fun h => h9 (Or.inr h))]
   ·omega
   ·have n1 : ¬ x.op = 1 := by omega
    have n2 : ¬ x.op = 2 := by omega
    have n3 : ¬ x.op = 3 := by omega
    simp only [if_neg n1, if_neg n2, if_neg n3]
    rw [if_neg (by decide), if_neg (by decide)]
  ·have : c = Core.newCl x := by
    unfold idleB at hi
    rw [hp, if_pos (by decide)] at hi
    have hl : c.held.length = 0 := by simpa using hi
    have hh : c.held = [] := List.eq_nil_of_length_eq_zero hl
    cases c with | mk a b d e =>
    simp only at h3 hh e1
    unfold Core.newCl
    rw [e1.1, e1.2, h3, hh]
   rw [this]; rfl
 cl x o clk w33 c hq ho h := by
  have hb : Vu (o.getD (Core.newCl x)) := by
   cases o with
   | none =>
    show Vu (Core.newCl x)
    rcases hq.2 with ⟨_, h5⟩ | ⟨_, h5⟩ | ⟨_, h5 | h5⟩
    ·exact .inl ⟨h5, rfl, Int.le_refl _⟩
    ·exact .inr ⟨h5, rfl⟩
    ·exact .inl ⟨h5, rfl, Int.le_refl _⟩
    ·exact .inr ⟨h5, rfl⟩
   | some d => exact (ho d rfl).1
  have hbp : (o.getD (Core.newCl x)).pol = x.pol := by
   cases o with
   | none => rfl
   | some d => have := (ho d rfl).2; simp only [idn, List.cons.injEq] at this; exact this.1
  unfold Core.one at h
  generalize o.getD (Core.newCl x) = b at hb hbp h
  by_cases h1 : x.op = 1
  ·rw [if_pos h1] at h
   have hx : x.pol = 0 := by rcases hq.2 with ⟨_, e⟩ | ⟨e, _⟩ | ⟨e, _⟩ <;> omega
   split at h
   ·cases h
   ·rename_i h9
    simp only [Option.some.injEq] at h
    rcases hb with ⟨b1, b2, b3⟩ | ⟨b1, _⟩
    ·subst h
     refine .inl ⟨b1, b2, ?_⟩
     have hg : (decA (((coreOps tab2 room).pol x.pol).T) (((coreOps tab2 room).pol x.pol).tau) b.tat clk x.n).g = true := by
      cases e : (decA (((coreOps tab2 room).pol x.pol).T) (((coreOps tab2 room).pol x.pol).tau) b.tat clk x.n).g with
      | true => rfl
      | false => exact absurd (Or.inl e) h9
     exact dec_tat b3 hg
    ·omega
  ·rw [if_neg h1] at h
   by_cases h2 : x.op = 2 ∨ x.op = 3
   ·have hx : x.pol = 1 := by rcases hq.2 with ⟨e, _⟩ | ⟨_, e⟩ | ⟨e, _⟩ <;> omega
    have hv : ∀ d : Cel, d.pol = b.pol → d.tat = b.tat → Vu d := fun d e1 e2 => by
     rcases hb with ⟨b1, _⟩ | ⟨b1, b2⟩
     ·omega
     ·exact .inr ⟨by omega, by omega⟩
    rcases h2 with h2 | h2
    ·rw [if_pos h2] at h
     split at h
     ·cases h
     ·split at h
      ·cases h
      ·simp only [Option.some.injEq] at h
       subst h
       exact hv (acqC _ b _) (by unfold acqC; split <;> rfl) (by unfold acqC; split <;> rfl)
    ·rw [if_neg (by omega), if_pos h2] at h
     split at h
     ·simp only [Option.some.injEq] at h
      subst h
      exact hv (relC _ b _) (by unfold relC; split <;> rfl) (by unfold relC; split <;> rfl)
     ·cases h
   ·rw [if_neg (by omega), if_neg (by omega)] at h
    split at h <;> cases h
end Go.Proofs.YtplpofmnhcclbaaGreat
