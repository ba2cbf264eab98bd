/- Parts of the proof, one behind the other: Ct8, Ct1, Ct2. Lemmas and contracts of functions; no condition of its own. -/
import Derived.Test.YtplpofmnhcclbaaGreatMB18
set_option linter.unusedVariables false
set_option linter.unusedSimpArgs false
set_option maxHeartbeats 1000000
namespace Go.Proofs.YtplpofmnhcclbaaGreat
open Go.RowKit
set_option maxRecDepth 100000
set_option maxHeartbeats 4000000
def cellsC (ps : List Pol) (room : Int) (M : Core.Mc) : List Cel := Core.sortC (Core.allE (coreOps ps room) M)
theorem take_at {α : Type} [Inhabited α] {xs : List α} {k : Nat} (h : k < xs.length) : xs.take (k + 1) = xs.take k ++ [xs.getD (k : Int).toNat default] := by
 rw [List.take_succ_eq_append_getElem h, Int.toNat_natCast, List.getD_eq_getElem?_getD, List.getElem?_eq_getElem h]; rfl
theorem cat_rowC (A l : List Cel) : ∀ k, k < A.length + l.length → catF A.length (fun i => Cel.D (A.getD i default)) (fun i => Cel.D (l.getD i default)) k = Cel.D ((A ++ l).getD k default) := fun k _ => by
 simp only [catF]
 by_cases e : k < A.length
 ·rw [if_pos e, List.getD_eq_getElem?_getD, List.getD_eq_getElem?_getD, List.getElem?_append_left e]
 ·rw [if_neg e, List.getD_eq_getElem?_getD, List.getD_eq_getElem?_getD, List.getElem?_append_right (by omega)]
variable {ps : List Pol} {room : Int} {S : Nat → Core.Wk} {M : Core.Mc} {xs : Nat → XB} {nl nl0 : Nat} {f : Nat → List D} {cnt cnt0 who : Int}
theorem core_Cells (hM : COK ps room who (gOf (coreOps ps room) 4 S) M xs nl0 cnt0) (h12 : (Core.allE (coreOps ps room) M).length ≤ 12) (hdis : (Core.allE (coreOps ps room) M).Pairwise (fun a b => idn a ≠ idn b))
  (hok : ∀ c ∈ Core.allE (coreOps ps room) M, CelK ps c ∧ okId c.pol c.key) :
  Fun TC 28 14 [.ptr 0 0] (coreH ps room (gOf (coreOps ps room) 4 S) M xs nl f cnt) 14 (.d (slOf 4 Cel.D (cellsC ps room M))) (coreH ps room (gOf (coreOps ps room) 4 S) M xs nl f cnt) := by
 have q5 := hM.g; have qo := hM.o
 have hA : Fun TC 57 4 [lanesA] (laneH M nl f M.clk cnt) 4 (.d (slOf 1 lstD (Core.allL (coreOps ps room) M))) (laneH M nl f M.clk cnt) := by
  by_cases he : M.W 0 % 2 = 0
  ·exact lane_All0 ps room M nl f M.clk cnt hM.d0 hM.d1 he
  ·exact lane_All1 ps room M nl f M.clk cnt hM.d0 hM.d1 (fun w => Nat.le_trans (hM.hd w).len (by decide)) (by omega)
 have hLl : (Core.allL (coreOps ps room) M).length ≤ 32 := by
  have h1 := parts_len ps room M (2 ^ Core.lvl M)
  have h2 : 2 ^ Core.lvl M ≤ 2 ^ 4 := Nat.pow_le_pow_right (by omega) (by have := hM.d0; have := hM.d1; unfold Core.lvl; omega)
  show ((List.range (2 ^ Core.lvl M)).flatMap (Core.partL (coreOps ps room) M)).length ≤ 32
  omega
 have hE := Core.allE_eq (coreOps ps room) M
 unfold cellsC
 rw [← hE] at h12 hdis hok ⊢
 clear hE
 generalize Core.allL (coreOps ps room) M = L at hA hLl h12 hdis hok ⊢
 have hmem : ∀ l ∈ L, l.length ≤ 12 ∧ ∀ c ∈ l, CelK ps c := fun l hl => by
  refine ⟨?_, fun c hc => (hok c (List.mem_flatten.2 ⟨l, hl, hc⟩)).1⟩
  have := (List.sublist_flatten_of_mem hl).length_le
  omega
 have hSort := sort_C L.flatten (fun c hc => ⟨(hok c hc).1.byt, (hok c hc).2⟩) hdis h12
 have hpl := (Core.sortC_perm L.flatten).length_eq
 refine Fun.mk' Tryz.func28 rfl rfl zN (by decide) ?_
 (repeat' (first | ((first | refine Wp.any TC_mixed rfl ?_ | (with_reducible first | refine Go.mk ?_ | apply Eff1.of)); conv => whnf) | ((with_reducible refine At.mk' _ rfl ?_); (refine And.intro zN ?_); conv => whnf) | ((refine CallStop.fn (hA) [1,2,3,13] rfl rfl rfl rfl rfl ?ha ?hh ?_); (case ha => exact zA); (case hh => exact zH); (conv => whnf))))
 refine Wp.le (Le.virt 3 87 4 (fun i => Cel.D (([] : List Cel).getD i default)) (by decide) rfl) ?_
 refine Wp.loopP (ι := Nat) (fun j => j ≤ L.length) (fun j => ⟨⟨Tryz.f28.ntmps, 14⟩, 15, [(3, .sl 14 4 0 (L.take j).flatten.length), (12, .d (slOf 1 lstD L)), (13, .i .i64 L.length), (14, .i .i64 j)],
  coreH ps room (gOf (coreOps ps room) 4 S) M xs nl f cnt ++ [(14, some (rowOf 87 4 Cel.D (L.take j).flatten))]⟩) (fun j => L.length - j) 0 (Nat.zero_le _) ?_ ?_
 ·(refine Le.by [0,1,2,3,4,5,6,7,8,9,10,11,12,13,14] rfl rfl rfl rfl ?_ ?_ <;> (conv => whnf) <;> (repeat' (first | exact trivial | exact ArgLe.rfl rfl | exact ArgLe.sl rfl | exact ⟨rfl, rfl, rfl⟩ | exact ⟨rfl, Nat.le_of_ble_eq_true rfl⟩ | exact core_arg (by assumption) | exact x_arg (qo _) | exact fun i hi => rfl | ((with_reducible refine And.intro ?_ ?_) <;> (conv => whnf)))))
 ·rintro j h1
  have hpj : (L.take j).flatten.length ≤ 12 := by
   have h9 : (L.take j).flatten.length + (L.drop j).flatten.length = L.flatten.length := by
    rw [← List.length_append, ← List.flatten_append, List.take_append_drop]
   omega
  by_cases hj : j < L.length
  ·have hta := take_at hj
   have hlm : L.getD (j : Int).toNat default ∈ L := by rw [Int.toNat_natCast, List.getD_eq_getElem?_getD, List.getElem?_eq_getElem hj]; exact List.getElem_mem hj
   obtain ⟨m1, m2⟩ := hmem _ hlm
   have hCp := book_Copy (L.getD (j : Int).toNat default) (by omega) (fun k => by
    by_cases hk : k < (L.getD (j : Int).toNat default).length
    ·have := m2 ((L.getD (j : Int).toNat default).getD k default) (by
      rw [List.getD_eq_getElem?_getD (l := L.getD _ _), List.getElem?_eq_getElem hk]; exact List.getElem_mem hk)
     exact ⟨Nat.le_trans this.key (by decide), Nat.le_trans this.held (by decide)⟩
    ·rw [List.getD_eq_getElem?_getD (l := L.getD _ _), List.getElem?_eq_none (by omega)]; exact ⟨by decide, by decide⟩)
   (repeat' (first | ((first | refine Wp.any TC_mixed rfl ?_ | (with_reducible first | refine Go.mk ?_ | apply Eff1.of | refine Ov.ok zO ?_ | refine And.intro zC ?_)); conv => whnf) | ((with_reducible refine And.intro ?hb ?_); (case hb => exact zz3); (conv => whnf)) | ((with_reducible refine CallStop.pure (hCp) rfl rfl ?_); conv => whnf) | ((refine ways (fun hc => ?_) (fun hc => ?_)) <;> (try simp only [wz9] at hc) <;> (try (exfalso; omega)) <;> (conv => whnf))))
   generalize L.getD (j : Int).toNat default = l at hta hlm m1 m2 ⊢
   refine ⟨j + 1, by dsimp only; omega, by dsimp only; omega, ?_⟩
   dsimp only
   rw [hta, List.flatten_append, show [l].flatten = l by simp]
   generalize (L.take j).flatten = A at hpj ⊢
   (refine Le.by [0,1,2,3,4,5,6,7,8,9,10,11,12,13,15] rfl rfl rfl rfl ?_ ?_ <;> (conv => whnf) <;> (repeat' (first | exact trivial | exact ArgLe.rfl rfl | exact ArgLe.sl rfl | exact ⟨rfl, rfl, rfl⟩ | exact ⟨rfl, Nat.le_of_ble_eq_true rfl⟩ | exact core_arg (by assumption) | exact x_arg (qo _) | exact fun i hi => rfl | ((with_reducible refine And.intro ?_ ?_) <;> (conv => whnf)))))
   all_goals first
    | (rw [List.length_append]; exact ArgLe.sl rfl)
    | (refine ⟨rfl, rfl, ?_⟩; simp; done)
    | exact cat_rowC _ _
    | exact List.length_append.symm
    | exact List.length_append
    | rfl
  ·obtain rfl : j = L.length := by omega
   rw [List.take_length]
   (repeat' (first | ((first | refine Wp.any TC_mixed rfl ?_ | (with_reducible first | refine Go.mk ?_ | apply Eff1.of)); conv => whnf) | ((refine CallStop.fn (hSort) [14] rfl rfl rfl rfl rfl ?ha ?hh ?_); (case ha => exact zA); (case hh => exact zH); (conv => whnf)) | ((refine ways (fun hc => ?_) (fun hc => ?_)) <;> (try simp only [wz9] at hc) <;> (try (exfalso; omega)) <;> (conv => whnf))))
   refine FinLe.sealB [0, 1, 2, 3, 4, 5, 6, 7, 8, 9, 10, 11, 12, 13] rfl rfl rfl ?_ ?_
   ·exact Seal.le (Seal.sl rfl rfl (by omega)) (SV.Le.sl' hpl.symm fun i hi => by simp only [Nat.zero_add])
   ·(conv => whnf); (repeat' (first | exact zC9 | exact x_seal (qo _) | ((refine And.intro ?_ ?_) <;> (conv => whnf))))
end Go.Proofs.YtplpofmnhcclbaaGreat

namespace Go.Proofs.YtplpofmnhcclbaaGreat
namespace Core
open Dir (FZ plc upd upW Iw okW lowW upd_same upd_ne pow_pos2)
variable {sm : List Int → Int} {P : Ops}
def FrC (P : Ops) (x : X) (f : Fd) (c : Cel) (r : Rpl) : Prop :=
 (x.op = 1 ∧ (∃ t, P.allow (P.pol x.pol) f.cell t x.n = (r, c)) ∧ r.g = true ∧ x.n ≠ 0) ∨
 (x.op = 2 ∧ (f.cell.held.length : Int) ≠ (P.pol x.pol).permits ∧ P.acq (P.pol x.pol) f.cell x.ser = (r, c) ∧ 0 < x.ser) ∨
 (x.op = 3 ∧ P.rel (P.pol x.pol) f.cell x.n = (r, c) ∧ r.e = 0)
def Fo (x : X) : Fc → Prop
 | .key => x.op ≠ 5 ∧ x.op ≠ 6
 | .ev _ _ _ => x.op = 5
def FrR (x : X) (r : Rpl) : Prop := (x.op = 1 ∧ r.e = 0) ∨ (x.op = 2 ∧ (r.e = 0 → r.serial = x.ser ∧ 0 < x.ser))
def FrB (x : X) : Bk → Prop
 | .lv r => FrR x r ∧ r.e ≠ 10
 | .ev _ _ _ => x.op = 5
def Fr (P : Ops) (x : X) : CS → Prop
 | .none => True
 | .k0 f => Fo x f
 | .kE f _ => Fo x f
 | .kF f _ _ => Fo x f
 | .kG f _ _ _ _ => Fo x f
 | .kH f _ _ _ => Fo x f
 | .kL f _ _ _ => Fo x f
 | .al _ => x.op = 1
 | .pk _ => x.op ≠ 1 ∧ x.op ≠ 2 ∧ x.op ≠ 3 ∧ x.op ≠ 5 ∧ x.op ≠ 6
 | .a0 f => x.op = 2 ∧ (f.cell.held.length : Int) ≠ (P.pol x.pol).permits
 | .a1 f _ => x.op = 2 ∧ (f.cell.held.length : Int) ≠ (P.pol x.pol).permits
 | .p0 f c r => FrC P x f c r
 | .p1 f c r _ => FrC P x f c r
 | .pS f c r => FrC P x f c r
 | .b0 _ k => FrB x k
 | .b1 _ k _ => FrB x k
 | .e0 => x.op = 5
 | .eC _ _ _ _ _ _ => x.op = 5
 | .eS _ _ _ _ _ _ _ => x.op = 5
 | .s0 => x.op = 6
 | .sM _ => x.op = 6
 | .sF _ _ => x.op = 6
 | .sG _ _ _ _ => x.op = 6
 | .sH _ _ _ _ => x.op = 6
 | .sL _ _ _ _ => x.op = 6
 | .sV _ => x.op = 6
structure OpsRe (P : Ops) : Prop where
 allow : ∀ p c t n, (P.allow p c t n).1.e = 0
 acq : ∀ p c n, (P.acq p c n).1.e ≠ 10
 acqs : ∀ p c n, (P.acq p c n).1.e = 0 → (P.acq p c n).1.serial = n
 rel : ∀ p c n, (P.rel p c n).1.e ≠ 10
 peek : ∀ p c t, (P.peek p c t).e = 0
structure FrP (P : Ops) (x : X) (p : CS × Rs) : Prop where
 s : Fr P x p.1
 e : p.2.r.e ≠ 10
theorem FrC.rr (hP : OpsRe P) {x : X} {f : Fd} {c : Cel} {r : Rpl} (h : FrC P x f c r) : r.e ≠ 10 ∧ (x.op = 3 ∧ r.e = 0 ∨ FrR x r) := by
 rcases h with ⟨h1, ⟨t, ht⟩, h3, h4⟩ | ⟨h1, h2, h3, h4⟩ | ⟨h1, h2, h3⟩
 ·have := hP.allow (P.pol x.pol) f.cell t x.n
  rw [ht] at this
  have e0 : r.e = 0 := this
  exact ⟨by omega, .inr (.inl ⟨h1, e0⟩)⟩
 ·have g1 := hP.acq (P.pol x.pol) f.cell x.ser
  have g2 := hP.acqs (P.pol x.pol) f.cell x.ser
  rw [h3] at g1 g2
  exact ⟨g1, .inr (.inr ⟨h1, fun e => ⟨g2 e, h4⟩⟩)⟩
 ·exact ⟨by omega, .inl ⟨h1, h3⟩⟩
theorem leave_frp {x : X} {r : Rpl} (h : x.res = true → FrR x r) (h2 : r.e ≠ 10) : FrP P x (leave x r) := by
 unfold leave; split
 ·exact ⟨⟨h (by assumption), h2⟩, by show (0 : Int) ≠ 10; decide⟩
 ·exact ⟨trivial, h2⟩
theorem put_fr {x : X} {f : Fd} {c : Cel} {r : Rpl} (h : FrC P x f c r) : Fr P x (put x f c r) := by unfold put; split <;> exact h
theorem further_frp {x : X} (h : x.op = 5) (j sh : Nat) (g : Int) : FrP P x (further j sh g) := by
 unfold further; split
 ·exact ⟨trivial, by show (0 : Int) ≠ 10; decide⟩
 ·exact ⟨h, by show (0 : Int) ≠ 10; decide⟩
theorem after_frp {x : X} {n : Int} {k : Bk} (h : FrB x k) : FrP P x (after n k) := by
 cases k with
 | lv r => exact ⟨trivial, h.2⟩
 | ev j sh g => exact further_frp h _ _ _
theorem foundK_frp (hP : OpsRe P) {x : X} {f : Fd} (h : x.op ≠ 5 ∧ x.op ≠ 6) : FrP P x (foundK P x f) := by
 have z : (0 : Int) ≠ 10 := by decide
 unfold foundK
 by_cases h1 : x.op = 1
 ·rw [if_pos h1]; exact ⟨h1, z⟩
 rw [if_neg h1]
 by_cases h2 : x.op = 2
 ·rw [if_pos h2]
  split
  ·exact leave_frp (fun _ => .inr ⟨h2, fun e => by cases e⟩) (by show (9 : Int) ≠ 10; decide)
  ·rename_i h3
   split
   ·exact ⟨put_fr (.inr (.inl ⟨h2, h3, rfl, by assumption⟩)), z⟩
   ·exact ⟨⟨h2, h3⟩, z⟩
 rw [if_neg h2]
 by_cases h3 : x.op = 3
 ·rw [if_pos h3]
  split
  ·exact ⟨put_fr (.inr (.inr ⟨h3, rfl, by assumption⟩)), z⟩
  ·exact ⟨trivial, hP.rel _ _ _⟩
 rw [if_neg h3]
 split
 ·exact ⟨trivial, by rw [hP.peek]; exact z⟩
 ·exact ⟨⟨h1, h2, h3, h⟩, z⟩
theorem entered_frp (hP : OpsRe P) {x : X} {f : Fc} (hf : Fo x f) (w : Nat) (v : Int) (l : List Cel) : FrP P x (entered P x f w v l) := by
 unfold entered
 split
 ·exact ⟨hf, by show (0 : Int) ≠ 10; decide⟩
 ·unfold found
  cases f with
  | key => exact foundK_frp hP hf
  | ev j sh g =>
   dsimp only
   split
   ·exact further_frp hf _ _ _
   ·exact ⟨hf, by show (0 : Int) ≠ 10; decide⟩
theorem on_fr {x : X} (h : x.op = 6) (lv i : Nat) (up : Bool) (m : List Cel) : Fr P x (on lv i up m) := by
 unfold on move; split
 ·split <;> exact h
 ·exact h
theorem step_fr (hP : OpsRe P) {M : Mc} {x : X} {s : CS} (hs : Cw x M.W s) (h : Fr P x s) (hr : Rx x s) :
  Fr P (step P M x s).x (step P M x s).s ∧ ((step P M x s).r.r.e = 10 → M.W 32 = P.room ∧ (step P M x s).M = M) := by
 have z : (0 : Int) ≠ 10 := by decide
 have pp : ∀ {p : CS × Rs}, FrP P x p → Fr P (same M x p).x (same M x p).s ∧ ((same M x p).r.r.e = 10 → M.W 32 = P.room ∧ (same M x p).M = M) := fun h => ⟨h.s, fun e => absurd e h.e⟩
 have z0 : ∀ {q : Prop}, r0.r.e = 10 → q := fun e => absurd e z
 cases s with
 | none => exact ⟨trivial, z0⟩
 | k0 f => refine ⟨?_, z0⟩; show Fr P x (if _ then _ else _); split <;> exact h
 | kE f w => exact pp (entered_frp hP h _ _ _)
 | kF f lv w => refine ⟨?_, z0⟩; show Fr P x (if _ then _ else _); split <;> exact h
 | kG f lv w v m => simp only [step]; split <;> exact ⟨h, z0⟩
 | kH f lv w m =>
  simp only [step]; split
  ·exact ⟨h, z0⟩
  ·exact pp (entered_frp hP h _ _ _)
 | kL f lv w m => exact ⟨h, z0⟩
 | al f =>
  have h1 : x.op = 1 := h
  simp only [step]; split
  ·exact pp (leave_frp (fun _ => .inl ⟨h1, hP.allow _ _ _ _⟩) (by rw [hP.allow]; exact z))
  ·rename_i hc
   have hc : ¬ ((P.allow (P.pol x.pol) f.cell M.clk x.n).1.g = false ∨ x.n = 0) := hc
   refine ⟨put_fr (.inl ⟨h1, ⟨M.clk, rfl⟩, ?_, fun e => hc (.inr e)⟩), z0⟩
   cases e : (P.allow (P.pol x.pol) f.cell M.clk x.n).1.g with
   | true => rfl
   | false => exact absurd (.inl e) hc
 | pk c => exact ⟨trivial, fun e => absurd e (by show (P.peek _ _ _).e ≠ 10; rw [hP.peek]; exact z)⟩
 | a0 f =>
  simp only [step]; split
  ·exact pp (leave_frp (fun _ => .inr ⟨h.1, fun e => by cases e⟩) (by show (5 : Int) ≠ 10; decide))
  ·exact ⟨h, z0⟩
 | a1 f u =>
  simp only [step]; split
  ·rename_i hc
   refine ⟨?_, z0⟩
   show Fr P { x with ser := u + 1 } (put x f _ _)
   have hu : 0 < u + 1 := by have := hs.2.1; omega
   have hC : FrC P { x with ser := u + 1 } f (P.acq (P.pol x.pol) f.cell (u + 1)).2 (P.acq (P.pol x.pol) f.cell (u + 1)).1 := .inr (.inl ⟨h.1, h.2, rfl, hu⟩)
   unfold put; split <;> exact hC
  ·exact ⟨h, z0⟩
 | p0 f c r =>
  simp only [step]; split
  ·rename_i hc; exact ⟨trivial, fun _ => ⟨hc, rfl⟩⟩
  ·exact ⟨h, z0⟩
 | p1 f c r u => simp only [step]; split <;> exact ⟨h, z0⟩
 | pS f c r =>
  have hrr := FrC.rr hP h
  simp only [step]; split
  ·show Fr P x (if f.there = true then leave x r else (.none, ⟨true, r⟩) : CS × Rs).1 ∧ ((if f.there = true then leave x r else (.none, ⟨true, r⟩) : CS × Rs).2.r.e = 10 → _)
   have hp : FrP P x (if f.there = true then leave x r else (.none, ⟨true, r⟩)) := by
    split
    ·refine leave_frp (fun hres => ?_) hrr.1
     rcases hrr.2 with ⟨a, _⟩ | a
     ·have := hr.op hres; omega
     ·exact a
    ·exact ⟨trivial, hrr.1⟩
   exact ⟨hp.s, fun e => absurd e hp.e⟩
  ·refine ⟨?_, z0⟩
   show x.op ≠ 5 ∧ x.op ≠ 6
   rcases h with h | h | h <;> (have := h.1; omega)
 | b0 n k => exact ⟨h, z0⟩
 | b1 n k u =>
  simp only [step]; split
  ·have hp := after_frp (P := P) (n := n) h
   exact ⟨hp.s, fun e => absurd e hp.e⟩
  ·exact ⟨h, z0⟩
 | e0 => exact ⟨h, z0⟩
 | eC j sh g w v m =>
  simp only [step]; split
  ·exact pp (further_frp h _ _ _)
  ·exact ⟨h, z0⟩
 | eS j sh g w v m n =>
  simp only [step]; split
  ·exact ⟨h, z0⟩
  ·exact pp (further_frp h _ _ _)
 | s0 =>
  simp only [step]; split
  ·exact ⟨h, z0⟩
  ·split
   ·exact ⟨trivial, fun e => by cases e⟩
   ·exact ⟨h, z0⟩
 | sM lv => simp only [step]; split <;> exact ⟨h, z0⟩
 | sF lv i => refine ⟨?_, z0⟩; show Fr P x (if _ then _ else _); split <;> exact h
 | sG lv i v m => simp only [step]; split <;> exact ⟨h, z0⟩
 | sH lv i up m => refine ⟨?_, z0⟩; show Fr P x (if _ then _ else _); split; exact h; exact on_fr h _ _ _ _
 | sL lv i up m => exact ⟨on_fr h _ _ _ _, z0⟩
 | sV lv => exact ⟨trivial, fun e => absurd e z⟩
end Core
end Go.Proofs.YtplpofmnhcclbaaGreat

namespace Go.Proofs.YtplpofmnhcclbaaGreat
namespace Core
open Dir (FZ plc upd upW Iw okW lowW upd_same upd_ne pow_pos2)
open Hm (home)
variable {sm : List Int → Int} {P : Ops}
def hel (P : Ops) (M : Mc) : List Int := (allE P M).flatMap (·.held)
theorem allE_nodup (hP : OpsOk sm P) {M : Mc} {B : Int} (h : Iw M.W B) (hI : Ih sm M) : (allE P M).Nodup := by
 rw [List.nodup_iff_pairwise_ne]
 exact (all_ok hP h hI).1.imp fun {a b} hab e => hab (by rw [e])
theorem all_same (hP : OpsOk sm P) {M M' : Mc} {B B' : Int} (h : Iw M.W B) (hI : Ih sm M) (h' : Iw M'.W B') (hI' : Ih sm M') (ho : ∀ k, own sm M' k = own sm M k) : (allE P M').Perm (allE P M) := by
 refine (List.perm_ext_iff_of_nodup (allE_nodup hP h' hI') (allE_nodup hP h hI)).2 fun c => ?_
 rw [(all_ok hP h' hI').2, (all_ok hP h hI).2, ho]
theorem all_put (hP : OpsOk sm P) {M M' : Mc} {B B' : Int} (h : Iw M.W B) (hI : Ih sm M) (h' : Iw M'.W B') (hI' : Ih sm M') {k0 : List Int} {c : Cel} (ho : ∀ k, own sm M' k = if k = k0 then some c else own sm M k) :
  ∃ F, (allE P M').Perm (c :: F) ∧ (allE P M).Perm ((own sm M k0).toList ++ F) := by
 have hk : idn c = k0 := own_idn (by rw [ho, if_pos rfl] : own sm M' k0 = some c)
 have hF : ((allE P M).filter fun e => decide (idn e ≠ k0)).Nodup := (allE_nodup hP h hI).filter _
 have hm : ∀ e, e ∈ (allE P M).filter (fun e => decide (idn e ≠ k0)) ↔ own sm M (idn e) = some e ∧ idn e ≠ k0 := fun e => by
  rw [List.mem_filter, (all_ok hP h hI).2, decide_eq_true_eq]
 refine ⟨_, (List.perm_ext_iff_of_nodup (allE_nodup hP h' hI') (List.nodup_cons.2 ⟨fun h9 => ((hm c).1 h9).2 hk, hF⟩)).2 fun e => ?_, (List.perm_ext_iff_of_nodup (allE_nodup hP h hI) (List.nodup_append.2 ⟨?_, hF, fun a ha b hb e => ?_⟩)).2 fun e => ?_⟩
 ·rw [(all_ok hP h' hI').2, ho, List.mem_cons, hm]
  by_cases e1 : idn e = k0
  ·rw [if_pos e1]
   constructor
   ·intro h9; cases h9; exact .inl rfl
   ·rintro (h9 | h9)
    ·rw [h9]
    ·exact absurd e1 h9.2
  ·rw [if_neg e1]
   constructor
   ·exact fun h9 => .inr ⟨h9, e1⟩
   ·rintro (h9 | h9)
    ·rw [h9] at e1; exact absurd hk e1
    ·exact h9.1
 ·cases own sm M k0 <;> simp
 ·subst e
  have h1 := (hm a).1 hb
  cases e2 : own sm M k0 with
  | none => rw [e2] at ha; simp at ha
  | some d =>
   rw [e2] at ha
   obtain rfl : a = d := by simpa using ha
   exact h1.2 (own_idn e2)
 ·rw [(all_ok hP h hI).2, List.mem_append, hm]
  constructor
  ·intro h9
   by_cases e1 : idn e = k0
   ·left; rw [← e1, h9]; simp
   ·exact .inr ⟨h9, e1⟩
  ·rintro (h9 | h9)
   ·cases e2 : own sm M k0 with
    | none => rw [e2] at h9; simp at h9
    | some d =>
     rw [e2] at h9
     obtain rfl : e = d := by simpa using h9
     rw [own_idn e2, e2]
   ·exact h9.1
theorem all_evict (hP : OpsOk sm P) {M M' : Mc} {B B' : Int} (h : Iw M.W B) (hI : Ih sm M) (h' : Iw M'.W B') (hI' : Ih sm M') {w : Nat} (hw : 1 ≤ w ∧ w < 32) {t : Int}
  (ho : ∀ k, own sm M' k = if home M.W (sm k) = w then look (rest P (M.Hd w) t) k else own sm M k) :
  ∃ G, (allE P M).Perm (allE P M' ++ G) ∧ ∀ c ∈ G, own sm M (idn c) = some c ∧ P.idle c t = true := by
 have hs : Srt (M.Hd w) := hI.word hw
 have hr : Srt (rest P (M.Hd w) t) := hs.filter _
 have hb : ∀ e, own sm M' (idn e) = some e ↔ own sm M (idn e) = some e ∧ ¬ (home M.W (sm (idn e)) = w ∧ P.idle e t = true) := fun e => by
  rw [ho]
  by_cases e1 : home M.W (sm (idn e)) = w
  ·rw [if_pos e1]
   have : own sm M (idn e) = look (M.Hd w) (idn e) := by unfold own; rw [e1]
   rw [this, look_self hr, look_self hs]
   show e ∈ (M.Hd w).filter _ ↔ _
   rw [List.mem_filter]
   simp [e1]
  ·rw [if_neg e1]; simp [e1]
 refine ⟨(allE P M).filter fun e => decide (home M.W (sm (idn e)) = w) && P.idle e t, (List.perm_ext_iff_of_nodup (allE_nodup hP h hI) (List.nodup_append.2 ⟨allE_nodup hP h' hI', (allE_nodup hP h hI).filter _, fun a ha b hb2 e => ?_⟩)).2 fun e => ?_, fun c hc => ?_⟩
 ·subst e
  rw [(all_ok hP h' hI').2, hb] at ha
  have := (List.mem_filter.1 hb2).2
  simp only [Bool.and_eq_true, decide_eq_true_eq] at this
  exact ha.2 this
 ·rw [List.mem_append, (all_ok hP h' hI').2, hb, List.mem_filter, (all_ok hP h hI).2]
  simp only [Bool.and_eq_true, decide_eq_true_eq]
  constructor
  ·intro h9
   by_cases e1 : home M.W (sm (idn e)) = w ∧ P.idle e t = true
   ·exact .inr ⟨h9, e1⟩
   ·exact .inl ⟨h9, e1⟩
  ·rintro (h9 | h9) <;> exact h9.1
 ·obtain ⟨h1, h2⟩ := List.mem_filter.1 hc
  simp only [Bool.and_eq_true, decide_eq_true_eq] at h2
  exact ⟨((all_ok hP h hI).2 c).1 h1, h2.2⟩
structure OpsPm (P : Ops) (V : Cel → Prop) (Q : Int → Int → List Int → Prop) : Prop where
 new : ∀ op pol key, op = 1 ∨ op = 2 ∨ op = 3 → Q op pol key → V ⟨pol, key, 0, []⟩
 allow : ∀ p c t n, V c → V (P.allow p c t n).2 ∧ (P.allow p c t n).2.held = c.held
 acq : ∀ key c n, Q 2 c.pol key → V c → n ∉ c.held → 1 ≤ n → n ≤ MAX → (c.held.length : Int) ≠ (P.pol c.pol).permits →
  (P.acq (P.pol c.pol) c n).1.e = 0 ∧ (P.acq (P.pol c.pol) c n).1.g = true ∧ V (P.acq (P.pol c.pol) c n).2 ∧ (P.acq (P.pol c.pol) c n).2.held.Perm (n :: c.held)
 rel : ∀ key c n, Q 3 c.pol key → V c → (P.rel (P.pol c.pol) c n).1.e = 0 → V (P.rel (P.pol c.pol) c n).2 ∧ c.held.Perm (n :: (P.rel (P.pol c.pol) c n).2.held)
 idle : ∀ c t, V c → P.idle c t = true → c.held = []
variable {V : Cel → Prop} {Q : Int → Int → List Int → Prop}
def hit (M : Mc) : CS → Bool
 | .pS f _ _ => M.W f.w == f.v
 | _ => false
inductive PE (P : Ops) (M : Mc) (x : X) (s : CS) (M' : Mc) : Prop
 | calm (h : (hel P M').Perm (hel P M)) (ho : hit M s = true → x.op = 1)
 | acq (hh : hit M s = true) (ho : x.op = 2) (h : (hel P M').Perm (x.ser :: hel P M)) (hr : ∀ f c r, s = .pS f c r → r.e = 0)
 | rel (hh : hit M s = true) (ho : x.op = 3) (h : (hel P M).Perm (x.n :: hel P M')) (hr : ∀ f c r, s = .pS f c r → r.e = 0)
theorem mem_hel (hP : OpsOk sm P) {M : Mc} {B : Int} (h : Iw M.W B) (hI : Ih sm M) {k : List Int} {c : Cel} (hk : own sm M k = some c) {n : Int} (hn : n ∈ c.held) : n ∈ hel P M :=
 List.mem_flatMap.2 ⟨c, ((all_ok hP h hI).2 c).2 (by rw [own_idn hk]; exact hk), hn⟩
theorem step_pm (hP : OpsOk sm P) (hQ : OpsPm P V Q) {M : Mc} {B : Int} (h : Iw M.W B) (hB : 1 ≤ B ∧ B + 1 < FZ) {x : X} (hx : 0 ≤ x.ser) (h33 : 0 ≤ M.W 33) {s : CS} (hs : Cw x M.W s) (hI : Ih sm M) (hc : Ch sm P x M s) (hf : Fr P x s)
  (hV : ∀ k c, own sm M k = some c → V c) (hq : s ≠ .none → Q x.op x.pol x.key) (hm : x.ser ≤ MAX) (hnew : x.op = 2 → hit M s = true → x.ser ∉ hel P M) :
  (∀ k c, own sm (step P M x s).M k = some c → V c) ∧ PE P M x s (step P M x s).M := by
 have he := step_eff hP h hB hs hI hc
 have iw' := (step_ok (P := P) h hB hx h33 hs).iw
 have ih' := he.ih
 cases he.own with
 | calm hd ho hn =>
  refine ⟨fun k c hk => hV k c (by rw [← ho]; exact hk), .calm ((all_same hP h hI iw' ih' ho).flatMap_right _) fun h9 => ?_⟩
  cases s with
  | pS f c r => exact absurd (by simpa [hit] using h9) (hn f c r rfl)
  | _ => simp [hit] at h9
 | put f c r e hw h0 ho =>
  subst e
  have hk : Kd sm P x M f := hc.1
  have hhit : hit M (.pS f c r) = true := by simpa [hit] using hw
  have hq := hq (by simp)
  have hcell : f.cell = (own sm M (x.pol :: x.key)).getD ⟨x.pol, x.key, 0, []⟩ := by
   rw [h0]
   have := (hP.fnd f.h x.pol x.key hk.srt hk.k.1).2
   rw [← this, hk.fd]; rfl
  have hid : idn f.cell = x.pol :: x.key := Kd.cell hP hk
  have hpol : f.cell.pol = x.pol := by
   have h9 : f.cell.pol :: f.cell.key = x.pol :: x.key := hid
   exact (List.cons.inj h9).1
  have hop : x.op = 1 ∨ x.op = 2 ∨ x.op = 3 := by
   rcases hf with a | a | a
   ·exact .inl a.1
   ·exact .inr (.inl a.1)
   ·exact .inr (.inr a.1)
  have hVf : V f.cell := by
   rw [hcell]
   cases e2 : own sm M (x.pol :: x.key) with
   | none => exact hQ.new _ _ _ hop hq
   | some d => exact hV _ _ e2
  have hmem : ∀ n, n ∈ f.cell.held → n ∈ hel P M := fun n hn => by
   rw [hcell] at hn
   cases e2 : own sm M (x.pol :: x.key) with
   | none => rw [e2] at hn; simp at hn
   | some d => rw [e2] at hn; exact mem_hel hP h hI e2 hn
  obtain ⟨F, p1, p2⟩ := all_put hP h hI iw' ih' ho
  have q1 : (hel P (step P M x (.pS f c r)).M).Perm (c.held ++ F.flatMap (·.held)) := by
   have := p1.flatMap_right (·.held)
   rwa [List.flatMap_cons] at this
  have q2 : (hel P M).Perm (f.cell.held ++ F.flatMap (·.held)) := by
   have h9 := p2.flatMap_right (·.held)
   rw [List.flatMap_append] at h9
   have e9 : (own sm M (x.pol :: x.key)).toList.flatMap (·.held) = f.cell.held := by
    rw [hcell]
    cases e2 : own sm M (x.pol :: x.key) with
    | none => rfl
    | some d => simp
   rw [e9] at h9; exact h9
  have vv : V c → ∀ k d, own sm (step P M x (.pS f c r)).M k = some d → V d := fun hc9 k d hk9 => by
   rw [ho] at hk9
   split at hk9
   ·cases hk9; exact hc9
   ·exact hV _ _ hk9
  rcases hf with ⟨h1, ⟨t, ht⟩, h3, h4⟩ | ⟨h1, h2, h3, h4⟩ | ⟨h1, h2, h3⟩
  ·have g := hQ.allow (P.pol x.pol) f.cell t x.n hVf
   rw [ht] at g
   have g2 : c.held = f.cell.held := g.2
   refine ⟨vv g.1, .calm ?_ fun _ => h1⟩
   rw [g2] at q1
   exact q1.trans q2.symm
  ·have g := hQ.acq x.key f.cell x.ser (by rw [hpol, ← h1]; exact hq) hVf (fun h9 => hnew h1 hhit (hmem _ h9)) (by omega) hm (by rw [hpol]; exact h2)
   rw [hpol, h3] at g
   refine ⟨vv g.2.2.1, .acq hhit h1 ?_ fun f' c' r' e => by cases e; exact g.1⟩
   refine q1.trans (((g.2.2.2 : c.held.Perm (x.ser :: f.cell.held)).append_right _).trans ?_)
   exact (q2.symm.cons x.ser)
  ·have g := hQ.rel x.key f.cell x.n (by rw [hpol, ← h1]; exact hq) hVf (by rw [hpol, h2]; exact h3)
   rw [hpol, h2] at g
   refine ⟨vv g.1, .rel hhit h1 ?_ fun f' c' r' e => by cases e; exact h3⟩
   refine q2.trans (((g.2 : f.cell.held.Perm (x.n :: c.held)).append_right _).trans ?_)
   exact (q1.symm.cons x.n)
 | evict j sh g w v m n e hw t ht hm' hn ho =>
  subst e
  have hw2 : 1 ≤ w ∧ w < 32 := ⟨hs.2.2.1, hs.2.2.2.1⟩
  obtain ⟨G, p1, p2⟩ := all_evict hP h hI iw' ih' hw2 (t := t) fun k => by rw [ho, hm']
  refine ⟨fun k c hk => ?_, .calm ?_ fun h9 => by simp [hit] at h9⟩
  ·have h1 := ((all_ok hP iw' ih').2 c).2 (by rw [own_idn hk]; exact hk)
   have h2 := p1.mem_iff.2 (List.mem_append_left G h1)
   exact hV _ _ (((all_ok hP h hI).2 c).1 h2)
  ·have h9 := p1.flatMap_right (·.held)
   rw [List.flatMap_append] at h9
   have e9 : G.flatMap (·.held) = [] := by
    rw [List.flatMap_eq_nil_iff]
    intro c hc
    obtain ⟨g1, g2⟩ := p2 c hc
    exact hQ.idle c t (hV _ _ g1) g2
   rw [e9, List.append_nil] at h9
   exact h9.symm
theorem step_calm (hP : OpsOk sm P) {M : Mc} {B : Int} (h : Iw M.W B) (hB : 1 ≤ B ∧ B + 1 < FZ) {x : X} {s : CS} (hs : Cw x M.W s) (hI : Ih sm M) (hc : Ch sm P x M s) (h1 : hit M s = false) (h2 : ∀ j sh g w v m n, s ≠ .eS j sh g w v m n) (k : List Int) : own sm (step P M x s).M k = own sm M k := by
 cases (step_eff hP h hB hs hI hc).own with
 | calm hd ho hn => exact ho k
 | put f c r e hw h0 ho => subst e; simp [hit, hw] at h1
 | evict j sh g w v m n e hw t ht hm' hn ho => exact (h2 _ _ _ _ _ _ _ e).elim
def swB (x : X) : CS → Bool
 | .b0 _ (.lv r) => x.op == 2 && r.e == 0
 | .b1 _ (.lv r) _ => x.op == 2 && r.e == 0
 | _ => false
def okD (r : Rs) : Bool := r.done && r.r.e == 0
def b1 (b : Bool) : Int := if b = true then 1 else 0
theorem leave_sw {x : X} (h : x.op = 2) (r : Rpl) : b1 (swB x (leave x r).1) + b1 (okD (leave x r).2) = if r.e = 0 then 1 else 0 := by
 unfold leave
 by_cases e : x.res = true
 ·rw [if_pos e]; simp [swB, okD, r0, h, b1]
 ·rw [if_neg e]; simp [swB, okD, b1]
theorem put_sw (x y : X) (f : Fd) (c : Cel) (r : Rpl) : swB x (put y f c r) = false := by unfold put; split <;> rfl
theorem entered_sw {x : X} (h : x.op = 2) {f : Fc} (hf : Fo x f) (w : Nat) (v : Int) (l : List Cel) : swB x (entered P x f w v l).1 = false ∧ okD (entered P x f w v l).2 = false ∨ b1 (swB x (entered P x f w v l).1) + b1 (okD (entered P x f w v l).2) = 0 := by
 unfold entered
 split
 ·exact .inl ⟨rfl, rfl⟩
 ·unfold found
  cases f with
  | key =>
   show swB x (foundK P x (fdOf P x w v l)).1 = false ∧ okD (foundK P x (fdOf P x w v l)).2 = false ∨ b1 (swB x (foundK P x (fdOf P x w v l)).1) + b1 (okD (foundK P x (fdOf P x w v l)).2) = 0
   unfold foundK
   rw [if_neg (by omega), if_pos h]
   split
   ·right; rw [leave_sw h]; rfl
   ·split
    ·exact .inl ⟨put_sw _ _ _ _ _, rfl⟩
    ·exact .inl ⟨rfl, rfl⟩
  | ev j sh g => have : x.op = 5 := hf; omega
theorem b1_0 {a b : Bool} (h : a = false ∧ b = false ∨ b1 a + b1 b = 0) : b1 a + b1 b = 0 := by
 rcases h with ⟨h1, h2⟩ | h
 ·rw [h1, h2]; rfl
 ·exact h
theorem step_ret2 {M : Mc} {x : X} {s : CS} (h : Fr P x s) (ho : x.op = 2) (hp : hit M s = true → ∀ f c r, s = .pS f c r → r.e = 0) :
  b1 (swB (step P M x s).x (step P M x s).s) + b1 (okD (step P M x s).r) = b1 (swB x s) + b1 (hit M s) := by
 have no5 : ∀ {q : Prop}, x.op = 5 → q := fun e => by omega
 have no6 : ∀ {q : Prop}, x.op = 6 → q := fun e => by omega
 have no1 : ∀ {q : Prop}, x.op = 1 → q := fun e => by omega
 have en : ∀ {f : Fc} (hf : Fo x f) (w : Nat) (v : Int) (l : List Cel), b1 (swB x (entered P x f w v l).1) + b1 (okD (entered P x f w v l).2) = 0 := fun hf w v l => b1_0 (entered_sw ho hf w v l)
 cases s with
 | none => rfl
 | k0 f => simp only [step]; split <;> rfl
 | kE f w => exact en h _ _ _
 | kF f lv w => simp only [step]; split <;> rfl
 | kG f lv w v m => simp only [step]; split <;> rfl
 | kH f lv w m =>
  simp only [step]; split
  ·rfl
  ·exact en h _ _ _
 | kL f lv w m => rfl
 | al f => exact no1 h
 | pk c => exact absurd ho h.2.1
 | a0 f =>
  simp only [step]; split
  ·show b1 (swB x (leave x (er 5)).1) + b1 (okD (leave x (er 5)).2) = 0
   rw [leave_sw ho]; rfl
  ·rfl
 | a1 f u =>
  simp only [step]; split
  ·show b1 (swB _ (put x f _ _)) + b1 (okD r0) = 0
   rw [put_sw]; rfl
  ·rfl
 | p0 f c r => simp only [step]; split <;> rfl
 | p1 f c r u => simp only [step]; split <;> rfl
 | pS f c r =>
  by_cases hm : M.W f.w = f.v
  ·have hr := hp (by simpa [hit] using hm) f c r rfl
   simp only [step, if_pos hm]
   show b1 (swB x (if f.there = true then leave x r else (.none, ⟨true, r⟩) : CS × Rs).1) + b1 (okD (if f.there = true then leave x r else (.none, ⟨true, r⟩) : CS × Rs).2) = 0 + b1 (M.W f.w == f.v)
   have e1 : b1 (M.W f.w == f.v) = 1 := by simp [hm, b1]
   rw [e1]
   split
   ·rw [leave_sw ho, if_pos hr]; rfl
   ·simp [swB, okD, hr, b1]
  ·simp only [step, if_neg hm]
   have e1 : b1 (M.W f.w == f.v) = 0 := by simp [hm, b1]
   show 0 + 0 = 0 + b1 (M.W f.w == f.v)
   rw [e1]
 | b0 n k => cases k <;> rfl
 | b1 n k u =>
  simp only [step]; split
  ·cases k with
   | lv r => show b1 (swB x .none) + b1 (okD ⟨true, r⟩) = b1 (x.op == 2 && r.e == 0) + 0; simp [swB, okD, ho, b1]
   | ev j sh g => exact no5 h
  ·cases k <;> rfl
 | e0 => exact no5 h
 | eC j sh g w v m => exact no5 h
 | eS j sh g w v m n => exact no5 h
 | s0 => exact no6 h
 | sM lv => exact no6 h
 | sF lv i => exact no6 h
 | sG lv i v m => exact no6 h
 | sH lv i up m => exact no6 h
 | sL lv i up m => exact no6 h
 | sV lv => exact no6 h
end Core
end Go.Proofs.YtplpofmnhcclbaaGreat
