/- Parts of the proof, one behind the other: Ce1, Ce4, Br9, Ce2. Lemmas and contracts of functions; no condition of its own. -/
import Derived.Test.YtplpofmnhcclbaaGreatMB16
set_option linter.unusedVariables false
set_option linter.unusedSimpArgs false
set_option maxHeartbeats 1000000
namespace Go.Proofs.YtplpofmnhcclbaaGreat
open Go.RowKit
set_option maxRecDepth 100000
namespace Core
open Dir (FZ plc upd Iw upd_same upd_ne plc_sh sh_32)
variable {P : Ops}
def Gf : Fc → Prop
 | .key => True
 | .ev j _ g => 0 ≤ g ∧ g ≤ j * 16000000
def Gb (n : Int) : Bk → Prop
 | .lv _ => True
 | .ev j _ g => (0 ≤ g ∧ g ≤ j * 16000000) ∧ n ≤ 16000000
def Gk : CS → Prop
 | .k0 f => Gf f
 | .kE f _ => Gf f
 | .kF f _ _ => Gf f
 | .kG f _ _ _ _ => Gf f
 | .kH f _ _ _ => Gf f
 | .kL f _ _ _ => Gf f
 | .eC j _ g _ _ _ => 0 ≤ g ∧ g ≤ j * 16000000
 | .eS j _ g _ _ _ n => (0 ≤ g ∧ g ≤ j * 16000000) ∧ n ≤ 16000000
 | .b0 n k => Gb n k
 | .b1 n k _ => Gb n k
 | _ => True
theorem leave_gk (x : X) (r : Rpl) : Gk (leave x r).1 := by unfold leave; split <;> trivial
theorem put_gk (x : X) (f : Fd) (c : Cel) (r : Rpl) : Gk (put x f c r) := by unfold put; split <;> trivial
theorem further_gk {j sh : Nat} {g : Int} (h : 0 ≤ g ∧ g ≤ ((j : Int) + 1) * 16000000) : Gk (further j sh g).1 := by
 unfold further
 split
 ·trivial
 ·show 0 ≤ g ∧ g ≤ ((j + 1 : Nat) : Int) * 16000000
  omega
theorem after_gk {n : Int} {k : Bk} (hn : 0 ≤ n) (h : Gb n k) : Gk (after n k).1 := by
 cases k with
 | lv r => trivial
 | ev j sh g =>
  obtain ⟨⟨h1, h2⟩, h3⟩ := h
  exact further_gk (by omega)
theorem foundK_gk (x : X) (f : Fd) : Gk (foundK P x f).1 := by
 unfold foundK
 split
 ·trivial
 split
 ·split
  ·exact leave_gk _ _
  ·split
   ·exact put_gk _ _ _ _
   ·trivial
 split
 ·split
  ·exact put_gk _ _ _ _
  ·trivial
 split <;> trivial
theorem entered_gk {x : X} {f : Fc} (h : Gf f) (w : Nat) (v : Int) (l : List Cel) : Gk (entered P x f w v l).1 := by
 unfold entered
 split
 ·exact h
 ·unfold found
  split
  ·exact foundK_gk _ _
  ·rename_i j sh g
   have h' : 0 ≤ g ∧ g ≤ (j : Int) * 16000000 := h
   split
   ·exact further_gk (by omega)
   ·exact h
theorem on_gk (lv i : Nat) (up : Bool) (h : List Cel) : Gk (on lv i up h) := by
 unfold on move
 split
 ·split <;> trivial
 ·trivial
theorem step_gk {ps : List Pol} {room : Int} {n : Nat} (hn : n ≤ 16000000) {M : Mc} {x : X} {s : CS} (hs : Cw x M.W s) (hk : okH ps n x s) (h : Gk s) : Gk (step (coreOps ps room) M x s).s := by
  cases s with
  | none => trivial
  | k0 f => simp only [step]; split <;> exact h
  | kE f w => exact entered_gk h _ _ _
  | kF f lv w => simp only [step]; split <;> exact h
  | kG f lv w v l => simp only [step]; split <;> exact h
  | kH f lv w l =>
    simp only [step]; split
    · exact h
    · exact entered_gk h _ _ _
  | kL f lv w l => exact h
  | al f =>
    simp only [step]; split
    · exact leave_gk _ _
    · exact put_gk _ _ _ _
  | pk c => trivial
  | a0 f =>
    simp only [step]; split
    · exact leave_gk _ _
    · trivial
  | a1 f u =>
    simp only [step]; split
    · exact put_gk _ _ _ _
    · trivial
  | p0 f c r => simp only [step]; split <;> trivial
  | p1 f c r u => simp only [step]; split <;> trivial
  | pS f c r =>
    simp only [step]; split
    · show Gk (if f.there = true then leave x r else (.none, ⟨true, r⟩)).1
      split
      · exact leave_gk _ _
      · trivial
    · trivial
  | b0 k b => exact h
  | b1 k b u =>
    simp only [step]; split
    · exact after_gk (by have := hs.1; omega) h
    · exact h
  | e0 => show (0 : Int) ≤ 0 ∧ (0 : Int) ≤ ((0 : Nat) : Int) * 16000000; omega
  | eC j sh g w v l =>
    have h' : 0 ≤ g ∧ g ≤ (j : Int) * 16000000 := h
    have hl : l.length ≤ n := Hc.len hk
    simp only [step]; split
    · exact further_gk (by omega)
    · exact ⟨h', by omega⟩
  | eS j sh g w v m k =>
    obtain ⟨h', hk'⟩ := h
    simp only [step]; split
    · exact ⟨h', hk'⟩
    · exact further_gk (by omega)
  | s0 => simp only [step]; split
          · trivial
          · split <;> trivial
  | sM lv => simp only [step]; split <;> trivial
  | sF lv i => simp only [step]; split <;> trivial
  | sG lv i v l => simp only [step]; split <;> trivial
  | sH lv i up l =>
    simp only [step]; split
    · trivial
    · exact on_gk _ _ _ _
  | sL lv i up l => exact on_gk _ _ _ _
  | sV lv => trivial
def Uk (n : Nat) : CS → Prop
 | .a1 _ u => 0 ≤ u ∧ u ≤ n
 | .p1 _ _ _ u => 0 ≤ u ∧ u ≤ 4096
 | .b1 _ _ u => 0 ≤ u ∧ u ≤ 4096
 | _ => True
theorem Uk.mono {n m : Nat} (e : n ≤ m) {s : CS} (h : Uk n s) : Uk m s := by
 cases s <;> first | trivial | exact h | (have h1 := h.1; have h2 := h.2; exact ⟨h1, by omega⟩)
theorem leave_uk (n : Nat) (x : X) (r : Rpl) : Uk n (leave x r).1 := by unfold leave; split <;> trivial
theorem put_uk (n : Nat) (x : X) (f : Fd) (c : Cel) (r : Rpl) : Uk n (put x f c r) := by unfold put; split <;> trivial
theorem further_uk (n : Nat) (j sh : Nat) (g : Int) : Uk n (further j sh g).1 := by unfold further; split <;> trivial
theorem foundK_uk (n : Nat) (x : X) (f : Fd) : Uk n (foundK P x f).1 := by
 unfold foundK
 split
 ·trivial
 split
 ·split
  ·exact leave_uk _ _ _
  ·split
   ·exact put_uk _ _ _ _ _
   ·trivial
 split
 ·split
  ·exact put_uk _ _ _ _ _
  ·trivial
 split <;> trivial
theorem entered_uk (n : Nat) (x : X) (f : Fc) (w : Nat) (v : Int) (l : List Cel) : Uk n (entered P x f w v l).1 := by
 unfold entered
 split
 ·trivial
 ·unfold found
  split
  ·exact foundK_uk _ _ _
  ·split
   ·exact further_uk _ _ _ _
   ·trivial
theorem on_uk (n lv i : Nat) (up : Bool) (h : List Cel) : Uk n (on lv i up h) := by
 unfold on move
 split
 ·split <;> trivial
 ·trivial
theorem step_uk {n : Nat} {M : Mc} (h32 : 0 ≤ M.W 32 ∧ M.W 32 ≤ 4096) (h33 : 0 ≤ M.W 33 ∧ M.W 33 ≤ n) {x : X} {s : CS} (h : Uk n s) : Uk n (step P M x s).s := by
  cases s with
  | none => trivial
  | k0 f => simp only [step]; split <;> trivial
  | kE f w => exact entered_uk _ _ _ _ _ _
  | kF f lv w => simp only [step]; split <;> trivial
  | kG f lv w v l => simp only [step]; split <;> trivial
  | kH f lv w l =>
    simp only [step]; split
    · trivial
    · exact entered_uk _ _ _ _ _ _
  | kL f lv w l => trivial
  | al f =>
    simp only [step]; split
    · exact leave_uk _ _ _
    · exact put_uk _ _ _ _ _
  | pk c => trivial
  | a0 f =>
    simp only [step]; split
    · exact leave_uk _ _ _
    · exact h33
  | a1 f u =>
    simp only [step]; split
    · exact put_uk _ _ _ _ _
    · trivial
  | p0 f c r =>
    simp only [step]; split
    · trivial
    · exact h32
  | p1 f c r u => simp only [step]; split <;> trivial
  | pS f c r =>
    simp only [step]; split
    · show Uk n (if f.there = true then leave x r else (.none, ⟨true, r⟩)).1
      split
      · exact leave_uk _ _ _
      · trivial
    · trivial
  | b0 k b => exact h32
  | b1 k b u =>
    simp only [step]; split
    · show Uk n (after k b).1
      cases b with
      | lv r => trivial
      | ev j sh g => exact further_uk _ _ _ _
    · trivial
  | e0 => trivial
  | eC j sh g w v l =>
    simp only [step]; split
    · exact further_uk _ _ _ _
    · trivial
  | eS j sh g w v m k =>
    simp only [step]; split
    · trivial
    · exact further_uk _ _ _ _
  | s0 => simp only [step]; split
          · trivial
          · split <;> trivial
  | sM lv => simp only [step]; split <;> trivial
  | sF lv i => simp only [step]; split <;> trivial
  | sG lv i v l => simp only [step]; split <;> trivial
  | sH lv i up l =>
    simp only [step]; split
    · trivial
    · exact on_uk _ _ _ _ _
  | sL lv i up l => exact on_uk _ _ _ _ _
  | sV lv => trivial
theorem step_clk (M : Mc) (x : X) (s : CS) : (step P M x s).M.clk = M.clk := by
 cases s with
 | s0 => simp only [step]; split; rfl; split <;> rfl
 | _ => (first | rfl | (simp only [step]; split <;> rfl))
theorem owes_le {f : Nat → Int} : ∀ {n i : Nat}, i < n → (∀ j, j < n → 0 ≤ f j) → f i ≤ sumI n f
 | 0, i, h, _ => by omega
 | n + 1, i, h, hh => by
  simp only [sumI]
  have h0 := sumI_ge (f := f) (n := n) fun j hj => hh j (by omega)
  by_cases e : i = n
  ·subst e; omega
  ·have := owes_le (f := f) (n := n) (i := i) (by omega) fun j hj => hh j (by omega)
   have := hh n (by omega)
   omega
end Core
structure LawC (ps : List Pol) (room : Int) (k : Nat) (M : Core.Mc) (S : Nat → Core.Wk) (xs : Nat → XB) (nl : Nat) (cnt : Int) : Prop where
 all : Core.All sumK (coreOps ps room) M S ((k : Int) + 1)
 busy : Busy S
 hd : ∀ w, Hc ps k (M.Hd w)
 ok : ∀ j, Core.okH ps k (S j).x (S j).s
 gk : ∀ j, Core.Gk (S j).s
 uk : ∀ j, Core.Uk k (S j).s
 xe : ∀ j, (S j).s ≠ .none → xs (slot j) = ⟨9, xF j (S j).x⟩
 xl : ∀ i j, SV.Lt 1 ((xs i).f j)
 nl : nl ≤ 128
 cnt : cnt = (k : Int) + 1
 clk : 0 ≤ M.clk ∧ M.clk ≤ 4611686018427387903
 c33 : M.W 33 ≤ k
 ps : polsE ps = 0
 room : 1 ≤ room ∧ room ≤ 4096
variable {ps : List Pol} {room : Int} {k : Nat} {M : Core.Mc} {S : Nat → Core.Wk} {xs : Nat → XB} {nl : Nat} {cnt : Int}
theorem LawC.c32 (h : LawC ps room k M S xs nl cnt) : 0 ≤ M.W 32 ∧ M.W 32 ≤ 4096 := by
 have h1 := h.all.ge
 have h2 := h.all.room
 have h3 := h.room
 have h4 : (coreOps ps room).room = room := rfl
 omega
theorem LawC.cok (h : LawC ps room k M S xs nl cnt) (hk : k ≤ 1000000) (w : Nat) (hw : w < 64) : COK ps room w (gOf (coreOps ps room) 4 S) M xs nl cnt :=
 ⟨by omega, by omega, h.nl, by have := h.cnt; omega, by have := h.cnt; omega, gOf_lt4 _ _, h.xl, h.all.inv.iw.d.1, h.all.inv.iw.d.2, fun w => (h.hd w).mono (by omega), h.ps, h.room, h.c32, by have := h.all.inv.c33; have := h.c33; omega⟩
open Core in
theorem LawC.okC (h : LawC ps room k M S xs nl cnt) (hk : k ≤ 1000000) {w : Nat} (hw : w < 64) : okC ps M (S w).x (S w).s := by
 have hcw := h.all.inv.cw w
 have hH := h.ok w
 have hG := h.gk w
 have hU := h.uk w
 have hO : owes (S w).x (S w).s ≤ M.W 32 := by
  have h1 := owes_le (f := fun i => owes (S i).x (S i).s) (n := 64) hw fun j _ => owes_ge (h.all.inv.cw j)
  have h2 := h.all.cnt
  omega
 have p32 : ∀ lv, lv ≤ 4 → ∀ s : Int, 2 ^ lv ≤ Dir.plc lv s ∧ Dir.plc lv s < 32 := fun lv hl s => by
  obtain ⟨i, h1, h2⟩ := Dir.plc_sh lv s
  rw [h2]; exact ⟨by omega, (Dir.sh_32 hl h1).2⟩
 generalize (S w).x = x at hcw hH hO ⊢
 generalize (S w).s = s at hcw hH hG hU hO ⊢
 cases s with
 | kE f w => exact ⟨hcw.2.2, hH, hcw.1⟩
 | kF f lv w => exact ⟨hcw.2.1, by rw [hcw.2.2.1]; exact (p32 _ (by have := hcw.2.1; omega) _).2⟩
 | kG f lv w v l => exact ⟨⟨hcw.2.1, by rw [hcw.2.2.1]; exact (p32 _ (by have := hcw.2.1; omega) _).2⟩, hH.2.2, hcw.2.2.2.2⟩
 | kH f lv w l => exact ⟨by rw [hcw.2.2.2.1]; exact (p32 _ hcw.2.2.1 _).2, hH.1, hcw.1⟩
 | kL f lv w l => exact ⟨⟨hcw.2.2.1, by rw [hcw.2.2.2.1]; exact (p32 _ hcw.2.2.1 _).1, by rw [hcw.2.2.2.1]; exact (p32 _ hcw.2.2.1 _).2⟩, Hc.mono hH.2 (by omega)⟩
 | pk c => exact hH
 | a1 f u => have := hU.1; have := hU.2; exact ⟨by omega, by omega⟩
 | p1 f c r u => have := hU.1; have := hU.2; exact ⟨by omega, by omega⟩
 | pS f c r => exact ⟨⟨hH.1.k, Fdk.mono (by omega) hH.1, hH.2⟩, ⟨hcw.1.1, hcw.1.2.1⟩, Int.le_of_lt hcw.1.2.2.1, hcw.1.2.2.2⟩
 | b1 n b u =>
  have h1 := hU.1; have h2 := hU.2
  have hO : n ≤ M.W 32 := hO
  refine ⟨⟨⟨hcw.1, ?_⟩, by omega, by omega⟩, fun e => by omega, hcw.2, ?_⟩
  ·have := h.c32; omega
  ·rintro j sh gn rfl
   obtain ⟨⟨g1, g2⟩, g3⟩ := hG
   have hb : j < sh ∧ sh ≤ 16 := hcw.2
   exact ⟨g1, by omega⟩
 | eC j sh g w v l => exact ⟨⟨hcw.1, hcw.2.1⟩, Hc.mono hH (by omega)⟩
 | eS j sh g w v m n =>
  obtain ⟨a, b, c, d, e, f, g'⟩ := hcw
  exact ⟨⟨a, b⟩, ⟨c, d⟩, ⟨Int.le_of_lt e, f⟩, g', by have := hG.2; omega⟩
 | sM lv => exact hcw
 | sF lv i => exact ⟨hcw.1, hcw.2.1⟩
 | sG lv i v l => exact ⟨⟨hcw.1, hcw.2.1⟩, hH.2, hcw.2.2.2.2⟩
 | sH lv i up l => exact ⟨hcw.1, hcw.2.1⟩
 | sL lv i up l => exact ⟨⟨hcw.1, hcw.2.1⟩, Hc.mono hH (by omega)⟩
 | sV lv => exact hcw.1
 | _ => trivial
open Core in
theorem step_c33 {M : Mc} {B : Int} (h : Dir.Iw M.W B) (hB : 1 ≤ B ∧ B + 1 < Dir.FZ) {x : X} (hx : 0 ≤ x.ser) (h33 : 0 ≤ M.W 33) {s : CS} (hs : Cw x M.W s) {P : Ops} : (Core.step P M x s).M.W 33 ≤ M.W 33 + 1 := by
 cases (step_ok (P := P) h hB hx h33 hs).chg with
 | no h => rw [h]; omega
 | d h1 h2 => rw [h1, Dir.upd_ne _ _ (by omega)]; omega
 | fz w h0 h1 h2 => rw [h2, Dir.upd_ne _ _ (by omega)]; omega
 | lay w h0 h1 h2 => rw [h2, Dir.upd_ne _ _ (by omega)]; omega
 | key w h0 h1 h2 => rw [h2, Dir.upd_ne _ _ (by omega)]; omega
 | cnt y h2 => rw [h2, Dir.upd_ne _ _ (by omega)]; omega
 | ser h1 h2 => rw [h2, Dir.upd_same]; omega
theorem LawC.step (h : LawC ps room k M S xs nl cnt) (hk : k ≤ 1000000) {w : Nat} (hw : w < 8 ∨ w = 9) (hn : isC (S w).s = true) :
  LawC ps room (k + 1) (Core.mx (coreOps ps room) M S w) (Core.nx (coreOps ps room) M S w) (xsU xs (slot w) ⟨9, xF w (Core.step (coreOps ps room) M (S w).x (S w).s).x⟩) (noteN nl) (cnt + 1) := by
 have hw64 : w < 64 := by omega
 have hB : ((k : Int) + 1) + 1 < Dir.FZ := by unfold Dir.FZ; omega
 have hI := h.all.inv
 have h1 := Core.step_H (room := room) hI.iw h.hd (hI.cw w) (h.ok w)
 have h33 := step_c33 (P := coreOps ps room) hI.iw ⟨hI.b, hB⟩ (hI.ser w) hI.c33 (hI.cw w)
 have at_ : ∀ {q : Nat → Core.Wk → Prop}, q w ⟨(Core.step (coreOps ps room) M (S w).x (S w).s).x, (Core.step (coreOps ps room) M (S w).x (S w).s).s⟩ → (∀ j, j ≠ w → q j (S j)) → ∀ j, q j (Core.nx (coreOps ps room) M S w j) := fun {q} g1 g2 j => by
  unfold Core.nx
  by_cases e : j = w
  ·subst e; rw [Dir.upd_same]; exact g1
  ·rw [Dir.upd_ne _ _ e]; exact g2 j e
 refine ⟨?_, ?_, h1.1, at_ (q := fun _ z => Core.okH ps (k + 1) z.x z.s) h1.2 fun j _ => (h.ok j).mono (Nat.le_succ k), at_ (q := fun _ z => Core.Gk z.s) (Core.step_gk (by omega) (hI.cw w) (h.ok w) (h.gk w)) fun j _ => h.gk j,
  at_ (q := fun _ z => Core.Uk (k + 1) z.s) ((Core.step_uk h.c32 ⟨hI.c33, h.c33⟩ (h.uk w)).mono (Nat.le_succ k)) fun j _ => (h.uk j).mono (Nat.le_succ k), ?_, xsU_lt h.xl _ _ _, noteN_le h.nl, by have := h.cnt; omega, ?_, ?_, h.ps, h.room⟩
 ·have := h.all.step (coreOps_ok ps room) hB hw64
  rwa [show ((k + 1 : Nat) : Int) + 1 = (k : Int) + 1 + 1 by omega]
 ·exact at_ (q := fun j z => z.s ≠ .none → j < 8 ∨ j = 9) (fun _ => hw) fun j _ => h.busy j
 ·refine at_ (q := fun j z => z.s ≠ .none → xsU xs (slot w) ⟨9, xF w (Core.step (coreOps ps room) M (S w).x (S w).s).x⟩ (slot j) = ⟨9, xF j z.x⟩) (fun _ => ?_) fun j hne hs => ?_
  ·unfold xsU; rw [Nat.beq_refl, cond_true]
  ·have := slot_ne h.busy hw hs hne
   unfold xsU
   have hb : Nat.beq (slot j) (slot w) = false := by
    cases e : Nat.beq (slot j) (slot w) with
    | false => rfl
    | true => exact absurd (Nat.eq_of_beq_eq_true e) this
   rw [hb, cond_false]; exact h.xe j hs
 ·unfold Core.mx; rw [Core.step_clk]; exact h.clk
 ·have := h.c33
  show (Core.step (coreOps ps room) M (S w).x (S w).s).M.W 33 ≤ _
  omega
theorem LawC.start (h : LawC ps room k M S xs nl cnt) {w : Nat} (hw : w < 8 ∨ w = 9) (hn : (S w).s = .none) {op pol : Int} {key : List Int} {n : Int} (hk : op ≠ 5 → op ≠ 6 → Core.Kx ps (newX op pol key n)) :
  LawC ps room k M (Dir.upd S w ⟨newX op pol key n, Core.first (newX op pol key n)⟩) (xsU xs (slot w) ⟨9, xF w (newX op pol key n)⟩) nl cnt := by
 have hl := polsE_len h.ps
 have hx : Core.okNew sumK (newX op pol key n) := by
  refine ⟨rfl, rfl, ?_⟩
  by_cases h5 : op = 5
  ·exact .inl h5
  ·by_cases h6 : op = 6
   ·exact .inr (.inl h6)
   ·have hq := hk h5 h6
    have hid : okId pol key := by
     have h1 : 0 ≤ pol ∧ pol < ps.length := hq.pol
     exact ⟨h1.1, by omega, hq.key⟩
    refine .inr (.inr ⟨hid, ?_⟩)
    show sumK (identL pol key) = sumK (pol :: key)
    rw [identL_ok hid]
 have at_ : ∀ {q : Nat → Core.Wk → Prop}, q w ⟨newX op pol key n, Core.first (newX op pol key n)⟩ → (∀ j, j ≠ w → q j (S j)) → ∀ j, q j (Dir.upd S w ⟨newX op pol key n, Core.first (newX op pol key n)⟩ j) := fun {q} g1 g2 j => by
  by_cases e : j = w
  ·subst e; rw [Dir.upd_same]; exact g1
  ·rw [Dir.upd_ne _ _ e]; exact g2 j e
 refine ⟨h.all.start (by omega) hn hx, at_ (q := fun j z => z.s ≠ .none → j < 8 ∨ j = 9) (fun _ => hw) fun j _ => h.busy j, h.hd, at_ (q := fun _ z => Core.okH ps k z.x z.s) ?_ fun j _ => h.ok j, at_ (q := fun _ z => Core.Gk z.s) ?_ fun j _ => h.gk j, at_ (q := fun _ z => Core.Uk k z.s) ?_ fun j _ => h.uk j, ?_, xsU_lt h.xl _ _ _, h.nl, h.cnt, h.clk, h.c33, h.ps, h.room⟩
 ·show Core.okH ps k (newX op pol key n) (Core.first (newX op pol key n))
  unfold Core.first
  split
  ·trivial
  ·split
   ·trivial
   ·exact hk (by assumption) (by assumption)
 ·show Core.Gk (Core.first (newX op pol key n))
  unfold Core.first; (repeat' split) <;> trivial
 ·show Core.Uk k (Core.first (newX op pol key n))
  unfold Core.first; (repeat' split) <;> trivial
 ·refine at_ (q := fun j z => z.s ≠ .none → xsU xs (slot w) ⟨9, xF w (newX op pol key n)⟩ (slot j) = ⟨9, xF j z.x⟩) (fun _ => ?_) fun j hne hs => ?_
  ·unfold xsU; rw [Nat.beq_refl, cond_true]
  ·have := slot_ne h.busy hw hs hne
   unfold xsU
   have hb : Nat.beq (slot j) (slot w) = false := by
    cases e : Nat.beq (slot j) (slot w) with
    | false => rfl
    | true => exact absurd (Nat.eq_of_beq_eq_true e) this
   rw [hb, cond_false]; exact h.xe j hs
theorem LawC.tick (h : LawC ps room k M S xs nl cnt) {t : Int} (ht : M.clk ≤ t ∧ t ≤ 4611686018427387903) : LawC ps room k ⟨M.W, M.Hd, t⟩ S xs nl cnt :=
 ⟨h.all.tick ht.1, h.busy, h.hd, h.ok, h.gk, h.uk, h.xe, h.xl, h.nl, h.cnt, by have := h.clk; exact ⟨by show 0 ≤ t; omega, ht.2⟩, h.c33, h.ps, h.room⟩
theorem LawC.zero (hp : polsE ps = 0) (hr : 1 ≤ room ∧ room ≤ 4096) : LawC ps room 0 Core.M0 (fun _ => ⟨default, .none⟩) (fun _ => ⟨0, fun _ => .any⟩) (noteN 0) 1 :=
 ⟨.zero (show (0 : Int) ≤ room by omega), fun _ h => absurd rfl h, fun _ => Hc.nil, fun _ => trivial, fun _ => trivial, fun _ => trivial, fun _ h => absurd rfl h, fun _ _ => .any, by decide, rfl, ⟨Int.le_refl _, by show (0 : Int) ≤ _; decide⟩, by show Dir.M0.W 33 ≤ _; decide, hp, hr⟩
end Go.Proofs.YtplpofmnhcclbaaGreat

namespace Go.Proofs.YtplpofmnhcclbaaGreat
open Go.RowKit
set_option maxRecDepth 100000
set_option maxHeartbeats 4000000
structure Pick where
 kind : Int
 who : Int
 op : Int
 pol : Int
 key : List Int
 n : Int
 t : Int
 deriving Inhabited
@[reducible] def Pick.D (p : Pick) : List D := [.val (.int .u8 p.kind), .val (.int .i64 p.who), .val (.int .u8 p.op), .val (.int .i64 p.pol), slOf 1 (encI .u8) p.key, .val (.int .i64 p.n), .val (.int .i64 p.t)]
@[reducible] def Pick.S (p : Pick) : SV := .agg [.i .u8 p.kind, .i .i64 p.who, .i .u8 p.op, .i .i64 p.pol, .d (slOf 1 (encI .u8) p.key), .i .i64 p.n, .i .i64 p.t]
structure Pick.ok (p : Pick) : Prop where
 kind : 0 ≤ p.kind ∧ p.kind ≤ 255
 who : -9223372036854775808 ≤ p.who ∧ p.who ≤ 9223372036854775807
 op : 0 ≤ p.op ∧ p.op ≤ 255
 pol : -9223372036854775808 ≤ p.pol ∧ p.pol ≤ 9223372036854775807
 key : IsB p.key
 n : -9223372036854775808 ≤ p.n ∧ p.n ≤ 9223372036854775807
 t : -9223372036854775808 ≤ p.t ∧ p.t ≤ 9223372036854775807
theorem Pick.at {script : List Pick} (hs : ∀ a ∈ script, a.ok) (j : Nat) : (script.getD j default).ok := by
 rw [List.getD_eq_getElem?_getD]
 cases e : script[j]? with
 | none => exact ⟨by decide, by decide, by decide, by decide, fun x hx => absurd hx (by simp [default, instInhabitedPick.default]), by decide, by decide⟩
 | some a => exact hs a (List.mem_of_getElem? e)
def fitOp (p : Pick) : Int := if p.op < 1 ∨ 6 < p.op then 1 + p.op % 6 else p.op
def fitPol (p : Pick) : Int := if fitOp p = 2 ∨ fitOp p = 3 ∨ fitOp p = 4 ∧ ¬ p.pol.tmod 2 = 0 then 1 else 0
def fitP (p : Pick) : Pick := ⟨p.kind % 3, IntKind.u64.wrap p.who % 5, fitOp p, fitPol p, p.key.take 2, if fitOp p = 1 then clampI p.n else p.n, IntKind.u64.wrap p.t % 40⟩
theorem law_fit (p : Pick) (h : p.ok) : Pure TC 17 [p.S] (fitP p).S := by
 obtain ⟨⟨k0, k1⟩, ⟨h0, h1⟩, ⟨h2, h3⟩, ⟨p0, p1⟩, h4, ⟨h5, h6⟩, ⟨t0, t1⟩⟩ := h
 have hk : p.kind.tmod 3 = p.kind % 3 := Int.tmod_eq_emod_of_nonneg k0
 have hm : p.op.tmod 6 = p.op % 6 := Int.tmod_eq_emod_of_nonneg h2
 have hu : IntKind.u64.wrap p.who = p.who % 18446744073709551616 := by simp [IntKind.wrap, IntKind.bits, IntKind.signed]
 have hub : 0 ≤ IntKind.u64.wrap p.who ∧ IntKind.u64.wrap p.who < 18446744073709551616 := by omega
 have hu5 : (IntKind.u64.wrap p.who).tmod 5 = IntKind.u64.wrap p.who % 5 := Int.tmod_eq_emod_of_nonneg hub.1
 have hv : IntKind.u64.wrap p.t = p.t % 18446744073709551616 := by simp [IntKind.wrap, IntKind.bits, IntKind.signed]
 have hvb : 0 ≤ IntKind.u64.wrap p.t ∧ IntKind.u64.wrap p.t < 18446744073709551616 := by omega
 have hv5 : (IntKind.u64.wrap p.t).tmod 40 = IntKind.u64.wrap p.t % 40 := Int.tmod_eq_emod_of_nonneg hvb.1
 clear hu hv
 have hq : -1 ≤ p.pol.tmod 2 ∧ p.pol.tmod 2 ≤ 1 := by have := Int.lt_tmod_of_pos p.pol (b := 2) (by decide); have := Int.tmod_lt_of_pos p.pol (b := 2) (by decide); omega
 refine Pure.mk' Tryz.func17 rfl rfl zN ?_
 (repeat' (first | ((first | refine Wp.any TC_mixed rfl ?_ | (with_reducible first | refine Go.mk ?_ | apply Eff1.of | refine Ov.ok zO ?_ | refine And.intro zC ?_ | refine CallStop.pure (r1_Clamp _ (by omega)) rfl rfl ?_ | refine Ov.mk ?_)); conv => whnf) | ((refine ways (fun hc => ?_) (fun hc => ?_)) <;> (try simp only [wz9] at hc) <;> (try (exfalso; omega)) <;> (conv => whnf))))
 all_goals refine SV.Le.agg (.cons (.i ?_) (.cons (.i ?_) (.cons (.i ?_) (.cons (.i ?_) (.cons (sl_eq ?_ fun i hi => ?_) (.cons (.i ?_) (.cons (.i ?_) .nil)))))))
 all_goals first
  | exact hk
  | exact hu5
  | exact hv5
  | rfl
  | (simp only [fitP, fitPol, fitOp]; (repeat' split) <;> omega)
  | (simp only [fitP, fitPol, fitOp]; (repeat' split) <;> first | rfl | omega)
  | (simp only [fitP, List.length_take]; split <;> omega)
  | (simp only [fitP, Nat.zero_add] at hi ⊢; rw [List.getD_eq_getElem?_getD, List.getD_eq_getElem?_getD, List.getElem?_take, if_pos (by simp at hi; omega)])
def tab2 : List Pol := [⟨1, 10, 20, 0⟩, ⟨2, 0, 0, 2⟩]
theorem law_table : Pure TC 16 [] (.d (slOf 4 Pol.D tab2)) := by
 refine Pure.mk' Tryz.func16 rfl rfl zN ?_
 (repeat' (first | ((first | refine Wp.any TC_mixed rfl ?_ | (with_reducible first | refine Go.mk ?_ | apply Eff1.of | refine And.intro zC ?_)); conv => whnf)))
 exact SV.Le.sl fun i hi => by
  have hi2 : i < 2 := hi
  have : i = 0 ∨ i = 1 := by omega
  rcases this with rfl | rfl <;> rfl
theorem tab2_ok : polsE tab2 = 0 := by decide
theorem tab2_new {room : Int} (h : 1 ≤ room ∧ room ≤ 4096) : newE tab2 room = 0 := by unfold newE; rw [if_neg (by omega)]; exact tab2_ok
theorem fit_ok {p : Pick} (h : p.ok) : chkE tab2 (fitP p).op (fitP p).pol (fitP p).key (fitP p).n = 0 ∧ (fitP p).key.length ≤ 2 ∧ ((fitP p).op ≠ 5 → (fitP p).op ≠ 6 → Core.Kx tab2 (newX (fitP p).op (fitP p).pol (fitP p).key (fitP p).n)) ∧ (1 ≤ (fitP p).op ∧ (fitP p).op ≤ 6) ∧
  (0 ≤ (fitP p).who ∧ (fitP p).who < 5) ∧ (0 ≤ (fitP p).kind ∧ (fitP p).kind ≤ 2) ∧ (0 ≤ (fitP p).t ∧ (fitP p).t < 40) := by
 have h1 : 1 ≤ fitOp p ∧ fitOp p ≤ 6 := by unfold fitOp; have := h.op; split <;> omega
 have h2 : fitPol p = 0 ∨ fitPol p = 1 := by unfold fitPol; split <;> simp
 have h3 : (p.key.take 2).length ≤ 2 := by simp; omega
 have h5 : IntKind.u64.wrap p.who = p.who % 18446744073709551616 := by simp [IntKind.wrap, IntKind.bits, IntKind.signed]
 have h6 : IntKind.u64.wrap p.t = p.t % 18446744073709551616 := by simp [IntKind.wrap, IntKind.bits, IntKind.signed]
 refine ⟨?_, h3, fun _ _ => ⟨fun x hx => h.key x (List.mem_of_mem_take hx), by show (p.key.take 2).length ≤ 255; omega, by show ([] : List Int).length ≤ 64; decide, by show 0 ≤ fitPol p ∧ fitPol p < 2; omega⟩, h1, ?_, ?_, ?_⟩
 ·show chkE tab2 (fitOp p) (fitPol p) (p.key.take 2) (if fitOp p = 1 then clampI p.n else p.n) = 0
  have g1 : fitOp p = 2 ∨ fitOp p = 3 → fitPol p = 1 := fun e => by unfold fitPol; rw [if_pos (by omega)]
  have g2 : fitOp p = 1 → fitPol p = 0 := fun e => by unfold fitPol; rw [if_neg (by omega)]
  have g3 : fitOp p = 1 → tickB (if fitOp p = 1 then clampI p.n else p.n) = true := fun e => by
   rw [if_pos e]
   have := clampI_bd p.n
   simp [tickB]; omega
  generalize fitOp p = o at *
  generalize fitPol p = q at *
  generalize (if o = 1 then clampI p.n else p.n) = m at *
  unfold chkE
  rw [if_neg (by
   rintro (e | e | ⟨e, e2⟩)
   ·omega
   ·omega
   ·rw [g3 e] at e2; cases e2), if_neg (by omega), if_neg (by simp [tab2_ok]), if_neg]
  rintro ⟨_, e | e | ⟨e, e2⟩⟩
  ·omega
  ·simp [tab2] at e; omega
  ·apply e2
   by_cases o1 : o = 1
   ·rw [g2 o1, o1]; rfl
   ·by_cases o2 : o = 2 ∨ o = 3
    ·rw [g1 o2]; rcases o2 with rfl | rfl <;> rfl
    ·exfalso; apply e; unfold kindE; rw [if_neg o1, if_neg (by omega)]
 ·show 0 ≤ IntKind.u64.wrap p.who % 5 ∧ IntKind.u64.wrap p.who % 5 < 5; omega
 ·show 0 ≤ p.kind % 3 ∧ p.kind % 3 ≤ 2; omega
 ·show 0 ≤ IntKind.u64.wrap p.t % 40 ∧ IntKind.u64.wrap p.t % 40 < 40; omega
end Go.Proofs.YtplpofmnhcclbaaGreat

namespace Go.Proofs.YtplpofmnhcclbaaGreat
open Go.ChangeShapes Go.WideShapes Go.ChangeAt Go.RowKit
set_option maxRecDepth 100000
@[reducible] def shPick : List Sh := [.int .u8, .int .i64, .int .u8, .int .i64, .sl 1 [.int .u8], .int .i64, .int .i64]
theorem fit_pick {ds : List D} (h : FitL shPick ds) : ∃ a : Pick, LsLe ds a.D ∧ a.ok := by
 obtain ⟨d0, r0, rfl, h0, t0⟩ := fit_cons h
 obtain ⟨d1, r1, rfl, h1, t1⟩ := fit_cons t0
 obtain ⟨d2, r2, rfl, h2, t2⟩ := fit_cons t1
 obtain ⟨d3, r3, rfl, h3, t3⟩ := fit_cons t2
 obtain ⟨d4, r4, rfl, h4, t4⟩ := fit_cons t3
 obtain ⟨d5, r5, rfl, h5, t5⟩ := fit_cons t4
 obtain ⟨d6, r6, rfl, h6, t6⟩ := fit_cons t5
 obtain rfl := fit_nil t6
 obtain ⟨n0, rfl, w0⟩ := fit_int h0
 obtain ⟨n1, rfl, w1⟩ := fit_int h1
 obtain ⟨n2, rfl, w2⟩ := fit_int h2
 obtain ⟨n3, rfl, w3⟩ := fit_int h3
 obtain ⟨key, le, _, w4⟩ := fit_ints h4
 obtain ⟨n5, rfl, w5⟩ := fit_int h5
 obtain ⟨n6, rfl, w6⟩ := fit_int h6
 exact ⟨⟨n0, n1, n2, n3, key, n5, n6⟩, .cons (.rfl _) (.cons (.rfl _) (.cons (.rfl _) (.cons (.rfl _) (.cons le (.cons (.rfl _) (.cons (.rfl _) .nil)))))), wf_u8 w0, wf_i64 w1, wf_u8 w2, wf_i64 w3, fun x hx => wf_u8 (w4 x hx), wf_i64 w5, wf_i64 w6⟩
theorem argPickL {H : Type} {enc : TypeId × Value → H} {W : World} {v : Value} {d : DataW H} {p : List MemPlace} (h : DataW.Trod enc Tryz.prog W 0 (fun _ => true) true 22 v d p) (hv : v.cells.toList = [v]) :
  ∃ script : List Pick, (∀ a ∈ script, a.ok) ∧ ∀ E : Env, E.Im = (fun b => b < W.heap.size) → RS E 0 W (.d (slOf 7 Pick.D script)) v := by
 obtain ⟨x, f, g⟩ := arg1 h (s := .sl 7 shPick) (by kernel_rfl) hv
 obtain ⟨script, le, _, hok⟩ := fit_list f fun ds hd => fit_pick hd
 exact ⟨script, hok, fun E hE => .d _ _ (by rw [hE]; exact le.out _ _ _ g)⟩
end Go.Proofs.YtplpofmnhcclbaaGreat

namespace Go.Proofs.YtplpofmnhcclbaaGreat
open Go.RowKit
set_option maxRecDepth 100000
set_option maxHeartbeats 4000000
theorem mach_NewC : Fun TC 127 0 [.i .i64 34] [] 3 (.tup [.ptr 0 0, .i .i64 0]) [(0, some (machB 1 2 34 0 0 0)), (1, some (wordB 34 fun _ => 0)), (2, some (lastB 0 fun _ => []))] := by
 refine Fun.mk' Tryz.func127 rfl rfl zN (by decide) ?_
 (repeat' (first | ((first | refine Wp.any TC_mixed rfl ?_ | (with_reducible first | refine Go.mk ?_ | apply Eff1.of | refine And.intro zC ?_)); conv => whnf)))
 refine FinLe.virtC 1 3 272 6 (fun _ => []) (by decide) rfl rfl (by decide) ?_
 (refine FinLe.sealB [1,0,2] rfl rfl rfl ?_ ?_); (focus ((conv => whnf); (repeat' (first | exact zE | ((refine Seal.tup ?_); (conv => whnf)) | ((refine And.intro ?_ ?_) <;> (conv => whnf)))))); (focus ((conv => whnf); (repeat' (first | exact zE | ((refine And.intro ?_ ?_) <;> (conv => whnf))))))
theorem board_NewC : Fun TC 85 0 [.i .i64 34] [] 4 (boardS 0 2) [(0, some (machB 1 3 34 0 0 0)), (1, some (wordB 34 fun _ => 0)), (2, some (holdB fun _ => [])), (3, some (lastB 0 fun _ => []))] := by
 refine Fun.mk' Tryz.func85 rfl rfl zN (by decide) ?_
 (repeat' (first | ((first | refine Wp.any TC_mixed rfl ?_ | (with_reducible first | refine Go.mk ?_ | apply Eff1.of | refine And.intro zC ?_)); conv => whnf) | ((refine CallStop.fn (mach_NewC) [] rfl rfl rfl rfl rfl ?ha ?hh ?_); (case ha => exact zA); (case hh => exact zH); (conv => whnf))))
 (refine FinLe.sealB [0,1,3,2] rfl rfl rfl ?_ ?_); (focus ((conv => whnf); (repeat' (first | exact zE | ((refine Seal.ptr rfl rfl ?_); (conv => whnf)) | ((refine And.intro ?_ ?_) <;> (conv => whnf)))))); (focus ((conv => whnf); (repeat' (first | exact zE | ((refine And.intro ?_ ?_) <;> (conv => whnf))))))
 exact fun i hi => (show DLe (.val (.slice none 0 0)) (.sl 4 0 _) ∧ True from ⟨.nil, trivial⟩)
theorem lane_NewC : Fun TC 45 0 [.i .i64 2, .d (.val (.slice none 0 0)), .d (.fn (.func 46) [])] [] 4 (.iref [boardS 0 2, .d (.fn (.func 46) [])] 0)
  [(0, some (machB 1 3 34 (noteN 0) 0 1)), (1, some (wordB 34 Dir.M0.W)), (2, some (holdB fun _ => [])), (3, some (lastB (noteN 0) (noteF 0 (fun _ => []) (accD 0 2 1 0 1 true))))] := by
 refine Fun.mk' Tryz.func45 rfl rfl zN (by decide) ?_
 (repeat' (first | ((first | refine Wp.any TC_mixed rfl ?_ | (with_reducible first | refine Go.mk ?_ | apply Eff1.of | refine Ov.ok zO ?_) | refine zV ?_); conv => whnf) | ((refine CallStop.fn (board_NewC) [] rfl rfl rfl rfl rfl ?ha ?hh ?_); (case ha => exact zA); (case hh => exact zH); (conv => whnf)) | ((with_reducible refine DCall.pure (lane_place 0 (by omega) 0) rfl rfl ?_); conv => whnf) | ((refine DCall.new (board_Swap 0 (fun _ => 0) (fun _ => []) (fun _ => []) 0 0 0 0 1 1 [] (by decide) (by decide) (by decide) (by decide) (by decide) (by decide)) [0,1,2,3] [] rfl rfl rfl rfl rfl rfl ?ha ?hh ?hs ?_); (case ha => exact zA); (case hh => exact zH); (case hs => exact zK); (conv => whnf))))
 (refine FinLe.sealB [0,1,2,11] rfl rfl rfl ?_ ?_); (focus ((conv => whnf); (repeat' (first | exact zE | ((refine Seal.ptr rfl rfl ?_); (conv => whnf)) | ((refine Seal.iref ?_); (conv => whnf)) | ((refine And.intro ?_ ?_) <;> (conv => whnf)))))); (focus ((conv => whnf); (repeat' (first | exact zE | ((refine And.intro ?_ ?_) <;> (conv => whnf))))))
 refine fun i hi => DLes.of ?_
 dsimp only
 rw [if_pos rfl]
 unfold Dir.upd
 split <;> rfl
def S0 : Nat → Core.Wk := fun _ => ⟨default, .none⟩
def xs0 : Nat → XB := fun _ => ⟨0, fun _ => .any⟩
def f0' : Nat → List D := noteF 0 (fun _ => []) (accD 0 2 1 0 1 true)
theorem core_New {ps : List Pol} {room : Int} (h : newE ps room = 0) : Fun TC 15 0 [.d (slOf 4 Pol.D ps), .i .i64 room] [] 14 (.tup [.ptr 0 0, .i .i64 0])
  (coreH ps room (gOf (coreOps ps room) 4 S0) Core.M0 xs0 (noteN 0) f0' 1) := by
 have hc1 : 1 ≤ room ∧ room ≤ 4096 := by
  unfold newE at h
  split at h
  ·omega
  ·omega
 have hp : polsE ps = 0 := by
  unfold newE at h
  split at h
  ·omega
  ·exact h
 have hl := polsE_len hp
 have hBk := book_New ps room h
 refine Fun.mk' Tryz.func15 rfl rfl zN (by decide) ?_
 (repeat' (first | ((first | refine Wp.any TC_mixed rfl ?_ | (with_reducible first | refine Go.mk ?_ | apply Eff1.of | refine Ov.ok zO ?_)); conv => whnf) | ((refine CallStop.fn (hBk) [] rfl rfl rfl rfl rfl ?ha ?hh ?_); (case ha => exact zA); (case hh => exact zH); (conv => whnf)) | ((with_reducible refine CallStop.pure (pol_CloneP ps (by omega)) rfl rfl ?_); conv => whnf) | ((refine CallStop.fn (lane_NewC) [] rfl rfl rfl rfl rfl ?ha ?hh ?_); (case ha => exact zA); (case hh => exact zH); (conv => whnf))))
 refine FinLe.sealC [6, 2, 3, 4, 0, 0, 0, 0, 0, 0, 0, 0, 0, 5] [4, 5, 6, 7, 8, 9, 10, 11, 12] rfl rfl rfl ?_ ?_
 ·refine Seal.tup ?_
  conv => whnf
  refine And.intro (Seal.ptrL rfl) ?_
  exact ⟨Seal.d, trivial⟩
 ·conv => whnf
  (repeat' (first | exact trivial | exact Seal.d | exact Seal.slX zN rfl | exact Seal.ptrL rfl | exact ⟨rfl, rfl, rfl⟩ | exact (show (13 : Nat) ≤ 14 by decide) | exact ⟨(show (_ : Nat) ≤ _ from Nat.le_of_ble_eq_true rfl), rfl⟩ | exact fun i hi => DLes.refl _ | exact fun j _ => coreF_lt (gOf_lt4 _ _) j | ((refine Seal.iref ?_); conv => whnf) | ((refine And.intro ?_ ?_) <;> (conv => whnf))))
variable {ps : List Pol} {room : Int} {S : Nat → Core.Wk} {M : Core.Mc} {xs : Nat → XB} {nl nl0 : Nat} {f : Nat → List D} {cnt cnt0 who : Int}
theorem core_Tick (hM : COK ps room who (gOf (coreOps ps room) 4 S) M xs nl0 cnt0) (h0 : 0 ≤ M.clk) (h1 : M.clk ≤ 4611686018427387903) (n : Int) (hn : 0 ≤ n) (hn1 : n ≤ 4611686018427387903) :
  Fun TC 26 14 [.ptr 0 0, .i .i64 n] (coreH ps room (gOf (coreOps ps room) 4 S) M xs nl f cnt) 14 (.tup [.i .i64 (min (M.clk + n) 4611686018427387903), .i .i64 0]) (coreH ps room (gOf (coreOps ps room) 4 S) ⟨M.W, M.Hd, min (M.clk + n) 4611686018427387903⟩ xs nl f cnt) := by
 have q5 := hM.g; have qo := hM.o
 refine Fun.mk' Tryz.func26 rfl rfl zN (by decide) ?_
 (repeat' (first | ((first | refine Wp.any TC_mixed rfl ?_ | (with_reducible first | refine Go.mk ?_ | apply Eff1.of)); conv => whnf) | ((with_reducible refine At.mk' _ rfl ?_); (refine And.intro zN ?_); conv => whnf) | ((refine CallStop.fn (mach_Tick 34 nl M.W f M.clk cnt n h0 h1 hn hn1) [1,2,13] rfl rfl rfl rfl rfl ?ha ?hh ?_); (case ha => exact zA); (case hh => exact zH); (conv => whnf))))
 ((refine FinLe.sealB [0, 1, 2, 3, 4, 5, 6, 7, 8, 9, 10, 11, 12, 13] rfl rfl rfl ?_ ?_); (focus ((conv => whnf); (repeat' (first | exact zC9)))); (focus ((conv => whnf); (repeat' (first | exact zC9 | exact x_seal (qo _) | ((refine And.intro ?_ ?_) <;> (conv => whnf)))))))
theorem core_Count (hM : COK ps room who (gOf (coreOps ps room) 4 S) M xs nl0 cnt0) :
  Fun TC 27 14 [.ptr 0 0] (coreH ps room (gOf (coreOps ps room) 4 S) M xs nl f cnt) 14 (.i .i64 (M.W 32)) (coreH ps room (gOf (coreOps ps room) 4 S) M xs nl f cnt) := by
 have q5 := hM.g; have qo := hM.o; have q8 := hM.c32
 refine Fun.mk' Tryz.func27 rfl rfl zN (by decide) ?_
 (repeat' (first | ((first | refine Wp.any TC_mixed rfl ?_ | (with_reducible first | refine Go.mk ?_ | apply Eff1.of | refine Ov.ok zO ?_)); conv => whnf) | ((with_reducible refine At.mk' _ rfl ?_); (refine And.intro zN ?_); conv => whnf) | ((refine CallStop.fn (board_Look nl M.W M.Hd f M.clk cnt 32 (by decide)) [1,2,3,13] rfl rfl rfl rfl rfl ?ha ?hh ?_); (case ha => exact zA); (case hh => exact zH); (conv => whnf))))
 ((refine FinLe.sealB [0, 1, 2, 3, 4, 5, 6, 7, 8, 9, 10, 11, 12, 13] rfl rfl rfl ?_ ?_); (focus ((conv => whnf); (repeat' (first | exact Seal.d)))); (focus ((conv => whnf); (repeat' (first | exact zC9 | exact x_seal (qo _) | ((refine And.intro ?_ ?_) <;> (conv => whnf)))))))
theorem core_Steps (hM : COK ps room who (gOf (coreOps ps room) 4 S) M xs nl0 cnt0) (h0 : 0 ≤ cnt) (h8 : cnt ≤ 4611686018427387904) :
  Fun TC 43 14 [.ptr 0 0] (coreH ps room (gOf (coreOps ps room) 4 S) M xs nl f cnt) 14 (.i .i64 (cnt - 1)) (coreH ps room (gOf (coreOps ps room) 4 S) M xs nl f cnt) := by
 have q5 := hM.g; have qo := hM.o
 refine Fun.mk' Tryz.func43 rfl rfl zN (by decide) ?_
 (repeat' (first | ((first | refine Wp.any TC_mixed rfl ?_ | (with_reducible first | refine Go.mk ?_ | apply Eff1.of | refine Ov.ok zO ?_)); conv => whnf) | (with_reducible refine CallStop.inline Tryz.func84 rfl rfl rfl (Nat.le_of_ble_eq_true rfl) ?_) | ((with_reducible refine At.mk' _ rfl ?_); (refine And.intro zN ?_); conv => whnf)))
 ((refine FinLe.sealB [0, 1, 2, 3, 4, 5, 6, 7, 8, 9, 10, 11, 12, 13] rfl rfl rfl ?_ ?_); (focus ((conv => whnf); (repeat' (first | exact Seal.d)))); (focus ((conv => whnf); (repeat' (first | exact zC9 | exact x_seal (qo _) | ((refine And.intro ?_ ?_) <;> (conv => whnf)))))))
end Go.Proofs.YtplpofmnhcclbaaGreat
