/- Lemmas of Ce1, Ce2, Sx25b. No condition. -/
import Derived.Test.YtpdhdnhkhidmpaaGreatME16
set_option linter.unusedVariables false
set_option linter.unusedSimpArgs false
set_option maxHeartbeats 80000000
set_option maxRecDepth 100000
namespace Go.Proofs.YtpdhdnhkhidmpaaGreat
open Go.RowKit
section
namespace Core
open Dir (FZ plc upd Iw upd_same upd_ne plc_sh sh_32)
variable {P : Ops}
def Gf : Fc → Prop
 | .key => True
 | .ev j _ g => 0 ≤ g ∧ g ≤ j * 16000000
def Gb (n : Int) : Bk → Prop
 | .lv _ => True
 | .ev j _ g => (0 ≤ g ∧ g ≤ j * 16000000) ∧ n ≤ 16000000
def Gk : CS → Prop
 | .k0 f => Gf f
 | .kE f _ => Gf f
 | .kF f _ _ => Gf f
 | .kG f _ _ _ _ => Gf f
 | .kH f _ _ _ => Gf f
 | .kL f _ _ _ => Gf f
 | .eC j _ g _ _ _ => 0 ≤ g ∧ g ≤ j * 16000000
 | .eS j _ g _ _ _ n => (0 ≤ g ∧ g ≤ j * 16000000) ∧ n ≤ 16000000
 | .b0 n k => Gb n k
 | .b1 n k _ => Gb n k
 | _ => True
theorem gH (x : X) (r : Rpl) : Gk (leave x r).1 := by unfold leave; split <;> trivial
theorem oa (x : X) (f : Fd) (c : Cel) (r : Rpl) : Gk (put x f c r) := by unfold put; split <;> trivial
theorem dV {j sh : Nat} {g : Int} (h : 0 ≤ g ∧ g ≤ ((j : Int) + 1) * 16000000) : Gk (further j sh g).1 := by
 unfold further
 split
 ·trivial
 ·show 0 ≤ g ∧ g ≤ ((j + 1 : Nat) : Int) * 16000000
  omega
theorem vC {n : Int} {k : Bk} (hn : 0 ≤ n) (h : Gb n k) : Gk (after n k).1 := by
 cases k with
 | lv r => trivial
 | ev j sh g =>
  obtain ⟨⟨h1, h2⟩, h3⟩ := h
  exact dV (by omega)
theorem sB (x : X) (f : Fd) : Gk (foundK P x f).1 := by
 unfold foundK
 split
 ·trivial
 split
 ·split
  ·exact gH _ _
  ·split
   ·exact oa _ _ _ _
   ·trivial
 split
 ·split
  ·exact oa _ _ _ _
  ·trivial
 split <;> trivial
theorem jL {x : X} {f : Fc} (h : Gf f) (w : Nat) (v : Int) (l : List Cel) : Gk (entered P x f w v l).1 := by
 unfold entered
 split
 ·exact h
 ·unfold found
  split
  ·exact sB _ _
  ·rename_i j sh g
   have h' : 0 ≤ g ∧ g ≤ (j : Int) * 16000000 := h
   split
   ·exact dV (by omega)
   ·exact h
theorem on_gk (lv i : Nat) (up : Bool) (h : List Cel) : Gk (on lv i up h) := by
 unfold on move
 split
 ·split <;> trivial
 ·trivial
theorem step_gk {ps : List Pol} {room : Int} {n : Nat} (hn : n ≤ 16000000) {M : Mc} {x : X} {s : CS} (hs : Cw x M.W s) (hk : okH ps n x s) (h : Gk s) : Gk (step (aa ps room) M x s).s := by
  cases s with
  | none => trivial
  | k0 f => simp only [step]; split <;> exact h
  | kE f w => exact jL h _ _ _
  | kF f lv w => simp only [step]; split <;> exact h
  | kG f lv w v l => simp only [step]; split <;> exact h
  | kH f lv w l =>
    simp only [step]; split
    · exact h
    · exact jL h _ _ _
  | kL f lv w l => exact h
  | al f =>
    simp only [step]; split
    · exact gH _ _
    · exact oa _ _ _ _
  | pk c => trivial
  | a0 f =>
    simp only [step]; split
    · exact gH _ _
    · trivial
  | a1 f u =>
    simp only [step]; split
    · exact oa _ _ _ _
    · trivial
  | p0 f c r => simp only [step]; split <;> trivial
  | p1 f c r u => simp only [step]; split <;> trivial
  | pS f c r =>
    simp only [step]; split
    · show Gk (if f.there = true then leave x r else (.none, ⟨true, r⟩)).1
      split
      · exact gH _ _
      · trivial
    · trivial
  | b0 k b => exact h
  | b1 k b u =>
    simp only [step]; split
    · exact vC (by have := hs.1; omega) h
    · exact h
  | e0 => show (0 : Int) ≤ 0 ∧ (0 : Int) ≤ ((0 : Nat) : Int) * 16000000; omega
  | eC j sh g w v l =>
    have h' : 0 ≤ g ∧ g ≤ (j : Int) * 16000000 := h
    have hl : l.length ≤ n := Hc.len hk
    simp only [step]; split
    · exact dV (by omega)
    · exact ⟨h', by omega⟩
  | eS j sh g w v m k =>
    obtain ⟨h', hk'⟩ := h
    simp only [step]; split
    · exact ⟨h', hk'⟩
    · exact dV (by omega)
  | s0 => simp only [step]; split
          · trivial
          · split <;> trivial
  | sM lv => simp only [step]; split <;> trivial
  | sF lv i => simp only [step]; split <;> trivial
  | sG lv i v l => simp only [step]; split <;> trivial
  | sH lv i up l =>
    simp only [step]; split
    · trivial
    · exact on_gk _ _ _ _
  | sL lv i up l => exact on_gk _ _ _ _
  | sV lv => trivial
def Uk (n : Nat) : CS → Prop
 | .a1 _ u => 0 ≤ u ∧ u ≤ n
 | .p1 _ _ _ u => 0 ≤ u ∧ u ≤ 4096
 | .b1 _ _ u => 0 ≤ u ∧ u ≤ 4096
 | _ => True
theorem Uk.mono {n m : Nat} (e : n ≤ m) {s : CS} (h : Uk n s) : Uk m s := by
 cases s <;> first | trivial | exact h | (have h1 := h.1; have h2 := h.2; exact ⟨h1, by omega⟩)
theorem gC (n : Nat) (x : X) (r : Rpl) : Uk n (leave x r).1 := by unfold leave; split <;> trivial
theorem n7 (n : Nat) (x : X) (f : Fd) (c : Cel) (r : Rpl) : Uk n (put x f c r) := by unfold put; split <;> trivial
theorem dP (n : Nat) (j sh : Nat) (g : Int) : Uk n (further j sh g).1 := by unfold further; split <;> trivial
theorem su (n : Nat) (x : X) (f : Fd) : Uk n (foundK P x f).1 := by
 unfold foundK
 split
 ·trivial
 split
 ·split
  ·exact gC _ _ _
  ·split
   ·exact n7 _ _ _ _ _
   ·trivial
 split
 ·split
  ·exact n7 _ _ _ _ _
  ·trivial
 split <;> trivial
theorem jG (n : Nat) (x : X) (f : Fc) (w : Nat) (v : Int) (l : List Cel) : Uk n (entered P x f w v l).1 := by
 unfold entered
 split
 ·trivial
 ·unfold found
  split
  ·exact su _ _ _
  ·split
   ·exact dP _ _ _ _
   ·trivial
theorem on_uk (n lv i : Nat) (up : Bool) (h : List Cel) : Uk n (on lv i up h) := by
 unfold on move
 split
 ·split <;> trivial
 ·trivial
theorem step_uk {n : Nat} {M : Mc} (h32 : 0 ≤ M.W 32 ∧ M.W 32 ≤ 4096) (h33 : 0 ≤ M.W 33 ∧ M.W 33 ≤ n) {x : X} {s : CS} (h : Uk n s) : Uk n (step P M x s).s := by
  cases s with
  | none => trivial
  | k0 f => simp only [step]; split <;> trivial
  | kE f w => exact jG _ _ _ _ _ _
  | kF f lv w => simp only [step]; split <;> trivial
  | kG f lv w v l => simp only [step]; split <;> trivial
  | kH f lv w l =>
    simp only [step]; split
    · trivial
    · exact jG _ _ _ _ _ _
  | kL f lv w l => trivial
  | al f =>
    simp only [step]; split
    · exact gC _ _ _
    · exact n7 _ _ _ _ _
  | pk c => trivial
  | a0 f =>
    simp only [step]; split
    · exact gC _ _ _
    · exact h33
  | a1 f u =>
    simp only [step]; split
    · exact n7 _ _ _ _ _
    · trivial
  | p0 f c r =>
    simp only [step]; split
    · trivial
    · exact h32
  | p1 f c r u => simp only [step]; split <;> trivial
  | pS f c r =>
    simp only [step]; split
    · show Uk n (if f.there = true then leave x r else (.none, ⟨true, r⟩)).1
      split
      · exact gC _ _ _
      · trivial
    · trivial
  | b0 k b => exact h32
  | b1 k b u =>
    simp only [step]; split
    · show Uk n (after k b).1
      cases b with
      | lv r => trivial
      | ev j sh g => exact dP _ _ _ _
    · trivial
  | e0 => trivial
  | eC j sh g w v l =>
    simp only [step]; split
    · exact dP _ _ _ _
    · trivial
  | eS j sh g w v m k =>
    simp only [step]; split
    · trivial
    · exact dP _ _ _ _
  | s0 => simp only [step]; split
          · trivial
          · split <;> trivial
  | sM lv => simp only [step]; split <;> trivial
  | sF lv i => simp only [step]; split <;> trivial
  | sG lv i v l => simp only [step]; split <;> trivial
  | sH lv i up l =>
    simp only [step]; split
    · trivial
    · exact on_uk _ _ _ _ _
  | sL lv i up l => exact on_uk _ _ _ _ _
  | sV lv => trivial
theorem step_clk (M : Mc) (x : X) (s : CS) : (step P M x s).M.clk = M.clk := by
 cases s with
 | s0 => simp only [step]; split; rfl; split <;> rfl
 | _ => (first | rfl | (simp only [step]; split <;> rfl))
theorem rF {f : Nat → Int} : ∀ {n i : Nat}, i < n → (∀ j, j < n → 0 ≤ f j) → f i ≤ sumI n f
 | 0, i, h, _ => by omega
 | n + 1, i, h, hh => by
  simp only [sumI]
  have h0 := j4 (f := f) (n := n) fun j hj => hh j (by omega)
  by_cases e : i = n
  ·subst e; omega
  ·have := rF (f := f) (n := n) (i := i) (by omega) fun j hj => hh j (by omega)
   have := hh n (by omega)
   omega
end Core
structure ej (ps : List Pol) (room : Int) (k : Nat) (M : Core.Mc) (S : Nat → Core.Wk) (xs : Nat → XB) (nl : Nat) (cnt : Int) : Prop where
 all : Core.All lz (aa ps room) M S ((k : Int) + 1)
 busy : Busy S
 hd : ∀ w, Hc ps k (M.Hd w)
 ok : ∀ j, Core.okH ps k (S j).x (S j).s
 gk : ∀ j, Core.Gk (S j).s
 uk : ∀ j, Core.Uk k (S j).s
 xe : ∀ j, (S j).s ≠ .none → xs (aM j) = ⟨9, xF j (S j).x⟩
 xl : ∀ i j, SV.Lt 1 ((xs i).f j)
 nl : nl ≤ 128
 cnt : cnt = (k : Int) + 1
 clk : 0 ≤ M.clk ∧ M.clk ≤ 4611686018427387903
 c33 : M.W 33 ≤ k
 ps : cU ps = 0
 room : 1 ≤ room ∧ room ≤ 4096
variable {ps : List Pol} {room : Int} {k : Nat} {M : Core.Mc} {S : Nat → Core.Wk} {xs : Nat → XB} {nl : Nat} {cnt : Int}
theorem ej.c32 (h : ej ps room k M S xs nl cnt) : 0 ≤ M.W 32 ∧ M.W 32 ≤ 4096 := by
 have h1 := h.all.ge
 have h2 := h.all.room
 have h3 := h.room
 have h4 : (aa ps room).room = room := rfl
 omega
theorem ej.cok (h : ej ps room k M S xs nl cnt) (hk : k ≤ 1000000) (w : Nat) (hw : w < 64) : COK ps room w (gOf (aa ps room) 4 S) M xs nl cnt :=
 ⟨by omega, by omega, h.nl, by have := h.cnt; omega, by have := h.cnt; omega, kP _ _, h.xl, h.all.inv.iw.d.1, h.all.inv.iw.d.2, fun w => (h.hd w).mono (by omega), h.ps, h.room, h.c32, by have := h.all.inv.c33; have := h.c33; omega⟩
open Core in
theorem ej.okC (h : ej ps room k M S xs nl cnt) (hk : k ≤ 1000000) {w : Nat} (hw : w < 64) : okC ps M (S w).x (S w).s := by
 have hcw := h.all.inv.cw w
 have hH := h.ok w
 have hG := h.gk w
 have hU := h.uk w
 have hO : owes (S w).x (S w).s ≤ M.W 32 := by
  have h1 := rF (f := fun i => owes (S i).x (S i).s) (n := 64) hw fun j _ => rG (h.all.inv.cw j)
  have h2 := h.all.cnt
  omega
 have p32 : ∀ lv, lv ≤ 4 → ∀ s : Int, 2 ^ lv ≤ Dir.plc lv s ∧ Dir.plc lv s < 32 := fun lv hl s => by
  obtain ⟨i, h1, h2⟩ := Dir.plc_sh lv s
  rw [h2]; exact ⟨by omega, (Dir.sh_32 hl h1).2⟩
 generalize (S w).x = x at hcw hH hO ⊢
 generalize (S w).s = s at hcw hH hG hU hO ⊢
 cases s with
 | kE f w => exact ⟨hcw.2.2, hH, hcw.1⟩
 | kF f lv w => exact ⟨hcw.2.1, by rw [hcw.2.2.1]; exact (p32 _ (by have := hcw.2.1; omega) _).2⟩
 | kG f lv w v l => exact ⟨⟨hcw.2.1, by rw [hcw.2.2.1]; exact (p32 _ (by have := hcw.2.1; omega) _).2⟩, hH.2.2, hcw.2.2.2.2⟩
 | kH f lv w l => exact ⟨by rw [hcw.2.2.2.1]; exact (p32 _ hcw.2.2.1 _).2, hH.1, hcw.1⟩
 | kL f lv w l => exact ⟨⟨hcw.2.2.1, by rw [hcw.2.2.2.1]; exact (p32 _ hcw.2.2.1 _).1, by rw [hcw.2.2.2.1]; exact (p32 _ hcw.2.2.1 _).2⟩, Hc.mono hH.2 (by omega)⟩
 | pk c => exact hH
 | a1 f u => have := hU.1; have := hU.2; exact ⟨by omega, by omega⟩
 | p1 f c r u => have := hU.1; have := hU.2; exact ⟨by omega, by omega⟩
 | pS f c r => exact ⟨⟨hH.1.k, Fdk.mono (by omega) hH.1, hH.2⟩, ⟨hcw.1.1, hcw.1.2.1⟩, Int.le_of_lt hcw.1.2.2.1, hcw.1.2.2.2⟩
 | b1 n b u =>
  have h1 := hU.1; have h2 := hU.2
  have hO : n ≤ M.W 32 := hO
  refine ⟨⟨⟨hcw.1, ?_⟩, by omega, by omega⟩, fun e => by omega, hcw.2, ?_⟩
  ·have := h.c32; omega
  ·rintro j sh gn rfl
   obtain ⟨⟨g1, g2⟩, g3⟩ := hG
   have hb : j < sh ∧ sh ≤ 16 := hcw.2
   exact ⟨g1, by omega⟩
 | eC j sh g w v l => exact ⟨⟨hcw.1, hcw.2.1⟩, Hc.mono hH (by omega)⟩
 | eS j sh g w v m n =>
  obtain ⟨a, b, c, d, e, f, g'⟩ := hcw
  exact ⟨⟨a, b⟩, ⟨c, d⟩, ⟨Int.le_of_lt e, f⟩, g', by have := hG.2; omega⟩
 | sM lv => exact hcw
 | sF lv i => exact ⟨hcw.1, hcw.2.1⟩
 | sG lv i v l => exact ⟨⟨hcw.1, hcw.2.1⟩, hH.2, hcw.2.2.2.2⟩
 | sH lv i up l => exact ⟨hcw.1, hcw.2.1⟩
 | sL lv i up l => exact ⟨⟨hcw.1, hcw.2.1⟩, Hc.mono hH (by omega)⟩
 | sV lv => exact hcw.1
 | _ => trivial
open Core in
theorem uj {M : Mc} {B : Int} (h : Dir.Iw M.W B) (hB : 1 ≤ B ∧ B + 1 < Dir.FZ) {x : X} (hx : 0 ≤ x.ser) (h33 : 0 ≤ M.W 33) {s : CS} (hs : Cw x M.W s) {P : Ops} : (Core.step P M x s).M.W 33 ≤ M.W 33 + 1 := by
 cases (cT (P := P) h hB hx h33 hs).chg with
 | no h => rw [h]; omega
 | d h1 h2 => rw [h1, Dir.upd_ne _ _ (by omega)]; omega
 | fz w h0 h1 h2 => rw [h2, Dir.upd_ne _ _ (by omega)]; omega
 | lay w h0 h1 h2 => rw [h2, Dir.upd_ne _ _ (by omega)]; omega
 | key w h0 h1 h2 => rw [h2, Dir.upd_ne _ _ (by omega)]; omega
 | cnt y h2 => rw [h2, Dir.upd_ne _ _ (by omega)]; omega
 | ser h1 h2 => rw [h2, Dir.upd_same]; omega
theorem ej.step (h : ej ps room k M S xs nl cnt) (hk : k ≤ 1000000) {w : Nat} (hw : w < 8 ∨ w = 9) (hn : isC (S w).s = true) :
  ej ps room (k + 1) (Core.mx (aa ps room) M S w) (Core.nx (aa ps room) M S w) (xsU xs (aM w) ⟨9, xF w (Core.step (aa ps room) M (S w).x (S w).s).x⟩) (az nl) (cnt + 1) := by
 have hw64 : w < 64 := by omega
 have hB : ((k : Int) + 1) + 1 < Dir.FZ := by unfold Dir.FZ; omega
 have hI := h.all.inv
 have h1 := Core.step_H (room := room) hI.iw h.hd (hI.cw w) (h.ok w)
 have h33 := uj (P := aa ps room) hI.iw ⟨hI.b, hB⟩ (hI.ser w) hI.c33 (hI.cw w)
 have at_ : ∀ {q : Nat → Core.Wk → Prop}, q w ⟨(Core.step (aa ps room) M (S w).x (S w).s).x, (Core.step (aa ps room) M (S w).x (S w).s).s⟩ → (∀ j, j ≠ w → q j (S j)) → ∀ j, q j (Core.nx (aa ps room) M S w j) := fun {q} g1 g2 j => by
  unfold Core.nx
  by_cases e : j = w
  ·subst e; rw [Dir.upd_same]; exact g1
  ·rw [Dir.upd_ne _ _ e]; exact g2 j e
 refine ⟨?_, ?_, h1.1, at_ (q := fun _ z => Core.okH ps (k + 1) z.x z.s) h1.2 fun j _ => (h.ok j).mono (Nat.le_succ k), at_ (q := fun _ z => Core.Gk z.s) (Core.step_gk (by omega) (hI.cw w) (h.ok w) (h.gk w)) fun j _ => h.gk j,
  at_ (q := fun _ z => Core.Uk (k + 1) z.s) ((Core.step_uk h.c32 ⟨hI.c33, h.c33⟩ (h.uk w)).mono (Nat.le_succ k)) fun j _ => (h.uk j).mono (Nat.le_succ k), ?_, qx h.xl _ _ _, uF h.nl, by have := h.cnt; omega, ?_, ?_, h.ps, h.room⟩
 ·have := h.all.step (d9 ps room) hB hw64
  rwa [show ((k + 1 : Nat) : Int) + 1 = (k : Int) + 1 + 1 by omega]
 ·exact at_ (q := fun j z => z.s ≠ .none → j < 8 ∨ j = 9) (fun _ => hw) fun j _ => h.busy j
 ·refine at_ (q := fun j z => z.s ≠ .none → xsU xs (aM w) ⟨9, xF w (Core.step (aa ps room) M (S w).x (S w).s).x⟩ (aM j) = ⟨9, xF j z.x⟩) (fun _ => ?_) fun j hne hs => ?_
  ·unfold xsU; rw [Nat.beq_refl, cond_true]
  ·have := mW h.busy hw hs hne
   unfold xsU
   have hb : Nat.beq (aM j) (aM w) = false := by
    cases e : Nat.beq (aM j) (aM w) with
    | false => rfl
    | true => exact absurd (Q2 e) this
   rw [hb, cond_false]; exact h.xe j hs
 ·unfold Core.mx; rw [Core.step_clk]; exact h.clk
 ·have := h.c33
  show (Core.step (aa ps room) M (S w).x (S w).s).M.W 33 ≤ _
  omega
theorem ej.start (h : ej ps room k M S xs nl cnt) {w : Nat} (hw : w < 8 ∨ w = 9) (hn : (S w).s = .none) {op pol : Int} {key : List Int} {n : Int} (hk : op ≠ 5 → op ≠ 6 → Core.Kx ps (aH op pol key n)) :
  ej ps room k M (Dir.upd S w ⟨aH op pol key n, Core.first (aH op pol key n)⟩) (xsU xs (aM w) ⟨9, xF w (aH op pol key n)⟩) nl cnt := by
 have hl := eJ h.ps
 have hx : Core.okNew lz (aH op pol key n) := by
  refine ⟨rfl, rfl, ?_⟩
  by_cases h5 : op = 5
  ·exact .inl h5
  ·by_cases h6 : op = 6
   ·exact .inr (.inl h6)
   ·have hq := hk h5 h6
    have hid : gz pol key := by
     have h1 : 0 ≤ pol ∧ pol < ps.length := hq.pol
     exact ⟨h1.1, by omega, hq.key⟩
    refine .inr (.inr ⟨hid, ?_⟩)
    show lz (bN pol key) = lz (pol :: key)
    rw [cL hid]
 have at_ : ∀ {q : Nat → Core.Wk → Prop}, q w ⟨aH op pol key n, Core.first (aH op pol key n)⟩ → (∀ j, j ≠ w → q j (S j)) → ∀ j, q j (Dir.upd S w ⟨aH op pol key n, Core.first (aH op pol key n)⟩ j) := fun {q} g1 g2 j => by
  by_cases e : j = w
  ·subst e; rw [Dir.upd_same]; exact g1
  ·rw [Dir.upd_ne _ _ e]; exact g2 j e
 refine ⟨h.all.start (by omega) hn hx, at_ (q := fun j z => z.s ≠ .none → j < 8 ∨ j = 9) (fun _ => hw) fun j _ => h.busy j, h.hd, at_ (q := fun _ z => Core.okH ps k z.x z.s) ?_ fun j _ => h.ok j, at_ (q := fun _ z => Core.Gk z.s) ?_ fun j _ => h.gk j, at_ (q := fun _ z => Core.Uk k z.s) ?_ fun j _ => h.uk j, ?_, qx h.xl _ _ _, h.nl, h.cnt, h.clk, h.c33, h.ps, h.room⟩
 ·show Core.okH ps k (aH op pol key n) (Core.first (aH op pol key n))
  unfold Core.first
  split
  ·trivial
  ·split
   ·trivial
   ·exact hk (by assumption) (by assumption)
 ·show Core.Gk (Core.first (aH op pol key n))
  unfold Core.first; (repeat' split) <;> trivial
 ·show Core.Uk k (Core.first (aH op pol key n))
  unfold Core.first; (repeat' split) <;> trivial
 ·refine at_ (q := fun j z => z.s ≠ .none → xsU xs (aM w) ⟨9, xF w (aH op pol key n)⟩ (aM j) = ⟨9, xF j z.x⟩) (fun _ => ?_) fun j hne hs => ?_
  ·unfold xsU; rw [Nat.beq_refl, cond_true]
  ·have := mW h.busy hw hs hne
   unfold xsU
   have hb : Nat.beq (aM j) (aM w) = false := by
    cases e : Nat.beq (aM j) (aM w) with
    | false => rfl
    | true => exact absurd (Q2 e) this
   rw [hb, cond_false]; exact h.xe j hs
theorem ej.tick (h : ej ps room k M S xs nl cnt) {t : Int} (ht : M.clk ≤ t ∧ t ≤ 4611686018427387903) : ej ps room k ⟨M.W, M.Hd, t⟩ S xs nl cnt :=
 ⟨h.all.tick ht.1, h.busy, h.hd, h.ok, h.gk, h.uk, h.xe, h.xl, h.nl, h.cnt, by have := h.clk; exact ⟨by show 0 ≤ t; omega, ht.2⟩, h.c33, h.ps, h.room⟩
theorem ej.zero (hp : cU ps = 0) (hr : 1 ≤ room ∧ room ≤ 4096) : ej ps room 0 Core.M0 (fun _ => ⟨default, .none⟩) (fun _ => ⟨0, fun _ => .any⟩) (az 0) 1 :=
 ⟨.zero (show (0 : Int) ≤ room by omega), fun _ h => absurd rfl h, fun _ => Hc.nil, fun _ => trivial, fun _ => trivial, fun _ => trivial, fun _ h => absurd rfl h, fun _ _ => .any, by decide, rfl, ⟨Int.le_refl _, by show (0 : Int) ≤ _; decide⟩, by show Dir.M0.W 33 ≤ _; decide, hp, hr⟩
end
section
theorem rS : Fun TC 91 0 [.i .i64 34] [] 3 (.tup [.ptr 0 0, .i .i64 0]) [(0, some (ci 1 2 34 0 0 0)), (1, some (ca 34 fun _ => 0)), (2, some (bz 0 fun _ => []))] := by
 refine Fun.mk' Tryz.func91 rfl rfl zN (by decide) ?_
 (repeat' (first | ((first | refine Wp.any ac rfl ?_ | (with_reducible first | refine Go.mk ?_ | apply ah.of | refine And.intro zC ?_)); conv => whnf)))
 refine af.virtC 1 3 223 6 (fun _ => []) (by decide) rfl rfl (by decide) ?_
 (refine af.sealB [1,0,2] rfl rfl rfl ?_ ?_); (focus ((conv => whnf); (repeat' (first | exact zE | ((refine ai.tup ?_); (conv => whnf)) | ((refine And.intro ?_ ?_) <;> (conv => whnf)))))); (focus ((conv => whnf); (repeat' (first | exact zE | ((refine And.intro ?_ ?_) <;> (conv => whnf))))))
theorem qi : Fun TC 62 0 [.i .i64 34] [] 4 (iT 0 2) [(0, some (ci 1 3 34 0 0 0)), (1, some (ca 34 fun _ => 0)), (2, some (gm fun _ => [])), (3, some (bz 0 fun _ => []))] := by
 refine Fun.mk' Tryz.func62 rfl rfl zN (by decide) ?_
 (repeat' (first | ((first | refine Wp.any ac rfl ?_ | (with_reducible first | refine Go.mk ?_ | apply ah.of | refine And.intro zC ?_)); conv => whnf) | ((refine ab.fn (rS) [] rfl rfl rfl rfl rfl ?ha ?hh ?_); (case ha => exact zA); (case hh => exact zH); (conv => whnf))))
 (refine af.sealB [0,1,3,2] rfl rfl rfl ?_ ?_); (focus ((conv => whnf); (repeat' (first | exact zE | ((refine ai.ptr rfl rfl ?_); (conv => whnf)) | ((refine And.intro ?_ ?_) <;> (conv => whnf)))))); (focus ((conv => whnf); (repeat' (first | exact zE | ((refine And.intro ?_ ?_) <;> (conv => whnf))))))
 exact fun i hi => (show DLe (.val (.slice none 0 0)) (.sl 4 0 _) ∧ True from ⟨.nil, trivial⟩)
theorem r7 : Fun TC 32 0 [.i .i64 2, .d (.val (.slice none 0 0)), .d (.fn (.func 33) [])] [] 4 (.iref [iT 0 2, .d (.fn (.func 33) [])] 0)
  [(0, some (ci 1 3 34 (az 0) 0 1)), (1, some (ca 34 Dir.M0.W)), (2, some (gm fun _ => [])), (3, some (bz (az 0) (bA 0 (fun _ => []) (bP 0 2 1 0 1 true))))] := by
 refine Fun.mk' Tryz.func32 rfl rfl zN (by decide) ?_
 (repeat' (first | ((first | refine Wp.any ac rfl ?_ | (with_reducible first | refine Go.mk ?_ | apply ah.of | refine Ov.ok zO ?_) | refine zV ?_); conv => whnf) | ((refine ab.fn (qi) [] rfl rfl rfl rfl rfl ?ha ?hh ?_); (case ha => exact zA); (case hh => exact zH); (conv => whnf)) | ((with_reducible refine ag.pure (b6 0 (by omega) 0) rfl rfl ?_); conv => whnf) | ((refine ag.new (aA 0 (fun _ => 0) (fun _ => []) (fun _ => []) 0 0 0 0 1 1 [] (by decide) (by decide) (by decide) (by decide) (by decide) (by decide)) [0,1,2,3] [] rfl rfl rfl rfl rfl rfl ?ha ?hh ?hs ?_); (case ha => exact zA); (case hh => exact zH); (case hs => exact zK); (conv => whnf))))
 (refine af.sealB [0,1,2,11] rfl rfl rfl ?_ ?_); (focus ((conv => whnf); (repeat' (first | exact zE | ((refine ai.ptr rfl rfl ?_); (conv => whnf)) | ((refine ai.iref ?_); (conv => whnf)) | ((refine And.intro ?_ ?_) <;> (conv => whnf)))))); (focus ((conv => whnf); (repeat' (first | exact zE | ((refine And.intro ?_ ?_) <;> (conv => whnf))))))
 refine fun i hi => fW.of ?_
 dsimp only
 rw [if_pos rfl]
 unfold Dir.upd
 split <;> rfl
def S0 : Nat → Core.Wk := fun _ => ⟨default, .none⟩
def xs0 : Nat → XB := fun _ => ⟨0, fun _ => .any⟩
def f0' : Nat → List D := bA 0 (fun _ => []) (bP 0 2 1 0 1 true)
theorem oX {ps : List Pol} {room : Int} (h : tL ps room = 0) : Fun TC 10 0 [.d (am 4 Pol.D ps), .i .i64 room] [] 14 (.tup [.ptr 0 0, .i .i64 0])
  (ao ps room (gOf (aa ps room) 4 S0) Core.M0 xs0 (az 0) f0' 1) := by
 have hc1 : 1 ≤ room ∧ room ≤ 4096 := by
  unfold tL at h
  split at h
  ·omega
  ·omega
 have hp : cU ps = 0 := by
  unfold tL at h
  split at h
  ·omega
  ·exact h
 have hl := eJ hp
 have hBk := vw ps room h
 refine Fun.mk' Tryz.func10 rfl rfl zN (by decide) ?_
 (repeat' (first | ((first | refine Wp.any ac rfl ?_ | (with_reducible first | refine Go.mk ?_ | apply ah.of | refine Ov.ok zO ?_)); conv => whnf) | ((refine ab.fn (hBk) [] rfl rfl rfl rfl rfl ?ha ?hh ?_); (case ha => exact zA); (case hh => exact zH); (conv => whnf)) | ((with_reducible refine ab.pure (jt ps (by omega)) rfl rfl ?_); conv => whnf) | ((refine ab.fn (r7) [] rfl rfl rfl rfl rfl ?ha ?hh ?_); (case ha => exact zA); (case hh => exact zH); (conv => whnf))))
 refine af.sealC [6, 2, 3, 4, 0, 0, 0, 0, 0, 0, 0, 0, 0, 5] [4, 5, 6, 7, 8, 9, 10, 11, 12] rfl rfl rfl ?_ ?_
 ·refine ai.tup ?_
  conv => whnf
  refine And.intro (ai.ptrL rfl) ?_
  exact ⟨ai.d, trivial⟩
 ·conv => whnf
  (repeat' (first | exact trivial | exact ai.d | exact ai.slX zN rfl | exact ai.ptrL rfl | exact ⟨rfl, rfl, rfl⟩ | exact (show (13 : Nat) ≤ 14 by decide) | exact ⟨(show (_ : Nat) ≤ _ from zzb rfl), rfl⟩ | exact fun i hi => fW.refl _ | exact fun j _ => aI (kP _ _) j | ((refine ai.iref ?_); conv => whnf) | ((refine And.intro ?_ ?_) <;> (conv => whnf))))
variable {ps : List Pol} {room : Int} {S : Nat → Core.Wk} {M : Core.Mc} {xs : Nat → XB} {nl nl0 : Nat} {f : Nat → List D} {cnt cnt0 who : Int}
theorem mz (hM : COK ps room who (gOf (aa ps room) 4 S) M xs nl0 cnt0) (h0 : 0 ≤ M.clk) (h1 : M.clk ≤ 4611686018427387903) (n : Int) (hn : 0 ≤ n) (hn1 : n ≤ 4611686018427387903) :
  Fun TC 27 14 [.ptr 0 0, .i .i64 n] (ao ps room (gOf (aa ps room) 4 S) M xs nl f cnt) 14 (.tup [.i .i64 (min (M.clk + n) 4611686018427387903), .i .i64 0]) (ao ps room (gOf (aa ps room) 4 S) ⟨M.W, M.Hd, min (M.clk + n) 4611686018427387903⟩ xs nl f cnt) := by
 have q5 := hM.g; have qo := hM.o
 refine Fun.mk' Tryz.func27 rfl rfl zN (by decide) ?_
 (repeat' (first | ((first | refine Wp.any ac rfl ?_ | (with_reducible first | refine Go.mk ?_ | apply ah.of)); conv => whnf) | ((with_reducible refine At.mk' _ rfl ?_); (refine And.intro zN ?_); conv => whnf) | ((refine ab.fn (rQ 34 nl M.W f M.clk cnt n h0 h1 hn hn1) [1,2,13] rfl rfl rfl rfl rfl ?ha ?hh ?_); (case ha => exact zA); (case hh => exact zH); (conv => whnf))))
 ((refine af.sealB [0, 1, 2, 3, 4, 5, 6, 7, 8, 9, 10, 11, 12, 13] rfl rfl rfl ?_ ?_); (focus ((conv => whnf); (repeat' (first | exact zC9)))); (focus ((conv => whnf); (repeat' (first | exact zC9 | exact aQ (qo _) | ((refine And.intro ?_ ?_) <;> (conv => whnf)))))))
theorem p8 (hM : COK ps room who (gOf (aa ps room) 4 S) M xs nl0 cnt0) :
  Fun TC 29 14 [.ptr 0 0] (ao ps room (gOf (aa ps room) 4 S) M xs nl f cnt) 14 (.i .i64 (M.W 32)) (ao ps room (gOf (aa ps room) 4 S) M xs nl f cnt) := by
 have q5 := hM.g; have qo := hM.o; have q8 := hM.c32
 refine Fun.mk' Tryz.func29 rfl rfl zN (by decide) ?_
 (repeat' (first | ((first | refine Wp.any ac rfl ?_ | (with_reducible first | refine Go.mk ?_ | apply ah.of | refine Ov.ok zO ?_)); conv => whnf) | ((with_reducible refine At.mk' _ rfl ?_); (refine And.intro zN ?_); conv => whnf) | ((refine ab.fn (b8 nl M.W M.Hd f M.clk cnt 32 (by decide)) [1,2,3,13] rfl rfl rfl rfl rfl ?ha ?hh ?_); (case ha => exact zA); (case hh => exact zH); (conv => whnf))))
 ((refine af.sealB [0, 1, 2, 3, 4, 5, 6, 7, 8, 9, 10, 11, 12, 13] rfl rfl rfl ?_ ?_); (focus ((conv => whnf); (repeat' (first | exact ai.d)))); (focus ((conv => whnf); (repeat' (first | exact zC9 | exact aQ (qo _) | ((refine And.intro ?_ ?_) <;> (conv => whnf)))))))
theorem d8 (hM : COK ps room who (gOf (aa ps room) 4 S) M xs nl0 cnt0) (h0 : 0 ≤ cnt) (h8 : cnt ≤ 4611686018427387904) :
  Fun TC 30 14 [.ptr 0 0] (ao ps room (gOf (aa ps room) 4 S) M xs nl f cnt) 14 (.i .i64 (cnt - 1)) (ao ps room (gOf (aa ps room) 4 S) M xs nl f cnt) := by
 have q5 := hM.g; have qo := hM.o
 refine Fun.mk' Tryz.func30 rfl rfl zN (by decide) ?_
 (repeat' (first | ((first | refine Wp.any ac rfl ?_ | (with_reducible first | refine Go.mk ?_ | apply ah.of | refine Ov.ok zO ?_)); conv => whnf) | (with_reducible refine ab.inline Tryz.func61 rfl rfl rfl (zzb rfl) ?_) | ((with_reducible refine At.mk' _ rfl ?_); (refine And.intro zN ?_); conv => whnf)))
 ((refine af.sealB [0, 1, 2, 3, 4, 5, 6, 7, 8, 9, 10, 11, 12, 13] rfl rfl rfl ?_ ?_); (focus ((conv => whnf); (repeat' (first | exact ai.d)))); (focus ((conv => whnf); (repeat' (first | exact zC9 | exact aQ (qo _) | ((refine And.intro ?_ ?_) <;> (conv => whnf)))))))
end
mutual
def eZ (n e : Nat) : SV → Prop
 | .fn f vs => ∀ l, n ≤ l → l ≠ e → bw l (.fn f vs) = false
 | .agg vs => iG n e vs
 | .tup vs => iG n e vs
 | .iref vs _ => iG n e vs
 | _ => True
def iG (n e : Nat) : List SV → Prop
 | [] => True
 | x :: r => eZ n e x ∧ iG n e r
end
mutual
theorem ov {n e l : Nat} (hl : n ≤ l) (he : l ≠ e) : ∀ {x : SV}, eZ n e x → ks l x = false → bw l x = false
 | .any, _, h => by unfold bw; rfl
 | .d _, _, h => by unfold bw; rfl
 | .ptr _ _, _, h => by unfold ks at h; unfold bw; exact h
 | .rp _ _ _ _, _, h => by unfold ks at h; unfold bw; exact h
 | .sl _ _ _ _, _, h => by unfold ks at h; unfold bw; exact h
 | .agg vs, hf, h => by unfold ks at h; unfold eZ at hf; unfold bw; exact dz hl he hf h
 | .tup vs, hf, h => by unfold ks at h; unfold eZ at hf; unfold bw; exact dz hl he hf h
 | .fn _ vs, hf, h => by unfold eZ at hf; exact hf l hl he
 | .iref vs _, hf, h => by unfold ks at h; unfold eZ at hf; unfold bw; exact dz hl he hf h
theorem dz {n e l : Nat} (hl : n ≤ l) (he : l ≠ e) : ∀ {xs : List SV}, iG n e xs → kr l xs = false → bL l xs = false
 | [], _, _ => by unfold bL; rfl
 | x :: r, hf, h => by
  unfold iG at hf; unfold kr at h
  rw [Bool.or_eq_false_iff] at h
  have h1 : bw l x = false := ov hl he hf.1 h.1
  have h2 : bL l r = false := dz hl he hf.2 h.2
  unfold bL; rw [h1, h2]; rfl
end
mutual
theorem ow {π : Nat → Nat} {b l : Nat} (hπ : ∀ i, i < b → π i ≠ l) : ∀ {x : SV}, SV.Lt b x → bw l (SV.ren π x) = false
 | .any, _ => by unfold SV.ren bw; rfl
 | .d _, _ => by unfold SV.ren bw; rfl
 | .ptr _ _, h => by cases h with | ptr _ _ h => unfold SV.ren bw; cases e : Nat.beq _ l with | false => rfl | true => exact absurd (Q2 e) (hπ _ h)
 | .rp _ _ _ _, h => by cases h with | rp _ _ _ _ h => unfold SV.ren bw; cases e : Nat.beq _ l with | false => rfl | true => exact absurd (Q2 e) (hπ _ h)
 | .sl _ _ _ _, h => by cases h with | sl _ _ _ _ h => unfold SV.ren bw; cases e : Nat.beq _ l with | false => rfl | true => exact absurd (Q2 e) (hπ _ h)
 | .agg vs, h => by cases h with | agg _ h => unfold SV.ren bw; exact dA hπ h
 | .tup vs, h => by cases h with | tup _ h => unfold SV.ren bw; exact dA hπ h
 | .fn _ vs, h => by cases h with | fn _ _ h => unfold SV.ren bw; exact dA hπ h
 | .iref vs _, h => by cases h with | iref _ _ h => unfold SV.ren bw; exact dA hπ h
theorem dA {π : Nat → Nat} {b l : Nat} (hπ : ∀ i, i < b → π i ≠ l) : ∀ {xs : List SV}, (∀ x ∈ xs, SV.Lt b x) → bL l (SV.renL π xs) = false
 | [], _ => by unfold SV.renL bL; rfl
 | x :: r, h => by
  have h1 : bw l (SV.ren π x) = false := ow hπ (h x (by simp))
  have h2 : bL l (SV.renL π r) = false := dA hπ (fun y hy => h y (by simp [hy]))
  unfold SV.renL bL; rw [h1, h2]; rfl
end
theorem renL_z {π : Nat → Nat} {F : Fn} {cs : List SV} {b n e : Nat} (h : SV.Lt b (.fn F cs)) (hπ : ∀ i, i < b → π i < n ∨ π i = e) : eZ n e (.fn F (SV.renL π cs)) := by
 unfold eZ
 intro l h1 h2
 have := ow (π := π) (l := l) (fun i hi he => by rcases hπ i hi with h | h <;> omega) h
 unfold SV.ren at this
 exact this
def oP (n e : Nat) : Option Blk → Prop
 | some (.cells cs) => iG n e cs
 | _ => True
theorem rN {n e l : Nat} (hl : n ≤ l) (he : l ≠ e) {b : Option Blk} (hf : oP n e b) (h : nf l b = false) : ng l b = false := by
 cases b with
 | none => rfl
 | some b =>
  cases b with
  | cells cs => show cs.any (mem1 l) = false; rw [ip]; exact dz hl he hf h
  | row _ _ _ _ => rfl
  | cf m _ _ => exact h
def memY (e l : Nat) (x : SV) : Bool := bif Nat.beq l e then bw l x else ks l x
def uI (e l : Nat) (b : Option Blk) : Bool := bif Nat.beq l e then ng l b else nf l b
theorem memY_ok {n e l : Nat} (hl : n ≤ l) {x : SV} (hf : eZ n e x) (h : memY e l x = false) : bw l x = false := by
 unfold memY at h
 cases he : Nat.beq l e with
 | true => rw [he] at h; exact h
 | false => rw [he] at h; exact ov hl (fun q => by rw [q, Nat.beq_refl] at he; cases he) hf h
theorem uH {n e l : Nat} (hl : n ≤ l) {b : Option Blk} (hf : oP n e b) (h : uI e l b = false) : ng l b = false := by
 unfold uI at h
 cases he : Nat.beq l e with
 | true => rw [he] at h; exact h
 | false => rw [he] at h; exact rN hl (fun q => by rw [q, Nat.beq_refl] at he; cases he) hf h
def ld (e : Nat) (pre : List Nat) (ops : List Oper) (n0 i j : Nat) (labs : List Nat) (p q : Pt) : Bool :=
 (match p.1.dst, q.1.dst with | some a, some b => !Nat.beq a b | _, _ => true) &&
 (p.2.ed.all (fun x => q.2.ed.all fun y => !Nat.beq x.1 y.1) || jy pre i j) &&
 ((match q.1.dst with | some d => (ni ops p.1).all fun t => !Nat.beq d t | none => true) || jy pre i j) &&
 ((labs.all (fun l => q.2.ed.all fun y => !Nat.beq y.1 l) && p.2.rd.all (fun l => q.2.ed.all fun y => !Nat.beq y.1 l)) || jy pre i j) &&
 (!cF p.1.op || (Nat.blt i j && jy pre i j) || (!memY e (n0 + i) q.2.val && q.2.ed.all (fun y => !Nat.beq y.1 (n0 + i) && !uI e (n0 + i) y.2)))
def k9 (e : Nat) (pre : List Nat) (ops : List Oper) (n0 i : Nat) (labs : List Nat) (p : Pt) : List Pt → Nat → Bool
 | [], _ => true
 | q :: r, j => (Nat.beq i j || ld e pre ops n0 i j labs p q) && k9 e pre ops n0 i labs p r (j + 1)
def lh (e : Nat) (pre : List Nat) (ops : List Oper) (n0 : Nat) (all : List Pt) (S0 : St) : List Pt → Nat → St → Bool
 | [], _, _ => true
 | p :: r, i, S => k9 e pre ops n0 i (fZ S p.1.op) p all 0 && (!cF p.1.op || (S0.fr.all (fun x => !ks (n0 + i) x.2) && S0.hp.all (fun x => !Nat.beq x.1 (n0 + i) && !nf (n0 + i) x.2))) &&
   (p.1.after.toList.all fun e => !Region.binds .any e || Nat.blt e.on i) && (match p.1.dst with | some n => Nat.blt n S0.nt.n | none => true) && lh e pre ops n0 all S0 r (i + 1) (S.step p.1.dst p.2)
def i7 (e : Nat) (ops : List Oper) (efs : List Ef) (n0 : Nat) (S0 : St) : Bool := lh e (eb ops []) ops n0 (ops.zip efs) S0 (ops.zip efs) 0 S0
def e7 (n e : Nat) : List (Nat × Option Blk) → Prop
 | [] => True
 | x :: r => oP n e x.2 ∧ e7 n e r
def oN (n e : Nat) : List Ef → Prop
 | [] => True
 | x :: r => eZ n e x.val ∧ e7 n e x.ed ∧ oN n e r
theorem mj {n e : Nat} : ∀ {l : List (Nat × Option Blk)}, e7 n e l → ∀ x ∈ l, oP n e x.2
 | [], _, x, hx => by simp at hx
 | y :: r, h, x, hx => by
  unfold e7 at h
  rcases Q22 hx with rfl | hx
  ·exact h.1
  ·exact mj h.2 x hx
theorem ml {n e : Nat} : ∀ {l : List Ef}, oN n e l → ∀ x ∈ l, eZ n e x.val ∧ e7 n e x.ed
 | [], _, x, hx => by simp at hx
 | y :: r, h, x, hx => by
  unfold oN at h
  rcases Q22 hx with rfl | hx
  ·exact ⟨h.1, h.2.1⟩
  ·exact ml h.2.2 x hx
theorem edZ_ok {n e l : Nat} (hl : n ≤ l) {ed : List (Nat × Option Blk)} (hf : e7 n e ed) (h : ed.all (fun y => !Nat.beq y.1 l && !uI e l y.2) = true) : ed.all (fun y => !Nat.beq y.1 l && !ng l y.2) = true := by
 rw [Q23] at h ⊢
 intro y hy
 have := h y hy
 rw [Q5] at this ⊢
 refine ⟨this.1, ?_⟩
 have h2 := this.2
 rw [Bool.not_eq_true'] at h2 ⊢
 exact uH hl (mj hf y hy) h2
theorem nL {e : Nat} {pre : List Nat} {ops : List Oper} {n0 i j : Nat} {labs : List Nat} {p q : Pt} (hv : eZ n0 e q.2.val) (he : e7 n0 e q.2.ed) (h : ld e pre ops n0 i j labs p q = true) : bC pre ops n0 i j labs p q = true := by
 unfold ld at h; unfold bC
 rw [Q5] at h ⊢
 refine ⟨h.1, ?_⟩
 have h := h.2
 rw [Q20, Q20] at h ⊢
 rcases h with (h | h) | h
 ·exact .inl (.inl h)
 ·exact .inr h
 ·rw [Q5] at h
  refine .inl (.inr ?_)
  rw [Q5]
  refine ⟨?_, edZ_ok (by omega) he h.2⟩
  have h1 := h.1
  rw [Bool.not_eq_true'] at h1 ⊢
  exact memY_ok (by omega) hv h1
theorem jQ {e : Nat} {pre : List Nat} {ops : List Oper} {n0 i : Nat} {labs : List Nat} {p : Pt} : ∀ (l : List Pt) (k : Nat), (∀ q ∈ l, eZ n0 e q.2.val ∧ e7 n0 e q.2.ed) → k9 e pre ops n0 i labs p l k = true → ee pre ops n0 i labs p l k = true
 | [], _, _, _ => by unfold ee; rfl
 | q :: r, k, hf, h => by
  unfold k9 at h; unfold ee
  rw [Q5, Q20] at h ⊢
  refine ⟨?_, jQ r (k + 1) (fun q hq => hf q (List.mem_cons_of_mem _ hq)) h.2⟩
  rcases h.1 with h1 | h1
  ·exact .inl h1
  ·exact .inr (nL (hf q (List.mem_cons_self ..)).1 (hf q (List.mem_cons_self ..)).2 h1)
theorem jS {e : Nat} {pre : List Nat} {ops : List Oper} {n0 : Nat} {all : List Pt} {S0 : St} (ha : ∀ q ∈ all, eZ n0 e q.2.val ∧ e7 n0 e q.2.ed) (hF : nD n0 S0.fr) (hH : fN n0 S0.hp) :
  ∀ (l : List Pt) (i : Nat) (S : St), lh e pre ops n0 all S0 l i S = true → eg pre ops n0 all S0 l i S = true
 | [], _, _, _ => by unfold eg; rfl
 | p :: r, i, S, h => by
  unfold lh at h; unfold eg
  rw [Q5, Q5, Q5, Q5] at h ⊢
  obtain ⟨⟨⟨⟨h1, h2⟩, h3⟩, h4⟩, h5⟩ := h
  refine ⟨⟨⟨⟨jQ all 0 ha h1, ?_⟩, h3⟩, h4⟩, jS ha hF hH r (i + 1) _ h5⟩
  rw [Q20, Q5] at h2 ⊢
  rcases h2 with h2 | h2
  ·exact .inl h2
  ·refine .inr ⟨?_, sU (by omega) hH h2.2⟩
   have h6 := h2.1
   rw [Q23] at h6 ⊢
   intro x hx
   have h7 := h6 x hx
   rw [Bool.not_eq_true'] at h7 ⊢
   exact ko (by omega) (kU hF x hx) h7
theorem bY {e : Nat} {ops : List Oper} {efs : List Ef} {n0 : Nat} {S0 : St} (h : i7 e ops efs n0 S0 = true) (hE : oN n0 e efs) (hF : nD n0 S0.fr) (hH : fN n0 S0.hp) : dI ops efs n0 S0 = true := by
 refine jS (fun q hq => ?_) hF hH _ 0 S0 h
 exact ml hE q.2 (List.of_mem_zip hq).2
end Go.Proofs.YtpdhdnhkhidmpaaGreat
