/- Parts of the proof, one behind the other: Ce1, Ce4, Br9, Ct1. Lemmas and contracts of functions; no condition of its own. -/
import Derived.Test.YtpdhdnhkhidmpaaGreatMP16
set_option linter.unusedVariables false
set_option linter.unusedSimpArgs false
namespace Go.Proofs.YtpdhdnhkhidmpaaGreat
open Go.RowKit
set_option maxRecDepth 100000
namespace Core
open Dir (FZ plc upd Iw upd_same upd_ne plc_sh sh_32)
variable {P : Ops}
def Gf : Fc → Prop
 | .key => True
 | .ev j _ g => 0 ≤ g ∧ g ≤ j * 16000000
def Gb (n : Int) : Bk → Prop
 | .lv _ => True
 | .ev j _ g => (0 ≤ g ∧ g ≤ j * 16000000) ∧ n ≤ 16000000
def Gk : CS → Prop
 | .k0 f => Gf f
 | .kE f _ => Gf f
 | .kF f _ _ => Gf f
 | .kG f _ _ _ _ => Gf f
 | .kH f _ _ _ => Gf f
 | .kL f _ _ _ => Gf f
 | .eC j _ g _ _ _ => 0 ≤ g ∧ g ≤ j * 16000000
 | .eS j _ g _ _ _ n => (0 ≤ g ∧ g ≤ j * 16000000) ∧ n ≤ 16000000
 | .b0 n k => Gb n k
 | .b1 n k _ => Gb n k
 | _ => True
theorem gE (x : X) (r : Rpl) : Gk (leave x r).1 := by unfold leave; split <;> trivial
theorem nF (x : X) (f : Fd) (c : Cel) (r : Rpl) : Gk (put x f c r) := by unfold put; split <;> trivial
theorem dW {j sh : Nat} {g : Int} (h : 0 ≤ g ∧ g ≤ ((j : Int) + 1) * 16000000) : Gk (further j sh g).1 := by
 unfold further
 split
 ·trivial
 ·show 0 ≤ g ∧ g ≤ ((j + 1 : Nat) : Int) * 16000000
  omega
theorem uz {n : Int} {k : Bk} (hn : 0 ≤ n) (h : Gb n k) : Gk (after n k).1 := by
 cases k with
 | lv r => trivial
 | ev j sh g =>
  obtain ⟨⟨h1, h2⟩, h3⟩ := h
  exact dW (by omega)
theorem rD (x : X) (f : Fd) : Gk (foundK P x f).1 := by
 unfold foundK
 split
 ·trivial
 split
 ·split
  ·exact gE _ _
  ·split
   ·exact nF _ _ _ _
   ·trivial
 split
 ·split
  ·exact nF _ _ _ _
  ·trivial
 split <;> trivial
theorem jz {x : X} {f : Fc} (h : Gf f) (w : Nat) (v : Int) (l : List Cel) : Gk (entered P x f w v l).1 := by
 unfold entered
 split
 ·exact h
 ·unfold found
  split
  ·exact rD _ _
  ·rename_i j sh g
   have h' : 0 ≤ g ∧ g ≤ (j : Int) * 16000000 := h
   split
   ·exact dW (by omega)
   ·exact h
theorem on_gk (lv i : Nat) (up : Bool) (h : List Cel) : Gk (on lv i up h) := by
 unfold on move
 split
 ·split <;> trivial
 ·trivial
theorem step_gk {ps : List Pol} {room : Int} {n : Nat} (hn : n ≤ 16000000) {M : Mc} {x : X} {s : CS} (hs : Cw x M.W s) (hk : okH ps n x s) (h : Gk s) : Gk (step (aa ps room) M x s).s := by
  cases s with
  | none => trivial
  | k0 f => simp only [step]; split <;> exact h
  | kE f w => exact jz h _ _ _
  | kF f lv w => simp only [step]; split <;> exact h
  | kG f lv w v l => simp only [step]; split <;> exact h
  | kH f lv w l =>
    simp only [step]; split
    · exact h
    · exact jz h _ _ _
  | kL f lv w l => exact h
  | al f =>
    simp only [step]; split
    · exact gE _ _
    · exact nF _ _ _ _
  | pk c => trivial
  | a0 f =>
    simp only [step]; split
    · exact gE _ _
    · trivial
  | a1 f u =>
    simp only [step]; split
    · exact nF _ _ _ _
    · trivial
  | p0 f c r => simp only [step]; split <;> trivial
  | p1 f c r u => simp only [step]; split <;> trivial
  | pS f c r =>
    simp only [step]; split
    · show Gk (if f.there = true then leave x r else (.none, ⟨true, r⟩)).1
      split
      · exact gE _ _
      · trivial
    · trivial
  | b0 k b => exact h
  | b1 k b u =>
    simp only [step]; split
    · exact uz (by have := hs.1; omega) h
    · exact h
  | e0 => show (0 : Int) ≤ 0 ∧ (0 : Int) ≤ ((0 : Nat) : Int) * 16000000; omega
  | eC j sh g w v l =>
    have h' : 0 ≤ g ∧ g ≤ (j : Int) * 16000000 := h
    have hl : l.length ≤ n := Hc.len hk
    simp only [step]; split
    · exact dW (by omega)
    · exact ⟨h', by omega⟩
  | eS j sh g w v m k =>
    obtain ⟨h', hk'⟩ := h
    simp only [step]; split
    · exact ⟨h', hk'⟩
    · exact dW (by omega)
  | s0 => simp only [step]; split
          · trivial
          · split <;> trivial
  | sM lv => simp only [step]; split <;> trivial
  | sF lv i => simp only [step]; split <;> trivial
  | sG lv i v l => simp only [step]; split <;> trivial
  | sH lv i up l =>
    simp only [step]; split
    · trivial
    · exact on_gk _ _ _ _
  | sL lv i up l => exact on_gk _ _ _ _
  | sV lv => trivial
def Uk (n : Nat) : CS → Prop
 | .a1 _ u => 0 ≤ u ∧ u ≤ n
 | .p1 _ _ _ u => 0 ≤ u ∧ u ≤ 4096
 | .b1 _ _ u => 0 ≤ u ∧ u ≤ 4096
 | _ => True
theorem Uk.mono {n m : Nat} (e : n ≤ m) {s : CS} (h : Uk n s) : Uk m s := by
 cases s <;> first | trivial | exact h | (have h1 := h.1; have h2 := h.2; exact ⟨h1, by omega⟩)
theorem gz (n : Nat) (x : X) (r : Rpl) : Uk n (leave x r).1 := by unfold leave; split <;> trivial
theorem nB (n : Nat) (x : X) (f : Fd) (c : Cel) (r : Rpl) : Uk n (put x f c r) := by unfold put; split <;> trivial
theorem dQ (n : Nat) (j sh : Nat) (g : Int) : Uk n (further j sh g).1 := by unfold further; split <;> trivial
theorem rA (n : Nat) (x : X) (f : Fd) : Uk n (foundK P x f).1 := by
 unfold foundK
 split
 ·trivial
 split
 ·split
  ·exact gz _ _ _
  ·split
   ·exact nB _ _ _ _ _
   ·trivial
 split
 ·split
  ·exact nB _ _ _ _ _
  ·trivial
 split <;> trivial
theorem ju (n : Nat) (x : X) (f : Fc) (w : Nat) (v : Int) (l : List Cel) : Uk n (entered P x f w v l).1 := by
 unfold entered
 split
 ·trivial
 ·unfold found
  split
  ·exact rA _ _ _
  ·split
   ·exact dQ _ _ _ _
   ·trivial
theorem on_uk (n lv i : Nat) (up : Bool) (h : List Cel) : Uk n (on lv i up h) := by
 unfold on move
 split
 ·split <;> trivial
 ·trivial
theorem step_uk {n : Nat} {M : Mc} (h32 : 0 ≤ M.W 32 ∧ M.W 32 ≤ 4096) (h33 : 0 ≤ M.W 33 ∧ M.W 33 ≤ n) {x : X} {s : CS} (h : Uk n s) : Uk n (step P M x s).s := by
  cases s with
  | none => trivial
  | k0 f => simp only [step]; split <;> trivial
  | kE f w => exact ju _ _ _ _ _ _
  | kF f lv w => simp only [step]; split <;> trivial
  | kG f lv w v l => simp only [step]; split <;> trivial
  | kH f lv w l =>
    simp only [step]; split
    · trivial
    · exact ju _ _ _ _ _ _
  | kL f lv w l => trivial
  | al f =>
    simp only [step]; split
    · exact gz _ _ _
    · exact nB _ _ _ _ _
  | pk c => trivial
  | a0 f =>
    simp only [step]; split
    · exact gz _ _ _
    · exact h33
  | a1 f u =>
    simp only [step]; split
    · exact nB _ _ _ _ _
    · trivial
  | p0 f c r =>
    simp only [step]; split
    · trivial
    · exact h32
  | p1 f c r u => simp only [step]; split <;> trivial
  | pS f c r =>
    simp only [step]; split
    · show Uk n (if f.there = true then leave x r else (.none, ⟨true, r⟩)).1
      split
      · exact gz _ _ _
      · trivial
    · trivial
  | b0 k b => exact h32
  | b1 k b u =>
    simp only [step]; split
    · show Uk n (after k b).1
      cases b with
      | lv r => trivial
      | ev j sh g => exact dQ _ _ _ _
    · trivial
  | e0 => trivial
  | eC j sh g w v l =>
    simp only [step]; split
    · exact dQ _ _ _ _
    · trivial
  | eS j sh g w v m k =>
    simp only [step]; split
    · trivial
    · exact dQ _ _ _ _
  | s0 => simp only [step]; split
          · trivial
          · split <;> trivial
  | sM lv => simp only [step]; split <;> trivial
  | sF lv i => simp only [step]; split <;> trivial
  | sG lv i v l => simp only [step]; split <;> trivial
  | sH lv i up l =>
    simp only [step]; split
    · trivial
    · exact on_uk _ _ _ _ _
  | sL lv i up l => exact on_uk _ _ _ _ _
  | sV lv => trivial
theorem step_clk (M : Mc) (x : X) (s : CS) : (step P M x s).M.clk = M.clk := by
 cases s with
 | s0 => simp only [step]; split; rfl; split <;> rfl
 | _ => (first | rfl | (simp only [step]; split <;> rfl))
theorem qF {f : Nat → Int} : ∀ {n i : Nat}, i < n → (∀ j, j < n → 0 ≤ f j) → f i ≤ sumI n f
 | 0, i, h, _ => by omega
 | n + 1, i, h, hh => by
  simp only [sumI]
  have h0 := sumI_ge (f := f) (n := n) fun j hj => hh j (by omega)
  by_cases e : i = n
  ·subst e; omega
  ·have := qF (f := f) (n := n) (i := i) (by omega) fun j hj => hh j (by omega)
   have := hh n (by omega)
   omega
end Core
structure ca (ps : List Pol) (room : Int) (k : Nat) (M : Core.Mc) (S : Nat → Core.Wk) (xs : Nat → XB) (nl : Nat) (cnt : Int) : Prop where
 all : Core.All mq (aa ps room) M S ((k : Int) + 1)
 busy : Busy S
 hd : ∀ w, Hc ps k (M.Hd w)
 ok : ∀ j, Core.okH ps k (S j).x (S j).s
 gk : ∀ j, Core.Gk (S j).s
 uk : ∀ j, Core.Uk k (S j).s
 xe : ∀ j, (S j).s ≠ .none → xs (aK j) = ⟨9, xF j (S j).x⟩
 xl : ∀ i j, SV.Lt 1 ((xs i).f j)
 nl : nl ≤ 128
 cnt : cnt = (k : Int) + 1
 clk : 0 ≤ M.clk ∧ M.clk ≤ 4611686018427387903
 c33 : M.W 33 ≤ k
 ps : dq ps = 0
 room : 1 ≤ room ∧ room ≤ 4096
variable {ps : List Pol} {room : Int} {k : Nat} {M : Core.Mc} {S : Nat → Core.Wk} {xs : Nat → XB} {nl : Nat} {cnt : Int}
theorem ca.c32 (h : ca ps room k M S xs nl cnt) : 0 ≤ M.W 32 ∧ M.W 32 ≤ 4096 := by
 have h1 := h.all.ge
 have h2 := h.all.room
 have h3 := h.room
 have h4 : (aa ps room).room = room := rfl
 omega
theorem ca.cok (h : ca ps room k M S xs nl cnt) (hk : k ≤ 1000000) (w : Nat) (hw : w < 64) : COK ps room w (gOf (aa ps room) 4 S) M xs nl cnt :=
 ⟨by omega, by omega, h.nl, by have := h.cnt; omega, by have := h.cnt; omega, fM _ _, h.xl, h.all.inv.iw.d.1, h.all.inv.iw.d.2, fun w => (h.hd w).mono (by omega), h.ps, h.room, h.c32, by have := h.all.inv.c33; have := h.c33; omega⟩
open Core in
theorem ca.okC (h : ca ps room k M S xs nl cnt) (hk : k ≤ 1000000) {w : Nat} (hw : w < 64) : okC ps M (S w).x (S w).s := by
 have hcw := h.all.inv.cw w
 have hH := h.ok w
 have hG := h.gk w
 have hU := h.uk w
 have hO : aT (S w).x (S w).s ≤ M.W 32 := by
  have h1 := qF (f := fun i => aT (S i).x (S i).s) (n := 64) hw fun j _ => qG (h.all.inv.cw j)
  have h2 := h.all.cnt
  omega
 have p32 : ∀ lv, lv ≤ 4 → ∀ s : Int, 2 ^ lv ≤ Dir.plc lv s ∧ Dir.plc lv s < 32 := fun lv hl s => by
  obtain ⟨i, h1, h2⟩ := Dir.plc_sh lv s
  rw [h2]; exact ⟨by omega, (Dir.sh_32 hl h1).2⟩
 generalize (S w).x = x at hcw hH hO ⊢
 generalize (S w).s = s at hcw hH hG hU hO ⊢
 cases s with
 | kE f w => exact ⟨hcw.2.2, hH, hcw.1⟩
 | kF f lv w => exact ⟨hcw.2.1, by rw [hcw.2.2.1]; exact (p32 _ (by have := hcw.2.1; omega) _).2⟩
 | kG f lv w v l => exact ⟨⟨hcw.2.1, by rw [hcw.2.2.1]; exact (p32 _ (by have := hcw.2.1; omega) _).2⟩, hH.2.2, hcw.2.2.2.2⟩
 | kH f lv w l => exact ⟨by rw [hcw.2.2.2.1]; exact (p32 _ hcw.2.2.1 _).2, hH.1, hcw.1⟩
 | kL f lv w l => exact ⟨⟨hcw.2.2.1, by rw [hcw.2.2.2.1]; exact (p32 _ hcw.2.2.1 _).1, by rw [hcw.2.2.2.1]; exact (p32 _ hcw.2.2.1 _).2⟩, Hc.mono hH.2 (by omega)⟩
 | pk c => exact hH
 | a1 f u => have := hU.1; have := hU.2; exact ⟨by omega, by omega⟩
 | p1 f c r u => have := hU.1; have := hU.2; exact ⟨by omega, by omega⟩
 | pS f c r => exact ⟨⟨hH.1.k, Fdk.mono (by omega) hH.1, hH.2⟩, ⟨hcw.1.1, hcw.1.2.1⟩, Int.le_of_lt hcw.1.2.2.1, hcw.1.2.2.2⟩
 | b1 n b u =>
  have h1 := hU.1; have h2 := hU.2
  have hO : n ≤ M.W 32 := hO
  refine ⟨⟨⟨hcw.1, ?_⟩, by omega, by omega⟩, fun e => by omega, hcw.2, ?_⟩
  ·have := h.c32; omega
  ·rintro j sh gn rfl
   obtain ⟨⟨g1, g2⟩, g3⟩ := hG
   have hb : j < sh ∧ sh ≤ 16 := hcw.2
   exact ⟨g1, by omega⟩
 | eC j sh g w v l => exact ⟨⟨hcw.1, hcw.2.1⟩, Hc.mono hH (by omega)⟩
 | eS j sh g w v m n =>
  obtain ⟨a, b, c, d, e, f, g'⟩ := hcw
  exact ⟨⟨a, b⟩, ⟨c, d⟩, ⟨Int.le_of_lt e, f⟩, g', by have := hG.2; omega⟩
 | sM lv => exact hcw
 | sF lv i => exact ⟨hcw.1, hcw.2.1⟩
 | sG lv i v l => exact ⟨⟨hcw.1, hcw.2.1⟩, hH.2, hcw.2.2.2.2⟩
 | sH lv i up l => exact ⟨hcw.1, hcw.2.1⟩
 | sL lv i up l => exact ⟨⟨hcw.1, hcw.2.1⟩, Hc.mono hH (by omega)⟩
 | sV lv => exact hcw.1
 | _ => trivial
open Core in
theorem tk {M : Mc} {B : Int} (h : Dir.Iw M.W B) (hB : 1 ≤ B ∧ B + 1 < Dir.FZ) {x : X} (hx : 0 ≤ x.ser) (h33 : 0 ≤ M.W 33) {s : CS} (hs : Cw x M.W s) {P : Ops} : (Core.step P M x s).M.W 33 ≤ M.W 33 + 1 := by
 cases (cF (P := P) h hB hx h33 hs).chg with
 | no h => rw [h]; omega
 | d h1 h2 => rw [h1, Dir.upd_ne _ _ (by omega)]; omega
 | fz w h0 h1 h2 => rw [h2, Dir.upd_ne _ _ (by omega)]; omega
 | lay w h0 h1 h2 => rw [h2, Dir.upd_ne _ _ (by omega)]; omega
 | key w h0 h1 h2 => rw [h2, Dir.upd_ne _ _ (by omega)]; omega
 | cnt y h2 => rw [h2, Dir.upd_ne _ _ (by omega)]; omega
 | ser h1 h2 => rw [h2, Dir.upd_same]; omega
theorem ca.step (h : ca ps room k M S xs nl cnt) (hk : k ≤ 1000000) {w : Nat} (hw : w < 8 ∨ w = 9) (hn : isC (S w).s = true) :
  ca ps room (k + 1) (Core.mx (aa ps room) M S w) (Core.nx (aa ps room) M S w) (xsU xs (aK w) ⟨9, xF w (Core.step (aa ps room) M (S w).x (S w).s).x⟩) (au nl) (cnt + 1) := by
 have hw64 : w < 64 := by omega
 have hB : ((k : Int) + 1) + 1 < Dir.FZ := by unfold Dir.FZ; omega
 have hI := h.all.inv
 have h1 := Core.step_H (room := room) hI.iw h.hd (hI.cw w) (h.ok w)
 have h33 := tk (P := aa ps room) hI.iw ⟨hI.b, hB⟩ (hI.ser w) hI.c33 (hI.cw w)
 have at_ : ∀ {q : Nat → Core.Wk → Prop}, q w ⟨(Core.step (aa ps room) M (S w).x (S w).s).x, (Core.step (aa ps room) M (S w).x (S w).s).s⟩ → (∀ j, j ≠ w → q j (S j)) → ∀ j, q j (Core.nx (aa ps room) M S w j) := fun {q} g1 g2 j => by
  unfold Core.nx
  by_cases e : j = w
  ·subst e; rw [Dir.upd_same]; exact g1
  ·rw [Dir.upd_ne _ _ e]; exact g2 j e
 refine ⟨?_, ?_, h1.1, at_ (q := fun _ z => Core.okH ps (k + 1) z.x z.s) h1.2 fun j _ => (h.ok j).mono (Nat.le_succ k), at_ (q := fun _ z => Core.Gk z.s) (Core.step_gk (by omega) (hI.cw w) (h.ok w) (h.gk w)) fun j _ => h.gk j,
  at_ (q := fun _ z => Core.Uk (k + 1) z.s) ((Core.step_uk h.c32 ⟨hI.c33, h.c33⟩ (h.uk w)).mono (Nat.le_succ k)) fun j _ => (h.uk j).mono (Nat.le_succ k), ?_, pL h.xl _ _ _, tD h.nl, by have := h.cnt; omega, ?_, ?_, h.ps, h.room⟩
 ·have := h.all.step (cT ps room) hB hw64
  rwa [show ((k + 1 : Nat) : Int) + 1 = (k : Int) + 1 + 1 by omega]
 ·exact at_ (q := fun j z => z.s ≠ .none → j < 8 ∨ j = 9) (fun _ => hw) fun j _ => h.busy j
 ·refine at_ (q := fun j z => z.s ≠ .none → xsU xs (aK w) ⟨9, xF w (Core.step (aa ps room) M (S w).x (S w).s).x⟩ (aK j) = ⟨9, xF j z.x⟩) (fun _ => ?_) fun j hne hs => ?_
  ·unfold xsU; rw [Nat.beq_refl, cond_true]
  ·have := mw h.busy hw hs hne
   unfold xsU
   have hb : Nat.beq (aK j) (aK w) = false := by
    cases e : Nat.beq (aK j) (aK w) with
    | false => rfl
    | true => exact absurd (Nat.eq_of_beq_eq_true e) this
   rw [hb, cond_false]; exact h.xe j hs
 ·unfold Core.mx; rw [Core.step_clk]; exact h.clk
 ·have := h.c33
  show (Core.step (aa ps room) M (S w).x (S w).s).M.W 33 ≤ _
  omega
theorem ca.start (h : ca ps room k M S xs nl cnt) {w : Nat} (hw : w < 8 ∨ w = 9) (hn : (S w).s = .none) {op pol : Int} {key : List Int} {n : Int} (hk : op ≠ 5 → op ≠ 6 → Core.Kx ps (aI op pol key n)) :
  ca ps room k M (Dir.upd S w ⟨aI op pol key n, Core.first (aI op pol key n)⟩) (xsU xs (aK w) ⟨9, xF w (aI op pol key n)⟩) nl cnt := by
 have hl := eL h.ps
 have hx : Core.okNew mq (aI op pol key n) := by
  refine ⟨rfl, rfl, ?_⟩
  by_cases h5 : op = 5
  ·exact .inl h5
  ·by_cases h6 : op = 6
   ·exact .inr (.inl h6)
   ·have hq := hk h5 h6
    have hid : gw pol key := by
     have h1 : 0 ≤ pol ∧ pol < ps.length := hq.pol
     exact ⟨h1.1, by omega, hq.key⟩
    refine .inr (.inr ⟨hid, ?_⟩)
    show mq (bK pol key) = mq (pol :: key)
    rw [cN hid]
 have at_ : ∀ {q : Nat → Core.Wk → Prop}, q w ⟨aI op pol key n, Core.first (aI op pol key n)⟩ → (∀ j, j ≠ w → q j (S j)) → ∀ j, q j (Dir.upd S w ⟨aI op pol key n, Core.first (aI op pol key n)⟩ j) := fun {q} g1 g2 j => by
  by_cases e : j = w
  ·subst e; rw [Dir.upd_same]; exact g1
  ·rw [Dir.upd_ne _ _ e]; exact g2 j e
 refine ⟨h.all.start (by omega) hn hx, at_ (q := fun j z => z.s ≠ .none → j < 8 ∨ j = 9) (fun _ => hw) fun j _ => h.busy j, h.hd, at_ (q := fun _ z => Core.okH ps k z.x z.s) ?_ fun j _ => h.ok j, at_ (q := fun _ z => Core.Gk z.s) ?_ fun j _ => h.gk j, at_ (q := fun _ z => Core.Uk k z.s) ?_ fun j _ => h.uk j, ?_, pL h.xl _ _ _, h.nl, h.cnt, h.clk, h.c33, h.ps, h.room⟩
 ·show Core.okH ps k (aI op pol key n) (Core.first (aI op pol key n))
  unfold Core.first
  split
  ·trivial
  ·split
   ·trivial
   ·exact hk (by assumption) (by assumption)
 ·show Core.Gk (Core.first (aI op pol key n))
  unfold Core.first; (repeat' split) <;> trivial
 ·show Core.Uk k (Core.first (aI op pol key n))
  unfold Core.first; (repeat' split) <;> trivial
 ·refine at_ (q := fun j z => z.s ≠ .none → xsU xs (aK w) ⟨9, xF w (aI op pol key n)⟩ (aK j) = ⟨9, xF j z.x⟩) (fun _ => ?_) fun j hne hs => ?_
  ·unfold xsU; rw [Nat.beq_refl, cond_true]
  ·have := mw h.busy hw hs hne
   unfold xsU
   have hb : Nat.beq (aK j) (aK w) = false := by
    cases e : Nat.beq (aK j) (aK w) with
    | false => rfl
    | true => exact absurd (Nat.eq_of_beq_eq_true e) this
   rw [hb, cond_false]; exact h.xe j hs
theorem ca.tick (h : ca ps room k M S xs nl cnt) {t : Int} (ht : M.clk ≤ t ∧ t ≤ 4611686018427387903) : ca ps room k ⟨M.W, M.Hd, t⟩ S xs nl cnt :=
 ⟨h.all.tick ht.1, h.busy, h.hd, h.ok, h.gk, h.uk, h.xe, h.xl, h.nl, h.cnt, by have := h.clk; exact ⟨by show 0 ≤ t; omega, ht.2⟩, h.c33, h.ps, h.room⟩
theorem ca.zero (hp : dq ps = 0) (hr : 1 ≤ room ∧ room ≤ 4096) : ca ps room 0 Core.M0 (fun _ => ⟨default, .none⟩) (fun _ => ⟨0, fun _ => .any⟩) (au 0) 1 :=
 ⟨.zero (show (0 : Int) ≤ room by omega), fun _ h => absurd rfl h, fun _ => Hc.nil, fun _ => trivial, fun _ => trivial, fun _ => trivial, fun _ h => absurd rfl h, fun _ _ => .any, by decide, rfl, ⟨Int.le_refl _, by show (0 : Int) ≤ _; decide⟩, by show Dir.M0.W 33 ≤ _; decide, hp, hr⟩
end Go.Proofs.YtpdhdnhkhidmpaaGreat

namespace Go.Proofs.YtpdhdnhkhidmpaaGreat
open Go.RowKit
set_option maxRecDepth 100000
set_option maxHeartbeats 4000000
structure Pick where
 kind : Int
 who : Int
 op : Int
 pol : Int
 key : List Int
 n : Int
 t : Int
 deriving Inhabited
@[reducible] def Pick.D (p : Pick) : List D := [.val (.int .u8 p.kind), .val (.int .i64 p.who), .val (.int .u8 p.op), .val (.int .i64 p.pol), ax 1 (aR .u8) p.key, .val (.int .i64 p.n), .val (.int .i64 p.t)]
@[reducible] def Pick.S (p : Pick) : SV := .agg [.i .u8 p.kind, .i .i64 p.who, .i .u8 p.op, .i .i64 p.pol, .d (ax 1 (aR .u8) p.key), .i .i64 p.n, .i .i64 p.t]
structure Pick.ok (p : Pick) : Prop where
 kind : 0 ≤ p.kind ∧ p.kind ≤ 255
 who : -9223372036854775808 ≤ p.who ∧ p.who ≤ 9223372036854775807
 op : 0 ≤ p.op ∧ p.op ≤ 255
 pol : -9223372036854775808 ≤ p.pol ∧ p.pol ≤ 9223372036854775807
 key : IsB p.key
 n : -9223372036854775808 ≤ p.n ∧ p.n ≤ 9223372036854775807
 t : -9223372036854775808 ≤ p.t ∧ p.t ≤ 9223372036854775807
theorem Pick.at {script : List Pick} (hs : ∀ a ∈ script, a.ok) (j : Nat) : (script.getD j default).ok := by
 rw [List.getD_eq_getElem?_getD]
 cases e : script[j]? with
 | none => exact ⟨by decide, by decide, by decide, by decide, fun x hx => absurd hx (by simp [default, instInhabitedPick.default]), by decide, by decide⟩
 | some a => exact hs a (List.mem_of_getElem? e)
def dt (p : Pick) : Int := if p.op < 1 ∨ 6 < p.op then 1 + p.op % 6 else p.op
def cz (p : Pick) : Int := if dt p = 2 ∨ dt p = 3 ∨ dt p = 4 ∧ ¬ p.pol.tmod 2 = 0 then 1 else 0
def eF (p : Pick) : Pick := ⟨p.kind % 3, IntKind.u64.wrap p.who % 5, dt p, cz p, p.key.take 2, if dt p = 1 then co p.n else p.n, IntKind.u64.wrap p.t % 40⟩
theorem q9 (p : Pick) (h : p.ok) : Pure TC 12 [p.S] (eF p).S := by
 obtain ⟨⟨k0, k1⟩, ⟨h0, h1⟩, ⟨h2, h3⟩, ⟨p0, p1⟩, h4, ⟨h5, h6⟩, ⟨t0, t1⟩⟩ := h
 have hk : p.kind.tmod 3 = p.kind % 3 := Int.tmod_eq_emod_of_nonneg k0
 have hm : p.op.tmod 6 = p.op % 6 := Int.tmod_eq_emod_of_nonneg h2
 have hu : IntKind.u64.wrap p.who = p.who % 18446744073709551616 := by simp [IntKind.wrap, IntKind.bits, IntKind.signed]
 have hub : 0 ≤ IntKind.u64.wrap p.who ∧ IntKind.u64.wrap p.who < 18446744073709551616 := by omega
 have hu5 : (IntKind.u64.wrap p.who).tmod 5 = IntKind.u64.wrap p.who % 5 := Int.tmod_eq_emod_of_nonneg hub.1
 have hv : IntKind.u64.wrap p.t = p.t % 18446744073709551616 := by simp [IntKind.wrap, IntKind.bits, IntKind.signed]
 have hvb : 0 ≤ IntKind.u64.wrap p.t ∧ IntKind.u64.wrap p.t < 18446744073709551616 := by omega
 have hv5 : (IntKind.u64.wrap p.t).tmod 40 = IntKind.u64.wrap p.t % 40 := Int.tmod_eq_emod_of_nonneg hvb.1
 clear hu hv
 have hq : -1 ≤ p.pol.tmod 2 ∧ p.pol.tmod 2 ≤ 1 := by have := Int.lt_tmod_of_pos p.pol (b := 2) (by decide); have := Int.tmod_lt_of_pos p.pol (b := 2) (by decide); omega
 refine Pure.mk' Tryz.func12 rfl rfl zN ?_
 (repeat' (first | ((first | refine Wp.any ac rfl ?_ | (with_reducible first | refine Go.mk ?_ | apply aj.of | refine Ov.ok zO ?_ | refine And.intro zC ?_ | refine ab.pure (tq _ (by omega)) rfl rfl ?_ | refine Ov.mk ?_)); conv => whnf) | ((refine ap (fun hc => ?_) (fun hc => ?_)) <;> (try simp only [wz9] at hc) <;> (try (exfalso; omega)) <;> (conv => whnf))))
 all_goals refine SV.Le.agg (.cons (.i ?_) (.cons (.i ?_) (.cons (.i ?_) (.cons (.i ?_) (.cons (mz ?_ fun i hi => ?_) (.cons (.i ?_) (.cons (.i ?_) .nil)))))))
 all_goals first
  | exact hk
  | exact hu5
  | exact hv5
  | rfl
  | (simp only [eF, cz, dt]; (repeat' split) <;> omega)
  | (simp only [eF, cz, dt]; (repeat' split) <;> first | rfl | omega)
  | (simp only [eF, List.length_take]; split <;> omega)
  | (simp only [eF, Nat.zero_add] at hi ⊢; rw [List.getD_eq_getElem?_getD, List.getD_eq_getElem?_getD, List.getElem?_take, if_pos (by simp at hi; omega)])
def am : List Pol := [⟨1, 10, 20, 0⟩, ⟨2, 0, 0, 2⟩]
theorem lL : Pure TC 11 [] (.d (ax 4 Pol.D am)) := by
 refine Pure.mk' Tryz.func11 rfl rfl zN ?_
 (repeat' (first | ((first | refine Wp.any ac rfl ?_ | (with_reducible first | refine Go.mk ?_ | apply aj.of | refine And.intro zC ?_)); conv => whnf)))
 exact SV.Le.sl fun i hi => by
  have hi2 : i < 2 := hi
  have : i = 0 ∨ i = 1 := by omega
  rcases this with rfl | rfl <;> rfl
theorem jW : dq am = 0 := by decide
theorem nr {room : Int} (h : 1 ≤ room ∧ room ≤ 4096) : uK am room = 0 := by unfold uK; rw [if_neg (by omega)]; exact jW
theorem fit_ok {p : Pick} (h : p.ok) : jH am (eF p).op (eF p).pol (eF p).key (eF p).n = 0 ∧ (eF p).key.length ≤ 2 ∧ ((eF p).op ≠ 5 → (eF p).op ≠ 6 → Core.Kx am (aI (eF p).op (eF p).pol (eF p).key (eF p).n)) ∧ (1 ≤ (eF p).op ∧ (eF p).op ≤ 6) ∧
  (0 ≤ (eF p).who ∧ (eF p).who < 5) ∧ (0 ≤ (eF p).kind ∧ (eF p).kind ≤ 2) ∧ (0 ≤ (eF p).t ∧ (eF p).t < 40) := by
 have h1 : 1 ≤ dt p ∧ dt p ≤ 6 := by unfold dt; have := h.op; split <;> omega
 have h2 : cz p = 0 ∨ cz p = 1 := by unfold cz; split <;> simp
 have h3 : (p.key.take 2).length ≤ 2 := by simp; omega
 have h5 : IntKind.u64.wrap p.who = p.who % 18446744073709551616 := by simp [IntKind.wrap, IntKind.bits, IntKind.signed]
 have h6 : IntKind.u64.wrap p.t = p.t % 18446744073709551616 := by simp [IntKind.wrap, IntKind.bits, IntKind.signed]
 refine ⟨?_, h3, fun _ _ => ⟨fun x hx => h.key x (List.mem_of_mem_take hx), by show (p.key.take 2).length ≤ 255; omega, by show ([] : List Int).length ≤ 64; decide, by show 0 ≤ cz p ∧ cz p < 2; omega⟩, h1, ?_, ?_, ?_⟩
 ·show jH am (dt p) (cz p) (p.key.take 2) (if dt p = 1 then co p.n else p.n) = 0
  have g1 : dt p = 2 ∨ dt p = 3 → cz p = 1 := fun e => by unfold cz; rw [if_pos (by omega)]
  have g2 : dt p = 1 → cz p = 0 := fun e => by unfold cz; rw [if_neg (by omega)]
  have g3 : dt p = 1 → dl (if dt p = 1 then co p.n else p.n) = true := fun e => by
   rw [if_pos e]
   have := rZ p.n
   simp [dl]; omega
  generalize dt p = o at *
  generalize cz p = q at *
  generalize (if o = 1 then co p.n else p.n) = m at *
  unfold jH
  rw [if_neg (by
   rintro (e | e | ⟨e, e2⟩)
   ·omega
   ·omega
   ·rw [g3 e] at e2; cases e2), if_neg (by omega), if_neg (by simp [jW]), if_neg]
  rintro ⟨_, e | e | ⟨e, e2⟩⟩
  ·omega
  ·simp [am] at e; omega
  ·apply e2
   by_cases o1 : o = 1
   ·rw [g2 o1, o1]; rfl
   ·by_cases o2 : o = 2 ∨ o = 3
    ·rw [g1 o2]; rcases o2 with rfl | rfl <;> rfl
    ·exfalso; apply e; unfold mT; rw [if_neg o1, if_neg (by omega)]
 ·show 0 ≤ IntKind.u64.wrap p.who % 5 ∧ IntKind.u64.wrap p.who % 5 < 5; omega
 ·show 0 ≤ p.kind % 3 ∧ p.kind % 3 ≤ 2; omega
 ·show 0 ≤ IntKind.u64.wrap p.t % 40 ∧ IntKind.u64.wrap p.t % 40 < 40; omega
end Go.Proofs.YtpdhdnhkhidmpaaGreat

namespace Go.Proofs.YtpdhdnhkhidmpaaGreat
open Go.ChangeShapes Go.WideShapes Go.ChangeAt Go.RowKit
set_option maxRecDepth 100000
@[reducible] def uE : List Sh := [.int .u8, .int .i64, .int .u8, .int .i64, .sl 1 [.int .u8], .int .i64, .int .i64]
theorem tY {ds : List D} (h : i4 uE ds) : ∃ a : Pick, sR ds a.D ∧ a.ok := by
 obtain ⟨d0, r0, rfl, h0, t0⟩ := bW h
 obtain ⟨d1, r1, rfl, h1, t1⟩ := bW t0
 obtain ⟨d2, r2, rfl, h2, t2⟩ := bW t1
 obtain ⟨d3, r3, rfl, h3, t3⟩ := bW t2
 obtain ⟨d4, r4, rfl, h4, t4⟩ := bW t3
 obtain ⟨d5, r5, rfl, h5, t5⟩ := bW t4
 obtain ⟨d6, r6, rfl, h6, t6⟩ := bW t5
 obtain rfl := na t6
 obtain ⟨n0, rfl, w0⟩ := eB h0
 obtain ⟨n1, rfl, w1⟩ := eB h1
 obtain ⟨n2, rfl, w2⟩ := eB h2
 obtain ⟨n3, rfl, w3⟩ := eB h3
 obtain ⟨key, le, _, w4⟩ := tZ h4
 obtain ⟨n5, rfl, w5⟩ := eB h5
 obtain ⟨n6, rfl, w6⟩ := eB h6
 exact ⟨⟨n0, n1, n2, n3, key, n5, n6⟩, .cons (.rfl _) (.cons (.rfl _) (.cons (.rfl _) (.cons (.rfl _) (.cons le (.cons (.rfl _) (.cons (.rfl _) .nil)))))), s6 w0, np w1, s6 w2, np w3, fun x hx => s6 (w4 x hx), np w5, np w6⟩
theorem uv {H : Type} {enc : TypeId × Value → H} {W : World} {v : Value} {d : DataW H} {p : List MemPlace} (h : DataW.Trod enc Tryz.prog W 0 (fun _ => true) true 22 v d p) (hv : v.cells.toList = [v]) :
  ∃ script : List Pick, (∀ a ∈ script, a.ok) ∧ ∀ E : Env, E.Im = (fun b => b < W.heap.size) → RS E 0 W (.d (ax 7 Pick.D script)) v := by
 obtain ⟨x, f, g⟩ := arg1 h (s := .sl 7 uE) (by kernel_rfl) hv
 obtain ⟨script, le, _, hok⟩ := om f fun ds hd => tY hd
 exact ⟨script, hok, fun E hE => .d _ _ (by rw [hE]; exact le.out _ _ _ g)⟩
end Go.Proofs.YtpdhdnhkhidmpaaGreat

namespace Go.Proofs.YtpdhdnhkhidmpaaGreat
namespace Core
open Dir (FZ plc upd upW Iw okW di upd_same upd_ne pow_pos2)
variable {sm : List Int → Int} {P : Ops}
def FrC (P : Ops) (x : X) (f : Fd) (c : Cel) (r : Rpl) : Prop :=
 (x.op = 1 ∧ (∃ t, P.allow (P.pol x.pol) f.cell t x.n = (r, c)) ∧ r.g = true ∧ x.n ≠ 0) ∨
 (x.op = 2 ∧ (f.cell.held.length : Int) ≠ (P.pol x.pol).permits ∧ P.acq (P.pol x.pol) f.cell x.ser = (r, c) ∧ 0 < x.ser) ∨
 (x.op = 3 ∧ P.rel (P.pol x.pol) f.cell x.n = (r, c) ∧ r.e = 0)
def Fo (x : X) : Fc → Prop
 | .key => x.op ≠ 5 ∧ x.op ≠ 6
 | .ev _ _ _ => x.op = 5
def FrR (x : X) (r : Rpl) : Prop := (x.op = 1 ∧ r.e = 0) ∨ (x.op = 2 ∧ (r.e = 0 → r.serial = x.ser ∧ 0 < x.ser))
def FrB (x : X) : Bk → Prop
 | .lv r => FrR x r ∧ r.e ≠ 10
 | .ev _ _ _ => x.op = 5
def Fr (P : Ops) (x : X) : CS → Prop
 | .none => True
 | .k0 f => Fo x f
 | .kE f _ => Fo x f
 | .kF f _ _ => Fo x f
 | .kG f _ _ _ _ => Fo x f
 | .kH f _ _ _ => Fo x f
 | .kL f _ _ _ => Fo x f
 | .al _ => x.op = 1
 | .pk _ => x.op ≠ 1 ∧ x.op ≠ 2 ∧ x.op ≠ 3 ∧ x.op ≠ 5 ∧ x.op ≠ 6
 | .a0 f => x.op = 2 ∧ (f.cell.held.length : Int) ≠ (P.pol x.pol).permits
 | .a1 f _ => x.op = 2 ∧ (f.cell.held.length : Int) ≠ (P.pol x.pol).permits
 | .p0 f c r => FrC P x f c r
 | .p1 f c r _ => FrC P x f c r
 | .pS f c r => FrC P x f c r
 | .b0 _ k => FrB x k
 | .b1 _ k _ => FrB x k
 | .e0 => x.op = 5
 | .eC _ _ _ _ _ _ => x.op = 5
 | .eS _ _ _ _ _ _ _ => x.op = 5
 | .s0 => x.op = 6
 | .sM _ => x.op = 6
 | .sF _ _ => x.op = 6
 | .sG _ _ _ _ => x.op = 6
 | .sH _ _ _ _ => x.op = 6
 | .sL _ _ _ _ => x.op = 6
 | .sV _ => x.op = 6
structure OpsRe (P : Ops) : Prop where
 allow : ∀ p c t n, (P.allow p c t n).1.e = 0
 acq : ∀ p c n, (P.acq p c n).1.e ≠ 10
 acqs : ∀ p c n, (P.acq p c n).1.e = 0 → (P.acq p c n).1.serial = n
 rel : ∀ p c n, (P.rel p c n).1.e ≠ 10
 peek : ∀ p c t, (P.peek p c t).e = 0
structure FrP (P : Ops) (x : X) (p : CS × Rs) : Prop where
 s : Fr P x p.1
 e : p.2.r.e ≠ 10
theorem FrC.rr (hP : OpsRe P) {x : X} {f : Fd} {c : Cel} {r : Rpl} (h : FrC P x f c r) : r.e ≠ 10 ∧ (x.op = 3 ∧ r.e = 0 ∨ FrR x r) := by
 rcases h with ⟨h1, ⟨t, ht⟩, h3, h4⟩ | ⟨h1, h2, h3, h4⟩ | ⟨h1, h2, h3⟩
 ·have := hP.allow (P.pol x.pol) f.cell t x.n
  rw [ht] at this
  have e0 : r.e = 0 := this
  exact ⟨by omega, .inr (.inl ⟨h1, e0⟩)⟩
 ·have g1 := hP.acq (P.pol x.pol) f.cell x.ser
  have g2 := hP.acqs (P.pol x.pol) f.cell x.ser
  rw [h3] at g1 g2
  exact ⟨g1, .inr (.inr ⟨h1, fun e => ⟨g2 e, h4⟩⟩)⟩
 ·exact ⟨by omega, .inl ⟨h1, h3⟩⟩
theorem eV {x : X} {r : Rpl} (h : x.res = true → FrR x r) (h2 : r.e ≠ 10) : FrP P x (leave x r) := by
 unfold leave; split
 ·exact ⟨⟨h (by assumption), h2⟩, by show (0 : Int) ≠ 10; decide⟩
 ·exact ⟨trivial, h2⟩
theorem qy {x : X} {f : Fd} {c : Cel} {r : Rpl} (h : FrC P x f c r) : Fr P x (put x f c r) := by unfold put; split <;> exact h
theorem da {x : X} (h : x.op = 5) (j sh : Nat) (g : Int) : FrP P x (further j sh g) := by
 unfold further; split
 ·exact ⟨trivial, by show (0 : Int) ≠ 10; decide⟩
 ·exact ⟨h, by show (0 : Int) ≠ 10; decide⟩
theorem sC {x : X} {n : Int} {k : Bk} (h : FrB x k) : FrP P x (after n k) := by
 cases k with
 | lv r => exact ⟨trivial, h.2⟩
 | ev j sh g => exact da h _ _ _
theorem pa (hP : OpsRe P) {x : X} {f : Fd} (h : x.op ≠ 5 ∧ x.op ≠ 6) : FrP P x (foundK P x f) := by
 have z : (0 : Int) ≠ 10 := by decide
 unfold foundK
 by_cases h1 : x.op = 1
 ·rw [if_pos h1]; exact ⟨h1, z⟩
 rw [if_neg h1]
 by_cases h2 : x.op = 2
 ·rw [if_pos h2]
  split
  ·exact eV (fun _ => .inr ⟨h2, fun e => by cases e⟩) (by show (9 : Int) ≠ 10; decide)
  ·rename_i h3
   split
   ·exact ⟨qy (.inr (.inl ⟨h2, h3, rfl, by assumption⟩)), z⟩
   ·exact ⟨⟨h2, h3⟩, z⟩
 rw [if_neg h2]
 by_cases h3 : x.op = 3
 ·rw [if_pos h3]
  split
  ·exact ⟨qy (.inr (.inr ⟨h3, rfl, by assumption⟩)), z⟩
  ·exact ⟨trivial, hP.rel _ _ _⟩
 rw [if_neg h3]
 split
 ·exact ⟨trivial, by rw [hP.peek]; exact z⟩
 ·exact ⟨⟨h1, h2, h3, h⟩, z⟩
theorem iG (hP : OpsRe P) {x : X} {f : Fc} (hf : Fo x f) (w : Nat) (v : Int) (l : List Cel) : FrP P x (entered P x f w v l) := by
 unfold entered
 split
 ·exact ⟨hf, by show (0 : Int) ≠ 10; decide⟩
 ·unfold found
  cases f with
  | key => exact pa hP hf
  | ev j sh g =>
   dsimp only
   split
   ·exact da hf _ _ _
   ·exact ⟨hf, by show (0 : Int) ≠ 10; decide⟩
theorem on_fr {x : X} (h : x.op = 6) (lv i : Nat) (up : Bool) (m : List Cel) : Fr P x (on lv i up m) := by
 unfold on move; split
 ·split <;> exact h
 ·exact h
theorem fx (hP : OpsRe P) {M : Mc} {x : X} {s : CS} (hs : Cw x M.W s) (h : Fr P x s) (hr : Rx x s) :
  Fr P (step P M x s).x (step P M x s).s ∧ ((step P M x s).r.r.e = 10 → M.W 32 = P.room ∧ (step P M x s).M = M) := by
 have z : (0 : Int) ≠ 10 := by decide
 have pp : ∀ {p : CS × Rs}, FrP P x p → Fr P (same M x p).x (same M x p).s ∧ ((same M x p).r.r.e = 10 → M.W 32 = P.room ∧ (same M x p).M = M) := fun h => ⟨h.s, fun e => absurd e h.e⟩
 have z0 : ∀ {q : Prop}, r0.r.e = 10 → q := fun e => absurd e z
 cases s with
 | none => exact ⟨trivial, z0⟩
 | k0 f => refine ⟨?_, z0⟩; show Fr P x (if _ then _ else _); split <;> exact h
 | kE f w => exact pp (iG hP h _ _ _)
 | kF f lv w => refine ⟨?_, z0⟩; show Fr P x (if _ then _ else _); split <;> exact h
 | kG f lv w v m => simp only [step]; split <;> exact ⟨h, z0⟩
 | kH f lv w m =>
  simp only [step]; split
  ·exact ⟨h, z0⟩
  ·exact pp (iG hP h _ _ _)
 | kL f lv w m => exact ⟨h, z0⟩
 | al f =>
  have h1 : x.op = 1 := h
  simp only [step]; split
  ·exact pp (eV (fun _ => .inl ⟨h1, hP.allow _ _ _ _⟩) (by rw [hP.allow]; exact z))
  ·rename_i hc
   have hc : ¬ ((P.allow (P.pol x.pol) f.cell M.clk x.n).1.g = false ∨ x.n = 0) := hc
   refine ⟨qy (.inl ⟨h1, ⟨M.clk, rfl⟩, ?_, fun e => hc (.inr e)⟩), z0⟩
   cases e : (P.allow (P.pol x.pol) f.cell M.clk x.n).1.g with
   | true => rfl
   | false => exact absurd (.inl e) hc
 | pk c => exact ⟨trivial, fun e => absurd e (by show (P.peek _ _ _).e ≠ 10; rw [hP.peek]; exact z)⟩
 | a0 f =>
  simp only [step]; split
  ·exact pp (eV (fun _ => .inr ⟨h.1, fun e => by cases e⟩) (by show (5 : Int) ≠ 10; decide))
  ·exact ⟨h, z0⟩
 | a1 f u =>
  simp only [step]; split
  ·rename_i hc
   refine ⟨?_, z0⟩
   show Fr P { x with ser := u + 1 } (put x f _ _)
   have hu : 0 < u + 1 := by have := hs.2.1; omega
   have hC : FrC P { x with ser := u + 1 } f (P.acq (P.pol x.pol) f.cell (u + 1)).2 (P.acq (P.pol x.pol) f.cell (u + 1)).1 := .inr (.inl ⟨h.1, h.2, rfl, hu⟩)
   unfold put; split <;> exact hC
  ·exact ⟨h, z0⟩
 | p0 f c r =>
  simp only [step]; split
  ·rename_i hc; exact ⟨trivial, fun _ => ⟨hc, rfl⟩⟩
  ·exact ⟨h, z0⟩
 | p1 f c r u => simp only [step]; split <;> exact ⟨h, z0⟩
 | pS f c r =>
  have hrr := FrC.rr hP h
  simp only [step]; split
  ·show Fr P x (if f.there = true then leave x r else (.none, ⟨true, r⟩) : CS × Rs).1 ∧ ((if f.there = true then leave x r else (.none, ⟨true, r⟩) : CS × Rs).2.r.e = 10 → _)
   have hp : FrP P x (if f.there = true then leave x r else (.none, ⟨true, r⟩)) := by
    split
    ·refine eV (fun hres => ?_) hrr.1
     rcases hrr.2 with ⟨a, _⟩ | a
     ·have := hr.op hres; omega
     ·exact a
    ·exact ⟨trivial, hrr.1⟩
   exact ⟨hp.s, fun e => absurd e hp.e⟩
  ·refine ⟨?_, z0⟩
   show x.op ≠ 5 ∧ x.op ≠ 6
   rcases h with h | h | h <;> (have := h.1; omega)
 | b0 n k => exact ⟨h, z0⟩
 | b1 n k u =>
  simp only [step]; split
  ·have hp := sC (P := P) (n := n) h
   exact ⟨hp.s, fun e => absurd e hp.e⟩
  ·exact ⟨h, z0⟩
 | e0 => exact ⟨h, z0⟩
 | eC j sh g w v m =>
  simp only [step]; split
  ·exact pp (da h _ _ _)
  ·exact ⟨h, z0⟩
 | eS j sh g w v m n =>
  simp only [step]; split
  ·exact ⟨h, z0⟩
  ·exact pp (da h _ _ _)
 | s0 =>
  simp only [step]; split
  ·exact ⟨h, z0⟩
  ·split
   ·exact ⟨trivial, fun e => by cases e⟩
   ·exact ⟨h, z0⟩
 | sM lv => simp only [step]; split <;> exact ⟨h, z0⟩
 | sF lv i => refine ⟨?_, z0⟩; show Fr P x (if _ then _ else _); split <;> exact h
 | sG lv i v m => simp only [step]; split <;> exact ⟨h, z0⟩
 | sH lv i up m => refine ⟨?_, z0⟩; show Fr P x (if _ then _ else _); split; exact h; exact on_fr h _ _ _ _
 | sL lv i up m => exact ⟨on_fr h _ _ _ _, z0⟩
 | sV lv => exact ⟨trivial, fun e => absurd e z⟩
end Core
end Go.Proofs.YtpdhdnhkhidmpaaGreat
