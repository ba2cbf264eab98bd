/- Lemmas of Sx22, Sx24, Ty, Sx20, Bk1, Bk2, Bk3. No condition. -/
import Derived.Test.YtcbpkdhoibemcaaGreatMK4
import Derived.IntWalk
import Derived.Test.YtcbpkdhoibemcaaGreatRows
import Derived.Shelf.Bits.Mul64
set_option linter.unusedVariables false
set_option linter.unusedSimpArgs false
set_option maxHeartbeats 80000000
set_option maxRecDepth 100000
namespace Go.Proofs.YtcbpkdhoibemcaaGreat
open Go.RowKit
theorem Sat.rehp {O : Org} {E : Env} {nt : NT} {nx : Nat} {fr : List (Nat × SV)} {hp hp' : List (Nat × Option Blk)} {a : Act} {w : World} (h : Sat O E ⟨nt, nx, fr, hp⟩ a w)
  (hx : ∀ k b', lkh hp' k = some b' → ∃ b, lkh hp k = some b ∧ (∀ κ, b'.real κ → b.real κ) ∧ (BS E nx w k b → BS E nx w k b')) : Sat O E ⟨nt, nx, fr, hp'⟩ a w := by
 refine ⟨h.fr, h.nt, h.df, fun l b hb => ?_, fun l b hb => ?_, fun l l' b b' hb hb' hr hr' hne => ?_, fun b hb => ⟨(h.im b hb).1, (h.im b hb).2.1, fun l x hl hr => ?_⟩, fun l b hb hr => ?_, h.kq, h.lab, h.nl, h.imo⟩
 ·obtain ⟨b0, h1, _, h3⟩ := hx l b hb; exact h3 (h.hp l b0 h1)
 ·obtain ⟨b0, h1, _, _⟩ := hx l b hb; exact h.nx l b0 h1
 ·obtain ⟨b0, h1, h2, _⟩ := hx l b hb
  obtain ⟨b1, h3, h4, _⟩ := hx l' b' hb'
  exact h.inj l l' b0 b1 h1 h3 (h2 _ hr) (h4 _ hr') hne
 ·obtain ⟨b0, h1, h2, _⟩ := hx l x hl; exact (h.im b hb).2.2 l b0 h1 (h2 _ hr)
 ·obtain ⟨b0, h1, h2, _⟩ := hx l b hb; exact h.own l b0 h1 (h2 _ hr)
def pm (l nx k : Nat) : Nat := bif Nat.beq k l then nx else k
def mvH (l nx : Nat) : List (Nat × Option Blk) → List (Nat × Option Blk)
 | [] => []
 | (k, none) :: r => (k, none) :: mvH l nx r
 | (k, some b) :: r => (k, some (mF (pm l nx) b)) :: mvH l nx r
theorem eR {l nx : Nat} : ∀ (hp : List (Nat × Option Blk)) (k : Nat), lkh (mvH l nx hp) k = (lkh hp k).map (mF (pm l nx))
 | [], k => rfl
 | (j, none) :: r, k => by
  simp only [mvH, ai, eR r k]; split <;> rfl
 | (j, some b) :: r, k => by
  simp only [mvH, ai, eR r k]; split <;> rfl
theorem Sat.mv {O : Org} {E : Env} {nt : NT} {nx : Nat} {fr : List (Nat × SV)} {hp : List (Nat × Option Blk)} {a : Act} {w : World} (h : Sat O E ⟨nt, nx, fr, hp⟩ a w) {l e z n : Nat} {f : Nat → List D} (hl : lkh hp l = some (.row e z n f)) :
  Sat O (E.newrow nx (E.ρ l) (E.κ l)) ⟨nt, nx + 1, fr, (nx, some (.row e z n f)) :: (l, none) :: mvH l nx hp⟩ a w := by
 have hlx : l < nx := h.nx l _ hl
 have h0 := h.hp l _ hl
 have h1 := h.rename (w' := w) (b' := .row e z n f) hl (fun h => h) (fun _ _ _ => rfl) rfl ⟨rfl, rfl, rfl⟩ (by
  have := io (E := E) (E' := E.newrow nx (E.ρ l) (E.κ l)) (nx := nx) (nx' := nx + 1) (w := w) (π := pm l nx) (fun j hj => ?_) (fun j hj => ?_) (fun _ h => h) (l := l) (b := .row e z n f) hlx h0
  ·have e1 : pm l nx l = nx := by simp [pm]
   rw [e1] at this; exact this
  ·unfold pm
   cases hb : Nat.beq j l with
   | true => obtain rfl := Q2 hb; simp [Env.newrow]
   | false => simp only [cond_false, Env.newrow]; rw [if_neg (by omega), if_neg (by omega)]; exact ⟨rfl, rfl⟩
  ·unfold pm
   cases hb : Nat.beq j l with
   | true => simp
   | false => simp only [cond_false]; omega)
 refine h1.rehp fun k b' hb' => ?_
 rw [ai] at hb'
 by_cases e1 : nx = k
 ·rw [if_pos e1] at hb'; cases hb'
  exact ⟨_, by rw [ai, if_pos e1], fun _ h => h, fun h => h⟩
 ·rw [if_neg e1, ai] at hb'
  by_cases e2 : l = k
  ·rw [if_pos e2] at hb'; cases hb'
  ·rw [if_neg e2, eR] at hb'
   cases hq : lkh hp k with
   | none => rw [hq] at hb'; cases hb'
   | some b =>
    rw [hq] at hb'; cases hb'
    have hkx : k < nx := h.nx k b hq
    refine ⟨b, by rw [ai, if_neg e1, ai, if_neg e2]; exact hq, fun κ hr => (aO _ _ _).1 hr, fun hb => ?_⟩
    have := io (E := E.newrow nx (E.ρ l) (E.κ l)) (E' := E.newrow nx (E.ρ l) (E.κ l)) (nx := nx + 1) (nx' := nx + 1) (w := w) (π := pm l nx) (fun j hj => ?_) (fun j hj => ?_) (fun _ h => h) (l := k) (b := b) (by omega) hb
    ·have e3 : pm l nx k = k := by
      unfold pm
      cases hb : Nat.beq k l with
      | true => exact absurd (Q2 hb).symm e2
      | false => rfl
     rw [e3] at this; exact this
    ·unfold pm
     cases hb : Nat.beq j l with
     | true =>
      obtain rfl := Q2 hb
      have e4 : ¬ j = nx := by omega
      simp [Env.newrow, e4]
     | false => exact ⟨rfl, rfl⟩
    ·unfold pm
     cases hb : Nat.beq j l with
     | true => simp
     | false => simp only [cond_false]; omega
theorem HB.sub {E E1 : Env} {hp hp1 : List (Nat × Option Blk)} (h : ∀ k b, lkh hp1 k = some b → b.real (E1.κ k) → ∃ l b', lkh hp l = some b' ∧ b'.real (E.κ l) ∧ E.ρ l = E1.ρ k) : ∀ b, HB E1 hp1 b → HB E hp b := by
 rintro b ⟨k, x, hk, hr, rfl⟩
 obtain ⟨l, b', h1, h2, h3⟩ := h k x hk hr
 exact ⟨l, b', h1, h2, h3⟩
theorem ah.via {m m' nx nx1 : Nat} {nt : NT} {fr fr1 : List (Nat × SV)} {hp hp1 : List (Nat × Option Blk)} {x r : SV} {H' : List (Nat × Option Blk)} (hm : m ≤ nx) (hn : nx ≤ nx1)
  (hs : ∀ O E a w, Sat O E ⟨nt, nx, fr, hp⟩ a w → ∃ E1, Sat O E1 ⟨nt, nx1, fr1, hp1⟩ a w ∧ (∀ l, l < nx → E1.ρ l = E.ρ l ∧ E1.κ l = E.κ l) ∧ E1.Im = E.Im ∧ ∀ b, HB E1 hp1 b → HB E hp b)
  (h : ah m ⟨nt, nx1, fr1, hp1⟩ x m' r H') : ah m ⟨nt, nx, fr, hp⟩ x m' r H' := by
 refine ⟨fun O E a w v hO hs0 hv => ?_⟩
 obtain ⟨E1, h1, h2, h3, h4⟩ := hs O E a w hs0
 obtain ⟨E', k1, k2, k3, k4, k5, k6⟩ := h.out O E1 a w v hO h1 (RS.mono (E := E) h2 hn (fun b hb => by rw [h3]; exact hb) (fun _ _ => rfl) hv)
 refine ⟨E', k1, fun l hl => ?_, fun b hb => h4 b (k3 b hb), fun b hb => ?_, fun b hb => k5 b (by rw [h3]; exact hb), k6⟩
 ·obtain ⟨p1, p2⟩ := k2 l hl
  obtain ⟨p3, p4⟩ := h2 l (by omega)
  exact ⟨p1.trans p3, p2.trans p4⟩
 ·rcases k4 b hb with hb | hb
  ·exact Or.inl (by rw [← h3]; exact hb)
  ·exact Or.inr (h4 b hb)
theorem cG {E : Env} {nx b c : Nat} : ∀ l, l < nx → (E.newrow nx b c).ρ l = E.ρ l ∧ (E.newrow nx b c).κ l = E.κ l := fun l hl => ⟨by simp only [Env.newrow]; rw [if_neg (by omega)], by simp only [Env.newrow]; rw [if_neg (by omega)]⟩
theorem ah.mv {m m' nx : Nat} {nt : NT} {fr : List (Nat × SV)} {hp : List (Nat × Option Blk)} {x r : SV} {H' : List (Nat × Option Blk)} (l : Nat) {e z n : Nat} {f : Nat → List D} (hl : lkh hp l = some (.row e z n f)) (hm : m ≤ nx)
  (h : ah m ⟨nt, nx + 1, fr, (nx, some (.row e z n f)) :: (l, none) :: mvH l nx hp⟩ x m' r H') : ah m ⟨nt, nx, fr, hp⟩ x m' r H' := by
 refine ah.via hm (by omega) (fun O E a w hs => ⟨_, hs.mv hl, cG, rfl, HB.sub fun k b hk hr => ?_⟩) h
 rw [ai] at hk
 by_cases e1 : nx = k
 ·subst e1; rw [if_pos rfl] at hk; cases hk
  exact ⟨l, _, hl, by simpa [Env.newrow] using hr, by simp [Env.newrow]⟩
 ·rw [if_neg e1, ai] at hk
  by_cases e2 : l = k
  ·rw [if_pos e2] at hk; cases hk
  ·rw [if_neg e2, eR] at hk
   cases hq : lkh hp k with
   | none => rw [hq] at hk; cases hk
   | some b0 =>
    rw [hq] at hk; cases hk
    have hkx := hs.nx k b0 hq
    obtain ⟨p1, p2⟩ := cG (E := E) (nx := nx) (b := E.ρ l) (c := E.κ l) k hkx
    rw [p2] at hr
    exact ⟨k, b0, hq, (aO _ _ _).1 hr, p1.symm⟩
theorem Sat.virtC {O : Org} {E : Env} {nt : NT} {nx : Nat} {fr : List (Nat × SV)} {hp : List (Nat × Option Blk)} {a : Act} {w : World} (h : Sat O E ⟨nt, nx, fr, hp⟩ a w) (k j : Nat) {cs : List SV} (e z : Nat) (f : Nat → List D) (hz : 0 < z) (hk : lkh hp k = some (.cells cs)) (hj : cs[j]? = some (.d (.val (.slice none 0 0)))) :
  Sat O (E.newrow nx 0 0) ⟨nt, nx + 1, fr, (k, some (.cells (cs.set j (.sl nx z 0 0)))) :: (nx, some (.row e z 0 f)) :: hp⟩ a w := by
 have hkx : k < nx := h.nx k _ hk
 have h1 := h.virt (e := e) (f := f) hz
 refine h1.rehp fun q b' hb' => ?_
 rw [ai] at hb'
 by_cases e1 : k = q
 ·subst e1
  rw [if_pos rfl] at hb'; cases hb'
  refine ⟨.cells cs, by rw [ai, if_neg (show ¬ nx = k by omega)]; exact hk, fun _ h => h, fun hb => ?_⟩
  obtain ⟨vs, T, g1, g2, g3⟩ := hb
  refine ⟨vs, T, g1, by simpa using g2, fun i hi => ?_⟩
  have hi' : i < cs.length := by simpa using hi
  by_cases e2 : j = i
  ·subst e2
   have := (g3 j hi').1
   have e3 : cs[j] = .d (.val (.slice none 0 0)) := by rw [Q0 hi'] at hj; exact Option.some.inj hj
   rw [e3] at this
   have hv := this.val_inv
   refine ⟨?_, (g3 j hi').2⟩
   rw [List.getElem_set_self, hv]
   exact .sl _ _ _ _ _ _ (by show nx < nx + 1; omega) (Q4 _) (by unfold maxLen; omega) (fun h => by omega) (fun _ => ⟨by simp [Env.newrow], fun h => by omega⟩)
  ·rw [List.getElem_set_ne e2]; exact g3 i hi'
 ·rw [if_neg e1] at hb'
  exact ⟨b', hb', fun _ h => h, fun h => h⟩
theorem ah.virtC {m m' nx : Nat} {nt : NT} {fr : List (Nat × SV)} {hp : List (Nat × Option Blk)} {x r : SV} {H' : List (Nat × Option Blk)} (k j e z : Nat) (f : Nat → List D) {cs : List SV} (hz : 0 < z) (hk : lkh hp k = some (.cells cs)) (hj : cs[j]? = some (.d (.val (.slice none 0 0)))) (hm : m ≤ nx)
  (h : ah m ⟨nt, nx + 1, fr, (k, some (.cells (cs.set j (.sl nx z 0 0)))) :: (nx, some (.row e z 0 f)) :: hp⟩ x m' r H') : ah m ⟨nt, nx, fr, hp⟩ x m' r H' := by
 refine ah.via hm (by omega) (fun O E a w hs => ⟨_, hs.virtC k j e z f hz hk hj, cG, rfl, HB.sub fun q b hq hr => ?_⟩) h
 have hkx : k < nx := hs.nx k _ hk
 rw [ai] at hq
 by_cases e1 : k = q
 ·subst e1; rw [if_pos rfl] at hq; cases hq
  exact ⟨k, _, hk, trivial, (cG (E := E) k hkx).1.symm⟩
 ·rw [if_neg e1, ai] at hq
  by_cases e2 : nx = q
  ·subst e2; rw [if_pos rfl] at hq; cases hq
   simp [Blk.real, Env.newrow] at hr
  ·rw [if_neg e2] at hq
   have hqx := hs.nx q b hq
   obtain ⟨p1, p2⟩ := cG (E := E) (nx := nx) (b := 0) (c := 0) q hqx
   rw [p2] at hr
   exact ⟨q, b, hq, hr, p1.symm⟩
theorem ac.fn {L : List Nat} {f : Fn} {cs cs0 : List SV} (h : bc L cs cs0) : ac L (.fn f cs) (.fn f cs0) := by
 obtain ⟨h1, h2⟩ := h.out
 refine ⟨fun E nx w v hv => ?_⟩
 cases hv with
 | fn _ _ us hs hh =>
  refine .fn _ _ _ (by omega) fun j hj => ?_
  obtain ⟨x, g1, g2⟩ := h2 j _ (Q0 hj)
  obtain ⟨q1, q2⟩ := Q3 g1
  have := hh j q1
  rw [q2] at this
  exact g2.out _ _ _ _ this
theorem ah.mv2 {nx : Nat} {nt : NT} {fr : List (Nat × SV)} {hp : List (Nat × Option Blk)} {x r : SV} {H' : List (Nat × Option Blk)} {e z n : Nat} {f : Nat → List D} (hl : lkh hp 1 = some (.row e z n f)) (hm : Nat.ble 2 nx = true)
  (hx : rs2 ⟨nt, nx + 1, fr, (nx, some (.row e z n f)) :: (1, none) :: mvH 1 nx hp⟩ [0, 1, nx] x fun y => SV.Le y r) (hH : kf ⟨nt, nx + 1, fr, (nx, some (.row e z n f)) :: (1, none) :: mvH 1 nx hp⟩ [0, 1, nx] H') : ah 2 ⟨nt, nx, fr, hp⟩ x 3 r H' := by
 have h2 : 2 ≤ nx := zzb hm
 refine ah.mv 1 hl h2 (ah.of [0, 1, nx] rfl (fun i hi => by have : i = 0 ∨ i = 1 := (by omega); rcases this with h | h <;> subst h <;> rfl) ?_ hx hH)
 have e1 : Nat.beq 0 nx = false := by cases h : Nat.beq 0 nx with | true => have := Q2 h; omega | false => rfl
 have e2 : Nat.beq 1 nx = false := by cases h : Nat.beq 1 nx with | true => have := Q2 h; omega | false => rfl
 have e3 : Nat.beq 0 1 = false := rfl
 simp [bL, e1, e2, e3]
section
structure bI (S : St) (L : List Nat) (x y : SV) : Prop where
 out : ∀ O E a w v, Sat O E S a w → RS E S.nx w x v → RS (E.end S L) L.length w y v
def i6 (S : St) (L : List Nat) : List SV → List SV → Prop
 | [], [] => True
 | x :: xs, y :: ys => bI S L x y ∧ i6 S L xs ys
 | _, _ => False
theorem i6.out {S : St} {L : List Nat} : ∀ {xs ys : List SV}, i6 S L xs ys → xs.length = ys.length ∧ ∀ (j : Nat) (y : SV), ys[j]? = some y → ∃ x, xs[j]? = some x ∧ bI S L x y
 | [], [], _ => ⟨rfl, fun j y h => by simp at h⟩
 | x :: xs, y :: ys, ⟨h1, h2⟩ => by
  obtain ⟨g1, g2⟩ := i6.out h2
  refine ⟨by simp [g1], fun j z hz => ?_⟩
  cases j with
  | zero => simp at hz; subst hz; exact ⟨x, rfl, h1⟩
  | succ j => simp at hz; exact g2 j z hz
 | [], _ :: _, h => h.elim
 | _ :: _, [], h => h.elim
theorem i6.at {S : St} {L : List Nat} {xs ys : List SV} (h : i6 S L xs ys) {j : Nat} (hj : j < ys.length) : ∃ hj' : j < xs.length, bI S L xs[j] ys[j] := by
 obtain ⟨h1, h2⟩ := h.out
 obtain ⟨x, g1, g2⟩ := h2 j _ (Q0 hj)
 obtain ⟨q1, q2⟩ := Q3 g1
 exact ⟨q1, by rw [q2]; exact g2⟩
variable {S : St} {L : List Nat}
theorem bI.any {x : SV} : bI S L x .any := ⟨fun _ _ _ _ _ _ _ => .any _⟩
theorem bI.d {x : D} : bI S L (.d x) (.d x) := ⟨fun O E a w v hs hv => by cases hv with | d _ _ hv => exact .d _ _ (hv.mono (fun _ hb => Or.inl hb) fun _ _ => rfl)⟩
theorem bI.le {x y z : SV} (h : bI S L x y) (hl : SV.Le y z) : bI S L x z := ⟨fun O E a w v hs hv => hl.out _ _ _ _ (h.out O E a w v hs hv)⟩
theorem bI.sl {l e z o n m : Nat} {f : Nat → List D} (hi : lZ L l = none) (hl : lkh S.hp l = some (.row e z m f)) (hn : o + n ≤ m) : bI S L (.sl l z o n) (.d (.sl z n fun i => f (o + i))) := by
 refine ⟨fun O E a w v hs hv => ?_⟩
 have hI : ∀ b, E.Im b → (E.end S L).Im b := fun b hb => Or.inl hb
 obtain ⟨y, h1, h2⟩ := gA (ρ' := (E.end S L).ρ) (κ' := (E.end S L).κ) (m' := L.length) (k := fun y => y = .d (.sl z n fun i => f (o + i))) hs hI hv (fun l' b hl' hb hr => by
   have : SV.lab (.sl l z o n) = some l := rfl
   rw [this] at hl'; cases hl'; exact Or.inr ⟨l, b, hb, hr, rfl, jv hi⟩) (by simp only [eK, hl]; simp [hn])
 rw [h1] at h2; exact h2
theorem bI.tup {cs ds : List SV} (h : i6 S L cs ds) : bI S L (.tup cs) (.tup ds) := by
 refine ⟨fun O E a w v hs hv => ?_⟩
 cases hv with
 | tup _ us hsz hh => exact .tup _ us (by have := h.out.1; omega) fun j hj => by obtain ⟨q1, q2⟩ := h.at hj; exact q2.out O E a w _ hs (hh j q1)
structure DLe (x y : D) : Prop where
 out : ∀ w Im v, RD w Im x v → RD w Im y v
theorem DLe.refl (x : D) : DLe x x := ⟨fun _ _ _ h => h⟩
theorem DLe.nil {z : Nat} {f : Nat → List D} : DLe (.val (.slice none 0 0)) (.sl z 0 f) := ⟨fun w Im v h => by
 cases h with | val _ _ => exact .sl z 0 f none 0 (fun _ _ => undef) (Q4 _) (by unfold maxLen; omega) (fun i hi => by omega) (fun h => by omega) (fun i j hi => by omega)⟩
def n6 : List D → List D → Prop
 | [], [] => True
 | x :: xs, y :: ys => DLe x y ∧ n6 xs ys
 | _, _ => False
theorem n6.refl : ∀ xs : List D, n6 xs xs
 | [] => trivial
 | x :: xs => ⟨.refl x, n6.refl xs⟩
theorem n6.of {xs ys : List D} (h : xs = ys) : n6 xs ys := by subst h; exact .refl _
theorem n6.out : ∀ {xs ys : List D}, n6 xs ys → xs.length = ys.length ∧ ∀ (j : Nat) (hx : j < xs.length) (hy : j < ys.length), DLe xs[j] ys[j]
 | [], [], _ => ⟨rfl, fun j hx => by simp at hx⟩
 | x :: xs, y :: ys, ⟨h1, h2⟩ => by
  obtain ⟨g1, g2⟩ := n6.out h2
  refine ⟨by simp [g1], fun j hx hy => ?_⟩
  cases j with
  | zero => exact h1
  | succ j => exact g2 j (by simpa using hx) (by simpa using hy)
 | [], _ :: _, h => h.elim
 | _ :: _, [], h => h.elim
def blkS (S : St) (L : List Nat) : Option Blk → Blk → Prop
 | some (.cells cs), .cells cs' => i6 S L cs cs'
 | some (.row e z n f), .row e' z' n' f' => (e = e' ∧ z = z' ∧ n = n') ∧ ∀ i, i < n → n6 (f i) (f' i)
 | some (.cf _ n g), .cf m' n' g' => (n = n' ∧ m' ≤ L.length) ∧ ∀ j, j < n' → bI S L (g j) (g' j) ∧ SV.Lt m' (g' j)
 | some (.cells cs), .cf m' n' g' => m' ≤ L.length ∧ i6 S L cs ((List.range n').map g') ∧ ∀ j, j < n' → SV.Lt m' (g' j)
 | _, _ => False
def l1 (S : St) (L : List Nat) : List (Nat × Option Blk) → Prop
 | [] => True
 | (_, none) :: r => l1 S L r
 | (i, some b) :: r => bif Nat.blt i L.length then blkS S L (lkh S.hp (L.getD i 0)) b ∧ l1 S L r else False
theorem fG : ∀ {H : List (Nat × Option Blk)}, l1 S L H → ∀ i b, lkh H i = some b → i < L.length ∧ blkS S L (lkh S.hp (L.getD i 0)) b
 | [], _, i, b, h => by simp [lkh] at h
 | (j, none) :: r, hk, i, b, h => fG (H := r) hk i b (az h).2
 | (j, some b') :: r, hk, i, b, h => by
  unfold l1 at hk
  cases hb : Nat.blt j L.length with
  | false => simp [hb] at hk
  | true =>
   simp only [hb, cond_true] at hk
   rw [ai] at h
   by_cases e : j = i
   ·subst e; rw [if_pos rfl] at h; cases h; exact ⟨by simpa using hb, hk.1⟩
   ·rw [if_neg e] at h; exact fG hk.2 i b h
theorem ah.laid {m m' : Nat} {S : St} {x r : SV} {H' : List (Nat × Option Blk)} (L : List Nat) (hlen : L.length = m') (hm : ∀ i, i < m → L.getD i 0 = i) (hd : bL L = true) (hx : bI S L x r) (hH : l1 S L H') : ah m S x m' r H' := by
 refine ⟨fun O E a w v hO hs hv => ?_⟩
 subst hlen
 have hblk : ∀ i b, lkh H' i = some b → i < L.length ∧ (∃ b0, lkh S.hp (L.getD i 0) = some b0 ∧ (b.real (E.κ (L.getD i 0)) → b0.real (E.κ (L.getD i 0)))) ∧ BS (E.end S L) L.length w i b := by
  intro i b hb
  obtain ⟨g1, g2⟩ := fG hH i b hb
  unfold blkS at g2
  split at g2
  ·rename_i cs cs' hl
   refine ⟨g1, ⟨_, hl, fun _ => trivial⟩, ?_⟩
   obtain ⟨vs, T, k1, k2, k3⟩ := hs.hp _ _ hl
   have hlen := g2.out.1
   refine ⟨vs, T, k1, by omega, fun j hj => ?_⟩
   obtain ⟨q1, q2⟩ := g2.at hj
   exact ⟨q2.out O E a w _ hs (k3 j q1).1, (k3 j q1).2⟩
  ·rename_i e z n f e' z' n' f' hl
   obtain ⟨⟨rfl, rfl, rfl⟩, g3⟩ := g2
   refine ⟨g1, ⟨_, hl, fun h => h⟩, ?_⟩
   obtain ⟨k1, k2, k3, k4, k5⟩ := hs.hp _ _ hl
   refine ⟨k1, k2, k3, fun i hi => by rw [← (g3 i hi).out.1]; exact k4 i hi, fun hk => ?_⟩
   obtain ⟨vs, q1, q2, q3, q4⟩ := k5 hk
   refine ⟨vs, q1, q2, q3, fun i j hi hj => ?_⟩
   obtain ⟨p1, p2⟩ := (g3 i hi).out
   exact ((p2 j (by omega) hj).out _ _ _ (q4 i j hi (by omega))).mono (fun b hb => Or.inl hb) fun _ _ => rfl
  ·rename_i m n g m' n' g' hl
   obtain ⟨⟨rfl, hm'⟩, g3⟩ := g2
   refine ⟨g1, ⟨_, hl, fun h => h⟩, ?_⟩
   obtain ⟨k0, hh⟩ := hs.hp _ _ hl
   refine ⟨hm', fun hp => ?_⟩
   obtain ⟨vs, T, k1, k2, k3⟩ := hh hp
   exact ⟨vs, T, k1, k2, fun j hj => ⟨(g3 j hj).2, (g3 j hj).1.out O E a w _ hs (k3 j hj).2.1, (k3 j hj).2.2⟩⟩
  ·rename_i cs m' n' g' hl
   obtain ⟨hm', g3, g4⟩ := g2
   refine ⟨g1, ⟨_, hl, fun _ => trivial⟩, ?_⟩
   obtain ⟨vs, T, k1, k2, k3⟩ := hs.hp _ _ hl
   have hlen := g3.out.1
   refine ⟨hm', fun _ => ⟨vs, T, k1, by simp at hlen; omega, fun j hj => ?_⟩⟩
   obtain ⟨q1, q2⟩ := g3.at (j := j) (by simpa using hj)
   simp only [List.getElem_map, List.getElem_range] at q2
   exact ⟨g4 j hj, q2.out O E a w _ hs (k3 j q1).1, (k3 j q1).2⟩
  ·exact g2.elim
 have hmem : ∀ i, i < L.length → L.getD i 0 ∈ L := fun i hi => by simp [List.getD, Q0 hi]
 refine ⟨E.end S L, ⟨fun i b hb => (hblk i b hb).2.2, fun i b hb => (hblk i b hb).1, ?_, ?_⟩, fun l hl => by simp only [Env.end]; rw [hm l hl]; exact ⟨rfl, rfl⟩, ?_, ?_, fun b hb => Or.inl hb, hx.out O E a w v hs hv⟩
 ·intro i j b b' hi hj hr hr' hne
  obtain ⟨g1, ⟨b0, g2, g3⟩, _⟩ := hblk i b hi
  obtain ⟨g4, ⟨b1, g5, g6⟩, _⟩ := hblk j b' hj
  exact hs.inj _ _ _ _ g2 g5 (g3 hr) (g6 hr') (bv hd g1 g4 hne)
 ·intro b hb
  rcases hb with hb | ⟨l, y, hl, hr, rfl, hn⟩
  ·obtain ⟨k1, _, k3⟩ := hs.im b hb
   refine ⟨k1, fun i z hz hzr => ?_⟩
   obtain ⟨g1, ⟨b0, g2, g3⟩, _⟩ := hblk i z hz
   exact k3 _ _ g2 (g3 hzr)
  ·refine ⟨(hs.hp _ _ hl).lt hr, fun i z hz hzr => ?_⟩
   obtain ⟨g1, ⟨b0, g2, g3⟩, _⟩ := hblk i z hz
   exact hs.inj _ _ _ _ g2 hl (g3 hzr) hr (fun e => hn (e ▸ hmem i g1))
 ·rintro b ⟨i, z, hz, hzr, rfl⟩
  obtain ⟨g1, ⟨b0, g2, g3⟩, _⟩ := hblk i z hz
  exact ⟨_, _, g2, g3 hzr, rfl⟩
 ·rintro b (hb | ⟨l, y, hl, hr, rfl, hn⟩)
  ·exact Or.inl hb
  ·exact Or.inr ⟨l, y, hl, hr, rfl⟩
theorem ah.sealB {m m' : Nat} {S : St} {x r : SV} {H' : List (Nat × Option Blk)} (L : List Nat) (hlen : L.length = m') (hm : idP L m = true) (hd : bL L = true) (hx : bI S L x r) (hH : l1 S L H') : ah m S x m' r H' :=
 ah.laid L hlen (fun i hi => by unfold idP at hm; rw [Q23] at hm; exact Q2 (hm i (by simpa using hi))) hd hx hH
theorem zA {p : Prop} (h : p := by first | ((((conv => whnf); repeat' (first | exact trivial | exact ac.rfl rfl | exact ac.ptr rfl | exact ac.sl rfl | ((with_reducible refine ac.fn ?_); (conv => whnf)) | ((refine ac.iref ?_); (conv => whnf)) | exact ac.free SV.Le.nil rfl | ((with_reducible refine And.intro ?_ ?_) <;> (conv => whnf)) | ((refine ac.free ?_ rfl); (repeat' (first | exact SV.Le.rfl _ | exact SV.Le.nil | exact SV.Le.sl (fun i hi => by (rcases i with _ | _ | _ | _ | i) <;> first | rfl | (exfalso; omega)) | with_reducible refine SV.Le.agg ?_ | exact Les.nil | with_reducible refine Les.cons ?_ ?_)))))); done) | fail "no") : p := h
theorem zH {p : Prop} (h : p := by first | ((((conv => whnf); repeat' (first | exact trivial | exact ac.rfl rfl | exact ac.ptr rfl | exact ac.sl rfl | ((with_reducible refine ac.fn ?_); (conv => whnf)) | ((refine ac.iref ?_); (conv => whnf)) | exact ac.free SV.Le.nil rfl | exact ⟨rfl, rfl, rfl⟩ | exact fun i hi => rfl | exact (fun i hi => by (rcases i with _ | i) <;> first | rfl | (exfalso; omega)) | ((with_reducible refine And.intro ?_ ?_) <;> (conv => whnf))))); done) | fail "no") : p := h
theorem zK {p : Prop} (h : p := by first | (((conv => whnf); repeat' (first | exact trivial | ((refine And.intro rfl ?_); (conv => whnf)))); done) | fail "no") : p := h
theorem zB {p : Prop} (h : p := by first | ((first | exact lK (zzb rfl) (by omega) | omega); done) | fail "no") : p := h
theorem zO {p : Prop} (h : p := by first | ((first | exact IntWalk.i64_in _ (by omega) | exact IntWalk.u64_in _ (by omega) | exact IntWalk.u8_in _ (by omega) | exact IntWalk.u32_in _ (by omega) | exact IntWalk.i32_in _ (by omega) | exact IntWalk.u16_in _ (by omega)); done) | fail "no") : p := h
theorem zC {p : Prop} (h : p := by first | ((first | omega | exact zzb rfl); done) | fail "no") : p := h
theorem zE {p : Prop} (h : p := by first | ((first | exact trivial | exact bI.any | exact bI.d | exact bI.ptrL rfl | exact bI.slL rfl | exact bI.lt0 (SV.Lt.of rfl) | exact bI.same (by assumption) (zzb rfl) (fun i hi => id5 hi) | exact bI.le bI.d (SV.Le.i (by omega)) | exact ⟨rfl, rfl, rfl⟩ | exact ⟨rfl, zzb rfl⟩ | exact dir_seal (by assumption) | exact dir_sealR (by assumption) (fun l hl => by rcases l with _ | _ | _ | _ | _ | l <;> first | rfl | omega) | exact fun i hi => n6.refl _ | exact bI.le bI.d SV.Le.nil | exact bI.le (bI.sl rfl rfl (by omega)) (SV.Le.sl fun i hi => by simp only [Q19])); done) | fail "no") : p := h
theorem zA9 {p : Prop} (h : p := by first | ((first | exact trivial | exact SV.Le.rfl _ | exact ⟨rfl, rfl, rfl⟩ | exact fun i hi => rfl); done) | fail "no") : p := h
theorem zB9 {p : Prop} (h : p := by first | ((first | exact trivial | exact ac.rfl rfl | exact ac.ptr rfl | exact ac.sl rfl | exact ac.free SV.Le.nil rfl); done) | fail "no") : p := h
theorem wz9 : (∀ {p : Prop} [Decidable p], (decide p = true) = p) ∧ (∀ {p : Prop} [Decidable p], decide p = false ↔ ¬p) ∧ (∀ {a b : Bool}, ((a && b) = true) = (a = true ∧ b = true)) ∧ (∀ {a b : Bool}, ((a || b) = true) = (a = true ∨ b = true)) ∧ (∀ (x y : Bool), ((x && y) = false) = (x = false ∨ y = false)) ∧ (∀ (x y : Bool), ((x || y) = false) = (x = false ∧ y = false)) ∧ (∀ {b : Bool}, ((!b) = true) = (b = false)) ∧ (∀ {b : Bool}, ((!b) = false) = (b = true)) ∧ (∀ {α : Type} [BEq α] [LawfulBEq α] {a b : α}, (a == b) = true ↔ a = b) ∧ (∀ {α : Type} [BEq α] [LawfulBEq α] {a b : α}, (a != b) = true ↔ a ≠ b) ∧ (∀ {α : Type} (a b : α), (a ≠ b) = ¬(a = b)) ∧ (∀ {α : Type} [BEq α] [LawfulBEq α] {a b : α}, (a == b) = false ↔ a ≠ b) ∧ (∀ {α : Type} [BEq α] [LawfulBEq α] {a b : α}, (a != b) = false ↔ a = b) ∧ (∀ (b : Bool), (¬(b = true)) = (b = false)) ∧ (∀ (b : Bool), (¬(b = false)) = (b = true)) := ⟨by intros; first | (simp; done) | (rename_i x y; cases x <;> cases y <;> simp), by intros; first | (simp; done) | (rename_i x y; cases x <;> cases y <;> simp), by intros; first | (simp; done) | (rename_i x y; cases x <;> cases y <;> simp), by intros; first | (simp; done) | (rename_i x y; cases x <;> cases y <;> simp), by intros; first | (simp; done) | (rename_i x y; cases x <;> cases y <;> simp), by intros; first | (simp; done) | (rename_i x y; cases x <;> cases y <;> simp), by intros; first | (simp; done) | (rename_i x y; cases x <;> cases y <;> simp), by intros; first | (simp; done) | (rename_i x y; cases x <;> cases y <;> simp), by intros; first | (simp; done) | (rename_i x y; cases x <;> cases y <;> simp), by intros; first | (simp; done) | (rename_i x y; cases x <;> cases y <;> simp), by intros; first | (simp; done) | (rename_i x y; cases x <;> cases y <;> simp), by intros; first | (simp; done) | (rename_i x y; cases x <;> cases y <;> simp), by intros; first | (simp; done) | (rename_i x y; cases x <;> cases y <;> simp), by intros; first | (simp; done) | (rename_i x y; cases x <;> cases y <;> simp), by intros; first | (simp; done) | (rename_i x y; cases x <;> cases y <;> simp)⟩
def wpCan : Code → Bool
 | .seq _ _ => true
 | .block _ _ => true
 | .skip => true
 | .ret => true
 | .exit _ => true
 | .region _ _ _ => true
 | .cond _ _ _ => true
 | _ => false
def wpA (C : Cx) (c : Code) (S : St) (Q : Exit → St → Prop) : Prop :=
 match c with
 | .seq x y => Wp C x S (thenQ C y Q)
 | .block id c => Wp C c S (nP id Q)
 | .skip => Q .normal S
 | .ret => Q .ret S
 | .exit id => Q (.exit id) S
 | .region _ ⟨l⟩ false => kj C l l S (Q .normal)
 | .region _ ⟨l⟩ true => match S with
  | ⟨nt, nx, fr, hp⟩ => cntK l nx fun m => co C l nx l 0 ⟨nt, m, fr, hp⟩ fun efs Sn => fQ l efs nx ⟨nt, m, fr, hp⟩ = true ∧ Q .normal Sn
 | .cond x c d => condK C (ev S x) S c d Q
 | _ => False
theorem Wp.any {C : Cx} {c : Code} {S : St} {Q : Exit → St → Prop} (hm : C.P.follows .mixedOrders = true) (hc : wpCan c = true) (h : wpA C c S Q) : Wp C c S Q := by
 cases c with
 | seq x y => exact .seq h
 | block id c => exact .block h
 | skip => exact .skip h
 | ret => exact .ret h
 | exit id => exact .exit h
 | region id a b =>
  obtain ⟨l⟩ := a
  cases b with
  | false => exact .region h
  | true => obtain ⟨nt, nx, fr, hp⟩ := S; exact .drawL hm h
 | cond x c d => exact .cond h
 | _ => exact h.elim
theorem zN {a b : Nat} (h : Nat.ble a b = true := by exact rfl) : a ≤ b := zzb h
theorem zV {a b c d} {q : Prop} (h2 : q) (h : fQ a b c d = true := by kernel_rfl) : fQ a b c d = true ∧ q := ⟨h, h2⟩
theorem zz0 {p : Prop} (h : p := by first | ((exact lK zN (by omega)); done) | fail "no") : p := h
theorem zz1 {p : Prop} (h : p := by first | ((((conv => whnf); repeat' (first | exact zB9 | ((refine ac.agg ?_); (conv => whnf)) | ((with_reducible refine And.intro ?_ ?_) <;> (conv => whnf))))); done) | fail "no") : p := h
theorem zz2 {p : Prop} (h : p := by first | ((exact ⟨ac.sl rfl, ac.free (.agg (.cons (.rfl _) (.cons (.rfl _) (.cons (.rfl _) (.cons .nil .nil))))) rfl, ac.rfl rfl, trivial⟩); done) | fail "no") : p := h
end
abbrev zP := dt Tryz.prog
theorem zT {P : Program} {t : Nat} {i : TI} (h : dt P t i := by exact ⟨by kernel_rfl, by kernel_rfl, fun h => by cases h⟩) : dt P t i := h
def ti1 : TI := ⟨.func, 1, 8, [.nilFunc], false⟩
theorem ti1_ok : zP 1 ti1 := zT
def ti2 : TI := ⟨.int .i64, 1, 8, [.int .i64 0], false⟩
theorem ti2_ok : zP 2 ti2 := zT
def ti3 : TI := ⟨.int .i64, 1, 8, [.int .i64 0], false⟩
theorem ti3_ok : zP 3 ti3 := zT
def ti4 : TI := ⟨.bool, 1, 1, [.bool false], false⟩
theorem ti4_ok : zP 4 ti4 := zT
def ti5 : TI := ⟨.int .u8, 1, 1, [.int .u8 0], false⟩
theorem ti5_ok : zP 5 ti5 := zT
def ti6 : TI := ⟨.int .u8, 1, 1, [.int .u8 0], false⟩
theorem ti6_ok : zP 6 ti6 := zT
def ti7 : TI := ⟨.struct [(0, 2), (1, 3), (2, 4), (3, 6)], 4, 24, [.int .i64 0, .int .i64 0, .bool false, .int .u8 0], false⟩
theorem ti7_ok : zP 7 ti7 := zT
def ti8 : TI := ⟨.struct [(0, 2), (1, 3), (2, 4), (3, 6)], 4, 24, [.int .i64 0, .int .i64 0, .bool false, .int .u8 0], false⟩
theorem ti8_ok : zP 8 ti8 := zT
def ti9 : TI := ⟨.str, 1, 16, [.string ⟨#[]⟩], false⟩
theorem ti9_ok : zP 9 ti9 := zT
def ti10 : TI := ⟨.str, 1, 16, [.string ⟨#[]⟩], false⟩
theorem ti10_ok : zP 10 ti10 := zT
def ti11 : TI := ⟨.str, 1, 16, [.string ⟨#[]⟩], false⟩
theorem ti11_ok : zP 11 ti11 := zT
def ti12 : TI := ⟨.int .u64, 1, 8, [.int .u64 0], false⟩
theorem ti12_ok : zP 12 ti12 := zT
def ti13 : TI := ⟨.struct [(0, 9), (1, 12)], 2, 24, [.string ⟨#[]⟩, .int .u64 0], false⟩
theorem ti13_ok : zP 13 ti13 := zT
def ti14 : TI := ⟨.struct [(0, 9), (1, 12)], 2, 24, [.string ⟨#[]⟩, .int .u64 0], false⟩
theorem ti14_ok : zP 14 ti14 := zT
def ti15 : TI := ⟨.ptr 149, 1, 8, [.pointer none], false⟩
theorem ti15_ok : zP 15 ti15 := zT
def ti16 : TI := ⟨.ptr 152, 1, 8, [.pointer none], false⟩
theorem ti16_ok : zP 16 ti16 := zT
def ti17 : TI := ⟨.ptr 161, 1, 8, [.pointer none], false⟩
theorem ti17_ok : zP 17 ti17 := zT
def ti18 : TI := ⟨.struct [(0, 17)], 1, 8, [.pointer none], false⟩
theorem ti18_ok : zP 18 ti18 := zT
def ti19 : TI := ⟨.struct [(0, 17)], 1, 8, [.pointer none], false⟩
theorem ti19_ok : zP 19 ti19 := zT
def ti20 : TI := ⟨.other, 1, 16, [.nilIface], false⟩
theorem ti20_ok : zP 20 ti20 := zT
def ti21 : TI := ⟨.int .i32, 1, 4, [.int .i32 0], false⟩
theorem ti21_ok : zP 21 ti21 := zT
def ti22 : TI := ⟨.slice 28, 1, 24, [.slice none 0 0], false⟩
theorem ti22_ok : zP 22 ti22 := zT
def ti23 : TI := ⟨.slice 40, 1, 24, [.slice none 0 0], false⟩
theorem ti23_ok : zP 23 ti23 := zT
def ti24 : TI := ⟨.func, 1, 8, [.nilFunc], false⟩
theorem ti24_ok : zP 24 ti24 := zT
def ti25 : TI := ⟨.struct [(0, 2), (1, 2)], 2, 16, [.int .i64 0, .int .i64 0], true⟩
theorem ti25_ok : zP 25 ti25 := ⟨by kernel_rfl, by kernel_rfl, fun _ => ⟨by kernel_rfl, by kernel_rfl, by kernel_rfl⟩⟩
def ti26 : TI := ⟨.struct [(0, 2), (1, 2)], 2, 16, [.int .i64 0, .int .i64 0], true⟩
theorem ti26_ok : zP 26 ti26 := ⟨by kernel_rfl, by kernel_rfl, fun _ => ⟨by kernel_rfl, by kernel_rfl, by kernel_rfl⟩⟩
def ti27 : TI := ⟨.struct [(0, 5), (1, 26), (3, 3)], 4, 32, [.int .u8 0, .int .i64 0, .int .i64 0, .int .i64 0], true⟩
theorem ti27_ok : zP 27 ti27 := ⟨by kernel_rfl, by kernel_rfl, fun _ => ⟨by kernel_rfl, by kernel_rfl, by kernel_rfl⟩⟩
def ti28 : TI := ⟨.struct [(0, 5), (1, 26), (3, 3)], 4, 32, [.int .u8 0, .int .i64 0, .int .i64 0, .int .i64 0], true⟩
theorem ti28_ok : zP 28 ti28 := ⟨by kernel_rfl, by kernel_rfl, fun _ => ⟨by kernel_rfl, by kernel_rfl, by kernel_rfl⟩⟩
def ti29 : TI := ⟨.ptr 62, 1, 8, [.pointer none], false⟩
theorem ti29_ok : zP 29 ti29 := zT
def ti30 : TI := ⟨.int .i64, 1, 8, [.int .i64 0], false⟩
theorem ti30_ok : zP 30 ti30 := zT
def ti32 : TI := ⟨.func, 1, 8, [.nilFunc], false⟩
theorem ti32_ok : zP 32 ti32 := zT
def ti33 : TI := ⟨.ptr 52, 1, 8, [.pointer none], false⟩
theorem ti33_ok : zP 33 ti33 := zT
def ti35 : TI := ⟨.func, 1, 8, [.nilFunc], false⟩
theorem ti35_ok : zP 35 ti35 := zT
def ti36 : TI := ⟨.slice 5, 1, 24, [.slice none 0 0], false⟩
theorem ti36_ok : zP 36 ti36 := zT
def ti37 : TI := ⟨.struct [(0, 5), (1, 3), (2, 36), (3, 2)], 4, 48, [.int .u8 0, .int .i64 0, .slice none 0 0, .int .i64 0], false⟩
theorem ti37_ok : zP 37 ti37 := zT
def ti38 : TI := ⟨.struct [(0, 5), (1, 3), (2, 36), (3, 2)], 4, 48, [.int .u8 0, .int .i64 0, .slice none 0 0, .int .i64 0], false⟩
theorem ti38_ok : zP 38 ti38 := zT
def ti39 : TI := ⟨.struct [(0, 38), (4, 2), (5, 2)], 6, 64, [.int .u8 0, .int .i64 0, .slice none 0 0, .int .i64 0, .int .i64 0, .int .i64 0], false⟩
theorem ti39_ok : zP 39 ti39 := zT
def ti40 : TI := ⟨.struct [(0, 38), (4, 2), (5, 2)], 6, 64, [.int .u8 0, .int .i64 0, .slice none 0 0, .int .i64 0, .int .i64 0, .int .i64 0], false⟩
theorem ti40_ok : zP 40 ti40 := zT
def ti42 : TI := ⟨.func, 1, 8, [.nilFunc], false⟩
theorem ti42_ok : zP 42 ti42 := zT
def ti43 : TI := ⟨.struct [(0, 30), (1, 4), (2, 2), (3, 2), (4, 2), (5, 2)], 6, 48, [.int .i64 0, .bool false, .int .i64 0, .int .i64 0, .int .i64 0, .int .i64 0], true⟩
theorem ti43_ok : zP 43 ti43 := ⟨by kernel_rfl, by kernel_rfl, fun _ => ⟨by kernel_rfl, by kernel_rfl, by kernel_rfl⟩⟩
def ti44 : TI := ⟨.struct [(0, 30), (1, 4), (2, 2), (3, 2), (4, 2), (5, 2)], 6, 48, [.int .i64 0, .bool false, .int .i64 0, .int .i64 0, .int .i64 0, .int .i64 0], true⟩
theorem ti44_ok : zP 44 ti44 := ⟨by kernel_rfl, by kernel_rfl, fun _ => ⟨by kernel_rfl, by kernel_rfl, by kernel_rfl⟩⟩
def ti45 : TI := ⟨.func, 1, 8, [.nilFunc], false⟩
theorem ti45_ok : zP 45 ti45 := zT
def ti46 : TI := ⟨.func, 1, 8, [.nilFunc], false⟩
theorem ti46_ok : zP 46 ti46 := zT
def ti47 : TI := ⟨.func, 1, 8, [.nilFunc], false⟩
theorem ti47_ok : zP 47 ti47 := zT
def ti48 : TI := ⟨.slice 56, 1, 24, [.slice none 0 0], false⟩
theorem ti48_ok : zP 48 ti48 := zT
def ti49 : TI := ⟨.func, 1, 8, [.nilFunc], false⟩
theorem ti49_ok : zP 49 ti49 := zT
def ti50 : TI := ⟨.func, 1, 8, [.nilFunc], false⟩
theorem ti50_ok : zP 50 ti50 := zT
def ti51 : TI := ⟨.struct [(0, 22), (1, 3), (2, 48)], 3, 56, [.slice none 0 0, .int .i64 0, .slice none 0 0], false⟩
theorem ti51_ok : zP 51 ti51 := zT
def ti52 : TI := ⟨.struct [(0, 22), (1, 3), (2, 48)], 3, 56, [.slice none 0 0, .int .i64 0, .slice none 0 0], false⟩
theorem ti52_ok : zP 52 ti52 := zT
def ti53 : TI := ⟨.func, 1, 8, [.nilFunc], false⟩
theorem ti53_ok : zP 53 ti53 := zT
def ti54 : TI := ⟨.slice 2, 1, 24, [.slice none 0 0], false⟩
theorem ti54_ok : zP 54 ti54 := zT
def ti55 : TI := ⟨.struct [(0, 3), (1, 36), (2, 2), (3, 54)], 4, 64, [.int .i64 0, .slice none 0 0, .int .i64 0, .slice none 0 0], false⟩
theorem ti55_ok : zP 55 ti55 := zT
def ti56 : TI := ⟨.struct [(0, 3), (1, 36), (2, 2), (3, 54)], 4, 64, [.int .i64 0, .slice none 0 0, .int .i64 0, .slice none 0 0], false⟩
theorem ti56_ok : zP 56 ti56 := zT
def ti57 : TI := ⟨.func, 1, 8, [.nilFunc], false⟩
theorem ti57_ok : zP 57 ti57 := zT
def ti58 : TI := ⟨.func, 1, 8, [.nilFunc], false⟩
theorem ti58_ok : zP 58 ti58 := zT
def ti59 : TI := ⟨.func, 1, 8, [.nilFunc], false⟩
theorem ti59_ok : zP 59 ti59 := zT
def ti60 : TI := ⟨.func, 1, 8, [.nilFunc], false⟩
theorem ti60_ok : zP 60 ti60 := zT
def ti61 : TI := ⟨.struct [(0, 22), (1, 3), (2, 48)], 3, 56, [.slice none 0 0, .int .i64 0, .slice none 0 0], false⟩
theorem ti61_ok : zP 61 ti61 := zT
def ti62 : TI := ⟨.struct [(0, 22), (1, 3), (2, 48)], 3, 56, [.slice none 0 0, .int .i64 0, .slice none 0 0], false⟩
theorem ti62_ok : zP 62 ti62 := zT
def ti63 : TI := ⟨.func, 1, 8, [.nilFunc], false⟩
theorem ti63_ok : zP 63 ti63 := zT
def ti64 : TI := ⟨.func, 1, 8, [.nilFunc], false⟩
theorem ti64_ok : zP 64 ti64 := zT
def ti65 : TI := ⟨.func, 1, 8, [.nilFunc], false⟩
theorem ti65_ok : zP 65 ti65 := zT
def ti66 : TI := ⟨.func, 1, 8, [.nilFunc], false⟩
theorem ti66_ok : zP 66 ti66 := zT
def ti67 : TI := ⟨.func, 1, 8, [.nilFunc], false⟩
theorem ti67_ok : zP 67 ti67 := zT
def ti69 : TI := ⟨.func, 1, 8, [.nilFunc], false⟩
theorem ti69_ok : zP 69 ti69 := zT
def ti70 : TI := ⟨.func, 1, 8, [.nilFunc], false⟩
theorem ti70_ok : zP 70 ti70 := zT
def ti72 : TI := ⟨.func, 1, 8, [.nilFunc], false⟩
theorem ti72_ok : zP 72 ti72 := zT
def ti73 : TI := ⟨.func, 1, 8, [.nilFunc], false⟩
theorem ti73_ok : zP 73 ti73 := zT
def ti74 : TI := ⟨.func, 1, 8, [.nilFunc], false⟩
theorem ti74_ok : zP 74 ti74 := zT
def ti75 : TI := ⟨.func, 1, 8, [.nilFunc], false⟩
theorem ti75_ok : zP 75 ti75 := zT
def ti76 : TI := ⟨.func, 1, 8, [.nilFunc], false⟩
theorem ti76_ok : zP 76 ti76 := zT
def ti77 : TI := ⟨.func, 1, 8, [.nilFunc], false⟩
theorem ti77_ok : zP 77 ti77 := zT
def ti79 : TI := ⟨.func, 1, 8, [.nilFunc], false⟩
theorem ti79_ok : zP 79 ti79 := zT
def ti80 : TI := ⟨.func, 1, 8, [.nilFunc], false⟩
theorem ti80_ok : zP 80 ti80 := zT
def ti81 : TI := ⟨.func, 1, 8, [.nilFunc], false⟩
theorem ti81_ok : zP 81 ti81 := zT
def ti82 : TI := ⟨.func, 1, 8, [.nilFunc], false⟩
theorem ti82_ok : zP 82 ti82 := zT
def ti83 : TI := ⟨.func, 1, 8, [.nilFunc], false⟩
theorem ti83_ok : zP 83 ti83 := zT
def ti84 : TI := ⟨.func, 1, 8, [.nilFunc], false⟩
theorem ti84_ok : zP 84 ti84 := zT
def ti85 : TI := ⟨.func, 1, 8, [.nilFunc], false⟩
theorem ti85_ok : zP 85 ti85 := zT
def ti86 : TI := ⟨.func, 1, 8, [.nilFunc], false⟩
theorem ti86_ok : zP 86 ti86 := zT
def ti87 : TI := ⟨.func, 1, 8, [.nilFunc], false⟩
theorem ti87_ok : zP 87 ti87 := zT
def ti89 : TI := ⟨.func, 1, 8, [.nilFunc], false⟩
theorem ti89_ok : zP 89 ti89 := zT
def ti90 : TI := ⟨.func, 1, 8, [.nilFunc], false⟩
theorem ti90_ok : zP 90 ti90 := zT
def ti92 : TI := ⟨.func, 1, 8, [.nilFunc], false⟩
theorem ti92_ok : zP 92 ti92 := zT
def ti93 : TI := ⟨.func, 1, 8, [.nilFunc], false⟩
theorem ti93_ok : zP 93 ti93 := zT
def ti94 : TI := ⟨.struct [(0, 4), (1, 2), (2, 2), (3, 2)], 4, 32, [.bool false, .int .i64 0, .int .i64 0, .int .i64 0], true⟩
theorem ti94_ok : zP 94 ti94 := ⟨by kernel_rfl, by kernel_rfl, fun _ => ⟨by kernel_rfl, by kernel_rfl, by kernel_rfl⟩⟩
def ti95 : TI := ⟨.struct [(0, 4), (1, 2), (2, 2), (3, 2)], 4, 32, [.bool false, .int .i64 0, .int .i64 0, .int .i64 0], true⟩
theorem ti95_ok : zP 95 ti95 := ⟨by kernel_rfl, by kernel_rfl, fun _ => ⟨by kernel_rfl, by kernel_rfl, by kernel_rfl⟩⟩
def ti97 : TI := ⟨.func, 1, 8, [.nilFunc], false⟩
theorem ti97_ok : zP 97 ti97 := zT
def ti98 : TI := ⟨.struct [(0, 3), (1, 54)], 2, 32, [.int .i64 0, .slice none 0 0], false⟩
theorem ti98_ok : zP 98 ti98 := zT
def ti99 : TI := ⟨.struct [(0, 3), (1, 54)], 2, 32, [.int .i64 0, .slice none 0 0], false⟩
theorem ti99_ok : zP 99 ti99 := zT
def ti101 : TI := ⟨.func, 1, 8, [.nilFunc], false⟩
theorem pk : zP 101 ti101 := zT
def ti102 : TI := ⟨.func, 1, 8, [.nilFunc], false⟩
theorem pj : zP 102 ti102 := zT
def ti103 : TI := ⟨.func, 1, 8, [.nilFunc], false⟩
theorem ph : zP 103 ti103 := zT
def ti104 : TI := ⟨.func, 1, 8, [.nilFunc], false⟩
theorem pg : zP 104 ti104 := zT
def ti105 : TI := ⟨.struct [(0, 4), (1, 2), (2, 2), (3, 2)], 4, 32, [.bool false, .int .i64 0, .int .i64 0, .int .i64 0], true⟩
theorem pf : zP 105 ti105 := ⟨by kernel_rfl, by kernel_rfl, fun _ => ⟨by kernel_rfl, by kernel_rfl, by kernel_rfl⟩⟩
def ti106 : TI := ⟨.func, 1, 8, [.nilFunc], false⟩
theorem pe : zP 106 ti106 := zT
def ti107 : TI := ⟨.func, 1, 8, [.nilFunc], false⟩
theorem pd : zP 107 ti107 := zT
def ti108 : TI := ⟨.func, 1, 8, [.nilFunc], false⟩
theorem pc : zP 108 ti108 := zT
def ti109 : TI := ⟨.func, 1, 8, [.nilFunc], false⟩
theorem pb : zP 109 ti109 := zT
def ti110 : TI := ⟨.func, 1, 8, [.nilFunc], false⟩
theorem pa : zP 110 ti110 := zT
def ti111 : TI := ⟨.func, 1, 8, [.nilFunc], false⟩
theorem o9 : zP 111 ti111 := zT
def ti112 : TI := ⟨.func, 1, 8, [.nilFunc], false⟩
theorem o8 : zP 112 ti112 := zT
def ti113 : TI := ⟨.func, 1, 8, [.nilFunc], false⟩
theorem o7 : zP 113 ti113 := zT
def ti114 : TI := ⟨.func, 1, 8, [.nilFunc], false⟩
theorem o6 : zP 114 ti114 := zT
def ti115 : TI := ⟨.func, 1, 8, [.nilFunc], false⟩
theorem o5 : zP 115 ti115 := zT
def ti116 : TI := ⟨.int .u64, 1, 8, [.int .u64 0], false⟩
theorem o4 : zP 116 ti116 := zT
def ti118 : TI := ⟨.func, 1, 8, [.nilFunc], false⟩
theorem o3 : zP 118 ti118 := zT
def ti119 : TI := ⟨.func, 1, 8, [.nilFunc], false⟩
theorem o0 : zP 119 ti119 := zT
def ti120 : TI := ⟨.func, 1, 8, [.nilFunc], false⟩
theorem oZ : zP 120 ti120 := zT
def ti121 : TI := ⟨.func, 1, 8, [.nilFunc], false⟩
theorem oY : zP 121 ti121 := zT
def ti122 : TI := ⟨.func, 1, 8, [.nilFunc], false⟩
theorem oX : zP 122 ti122 := zT
def ti123 : TI := ⟨.func, 1, 8, [.nilFunc], false⟩
theorem oW : zP 123 ti123 := zT
def ti124 : TI := ⟨.func, 1, 8, [.nilFunc], false⟩
theorem oV : zP 124 ti124 := zT
def ti125 : TI := ⟨.func, 1, 8, [.nilFunc], false⟩
theorem oU : zP 125 ti125 := zT
def ti126 : TI := ⟨.func, 1, 8, [.nilFunc], false⟩
theorem oT : zP 126 ti126 := zT
def ti127 : TI := ⟨.func, 1, 8, [.nilFunc], false⟩
theorem oS : zP 127 ti127 := zT
def ti128 : TI := ⟨.func, 1, 8, [.nilFunc], false⟩
theorem oR : zP 128 ti128 := zT
def ti129 : TI := ⟨.func, 1, 8, [.nilFunc], false⟩
theorem oQ : zP 129 ti129 := zT
def ti130 : TI := ⟨.func, 1, 8, [.nilFunc], false⟩
theorem oP : zP 130 ti130 := zT
def ti131 : TI := ⟨.func, 1, 8, [.nilFunc], false⟩
theorem oO : zP 131 ti131 := zT
def ti132 : TI := ⟨.func, 1, 8, [.nilFunc], false⟩
theorem oN : zP 132 ti132 := zT
def ti133 : TI := ⟨.func, 1, 8, [.nilFunc], false⟩
theorem oM : zP 133 ti133 := zT
def ti134 : TI := ⟨.slice 142, 1, 24, [.slice none 0 0], false⟩
theorem oL : zP 134 ti134 := zT
def ti135 : TI := ⟨.func, 1, 8, [.nilFunc], false⟩
theorem oK : zP 135 ti135 := zT
def ti136 : TI := ⟨.func, 1, 8, [.nilFunc], false⟩
theorem oJ : zP 136 ti136 := zT
def ti137 : TI := ⟨.func, 1, 8, [.nilFunc], false⟩
theorem oI : zP 137 ti137 := zT
def ti139 : TI := ⟨.func, 1, 8, [.nilFunc], false⟩
theorem oH : zP 139 ti139 := zT
def ti140 : TI := ⟨.func, 1, 8, [.nilFunc], false⟩
theorem oG : zP 140 ti140 := zT
def ti141 : TI := ⟨.func, 1, 8, [.nilFunc], false⟩
theorem oF : zP 141 ti141 := zT
def ti142 : TI := ⟨.int .u64, 1, 8, [.int .u64 0], false⟩
theorem oE : zP 142 ti142 := zT
def ti143 : TI := ⟨.func, 1, 8, [.nilFunc], false⟩
theorem oD : zP 143 ti143 := zT
def ti145 : TI := ⟨.func, 1, 8, [.nilFunc], false⟩
theorem oC : zP 145 ti145 := zT
def ti146 : TI := ⟨.func, 1, 8, [.nilFunc], false⟩
theorem oB : zP 146 ti146 := zT
def ti147 : TI := ⟨.func, 1, 8, [.nilFunc], false⟩
theorem oA : zP 147 ti147 := zT
def ti148 : TI := ⟨.struct [(0, 17), (1, 17), (2, 17), (3, 9)], 4, 40, [.pointer none, .pointer none, .pointer none, .string ⟨#[]⟩], false⟩
theorem oz : zP 148 ti148 := zT
def ti149 : TI := ⟨.struct [(0, 17), (1, 17), (2, 17), (3, 9)], 4, 40, [.pointer none, .pointer none, .pointer none, .string ⟨#[]⟩], false⟩
theorem oy : zP 149 ti149 := zT
def ti150 : TI := ⟨.array 0 16, 0, 0, [], false⟩
theorem ox : zP 150 ti150 := zT
def ti151 : TI := ⟨.struct [(0, 150)], 0, 0, [], false⟩
theorem ow : zP 151 ti151 := zT
def ti152 : TI := ⟨.struct [(0, 150)], 0, 0, [], false⟩
theorem ov : zP 152 ti152 := zT
def ti153 : TI := ⟨.int .u32, 1, 4, [.int .u32 0], false⟩
theorem ou : zP 153 ti153 := zT
def ti154 : TI := ⟨.int .u8, 1, 1, [.int .u8 0], false⟩
theorem ot : zP 154 ti154 := zT
def ti155 : TI := ⟨.int .u8, 1, 1, [.int .u8 0], false⟩
theorem oq : zP 155 ti155 := zT
def ti156 : TI := ⟨.func, 1, 8, [.nilFunc], false⟩
theorem oo : zP 156 ti156 := zT
def ti157 : TI := ⟨.ptr 5, 1, 8, [.pointer none], false⟩
theorem om : zP 157 ti157 := zT
def ti158 : TI := ⟨.int .i32, 1, 4, [.int .i32 0], false⟩
theorem ol : zP 158 ti158 := zT
def ti159 : TI := ⟨.int .i32, 1, 4, [.int .i32 0], false⟩
theorem oj : zP 159 ti159 := zT
def ti160 : TI := ⟨.struct [(0, 12), (1, 12), (2, 153), (3, 154), (4, 5), (5, 5), (6, 155), (7, 156), (8, 157), (9, 158), (10, 159)], 11, 48, [.int .u64 0, .int .u64 0, .int .u32 0, .int .u8 0, .int .u8 0, .int .u8 0, .int .u8 0, .nilFunc, .pointer none, .int .i32 0, .int .i32 0], false⟩
theorem oi : zP 160 ti160 := zT
def ti161 : TI := ⟨.struct [(0, 12), (1, 12), (2, 153), (3, 154), (4, 5), (5, 5), (6, 155), (7, 156), (8, 157), (9, 158), (10, 159)], 11, 48, [.int .u64 0, .int .u64 0, .int .u32 0, .int .u8 0, .int .u8 0, .int .u8 0, .int .u8 0, .nilFunc, .pointer none, .int .i32 0, .int .i32 0], false⟩
theorem oh : zP 161 ti161 := zT
def qm : bP := .node (.node (.node (.node (.node (.node (.node (.node (.leaf) 1 ti1 (.leaf)) 2 ti2 (.leaf)) 3 ti3 (.node (.leaf) 4 ti4 (.leaf))) 5 ti5 (.node (.node (.node (.leaf) 6 ti6 (.leaf)) 7 ti7 (.leaf)) 8 ti8 (.node (.leaf) 9 ti9 (.leaf)))) 10 ti10 (.node (.node (.node (.node (.leaf) 11 ti11 (.leaf)) 12 ti12 (.leaf)) 13 ti13 (.node (.leaf) 14 ti14 (.leaf))) 15 ti15 (.node (.node (.leaf) 16 ti16 (.leaf)) 17 ti17 (.node (.leaf) 18 ti18 (.leaf))))) 19 ti19 (.node (.node (.node (.node (.node (.leaf) 20 ti20 (.leaf)) 21 ti21 (.leaf)) 22 ti22 (.node (.leaf) 23 ti23 (.leaf))) 24 ti24 (.node (.node (.node (.leaf) 25 ti25 (.leaf)) 26 ti26 (.leaf)) 27 ti27 (.node (.leaf) 28 ti28 (.leaf)))) 29 ti29 (.node (.node (.node (.node (.leaf) 30 ti30 (.leaf)) 32 ti32 (.leaf)) 33 ti33 (.node (.leaf) 35 ti35 (.leaf))) 36 ti36 (.node (.node (.leaf) 37 ti37 (.leaf)) 38 ti38 (.node (.leaf) 39 ti39 (.leaf)))))) 40 ti40 (.node (.node (.node (.node (.node (.node (.leaf) 42 ti42 (.leaf)) 43 ti43 (.leaf)) 44 ti44 (.node (.leaf) 45 ti45 (.leaf))) 46 ti46 (.node (.node (.node (.leaf) 47 ti47 (.leaf)) 48 ti48 (.leaf)) 49 ti49 (.node (.leaf) 50 ti50 (.leaf)))) 51 ti51 (.node (.node (.node (.node (.leaf) 52 ti52 (.leaf)) 53 ti53 (.leaf)) 54 ti54 (.node (.leaf) 55 ti55 (.leaf))) 56 ti56 (.node (.node (.leaf) 57 ti57 (.leaf)) 58 ti58 (.node (.leaf) 59 ti59 (.leaf))))) 60 ti60 (.node (.node (.node (.node (.node (.leaf) 61 ti61 (.leaf)) 62 ti62 (.leaf)) 63 ti63 (.node (.leaf) 64 ti64 (.leaf))) 65 ti65 (.node (.node (.leaf) 66 ti66 (.leaf)) 67 ti67 (.node (.leaf) 69 ti69 (.leaf)))) 70 ti70 (.node (.node (.node (.node (.leaf) 72 ti72 (.leaf)) 73 ti73 (.leaf)) 74 ti74 (.node (.leaf) 75 ti75 (.leaf))) 76 ti76 (.node (.node (.leaf) 77 ti77 (.leaf)) 79 ti79 (.node (.leaf) 80 ti80 (.leaf))))))) 81 ti81 (.node (.node (.node (.node (.node (.node (.node (.leaf) 82 ti82 (.leaf)) 83 ti83 (.leaf)) 84 ti84 (.node (.leaf) 85 ti85 (.leaf))) 86 ti86 (.node (.node (.node (.leaf) 87 ti87 (.leaf)) 89 ti89 (.leaf)) 90 ti90 (.node (.leaf) 92 ti92 (.leaf)))) 93 ti93 (.node (.node (.node (.node (.leaf) 94 ti94 (.leaf)) 95 ti95 (.leaf)) 97 ti97 (.node (.leaf) 98 ti98 (.leaf))) 99 ti99 (.node (.node (.leaf) 101 ti101 (.leaf)) 102 ti102 (.node (.leaf) 103 ti103 (.leaf))))) 104 ti104 (.node (.node (.node (.node (.node (.leaf) 105 ti105 (.leaf)) 106 ti106 (.leaf)) 107 ti107 (.node (.leaf) 108 ti108 (.leaf))) 109 ti109 (.node (.node (.leaf) 110 ti110 (.leaf)) 111 ti111 (.node (.leaf) 112 ti112 (.leaf)))) 113 ti113 (.node (.node (.node (.node (.leaf) 114 ti114 (.leaf)) 115 ti115 (.leaf)) 116 ti116 (.node (.leaf) 118 ti118 (.leaf))) 119 ti119 (.node (.node (.leaf) 120 ti120 (.leaf)) 121 ti121 (.node (.leaf) 122 ti122 (.leaf)))))) 123 ti123 (.node (.node (.node (.node (.node (.node (.leaf) 124 ti124 (.leaf)) 125 ti125 (.leaf)) 126 ti126 (.node (.leaf) 127 ti127 (.leaf))) 128 ti128 (.node (.node (.node (.leaf) 129 ti129 (.leaf)) 130 ti130 (.leaf)) 131 ti131 (.node (.leaf) 132 ti132 (.leaf)))) 133 ti133 (.node (.node (.node (.node (.leaf) 134 ti134 (.leaf)) 135 ti135 (.leaf)) 136 ti136 (.node (.leaf) 137 ti137 (.leaf))) 139 ti139 (.node (.node (.leaf) 140 ti140 (.leaf)) 141 ti141 (.node (.leaf) 142 ti142 (.leaf))))) 143 ti143 (.node (.node (.node (.node (.node (.leaf) 145 ti145 (.leaf)) 146 ti146 (.leaf)) 147 ti147 (.node (.leaf) 148 ti148 (.leaf))) 149 ti149 (.node (.node (.leaf) 150 ti150 (.leaf)) 151 ti151 (.node (.leaf) 152 ti152 (.leaf)))) 153 ti153 (.node (.node (.node (.node (.leaf) 154 ti154 (.leaf)) 155 ti155 (.leaf)) 156 ti156 (.node (.leaf) 157 ti157 (.leaf))) 158 ti158 (.node (.node (.leaf) 159 ti159 (.leaf)) 160 ti160 (.node (.leaf) 161 ti161 (.leaf)))))))
theorem mq : qm.allP (dt Tryz.prog) := ⟨⟨⟨⟨⟨⟨⟨⟨trivial, ti1_ok, trivial⟩, ti2_ok, trivial⟩, ti3_ok, ⟨trivial, ti4_ok, trivial⟩⟩, ti5_ok, ⟨⟨⟨trivial, ti6_ok, trivial⟩, ti7_ok, trivial⟩, ti8_ok, ⟨trivial, ti9_ok, trivial⟩⟩⟩, ti10_ok, ⟨⟨⟨⟨trivial, ti11_ok, trivial⟩, ti12_ok, trivial⟩, ti13_ok, ⟨trivial, ti14_ok, trivial⟩⟩, ti15_ok, ⟨⟨trivial, ti16_ok, trivial⟩, ti17_ok, ⟨trivial, ti18_ok, trivial⟩⟩⟩⟩, ti19_ok, ⟨⟨⟨⟨⟨trivial, ti20_ok, trivial⟩, ti21_ok, trivial⟩, ti22_ok, ⟨trivial, ti23_ok, trivial⟩⟩, ti24_ok, ⟨⟨⟨trivial, ti25_ok, trivial⟩, ti26_ok, trivial⟩, ti27_ok, ⟨trivial, ti28_ok, trivial⟩⟩⟩, ti29_ok, ⟨⟨⟨⟨trivial, ti30_ok, trivial⟩, ti32_ok, trivial⟩, ti33_ok, ⟨trivial, ti35_ok, trivial⟩⟩, ti36_ok, ⟨⟨trivial, ti37_ok, trivial⟩, ti38_ok, ⟨trivial, ti39_ok, trivial⟩⟩⟩⟩⟩, ti40_ok, ⟨⟨⟨⟨⟨⟨trivial, ti42_ok, trivial⟩, ti43_ok, trivial⟩, ti44_ok, ⟨trivial, ti45_ok, trivial⟩⟩, ti46_ok, ⟨⟨⟨trivial, ti47_ok, trivial⟩, ti48_ok, trivial⟩, ti49_ok, ⟨trivial, ti50_ok, trivial⟩⟩⟩, ti51_ok, ⟨⟨⟨⟨trivial, ti52_ok, trivial⟩, ti53_ok, trivial⟩, ti54_ok, ⟨trivial, ti55_ok, trivial⟩⟩, ti56_ok, ⟨⟨trivial, ti57_ok, trivial⟩, ti58_ok, ⟨trivial, ti59_ok, trivial⟩⟩⟩⟩, ti60_ok, ⟨⟨⟨⟨⟨trivial, ti61_ok, trivial⟩, ti62_ok, trivial⟩, ti63_ok, ⟨trivial, ti64_ok, trivial⟩⟩, ti65_ok, ⟨⟨trivial, ti66_ok, trivial⟩, ti67_ok, ⟨trivial, ti69_ok, trivial⟩⟩⟩, ti70_ok, ⟨⟨⟨⟨trivial, ti72_ok, trivial⟩, ti73_ok, trivial⟩, ti74_ok, ⟨trivial, ti75_ok, trivial⟩⟩, ti76_ok, ⟨⟨trivial, ti77_ok, trivial⟩, ti79_ok, ⟨trivial, ti80_ok, trivial⟩⟩⟩⟩⟩⟩, ti81_ok, ⟨⟨⟨⟨⟨⟨⟨trivial, ti82_ok, trivial⟩, ti83_ok, trivial⟩, ti84_ok, ⟨trivial, ti85_ok, trivial⟩⟩, ti86_ok, ⟨⟨⟨trivial, ti87_ok, trivial⟩, ti89_ok, trivial⟩, ti90_ok, ⟨trivial, ti92_ok, trivial⟩⟩⟩, ti93_ok, ⟨⟨⟨⟨trivial, ti94_ok, trivial⟩, ti95_ok, trivial⟩, ti97_ok, ⟨trivial, ti98_ok, trivial⟩⟩, ti99_ok, ⟨⟨trivial, pk, trivial⟩, pj, ⟨trivial, ph, trivial⟩⟩⟩⟩, pg, ⟨⟨⟨⟨⟨trivial, pf, trivial⟩, pe, trivial⟩, pd, ⟨trivial, pc, trivial⟩⟩, pb, ⟨⟨trivial, pa, trivial⟩, o9, ⟨trivial, o8, trivial⟩⟩⟩, o7, ⟨⟨⟨⟨trivial, o6, trivial⟩, o5, trivial⟩, o4, ⟨trivial, o3, trivial⟩⟩, o0, ⟨⟨trivial, oZ, trivial⟩, oY, ⟨trivial, oX, trivial⟩⟩⟩⟩⟩, oW, ⟨⟨⟨⟨⟨⟨trivial, oV, trivial⟩, oU, trivial⟩, oT, ⟨trivial, oS, trivial⟩⟩, oR, ⟨⟨⟨trivial, oQ, trivial⟩, oP, trivial⟩, oO, ⟨trivial, oN, trivial⟩⟩⟩, oM, ⟨⟨⟨⟨trivial, oL, trivial⟩, oK, trivial⟩, oJ, ⟨trivial, oI, trivial⟩⟩, oH, ⟨⟨trivial, oG, trivial⟩, oF, ⟨trivial, oE, trivial⟩⟩⟩⟩, oD, ⟨⟨⟨⟨⟨trivial, oC, trivial⟩, oB, trivial⟩, oA, ⟨trivial, oz, trivial⟩⟩, oy, ⟨⟨trivial, ox, trivial⟩, ow, ⟨trivial, ov, trivial⟩⟩⟩, ou, ⟨⟨⟨⟨trivial, ot, trivial⟩, oq, trivial⟩, oo, ⟨trivial, om, trivial⟩⟩, ol, ⟨⟨trivial, oj, trivial⟩, oi, ⟨trivial, oh, trivial⟩⟩⟩⟩⟩⟩⟩
noncomputable def TC : Cx := ⟨Tryz.prog, qm.look, bP.look_ok mq⟩
theorem aa : TC.P.follows .mixedOrders = true := by kernel_rfl
section
open Go.RowKit Go.Shelf
theorem Pure.val {C : Cx} {g : Nat} {xs : List Value} {r : Value} (ent : de C.P g) (hr : r.oneCell' = true) (h : ∀ w, Calls C.P g xs.toArray w fun e w' => e = .returned r ∧ w' = w) : Pure C g (xs.map fun v => .d (.val v)) (.d (.val r)) := by
 refine ⟨ent, fun E w vs hIm hsz hargs => ?_⟩
 have : vs = xs.toArray := by
  apply Array.ext (by simpa using hsz)
  intro i h1 h2
  have h3 := hargs i (by simpa using h2)
  rw [List.getElem_map] at h3
  have := h3.val_inv
  simpa [Array.getD, h1] using this
 subst this
 refine (h w).mono ?_
 rintro e w' ⟨rfl, rfl⟩
 exact ⟨r, rfl, Kp.refl _, .d _ _ (.val _ hr)⟩
theorem Pure.val2 {C : Cx} {g : Nat} {xs : List Value} {r s : Value} (ent : de C.P g) (hr : r.oneCell' = true) (hs : s.oneCell' = true) (h : ∀ w, Calls C.P g xs.toArray w fun e w' => e = .returned (.tuple #[r, s]) ∧ w' = w) : Pure C g (xs.map fun v => .d (.val v)) (.tup [.d (.val r), .d (.val s)]) := by
 refine ⟨ent, fun E w vs hIm hsz hargs => ?_⟩
 have : vs = xs.toArray := by
  apply Array.ext (by simpa using hsz)
  intro i h1 h2
  have h3 := hargs i (by simpa using h2)
  rw [List.getElem_map] at h3
  have := h3.val_inv
  simpa [Array.getD, h1] using this
 subst this
 refine (h w).mono ?_
 rintro e w' ⟨rfl, rfl⟩
 refine ⟨_, rfl, Kp.refl _, .tup _ _ rfl fun j hj => ?_⟩
 have : j = 0 ∨ j = 1 := by simp at hj; omega
 rcases this with rfl | rfl
 ·exact .d _ _ (.val _ hr)
 ·exact .d _ _ (.val _ hs)
def mulRen : Go.Shelf.Ren := ⟨fun | 264 => 104 | n => n, fun | 53 => 142 | 46 => 116 | n => n, fun | n => n⟩
theorem mulLays : Go.Proofs.Lays.n264 Tryz.prog mulRen := {
 mixed := by kernel_rfl
 f264 := Tryz.func104.trans (congrArg some (by kernel_rfl))
 t46 := Tryz.underlying116
 a46 := Tryz.isAgg116
 z46 := Tryz.sizeOf116
 v46 := Tryz.zeroValue116
 t53 := Tryz.underlying142
 a53 := Tryz.isAgg142
 z53 := Tryz.sizeOf142
 v53 := Tryz.zeroValue142 }
def hiI (x : Int) : Int := x / 18446744073709551616
def loI (x : Int) : Int := x % 18446744073709551616
theorem bits_Mul64 (x y : Int) (hx : 0 ≤ x) (hx2 : x < 18446744073709551616) (hy : 0 ≤ y) (hy2 : y < 18446744073709551616) : Pure TC 104 [.i .u64 x, .i .u64 y] (.tup [.i .u64 (hiI (x * y)), .i .u64 (loI (x * y))]) := by
 obtain ⟨n, rfl⟩ := Int.eq_ofNat_of_zero_le hx
 obtain ⟨m, rfl⟩ := Int.eq_ofNat_of_zero_le hy
 refine Pure.val2 (xs := [.int .u64 n, .int .u64 m]) (.mk Tryz.func104 rfl rfl) rfl rfl fun w => ?_
 refine (Any.bits_Mul64 mulLays n m (by omega) (by omega) w).mono ?_
 rintro e w' ⟨rfl, rfl⟩
 refine ⟨?_, rfl⟩
 simp [hiI, loI]
end
def aj {α : Type} [Inhabited α] (esz : Nat) (enc : α → List D) (xs : List α) : D := .sl esz xs.length fun i => enc (xs.getD i default)
def ao (k : IntKind) (n : Int) : List D := [.val (.int k n)]
def aD (n : Int) : Bool := decide (0 ≤ n) && decide (n ≤ 4611686018427387903)
theorem dv (n : Int) : aD n = true ↔ 0 ≤ n ∧ n ≤ 4611686018427387903 := by simp [aD]
def qv (T tau : Int) : Int := if aD T = true ∧ 1 ≤ T ∧ aD tau = true then 0 else 1
theorem aJ (n : Int) : Pure TC 40 [.i .i64 n] (.b (aD n)) := by
 refine Pure.mk' Tryz.func40 rfl rfl zN ?_
 (repeat' (first | ((first | refine Wp.any aa rfl ?_ | (with_reducible first | refine Go.mk ?_ | apply ak.of)); conv => whnf) | with_reducible exact rfl | ((with_reducible refine Ov.ok zO ?_); conv => whnf) | (with_reducible refine Ov.sh1 (by with_unfolding_all exact rfl) ?_) | ((first | with_reducible refine Ov.quo (by omega) (by omega) (by omega) (fun _ _ => ?_) | refine zV ?_ | with_reducible refine And.intro zC ?_); conv => whnf) | ((with_reducible refine And.intro ?hb ?_); (case hb => exact zz0); (conv => whnf)) | ((refine ae.a rfl rfl rfl rfl rfl rfl ?hb ?_); (case hb => exact zB); (conv => whnf)) | ((refine ae.b rfl rfl rfl rfl rfl rfl rfl rfl ?hb ?ho ?_); (case hb => exact zB); (case ho => omega); (conv => whnf)) | ((refine ae.c rfl rfl rfl rfl rfl ?hb ?_); (case hb => exact zB); (conv => whnf)) | ((refine ae.d rfl rfl rfl rfl rfl rfl ?hb ?ho ?_); (case hb => exact zB); (case ho => omega); (conv => whnf)) | (with_reducible refine Or.inl ?_) | ((with_reducible refine IxA.ptr ?_); conv => whnf) | ((with_reducible refine nil_no (by omega) ?_); (conv => whnf)) | ((with_reducible refine af ?_ (fun hn0 => ?_)) <;> (conv => whnf)) | ((refine am (fun hc => ?_) (fun hc => ?_)) <;> (try simp only [wz9] at hc) <;> (try (exfalso; omega)) <;> (conv => whnf))))
 all_goals exact .b (by simp [aD]; omega)
theorem bR (n : Int) : Pure TC 28 [.i .i64 n] (.b (aD n)) := by
 refine Pure.mk' Tryz.func28 rfl rfl zN ?_
 (repeat' (first | ((first | refine Wp.any aa rfl ?_ | (with_reducible first | refine Go.mk ?_ | apply ak.of)); conv => whnf) | with_reducible exact rfl | ((with_reducible refine Ov.ok zO ?_); conv => whnf) | (with_reducible refine Ov.sh1 (by with_unfolding_all exact rfl) ?_) | ((first | with_reducible refine Ov.quo (by omega) (by omega) (by omega) (fun _ _ => ?_) | refine zV ?_ | with_reducible refine And.intro zC ?_); conv => whnf) | ((with_reducible refine And.intro ?hb ?_); (case hb => exact zz0); (conv => whnf)) | ((refine ae.a rfl rfl rfl rfl rfl rfl ?hb ?_); (case hb => exact zB); (conv => whnf)) | ((refine ae.b rfl rfl rfl rfl rfl rfl rfl rfl ?hb ?ho ?_); (case hb => exact zB); (case ho => omega); (conv => whnf)) | ((refine ae.c rfl rfl rfl rfl rfl ?hb ?_); (case hb => exact zB); (conv => whnf)) | ((refine ae.d rfl rfl rfl rfl rfl rfl ?hb ?ho ?_); (case hb => exact zB); (case ho => omega); (conv => whnf)) | (with_reducible refine Or.inl ?_) | ((with_reducible refine IxA.ptr ?_); conv => whnf) | ((with_reducible refine nil_no (by omega) ?_); (conv => whnf)) | ((with_reducible refine af ?_ (fun hn0 => ?_)) <;> (conv => whnf)) | ((refine am (fun hc => ?_) (fun hc => ?_)) <;> (try simp only [wz9] at hc) <;> (try (exfalso; omega)) <;> (conv => whnf))))
 all_goals exact .b (by simp [aD]; omega)
theorem cR (T tau : Int) : Pure TC 65 [.agg [.i .i64 T, .i .i64 tau]] (.i .i64 (qv T tau)) := by
 refine Pure.mk' Tryz.func65 rfl rfl zN ?_
 (repeat' (first | ((first | refine Wp.any aa rfl ?_ | (with_reducible first | refine Go.mk ?_ | apply ak.of)); conv => whnf) | with_reducible exact rfl | ((with_reducible refine Ov.ok zO ?_); conv => whnf) | (with_reducible refine Ov.sh1 (by with_unfolding_all exact rfl) ?_) | ((first | with_reducible refine Ov.quo (by omega) (by omega) (by omega) (fun _ _ => ?_) | refine zV ?_ | with_reducible refine And.intro zC ?_); conv => whnf) | ((with_reducible refine And.intro ?hb ?_); (case hb => exact zz0); (conv => whnf)) | ((refine ae.a rfl rfl rfl rfl rfl rfl ?hb ?_); (case hb => exact zB); (conv => whnf)) | ((refine ae.b rfl rfl rfl rfl rfl rfl rfl rfl ?hb ?ho ?_); (case hb => exact zB); (case ho => omega); (conv => whnf)) | ((refine ae.c rfl rfl rfl rfl rfl ?hb ?_); (case hb => exact zB); (conv => whnf)) | ((refine ae.d rfl rfl rfl rfl rfl rfl ?hb ?ho ?_); (case hb => exact zB); (case ho => omega); (conv => whnf)) | (with_reducible refine Or.inl ?_) | ((with_reducible refine IxA.ptr ?_); conv => whnf) | ((with_reducible refine nil_no (by omega) ?_); (conv => whnf)) | ((with_reducible refine af ?_ (fun hn0 => ?_)) <;> (conv => whnf)) | ((with_reducible first | refine ab.pure (aJ _) rfl rfl ?_ | refine ag.pure (aJ _) rfl rfl ?_); conv => whnf) | ((refine am (fun hc => ?_) (fun hc => ?_)) <;> (try simp only [wz9] at hc) <;> (try (exfalso; omega)) <;> (conv => whnf))))
 all_goals exact .i (by simp [qv, *]; try omega)
theorem kS (T tau : Int) : Pure TC 66 [.agg [.i .i64 T, .i .i64 tau]] (.i .i64 (qv T tau)) := by
 refine Pure.mk' Tryz.func66 rfl rfl zN ?_
 (repeat' (first | ((first | refine Wp.any aa rfl ?_ | (with_reducible first | refine Go.mk ?_ | apply ak.of)); conv => whnf) | with_reducible exact rfl | ((with_reducible refine Ov.ok zO ?_); conv => whnf) | (with_reducible refine Ov.sh1 (by with_unfolding_all exact rfl) ?_) | ((first | with_reducible refine Ov.quo (by omega) (by omega) (by omega) (fun _ _ => ?_) | refine zV ?_ | with_reducible refine And.intro zC ?_); conv => whnf) | ((with_reducible refine And.intro ?hb ?_); (case hb => exact zz0); (conv => whnf)) | ((refine ae.a rfl rfl rfl rfl rfl rfl ?hb ?_); (case hb => exact zB); (conv => whnf)) | ((refine ae.b rfl rfl rfl rfl rfl rfl rfl rfl ?hb ?ho ?_); (case hb => exact zB); (case ho => omega); (conv => whnf)) | ((refine ae.c rfl rfl rfl rfl rfl ?hb ?_); (case hb => exact zB); (conv => whnf)) | ((refine ae.d rfl rfl rfl rfl rfl rfl ?hb ?ho ?_); (case hb => exact zB); (case ho => omega); (conv => whnf)) | (with_reducible refine Or.inl ?_) | ((with_reducible refine IxA.ptr ?_); conv => whnf) | ((with_reducible refine nil_no (by omega) ?_); (conv => whnf)) | ((with_reducible refine af ?_ (fun hn0 => ?_)) <;> (conv => whnf)) | ((with_reducible first | refine ab.pure (bR _) rfl rfl ?_ | refine ag.pure (bR _) rfl rfl ?_); conv => whnf) | ((refine am (fun hc => ?_) (fun hc => ?_)) <;> (try simp only [wz9] at hc) <;> (try (exfalso; omega)) <;> (conv => whnf))))
 all_goals exact .i (by simp [qv, *]; try omega)
structure Pol where
 kind : Int
 T : Int
 tau : Int
 permits : Int
 deriving Inhabited
def Pol.D (p : Pol) : List D := [.val (.int .u8 p.kind), .val (.int .i64 p.T), .val (.int .i64 p.tau), .val (.int .i64 p.permits)]
def cI (k T tau m : Int) : Bool := if k = 1 then qv T tau == 0 else if k = 2 then decide (1 ≤ m) && decide (m ≤ 64) else false
theorem jQ (k T tau m : Int) : Pure TC 38 [.agg [.i .u8 k, .i .i64 T, .i .i64 tau, .i .i64 m]] (.b (cI k T tau m)) := by
 refine Pure.mk' Tryz.func38 rfl rfl zN ?_
 (repeat' (first | ((first | refine Wp.any aa rfl ?_ | (with_reducible first | refine Go.mk ?_ | apply ak.of)); conv => whnf) | with_reducible exact rfl | ((with_reducible refine Ov.ok zO ?_); conv => whnf) | (with_reducible refine Ov.sh1 (by with_unfolding_all exact rfl) ?_) | ((first | with_reducible refine Ov.quo (by omega) (by omega) (by omega) (fun _ _ => ?_) | refine zV ?_ | with_reducible refine And.intro zC ?_); conv => whnf) | ((with_reducible refine And.intro ?hb ?_); (case hb => exact zz0); (conv => whnf)) | ((refine ae.a rfl rfl rfl rfl rfl rfl ?hb ?_); (case hb => exact zB); (conv => whnf)) | ((refine ae.b rfl rfl rfl rfl rfl rfl rfl rfl ?hb ?ho ?_); (case hb => exact zB); (case ho => omega); (conv => whnf)) | ((refine ae.c rfl rfl rfl rfl rfl ?hb ?_); (case hb => exact zB); (conv => whnf)) | ((refine ae.d rfl rfl rfl rfl rfl rfl ?hb ?ho ?_); (case hb => exact zB); (case ho => omega); (conv => whnf)) | (with_reducible refine Or.inl ?_) | ((with_reducible refine IxA.ptr ?_); conv => whnf) | ((with_reducible refine nil_no (by omega) ?_); (conv => whnf)) | ((with_reducible refine af ?_ (fun hn0 => ?_)) <;> (conv => whnf)) | ((with_reducible first | refine ab.pure (cR _ _) rfl rfl ?_ | refine ag.pure (cR _ _) rfl rfl ?_); conv => whnf) | ((refine am (fun hc => ?_) (fun hc => ?_)) <;> (try simp only [wz9] at hc) <;> (try (exfalso; omega)) <;> (conv => whnf))))
 all_goals exact .b (by simp [cI, *])
theorem kX (k T tau m : Int) : Pure TC 39 [.agg [.i .u8 k, .i .i64 T, .i .i64 tau, .i .i64 m]] (.b (cI k T tau m)) := by
 refine Pure.mk' Tryz.func39 rfl rfl zN ?_
 (repeat' (first | ((first | refine Wp.any aa rfl ?_ | (with_reducible first | refine Go.mk ?_ | apply ak.of)); conv => whnf) | with_reducible exact rfl | ((with_reducible refine Ov.ok zO ?_); conv => whnf) | (with_reducible refine Ov.sh1 (by with_unfolding_all exact rfl) ?_) | ((first | with_reducible refine Ov.quo (by omega) (by omega) (by omega) (fun _ _ => ?_) | refine zV ?_ | with_reducible refine And.intro zC ?_); conv => whnf) | ((with_reducible refine And.intro ?hb ?_); (case hb => exact zz0); (conv => whnf)) | ((refine ae.a rfl rfl rfl rfl rfl rfl ?hb ?_); (case hb => exact zB); (conv => whnf)) | ((refine ae.b rfl rfl rfl rfl rfl rfl rfl rfl ?hb ?ho ?_); (case hb => exact zB); (case ho => omega); (conv => whnf)) | ((refine ae.c rfl rfl rfl rfl rfl ?hb ?_); (case hb => exact zB); (conv => whnf)) | ((refine ae.d rfl rfl rfl rfl rfl rfl ?hb ?ho ?_); (case hb => exact zB); (case ho => omega); (conv => whnf)) | (with_reducible refine Or.inl ?_) | ((with_reducible refine IxA.ptr ?_); conv => whnf) | ((with_reducible refine nil_no (by omega) ?_); (conv => whnf)) | ((with_reducible refine af ?_ (fun hn0 => ?_)) <;> (conv => whnf)) | ((with_reducible first | refine ab.pure (kS _ _) rfl rfl ?_ | refine ag.pure (kS _ _) rfl rfl ?_); conv => whnf) | ((refine am (fun hc => ?_) (fun hc => ?_)) <;> (try simp only [wz9] at hc) <;> (try (exfalso; omega)) <;> (conv => whnf))))
 all_goals exact .b (by simp [cI, *])
def bq (ps : List Pol) : Int := if 32 < ps.length then 2 else if ps.all (fun p => cI p.kind p.T p.tau p.permits) then 0 else 3
theorem dy {ps : List Pol} (h : ¬ 32 < ps.length) : bq ps = if ps.all (fun p => cI p.kind p.T p.tau p.permits) then 0 else 3 := by simp [bq, h]
theorem ct {α : Type} [Inhabited α] {f : α → Bool} {xs : List α} {k : Nat} (hk : k < xs.length) (h : (xs.take k).all f = true) (h2 : f (xs.getD k default) = true) : (xs.take (k + 1)).all f = true := by
 rw [List.take_succ_eq_append_getElem hk, List.all_append, h]
 simp only [List.getD, Q0 hk, Option.getD_some] at h2
 simp [h2]
theorem j7 {α : Type} [Inhabited α] {f : α → Bool} {xs : List α} {k : Nat} (hk : k < xs.length) (h2 : f (xs.getD k default) = false) : xs.all f = false := by
 simp only [List.getD, Q0 hk, Option.getD_some] at h2
 rw [List.all_eq_false]
 exact ⟨_, Q14 hk, by simp [h2]⟩
theorem bA (ps : List Pol) : Pure TC 15 [.d (aj 4 Pol.D ps)] (.i .i64 (bq ps)) := by
 refine Pure.mk' Tryz.func15 rfl rfl zN ?_
 (repeat' (first | ((first | refine Wp.any aa rfl ?_ | (with_reducible first | refine Go.mk ?_ | apply ak.of)); conv => whnf) | with_reducible exact rfl | ((with_reducible refine Ov.ok zO ?_); conv => whnf) | (with_reducible refine Ov.sh1 (by with_unfolding_all exact rfl) ?_) | ((first | with_reducible refine Ov.quo (by omega) (by omega) (by omega) (fun _ _ => ?_) | refine zV ?_ | with_reducible refine And.intro zC ?_); conv => whnf) | ((with_reducible refine And.intro ?hb ?_); (case hb => exact zz0); (conv => whnf)) | ((refine ae.a rfl rfl rfl rfl rfl rfl ?hb ?_); (case hb => exact zB); (conv => whnf)) | ((refine ae.b rfl rfl rfl rfl rfl rfl rfl rfl ?hb ?ho ?_); (case hb => exact zB); (case ho => omega); (conv => whnf)) | ((refine ae.c rfl rfl rfl rfl rfl ?hb ?_); (case hb => exact zB); (conv => whnf)) | ((refine ae.d rfl rfl rfl rfl rfl rfl ?hb ?ho ?_); (case hb => exact zB); (case ho => omega); (conv => whnf)) | (with_reducible refine Or.inl ?_) | ((with_reducible refine IxA.ptr ?_); conv => whnf) | ((with_reducible refine nil_no (by omega) ?_); (conv => whnf)) | ((with_reducible refine af ?_ (fun hn0 => ?_)) <;> (conv => whnf)) | ((refine am (fun hc => ?_) (fun hc => ?_)) <;> (try simp only [wz9] at hc) <;> (try (exfalso; omega)) <;> (conv => whnf))))
 ·exact .i (by simp [bq]; omega)
 ·refine Wp.loopP (fun k => k ≤ ps.length ∧ (ps.take k).all (fun p => cI p.kind p.T p.tau p.permits) = true) (fun k => ⟨⟨Tryz.f15.ntmps, 0⟩, 0, [(8, .d (aj 4 Pol.D ps)), (9, .i .i64 ps.length), (10, .i .i64 k)], []⟩) (fun k => ps.length - k) 0 ⟨by simp, by simp⟩ ?_ ?_
  ·(refine Le.by [] rfl rfl rfl rfl ?_ ?_ <;> (conv => whnf) <;> (repeat' (first | exact trivial | exact ac.rfl rfl | exact ac.ptr rfl | exact ac.sl rfl | ((with_reducible refine ac.fn ?_); (conv => whnf)) | ((refine ac.iref ?_); (conv => whnf)) | exact ⟨rfl, rfl, rfl⟩ | exact fun i hi => rfl | ((with_reducible refine And.intro ?_ ?_) <;> (conv => whnf)))))
  ·rintro k ⟨hk, hall⟩
   (repeat' (first | ((first | refine Wp.any aa rfl ?_ | (with_reducible first | refine Go.mk ?_ | apply ak.of)); conv => whnf) | with_reducible exact rfl | ((with_reducible refine Ov.ok zO ?_); conv => whnf) | (with_reducible refine Ov.sh1 (by with_unfolding_all exact rfl) ?_) | ((first | with_reducible refine Ov.quo (by omega) (by omega) (by omega) (fun _ _ => ?_) | refine zV ?_ | with_reducible refine And.intro zC ?_); conv => whnf) | ((with_reducible refine And.intro ?hb ?_); (case hb => exact zz0); (conv => whnf)) | ((refine ae.a rfl rfl rfl rfl rfl rfl ?hb ?_); (case hb => exact zB); (conv => whnf)) | ((refine ae.b rfl rfl rfl rfl rfl rfl rfl rfl ?hb ?ho ?_); (case hb => exact zB); (case ho => omega); (conv => whnf)) | ((refine ae.c rfl rfl rfl rfl rfl ?hb ?_); (case hb => exact zB); (conv => whnf)) | ((refine ae.d rfl rfl rfl rfl rfl rfl ?hb ?ho ?_); (case hb => exact zB); (case ho => omega); (conv => whnf)) | (with_reducible refine Or.inl ?_) | ((with_reducible refine IxA.ptr ?_); conv => whnf) | ((with_reducible refine nil_no (by omega) ?_); (conv => whnf)) | ((with_reducible refine af ?_ (fun hn0 => ?_)) <;> (conv => whnf)) | ((with_reducible first | refine ab.pure (jQ _ _ _ _) rfl rfl ?_ | refine ag.pure (jQ _ _ _ _) rfl rfl ?_); conv => whnf) | ((refine am (fun hc => ?_) (fun hc => ?_)) <;> (try simp only [wz9] at hc) <;> (try (exfalso; omega)) <;> (conv => whnf))))
   ·exact .i (by rw [dy (by omega), j7 (k := k) (by omega) (by simpa using hc)]; rfl)
   ·refine ⟨k + 1, ⟨by omega, ct (by omega) hall (by simpa using hc)⟩, by dsimp only; omega, ?_⟩
    (refine Le.by [] rfl rfl rfl rfl ?_ ?_ <;> (conv => whnf) <;> (repeat' (first | exact trivial | exact ac.rfl rfl | exact ac.ptr rfl | exact ac.sl rfl | ((with_reducible refine ac.fn ?_); (conv => whnf)) | ((refine ac.iref ?_); (conv => whnf)) | exact ⟨rfl, rfl, rfl⟩ | exact fun i hi => rfl | ((with_reducible refine And.intro ?_ ?_) <;> (conv => whnf)))))
   ·rw [Q21 (by omega)] at hall
    exact .i (by rw [dy (by omega), hall]; rfl)
theorem bl (ps : List Pol) : Pure TC 17 [.d (aj 4 Pol.D ps)] (.i .i64 (bq ps)) := by
 refine Pure.mk' Tryz.func17 rfl rfl zN ?_
 (repeat' (first | ((first | refine Wp.any aa rfl ?_ | (with_reducible first | refine Go.mk ?_ | apply ak.of)); conv => whnf) | with_reducible exact rfl | ((with_reducible refine Ov.ok zO ?_); conv => whnf) | (with_reducible refine Ov.sh1 (by with_unfolding_all exact rfl) ?_) | ((first | with_reducible refine Ov.quo (by omega) (by omega) (by omega) (fun _ _ => ?_) | refine zV ?_ | with_reducible refine And.intro zC ?_); conv => whnf) | ((with_reducible refine And.intro ?hb ?_); (case hb => exact zz0); (conv => whnf)) | ((refine ae.a rfl rfl rfl rfl rfl rfl ?hb ?_); (case hb => exact zB); (conv => whnf)) | ((refine ae.b rfl rfl rfl rfl rfl rfl rfl rfl ?hb ?ho ?_); (case hb => exact zB); (case ho => omega); (conv => whnf)) | ((refine ae.c rfl rfl rfl rfl rfl ?hb ?_); (case hb => exact zB); (conv => whnf)) | ((refine ae.d rfl rfl rfl rfl rfl rfl ?hb ?ho ?_); (case hb => exact zB); (case ho => omega); (conv => whnf)) | (with_reducible refine Or.inl ?_) | ((with_reducible refine IxA.ptr ?_); conv => whnf) | ((with_reducible refine nil_no (by omega) ?_); (conv => whnf)) | ((with_reducible refine af ?_ (fun hn0 => ?_)) <;> (conv => whnf)) | ((refine am (fun hc => ?_) (fun hc => ?_)) <;> (try simp only [wz9] at hc) <;> (try (exfalso; omega)) <;> (conv => whnf))))
 ·exact .i (by simp [bq]; omega)
 ·refine Wp.loopP (fun k => k ≤ ps.length ∧ (ps.take k).all (fun p => cI p.kind p.T p.tau p.permits) = true) (fun k => ⟨⟨Tryz.f17.ntmps, 0⟩, 0, [(8, .d (aj 4 Pol.D ps)), (9, .i .i64 ps.length), (10, .i .i64 k)], []⟩) (fun k => ps.length - k) 0 ⟨by simp, by simp⟩ ?_ ?_
  ·(refine Le.by [] rfl rfl rfl rfl ?_ ?_ <;> (conv => whnf) <;> (repeat' (first | exact trivial | exact ac.rfl rfl | exact ac.ptr rfl | exact ac.sl rfl | ((with_reducible refine ac.fn ?_); (conv => whnf)) | ((refine ac.iref ?_); (conv => whnf)) | exact ⟨rfl, rfl, rfl⟩ | exact fun i hi => rfl | ((with_reducible refine And.intro ?_ ?_) <;> (conv => whnf)))))
  ·rintro k ⟨hk, hall⟩
   (repeat' (first | ((first | refine Wp.any aa rfl ?_ | (with_reducible first | refine Go.mk ?_ | apply ak.of)); conv => whnf) | with_reducible exact rfl | ((with_reducible refine Ov.ok zO ?_); conv => whnf) | (with_reducible refine Ov.sh1 (by with_unfolding_all exact rfl) ?_) | ((first | with_reducible refine Ov.quo (by omega) (by omega) (by omega) (fun _ _ => ?_) | refine zV ?_ | with_reducible refine And.intro zC ?_); conv => whnf) | ((with_reducible refine And.intro ?hb ?_); (case hb => exact zz0); (conv => whnf)) | ((refine ae.a rfl rfl rfl rfl rfl rfl ?hb ?_); (case hb => exact zB); (conv => whnf)) | ((refine ae.b rfl rfl rfl rfl rfl rfl rfl rfl ?hb ?ho ?_); (case hb => exact zB); (case ho => omega); (conv => whnf)) | ((refine ae.c rfl rfl rfl rfl rfl ?hb ?_); (case hb => exact zB); (conv => whnf)) | ((refine ae.d rfl rfl rfl rfl rfl rfl ?hb ?ho ?_); (case hb => exact zB); (case ho => omega); (conv => whnf)) | (with_reducible refine Or.inl ?_) | ((with_reducible refine IxA.ptr ?_); conv => whnf) | ((with_reducible refine nil_no (by omega) ?_); (conv => whnf)) | ((with_reducible refine af ?_ (fun hn0 => ?_)) <;> (conv => whnf)) | ((with_reducible first | refine ab.pure (kX _ _ _ _) rfl rfl ?_ | refine ag.pure (kX _ _ _ _) rfl rfl ?_); conv => whnf) | ((refine am (fun hc => ?_) (fun hc => ?_)) <;> (try simp only [wz9] at hc) <;> (try (exfalso; omega)) <;> (conv => whnf))))
   ·exact .i (by rw [dy (by omega), j7 (k := k) (by omega) (by simpa using hc)]; rfl)
   ·refine ⟨k + 1, ⟨by omega, ct (by omega) hall (by simpa using hc)⟩, by dsimp only; omega, ?_⟩
    (refine Le.by [] rfl rfl rfl rfl ?_ ?_ <;> (conv => whnf) <;> (repeat' (first | exact trivial | exact ac.rfl rfl | exact ac.ptr rfl | exact ac.sl rfl | ((with_reducible refine ac.fn ?_); (conv => whnf)) | ((refine ac.iref ?_); (conv => whnf)) | exact ⟨rfl, rfl, rfl⟩ | exact fun i hi => rfl | ((with_reducible refine And.intro ?_ ?_) <;> (conv => whnf)))))
   ·rw [Q21 (by omega)] at hall
    exact .i (by rw [dy (by omega), hall]; rfl)
def fF (op : Int) : Int := if op = 1 then 1 else if op = 2 ∨ op = 3 then 2 else 0
theorem nK (op : Int) : Pure TC 67 [.i .u8 op] (.i .u8 (fF op)) := by
 refine Pure.mk' Tryz.func67 rfl rfl zN ?_
 (repeat' (first | ((first | refine Wp.any aa rfl ?_ | (with_reducible first | refine Go.mk ?_ | apply ak.of)); conv => whnf) | with_reducible exact rfl | ((with_reducible refine Ov.ok zO ?_); conv => whnf) | (with_reducible refine Ov.sh1 (by with_unfolding_all exact rfl) ?_) | ((first | with_reducible refine Ov.quo (by omega) (by omega) (by omega) (fun _ _ => ?_) | refine zV ?_ | with_reducible refine And.intro zC ?_); conv => whnf) | ((with_reducible refine And.intro ?hb ?_); (case hb => exact zz0); (conv => whnf)) | ((refine ae.a rfl rfl rfl rfl rfl rfl ?hb ?_); (case hb => exact zB); (conv => whnf)) | ((refine ae.b rfl rfl rfl rfl rfl rfl rfl rfl ?hb ?ho ?_); (case hb => exact zB); (case ho => omega); (conv => whnf)) | ((refine ae.c rfl rfl rfl rfl rfl ?hb ?_); (case hb => exact zB); (conv => whnf)) | ((refine ae.d rfl rfl rfl rfl rfl rfl ?hb ?ho ?_); (case hb => exact zB); (case ho => omega); (conv => whnf)) | (with_reducible refine Or.inl ?_) | ((with_reducible refine IxA.ptr ?_); conv => whnf) | ((with_reducible refine nil_no (by omega) ?_); (conv => whnf)) | ((with_reducible refine af ?_ (fun hn0 => ?_)) <;> (conv => whnf)) | ((refine am (fun hc => ?_) (fun hc => ?_)) <;> (try simp only [wz9] at hc) <;> (try (exfalso; omega)) <;> (conv => whnf))))
 all_goals exact .i (by simp [fF, *])
theorem mM (op : Int) : Pure TC 53 [.i .u8 op] (.i .u8 (fF op)) := by
 refine Pure.mk' Tryz.func53 rfl rfl zN ?_
 (repeat' (first | ((first | refine Wp.any aa rfl ?_ | (with_reducible first | refine Go.mk ?_ | apply ak.of)); conv => whnf) | with_reducible exact rfl | ((with_reducible refine Ov.ok zO ?_); conv => whnf) | (with_reducible refine Ov.sh1 (by with_unfolding_all exact rfl) ?_) | ((first | with_reducible refine Ov.quo (by omega) (by omega) (by omega) (fun _ _ => ?_) | refine zV ?_ | with_reducible refine And.intro zC ?_); conv => whnf) | ((with_reducible refine And.intro ?hb ?_); (case hb => exact zz0); (conv => whnf)) | ((refine ae.a rfl rfl rfl rfl rfl rfl ?hb ?_); (case hb => exact zB); (conv => whnf)) | ((refine ae.b rfl rfl rfl rfl rfl rfl rfl rfl ?hb ?ho ?_); (case hb => exact zB); (case ho => omega); (conv => whnf)) | ((refine ae.c rfl rfl rfl rfl rfl ?hb ?_); (case hb => exact zB); (conv => whnf)) | ((refine ae.d rfl rfl rfl rfl rfl rfl ?hb ?ho ?_); (case hb => exact zB); (case ho => omega); (conv => whnf)) | (with_reducible refine Or.inl ?_) | ((with_reducible refine IxA.ptr ?_); conv => whnf) | ((with_reducible refine nil_no (by omega) ?_); (conv => whnf)) | ((with_reducible refine af ?_ (fun hn0 => ?_)) <;> (conv => whnf)) | ((refine am (fun hc => ?_) (fun hc => ?_)) <;> (try simp only [wz9] at hc) <;> (try (exfalso; omega)) <;> (conv => whnf))))
 all_goals exact .i (by simp [fF, *])
def bsF (lt : Nat → Bool) : Nat → Nat → Nat → Nat
 | 0, i, _ => i
 | n + 1, i, j => if i < j then (if lt ((i + j) / 2) then bsF lt n ((i + j) / 2 + 1) j else bsF lt n i ((i + j) / 2)) else i
def bs (lt : Nat → Bool) (n : Nat) : Nat := bsF lt (n + 1) 0 n
theorem ko {lt : Nat → Bool} {q i j : Nat} (h : ¬ i < j) : bsF lt q i j = i := by cases q <;> simp [bsF, h]
def cB (ps : List Pol) (op pol : Int) (key : List Int) (n : Int) : Int :=
 if op < 1 ∨ 6 < op ∨ (op = 1 ∧ aD n = false) then 1
 else if op ≤ 4 ∧ 255 < key.length then 2
 else if bq ps ≠ 0 then bq ps
 else if op ≤ 4 ∧ (pol < 0 ∨ ps.length ≤ pol ∨ (fF op ≠ 0 ∧ (ps.getD pol.toNat default).kind ≠ fF op)) then 6 else 0
theorem ek (ps : List Pol) (op pol : Int) (key : List Int) (n : Int) : Pure TC 41 [.d (aj 4 Pol.D ps), .agg [.i .u8 op, .i .i64 pol, .d (aj 1 (ao .u8) key), .i .i64 n]] (.i .i64 (cB ps op pol key n)) := by
 refine Pure.mk' Tryz.func41 rfl rfl zN ?_
 (repeat' (first | ((first | refine Wp.any aa rfl ?_ | (with_reducible first | refine Go.mk ?_ | apply ak.of) | refine zV ?_ | (with_reducible first | refine And.intro zC ?_ | refine ab.pure (aJ _) rfl rfl ?_ | refine ab.pure (bA _) rfl rfl ?_ | refine ag.pure (nK _) rfl rfl ?_)); conv => whnf) | ((refine am (fun hc => ?_) (fun hc => ?_)) <;> (try simp only [wz9] at hc) <;> (try (exfalso; omega)) <;> (conv => whnf))))
 all_goals exact .i (by
  unfold cB
  repeat' split
  all_goals first | rfl | omega | (exfalso; simp_all; try omega) | simp_all)
theorem cF (ps : List Pol) (op pol : Int) (key : List Int) (n : Int) : Pure TC 29 [.d (aj 4 Pol.D ps), .agg [.i .u8 op, .i .i64 pol, .d (aj 1 (ao .u8) key), .i .i64 n]] (.i .i64 (cB ps op pol key n)) := by
 refine Pure.mk' Tryz.func29 rfl rfl zN ?_
 (repeat' (first | ((first | refine Wp.any aa rfl ?_ | (with_reducible first | refine Go.mk ?_ | apply ak.of) | refine zV ?_ | (with_reducible first | refine And.intro zC ?_ | refine ab.pure (bR _) rfl rfl ?_ | refine ab.pure (bl _) rfl rfl ?_ | refine ag.pure (mM _) rfl rfl ?_)); conv => whnf) | ((refine am (fun hc => ?_) (fun hc => ?_)) <;> (try simp only [wz9] at hc) <;> (try (exfalso; omega)) <;> (conv => whnf))))
 all_goals exact .i (by
  unfold cB
  repeat' split
  all_goals first | rfl | omega | (exfalso; simp_all; try omega) | simp_all)
def kr (a b : Int) : Int := if aD a && aD b then 0 else 1
theorem fZ (a b : Int) : kr a b = 0 ↔ (0 ≤ a ∧ a ≤ 4611686018427387903) ∧ 0 ≤ b ∧ b ≤ 4611686018427387903 := by simp [kr, aD]; omega
theorem ll (T tau : Int) : qv T tau = 0 ↔ (1 ≤ T ∧ T ≤ 4611686018427387903) ∧ 0 ≤ tau ∧ tau ≤ 4611686018427387903 := by simp [qv, aD]; omega
theorem jd (a b : Int) : Pure TC 72 [.i .i64 a, .i .i64 b] (.i .i64 (kr a b)) := by
 refine Pure.mk' Tryz.func72 rfl rfl zN ?_
 (repeat' (first | ((first | refine Wp.any aa rfl ?_ | (with_reducible first | refine Go.mk ?_ | apply ak.of)); conv => whnf) | with_reducible exact rfl | ((with_reducible refine Ov.ok zO ?_); conv => whnf) | (with_reducible refine Ov.sh1 (by with_unfolding_all exact rfl) ?_) | ((first | with_reducible refine Ov.quo (by omega) (by omega) (by omega) (fun _ _ => ?_) | refine zV ?_ | with_reducible refine And.intro zC ?_); conv => whnf) | ((with_reducible refine And.intro ?hb ?_); (case hb => exact zz0); (conv => whnf)) | ((refine ae.a rfl rfl rfl rfl rfl rfl ?hb ?_); (case hb => exact zB); (conv => whnf)) | ((refine ae.b rfl rfl rfl rfl rfl rfl rfl rfl ?hb ?ho ?_); (case hb => exact zB); (case ho => omega); (conv => whnf)) | ((refine ae.c rfl rfl rfl rfl rfl ?hb ?_); (case hb => exact zB); (conv => whnf)) | ((refine ae.d rfl rfl rfl rfl rfl rfl ?hb ?ho ?_); (case hb => exact zB); (case ho => omega); (conv => whnf)) | (with_reducible refine Or.inl ?_) | ((with_reducible refine IxA.ptr ?_); conv => whnf) | ((with_reducible refine nil_no (by omega) ?_); (conv => whnf)) | ((with_reducible refine af ?_ (fun hn0 => ?_)) <;> (conv => whnf)) | ((with_reducible first | refine ab.pure (aJ _) rfl rfl ?_ | refine ag.pure (aJ _) rfl rfl ?_); conv => whnf) | ((refine am (fun hc => ?_) (fun hc => ?_)) <;> (try simp only [wz9] at hc) <;> (try (exfalso; omega)) <;> (conv => whnf))))
 all_goals exact .i (by simp [kr, *])
def lF (n : Int) : Int := min (max n 0) 4611686018427387903
theorem gx (n : Int) : Pure TC 73 [.i .i64 n] (.i .i64 (lF n)) := by
 refine Pure.mk' Tryz.func73 rfl rfl zN ?_
 (repeat' (first | ((first | refine Wp.any aa rfl ?_ | (with_reducible first | refine Go.mk ?_ | apply ak.of)); conv => whnf) | with_reducible exact rfl | ((with_reducible refine Ov.ok zO ?_); conv => whnf) | (with_reducible refine Ov.sh1 (by with_unfolding_all exact rfl) ?_) | ((first | with_reducible refine Ov.quo (by omega) (by omega) (by omega) (fun _ _ => ?_) | refine zV ?_ | with_reducible refine And.intro zC ?_); conv => whnf) | ((with_reducible refine And.intro ?hb ?_); (case hb => exact zz0); (conv => whnf)) | ((refine ae.a rfl rfl rfl rfl rfl rfl ?hb ?_); (case hb => exact zB); (conv => whnf)) | ((refine ae.b rfl rfl rfl rfl rfl rfl rfl rfl ?hb ?ho ?_); (case hb => exact zB); (case ho => omega); (conv => whnf)) | ((refine ae.c rfl rfl rfl rfl rfl ?hb ?_); (case hb => exact zB); (conv => whnf)) | ((refine ae.d rfl rfl rfl rfl rfl rfl ?hb ?ho ?_); (case hb => exact zB); (case ho => omega); (conv => whnf)) | (with_reducible refine Or.inl ?_) | ((with_reducible refine IxA.ptr ?_); conv => whnf) | ((with_reducible refine nil_no (by omega) ?_); (conv => whnf)) | ((with_reducible refine af ?_ (fun hn0 => ?_)) <;> (conv => whnf)) | ((refine am (fun hc => ?_) (fun hc => ?_)) <;> (try simp only [wz9] at hc) <;> (try (exfalso; omega)) <;> (conv => whnf))))
 all_goals exact .i (by unfold lF; omega)
def mt (a b : Int) : Int := if kr a b = 0 then max (a - b) 0 else 0
theorem kF (a b : Int) : Pure TC 46 [.i .i64 a, .i .i64 b] (.tup [.i .i64 (mt a b), .i .i64 (kr a b)]) := by
 refine Pure.mk' Tryz.func46 rfl rfl zN ?_
 (repeat' (first | ((first | refine Wp.any aa rfl ?_ | (with_reducible first | refine Go.mk ?_ | apply ak.of)); conv => whnf) | with_reducible exact rfl | ((with_reducible refine Ov.ok zO ?_); conv => whnf) | (with_reducible refine Ov.sh1 (by with_unfolding_all exact rfl) ?_) | ((first | with_reducible refine Ov.quo (by omega) (by omega) (by omega) (fun _ _ => ?_) | refine zV ?_ | with_reducible refine And.intro zC ?_); conv => whnf) | ((with_reducible refine And.intro ?hb ?_); (case hb => exact zz0); (conv => whnf)) | ((refine ae.a rfl rfl rfl rfl rfl rfl ?hb ?_); (case hb => exact zB); (conv => whnf)) | ((refine ae.b rfl rfl rfl rfl rfl rfl rfl rfl ?hb ?ho ?_); (case hb => exact zB); (case ho => omega); (conv => whnf)) | ((refine ae.c rfl rfl rfl rfl rfl ?hb ?_); (case hb => exact zB); (conv => whnf)) | ((refine ae.d rfl rfl rfl rfl rfl rfl ?hb ?ho ?_); (case hb => exact zB); (case ho => omega); (conv => whnf)) | (with_reducible refine Or.inl ?_) | ((with_reducible refine IxA.ptr ?_); conv => whnf) | ((with_reducible refine nil_no (by omega) ?_); (conv => whnf)) | ((with_reducible refine af ?_ (fun hn0 => ?_)) <;> (conv => whnf)) | ((with_reducible first | refine ab.pure (jd _ _) rfl rfl ?_ | refine ag.pure (jd _ _) rfl rfl ?_ | refine ab.pure (gx _) rfl rfl ?_ | refine ag.pure (gx _) rfl rfl ?_); conv => whnf) | ((refine am (fun hc => ?_) (fun hc => ?_)) <;> (try simp only [wz9, fZ] at hc) <;> (try (exfalso; omega)) <;> (conv => whnf))))
 ·exact .of_eq (by rw [mt, if_neg (by rw [fZ]; omega)])
 ·exact .of_eq (by rw [mt, if_pos (by rw [fZ]; omega), show kr a b = 0 by rw [fZ]; omega, show lF (a - b) = max (a - b) 0 by unfold lF; omega])
theorem jm (a T : Int) (ha : 0 ≤ a) (hT : 1 ≤ T) : 0 ≤ a / T ∧ a / T ≤ a := ⟨Int.ediv_nonneg ha (by omega), Int.ediv_le_self _ ha⟩
def aV (T tau tat now : Int) : Int := if tau < max tat now - now then 0 else min ((tau - (max tat now - now)) / T + 1) ((4611686018427387903 - max tat now) / T)
theorem dB (T tau tat now : Int) (hT : 1 ≤ T) (hT2 : T ≤ 4611686018427387903) (h1 : 0 ≤ tau) (h2 : tau ≤ 4611686018427387903) (h3 : 0 ≤ tat) (h4 : tat ≤ 4611686018427387903) (h5 : 0 ≤ now) (h6 : now ≤ 4611686018427387903) :
  Pure TC 71 [.agg [.i .i64 T, .i .i64 tau], .i .i64 tat, .i .i64 now] (.i .i64 (aV T tau tat now)) := by
 have q1 : ¬ (if now > tat then now else tat) - now > tau → _ := fun h => jm (tau - ((if now > tat then now else tat) - now)) T (by omega) hT
 have q2 := jm (4611686018427387903 - (if now > tat then now else tat)) T (by omega) hT
 refine Pure.mk' Tryz.func71 rfl rfl zN ?_
 (repeat' (first | ((first | refine Wp.any aa rfl ?_ | (with_reducible first | refine Go.mk ?_ | apply ak.of)); conv => whnf) | with_reducible exact rfl | ((with_reducible refine Ov.ok zO ?_); conv => whnf) | (with_reducible refine Ov.sh1 (by with_unfolding_all exact rfl) ?_) | ((first | with_reducible refine Ov.quo (by omega) (by omega) (by omega) (fun _ _ => ?_) | refine zV ?_ | with_reducible refine And.intro zC ?_); conv => whnf) | ((with_reducible refine And.intro ?hb ?_); (case hb => exact zz0); (conv => whnf)) | ((refine ae.a rfl rfl rfl rfl rfl rfl ?hb ?_); (case hb => exact zB); (conv => whnf)) | ((refine ae.b rfl rfl rfl rfl rfl rfl rfl rfl ?hb ?ho ?_); (case hb => exact zB); (case ho => omega); (conv => whnf)) | ((refine ae.c rfl rfl rfl rfl rfl ?hb ?_); (case hb => exact zB); (conv => whnf)) | ((refine ae.d rfl rfl rfl rfl rfl rfl ?hb ?ho ?_); (case hb => exact zB); (case ho => omega); (conv => whnf)) | (with_reducible refine Or.inl ?_) | ((with_reducible refine IxA.ptr ?_); conv => whnf) | ((with_reducible refine nil_no (by omega) ?_); (conv => whnf)) | ((with_reducible refine af ?_ (fun hn0 => ?_)) <;> (conv => whnf)) | ((refine am (fun hc => ?_) (fun hc => ?_)) <;> (try simp only [wz9] at hc) <;> (try (exfalso; omega)) <;> (conv => whnf))))
 ·exact .i (by unfold aV; omega)
 ·refine .i ?_
  have e : max tat now = if now > tat then now else tat := by omega
  rw [aV, e, if_neg (show ¬ tau < (if now > tat then now else tat) - now by omega)]
  omega
theorem qs {x y : Int} (hx : 0 ≤ x) (hx2 : x ≤ 4611686018427387903) (hy : 0 ≤ y) (hy2 : y ≤ 4611686018427387903) : 0 ≤ x * y ∧ x * y ≤ 4611686018427387903 * 4611686018427387903 :=
 ⟨Int.mul_nonneg hx hy, Int.mul_le_mul hx2 hy2 hy (by omega)⟩
def f7 (T n : Int) : Int := IntKind.i64.wrap (loI ((n - 1) * T))
theorem hi_0 {p : Int} (h : 0 ≤ p) : (hiI p = 0 → loI p = p) ∧ (hiI p ≠ 0 → 18446744073709551616 ≤ p) := by unfold hiI loI; omega
theorem gM (T tau n : Int) (hT : 1 ≤ T) (hT2 : T ≤ 4611686018427387903) (h1 : 0 ≤ tau) (h2 : tau ≤ 4611686018427387903) (h3 : 1 ≤ n) (h4 : n ≤ 4611686018427387903) :
  Pure TC 98 [.agg [.i .i64 T, .i .i64 tau], .i .i64 n] (.tup [.i .i64 (f7 T n), .b (decide ((n - 1) * T ≤ tau))]) := by
 obtain ⟨m1, m2⟩ := qs (x := n - 1) (y := T) (by omega) (by omega) (by omega) hT2
 refine Pure.mk' Tryz.func98 rfl rfl zN ?_
 (repeat' (first | ((first | refine Wp.any aa rfl ?_ | (with_reducible first | refine Go.mk ?_ | apply ak.of)); conv => whnf) | with_reducible exact rfl | ((with_reducible refine Ov.ok zO ?_); conv => whnf) | (with_reducible refine Ov.sh1 (by with_unfolding_all exact rfl) ?_) | ((first | with_reducible refine Ov.quo (by omega) (by omega) (by omega) (fun _ _ => ?_) | refine zV ?_ | with_reducible refine And.intro zC ?_); conv => whnf) | ((with_reducible refine And.intro ?hb ?_); (case hb => exact zz0); (conv => whnf)) | ((refine ae.a rfl rfl rfl rfl rfl rfl ?hb ?_); (case hb => exact zB); (conv => whnf)) | ((refine ae.b rfl rfl rfl rfl rfl rfl rfl rfl ?hb ?ho ?_); (case hb => exact zB); (case ho => omega); (conv => whnf)) | ((refine ae.c rfl rfl rfl rfl rfl ?hb ?_); (case hb => exact zB); (conv => whnf)) | ((refine ae.d rfl rfl rfl rfl rfl rfl ?hb ?ho ?_); (case hb => exact zB); (case ho => omega); (conv => whnf)) | (with_reducible refine Or.inl ?_) | ((with_reducible refine IxA.ptr ?_); conv => whnf) | ((with_reducible refine nil_no (by omega) ?_); (conv => whnf)) | ((with_reducible refine af ?_ (fun hn0 => ?_)) <;> (conv => whnf)) | ((with_reducible first | refine ab.pure (bits_Mul64 _ _ (by omega) (by omega) (by omega) (by omega)) rfl rfl ?_ | refine ag.pure (bits_Mul64 _ _ (by omega) (by omega) (by omega) (by omega)) rfl rfl ?_ | refine Ov.mk ?_); conv => whnf) | ((refine am (fun hc => ?_) (fun hc => ?_)) <;> (try simp only [wz9] at hc) <;> (try (exfalso; omega)) <;> (conv => whnf))))
 ·rw [(hi_0 m1).1 hc]
  exact .of_eq (by unfold f7; rw [(hi_0 m1).1 hc])
 ·have := (hi_0 m1).2 hc
  exact .of_eq (by rw [show decide ((n - 1) * T ≤ tau) = false by simp; omega]; rfl)
def cD (T tau tat now n : Int) : Int :=
 if (n - 1) * T ≤ tau ∧ n ≤ (4611686018427387903 - max tat now) / T then tat - now - (tau - (n - 1) * T) else 4611686018427387903
theorem qi {T tau n : Int} (h0 : 0 ≤ (n - 1) * T) (h : (n - 1) * T ≤ tau) (ht : tau ≤ 4611686018427387903) : f7 T n = (n - 1) * T := by
 unfold f7 loI
 generalize (n - 1) * T = p at *
 rw [show p % 18446744073709551616 = p by omega, IntWalk.i64_in _ (by omega)]
theorem jA (T tau tat now n : Int) (hT : 1 ≤ T) (hT2 : T ≤ 4611686018427387903) (h1 : 0 ≤ tau) (h2 : tau ≤ 4611686018427387903) (h3 : 0 ≤ tat) (h4 : tat ≤ 4611686018427387903) (h5 : 0 ≤ now) (h6 : now ≤ 4611686018427387903) (h7 : 1 ≤ n) (h8 : n ≤ 4611686018427387903) :
  Pure TC 87 [.agg [.i .i64 T, .i .i64 tau], .i .i64 tat, .i .i64 now, .i .i64 n] (.i .i64 (cD T tau tat now n)) := by
 obtain ⟨m1, m2⟩ := qs (x := n - 1) (y := T) (by omega) (by omega) (by omega) hT2
 have q2 := jm (4611686018427387903 - (if now > tat then now else tat)) T (by omega) hT
 have q3 : (n - 1) * T ≤ tau → f7 T n = (n - 1) * T := fun h => qi m1 h h2
 refine Pure.mk' Tryz.func87 rfl rfl zN ?_
 have e : max tat now = if now > tat then now else tat := by omega
 (repeat' (first | ((first | refine Wp.any aa rfl ?_ | (with_reducible first | refine Go.mk ?_ | apply ak.of)); conv => whnf) | with_reducible exact rfl | ((with_reducible refine Ov.ok zO ?_); conv => whnf) | (with_reducible refine Ov.sh1 (by with_unfolding_all exact rfl) ?_) | ((first | with_reducible refine Ov.quo (by omega) (by omega) (by omega) (fun _ _ => ?_) | refine zV ?_ | with_reducible refine And.intro zC ?_); conv => whnf) | ((with_reducible refine And.intro ?hb ?_); (case hb => exact zz0); (conv => whnf)) | ((refine ae.a rfl rfl rfl rfl rfl rfl ?hb ?_); (case hb => exact zB); (conv => whnf)) | ((refine ae.b rfl rfl rfl rfl rfl rfl rfl rfl ?hb ?ho ?_); (case hb => exact zB); (case ho => omega); (conv => whnf)) | ((refine ae.c rfl rfl rfl rfl rfl ?hb ?_); (case hb => exact zB); (conv => whnf)) | ((refine ae.d rfl rfl rfl rfl rfl rfl ?hb ?ho ?_); (case hb => exact zB); (case ho => omega); (conv => whnf)) | (with_reducible refine Or.inl ?_) | ((with_reducible refine IxA.ptr ?_); conv => whnf) | ((with_reducible refine nil_no (by omega) ?_); (conv => whnf)) | ((with_reducible refine af ?_ (fun hn0 => ?_)) <;> (conv => whnf)) | ((with_reducible first | refine ab.pure (gM T tau n hT hT2 h1 h2 h7 h8) rfl rfl ?_ | refine ag.pure (gM T tau n hT hT2 h1 h2 h7 h8) rfl rfl ?_); conv => whnf) | ((refine am (fun hc => ?_) (fun hc => ?_)) <;> (try simp only [wz9] at hc) <;> (try (exfalso; omega)) <;> (conv => whnf))))
 ·exact .i (by rw [cD, if_neg (by omega)])
 ·exact .i (by rw [cD, e, if_neg (show ¬ ((n - 1) * T ≤ tau ∧ n ≤ (4611686018427387903 - (if now > tat then now else tat)) / T) by omega)])
 ·exact .i (by rw [cD, e, if_pos (show (n - 1) * T ≤ tau ∧ n ≤ (4611686018427387903 - (if now > tat then now else tat)) / T by omega), q3 (by omega)])
structure Ans where
 g : Bool
 tat : Int
 wait : Int
 left : Int
def Ans.S (a : Ans) : SV := .agg [.b a.g, .i .i64 a.tat, .i .i64 a.wait, .i .i64 a.left]
def n9 (T tau tat now n : Int) : Int := if n ≤ aV T tau tat now ∧ 0 < n then max tat now + n * T else tat
def fS (T tau tat now n : Int) : Ans :=
 {g := decide (n ≤ aV T tau tat now), tat := n9 T tau tat now n
  wait := if n ≤ aV T tau tat now then 0 else cD T tau tat now n, left := aV T tau (n9 T tau tat now n) now }
theorem iH {T tau tat now : Int} (hT : 1 ≤ T) (h3 : 0 ≤ tat) (h4 : tat ≤ 4611686018427387903) (h5 : 0 ≤ now) (h6 : now ≤ 4611686018427387903) {n : Int} (hn : n ≤ aV T tau tat now) (h0 : 0 < n) :
  0 ≤ n * T ∧ max tat now + n * T ≤ 4611686018427387903 := by
 unfold aV at hn
 split at hn
 ·omega
 ·have h : n ≤ (4611686018427387903 - max tat now) / T := by omega
  rw [Int.le_ediv_iff_mul_le (by omega)] at h
  exact ⟨Int.mul_nonneg (by omega) (by omega), by omega⟩
theorem bN {T tau tat now : Int} (hT : 1 ≤ T) (h3 : 0 ≤ tat) (h4 : tat ≤ 4611686018427387903) (h5 : 0 ≤ now) (h6 : now ≤ 4611686018427387903) : 0 ≤ aV T tau tat now ∧ aV T tau tat now ≤ 4611686018427387903 := by
 unfold aV
 split
 ·omega
 ·have h1 := jm (tau - (max tat now - now)) T (by omega) hT
  have h2 := jm (4611686018427387903 - max tat now) T (by omega) hT
  omega
theorem fI (T tau tat now n : Int) (hT : 1 ≤ T) (hT2 : T ≤ 4611686018427387903) (h1 : 0 ≤ tau) (h2 : tau ≤ 4611686018427387903) (h3 : 0 ≤ tat) (h4 : tat ≤ 4611686018427387903) (h5 : 0 ≤ now) (h6 : now ≤ 4611686018427387903) (h7 : 0 ≤ n) (h8 : n ≤ 4611686018427387903) :
  Pure TC 74 [.agg [.i .i64 T, .i .i64 tau], .i .i64 tat, .i .i64 now, .i .i64 n] (fS T tau tat now n).S := by
 have hl0 := bN (tau := tau) hT h3 h4 h5 h6
 have hl1 : n ≤ aV T tau tat now → 0 < n → _ := iH (n := n) (tau := tau) hT h3 h4 h5 h6
 have e : max tat now = if now > tat then now else tat := by omega
 refine Pure.mk' Tryz.func74 rfl rfl zN ?_
 (repeat' (first | ((first | refine Wp.any aa rfl ?_ | (with_reducible first | refine Go.mk ?_ | apply ak.of)); conv => whnf) | with_reducible exact rfl | ((with_reducible refine Ov.ok zO ?_); conv => whnf) | (with_reducible refine Ov.sh1 (by with_unfolding_all exact rfl) ?_) | ((first | with_reducible refine Ov.quo (by omega) (by omega) (by omega) (fun _ _ => ?_) | refine zV ?_ | with_reducible refine And.intro zC ?_); conv => whnf) | ((with_reducible refine And.intro ?hb ?_); (case hb => exact zz0); (conv => whnf)) | ((refine ae.a rfl rfl rfl rfl rfl rfl ?hb ?_); (case hb => exact zB); (conv => whnf)) | ((refine ae.b rfl rfl rfl rfl rfl rfl rfl rfl ?hb ?ho ?_); (case hb => exact zB); (case ho => omega); (conv => whnf)) | ((refine ae.c rfl rfl rfl rfl rfl ?hb ?_); (case hb => exact zB); (conv => whnf)) | ((refine ae.d rfl rfl rfl rfl rfl rfl ?hb ?ho ?_); (case hb => exact zB); (case ho => omega); (conv => whnf)) | (with_reducible refine Or.inl ?_) | ((with_reducible refine IxA.ptr ?_); conv => whnf) | ((with_reducible refine nil_no (by omega) ?_); (conv => whnf)) | ((with_reducible refine af ?_ (fun hn0 => ?_)) <;> (conv => whnf)) | ((with_reducible first | refine ab.pure (dB _ _ _ _ hT hT2 h1 h2 (by omega) (by omega) h5 h6) rfl rfl ?_ | refine ag.pure (dB _ _ _ _ hT hT2 h1 h2 (by omega) (by omega) h5 h6) rfl rfl ?_ | refine ab.pure (jA _ _ _ _ _ hT hT2 h1 h2 (by omega) (by omega) h5 h6 (by omega) (by omega)) rfl rfl ?_ | refine ag.pure (jA _ _ _ _ _ hT hT2 h1 h2 (by omega) (by omega) h5 h6 (by omega) (by omega)) rfl rfl ?_); conv => whnf) | ((refine am (fun hc => ?_) (fun hc => ?_)) <;> (try simp only [wz9] at hc) <;> (try (exfalso; omega)) <;> (conv => whnf))))
 all_goals refine .of_eq ?_
 ·simp [Ans.S, fS, n9, hc]
 ·have h9 : n ≤ aV T tau tat now ∧ 0 < n := by omega
  simp [Ans.S, fS, n9, h9, e]
 ·have h9 : ¬ (n ≤ aV T tau tat now ∧ 0 < n) := by omega
  have h8 : n ≤ aV T tau tat now := by omega
  simp only [Ans.S, fS, n9, if_neg h9, if_pos h8]
def jU (T tau : Int) (xs : List Int) : Int := if xs.all aD then qv T tau else 1
theorem gL (T tau : Int) (xs : List Int) : Pure TC 70 [.agg [.i .i64 T, .i .i64 tau], .d (aj 1 (ao .i64) xs)] (.i .i64 (jU T tau xs)) := by
 refine Pure.lens (.mk Tryz.func70 rfl rfl) fun hlen => ?_
 have hlen := hlen xs.length (by simp [bf, aj])
 refine Pure.mk' Tryz.func70 rfl rfl zN ?_
 (repeat' (first | ((first | refine Wp.any aa rfl ?_ | (with_reducible first | refine Go.mk ?_ | apply ak.of)); conv => whnf) | with_reducible exact rfl | ((with_reducible refine Ov.ok zO ?_); conv => whnf) | (with_reducible refine Ov.sh1 (by with_unfolding_all exact rfl) ?_) | ((first | with_reducible refine Ov.quo (by omega) (by omega) (by omega) (fun _ _ => ?_) | refine zV ?_ | with_reducible refine And.intro zC ?_); conv => whnf) | ((with_reducible refine And.intro ?hb ?_); (case hb => exact zz0); (conv => whnf)) | ((refine ae.a rfl rfl rfl rfl rfl rfl ?hb ?_); (case hb => exact zB); (conv => whnf)) | ((refine ae.b rfl rfl rfl rfl rfl rfl rfl rfl ?hb ?ho ?_); (case hb => exact zB); (case ho => omega); (conv => whnf)) | ((refine ae.c rfl rfl rfl rfl rfl ?hb ?_); (case hb => exact zB); (conv => whnf)) | ((refine ae.d rfl rfl rfl rfl rfl rfl ?hb ?ho ?_); (case hb => exact zB); (case ho => omega); (conv => whnf)) | (with_reducible refine Or.inl ?_) | ((with_reducible refine IxA.ptr ?_); conv => whnf) | ((with_reducible refine nil_no (by omega) ?_); (conv => whnf)) | ((with_reducible refine af ?_ (fun hn0 => ?_)) <;> (conv => whnf)) | ((refine am (fun hc => ?_) (fun hc => ?_)) <;> (try simp only [wz9] at hc) <;> (try (exfalso; omega)) <;> (conv => whnf))))
 refine Wp.loopP (fun k => k ≤ xs.length ∧ (xs.take k).all aD = true) (fun k => ⟨⟨Tryz.f70.ntmps, 0⟩, 1, [(2, .ptr 0 0), (7, .d (aj 1 (ao .i64) xs)), (8, .i .i64 xs.length), (9, .i .i64 k)], [(0, some (.cells [.i .i64 T, .i .i64 tau]))]⟩) (fun k => xs.length - k) 0 ⟨by simp, by simp⟩ ?_ ?_
 ·(refine Le.by [0] rfl rfl rfl rfl ?_ ?_ <;> (conv => whnf) <;> (repeat' (first | exact trivial | exact ac.rfl rfl | exact ac.ptr rfl | exact ac.sl rfl | ((with_reducible refine ac.fn ?_); (conv => whnf)) | ((refine ac.iref ?_); (conv => whnf)) | exact ⟨rfl, rfl, rfl⟩ | exact fun i hi => rfl | ((with_reducible refine And.intro ?_ ?_) <;> (conv => whnf)))))
 ·rintro k ⟨hk, hall⟩
  (repeat' (first | ((first | refine Wp.any aa rfl ?_ | (with_reducible first | refine Go.mk ?_ | apply ak.of)); conv => whnf) | with_reducible exact rfl | ((with_reducible refine Ov.ok zO ?_); conv => whnf) | (with_reducible refine Ov.sh1 (by with_unfolding_all exact rfl) ?_) | ((first | with_reducible refine Ov.quo (by omega) (by omega) (by omega) (fun _ _ => ?_) | refine zV ?_ | with_reducible refine And.intro zC ?_); conv => whnf) | ((with_reducible refine And.intro ?hb ?_); (case hb => exact zz0); (conv => whnf)) | ((refine ae.a rfl rfl rfl rfl rfl rfl ?hb ?_); (case hb => exact zB); (conv => whnf)) | ((refine ae.b rfl rfl rfl rfl rfl rfl rfl rfl ?hb ?ho ?_); (case hb => exact zB); (case ho => omega); (conv => whnf)) | ((refine ae.c rfl rfl rfl rfl rfl ?hb ?_); (case hb => exact zB); (conv => whnf)) | ((refine ae.d rfl rfl rfl rfl rfl rfl ?hb ?ho ?_); (case hb => exact zB); (case ho => omega); (conv => whnf)) | (with_reducible refine Or.inl ?_) | ((with_reducible refine IxA.ptr ?_); conv => whnf) | ((with_reducible refine nil_no (by omega) ?_); (conv => whnf)) | ((with_reducible refine af ?_ (fun hn0 => ?_)) <;> (conv => whnf)) | ((with_reducible first | refine ab.pure (aJ _) rfl rfl ?_ | refine ag.pure (aJ _) rfl rfl ?_ | refine ab.pure (cR _ _) rfl rfl ?_ | refine ag.pure (cR _ _) rfl rfl ?_); conv => whnf) | ((refine am (fun hc => ?_) (fun hc => ?_)) <;> (try simp only [wz9] at hc) <;> (try (exfalso; omega)) <;> (conv => whnf))))
  ·exact .i (by rw [jU, j7 (k := k) (by omega) (by simpa using hc)]; rfl)
  ·refine ⟨k + 1, ⟨by omega, ct (by omega) hall (by simpa using hc)⟩, by dsimp only; omega, ?_⟩
   (refine Le.by [0] rfl rfl rfl rfl ?_ ?_ <;> (conv => whnf) <;> (repeat' (first | exact trivial | exact ac.rfl rfl | exact ac.ptr rfl | exact ac.sl rfl | ((with_reducible refine ac.fn ?_); (conv => whnf)) | ((refine ac.iref ?_); (conv => whnf)) | exact ⟨rfl, rfl, rfl⟩ | exact fun i hi => rfl | ((with_reducible refine And.intro ?_ ?_) <;> (conv => whnf)))))
  ·rw [Q21 (by omega)] at hall
   exact .i (by rw [jU, hall]; rfl)
theorem fV (T tau a b c : Int) : jU T tau [a, b, c] = 0 ↔ ((1 ≤ T ∧ T ≤ 4611686018427387903) ∧ 0 ≤ tau ∧ tau ≤ 4611686018427387903) ∧ (0 ≤ a ∧ a ≤ 4611686018427387903) ∧ (0 ≤ b ∧ b ≤ 4611686018427387903) ∧ 0 ≤ c ∧ c ≤ 4611686018427387903 := by
 rw [← ll]; unfold jU
 simp only [List.all_cons, List.all_nil, Bool.and_true, Q5, dv]
 split <;> omega
theorem gQ (T tau a b : Int) : jU T tau [a, b] = 0 ↔ ((1 ≤ T ∧ T ≤ 4611686018427387903) ∧ 0 ≤ tau ∧ tau ≤ 4611686018427387903) ∧ (0 ≤ a ∧ a ≤ 4611686018427387903) ∧ 0 ≤ b ∧ b ≤ 4611686018427387903 := by
 rw [← ll]; unfold jU
 simp only [List.all_cons, List.all_nil, Bool.and_true, Q5, dv]
 split <;> omega
def lB (T tau tat now n : Int) : Ans := if jU T tau [tat, now, n] = 0 then fS T tau tat now n else ⟨false, 0, 0, 0⟩
theorem dq (T tau tat now n : Int) : Pure TC 47 [.agg [.i .i64 T, .i .i64 tau], .i .i64 tat, .i .i64 now, .i .i64 n] (.tup [(lB T tau tat now n).S, .i .i64 (jU T tau [tat, now, n])]) := by
 refine Pure.mk' Tryz.func47 rfl rfl zN ?_
 (repeat' (first | ((first | refine Wp.any aa rfl ?_ | (with_reducible first | refine Go.mk ?_ | apply ak.of)); conv => whnf) | with_reducible exact rfl | ((with_reducible refine Ov.ok zO ?_); conv => whnf) | (with_reducible refine Ov.sh1 (by with_unfolding_all exact rfl) ?_) | ((first | with_reducible refine Ov.quo (by omega) (by omega) (by omega) (fun _ _ => ?_) | refine zV ?_ | with_reducible refine And.intro zC ?_); conv => whnf) | ((with_reducible refine And.intro ?hb ?_); (case hb => exact zz0); (conv => whnf)) | ((refine ae.a rfl rfl rfl rfl rfl rfl ?hb ?_); (case hb => exact zB); (conv => whnf)) | ((refine ae.b rfl rfl rfl rfl rfl rfl rfl rfl ?hb ?ho ?_); (case hb => exact zB); (case ho => omega); (conv => whnf)) | ((refine ae.c rfl rfl rfl rfl rfl ?hb ?_); (case hb => exact zB); (conv => whnf)) | ((refine ae.d rfl rfl rfl rfl rfl rfl ?hb ?ho ?_); (case hb => exact zB); (case ho => omega); (conv => whnf)) | (with_reducible refine Or.inl ?_) | ((with_reducible refine IxA.ptr ?_); conv => whnf) | ((with_reducible refine nil_no (by omega) ?_); (conv => whnf)) | ((with_reducible refine af ?_ (fun hn0 => ?_)) <;> (conv => whnf)) | ((with_reducible refine ab.pureI (gL T tau [tat, now, n]) rfl ?_); (conv => whnf); (repeat' ((with_reducible refine And.intro (by omega) ?_); (conv => whnf))); (refine And.intro (by (repeat' (first | exact Les.nil | with_reducible refine Les.cons ?_ ?_ | exact SV.Le.rfl _ | exact SV.Le.nil | exact SV.Le.sl (fun i hi => by (rcases i with _ | _ | _ | _ | i) <;> first | rfl | (exfalso; omega)) | exact SV.Le.sl (fun i hi => by simp [a6, aj, *])))) ?_); (conv => whnf)) | ((with_reducible first | refine ab.pure (fI T tau tat now n (by omega) (by omega) (by omega) (by omega) (by omega) (by omega) (by omega) (by omega) (by omega) (by omega)) rfl rfl ?_ | refine ag.pure (fI T tau tat now n (by omega) (by omega) (by omega) (by omega) (by omega) (by omega) (by omega) (by omega) (by omega) (by omega)) rfl rfl ?_); conv => whnf) | ((refine am (fun hc => ?_) (fun hc => ?_)) <;> (try simp only [wz9, fV] at hc) <;> (try (exfalso; omega)) <;> (conv => whnf))))
 ·exact .of_eq (by rw [lB, if_neg (by rw [fV]; exact hc)]; rfl)
 ·exact .of_eq (by rw [lB, if_pos (by rw [fV]; exact hc), (fV ..).2 hc]; rfl)
theorem jB (T tau tat now : Int) : Pure TC 45 [.agg [.i .i64 T, .i .i64 tau], .i .i64 tat, .i .i64 now] (.tup [.i .i64 (if jU T tau [tat, now] = 0 then aV T tau tat now else 0), .i .i64 (jU T tau [tat, now])]) := by
 refine Pure.mk' Tryz.func45 rfl rfl zN ?_
 (repeat' (first | ((first | refine Wp.any aa rfl ?_ | (with_reducible first | refine Go.mk ?_ | apply ak.of)); conv => whnf) | with_reducible exact rfl | ((with_reducible refine Ov.ok zO ?_); conv => whnf) | (with_reducible refine Ov.sh1 (by with_unfolding_all exact rfl) ?_) | ((first | with_reducible refine Ov.quo (by omega) (by omega) (by omega) (fun _ _ => ?_) | refine zV ?_ | with_reducible refine And.intro zC ?_); conv => whnf) | ((with_reducible refine And.intro ?hb ?_); (case hb => exact zz0); (conv => whnf)) | ((refine ae.a rfl rfl rfl rfl rfl rfl ?hb ?_); (case hb => exact zB); (conv => whnf)) | ((refine ae.b rfl rfl rfl rfl rfl rfl rfl rfl ?hb ?ho ?_); (case hb => exact zB); (case ho => omega); (conv => whnf)) | ((refine ae.c rfl rfl rfl rfl rfl ?hb ?_); (case hb => exact zB); (conv => whnf)) | ((refine ae.d rfl rfl rfl rfl rfl rfl ?hb ?ho ?_); (case hb => exact zB); (case ho => omega); (conv => whnf)) | (with_reducible refine Or.inl ?_) | ((with_reducible refine IxA.ptr ?_); conv => whnf) | ((with_reducible refine nil_no (by omega) ?_); (conv => whnf)) | ((with_reducible refine af ?_ (fun hn0 => ?_)) <;> (conv => whnf)) | ((with_reducible refine ab.pureI (gL T tau [tat, now]) rfl ?_); (conv => whnf); (repeat' ((with_reducible refine And.intro (by omega) ?_); (conv => whnf))); (refine And.intro (by (repeat' (first | exact Les.nil | with_reducible refine Les.cons ?_ ?_ | exact SV.Le.rfl _ | exact SV.Le.nil | exact SV.Le.sl (fun i hi => by (rcases i with _ | _ | _ | _ | i) <;> first | rfl | (exfalso; omega)) | exact SV.Le.sl (fun i hi => by simp [a6, aj, *])))) ?_); (conv => whnf)) | ((with_reducible first | refine ab.pure (dB T tau tat now (by omega) (by omega) (by omega) (by omega) (by omega) (by omega) (by omega) (by omega)) rfl rfl ?_ | refine ag.pure (dB T tau tat now (by omega) (by omega) (by omega) (by omega) (by omega) (by omega) (by omega) (by omega)) rfl rfl ?_); conv => whnf) | ((refine am (fun hc => ?_) (fun hc => ?_)) <;> (try simp only [wz9, gQ] at hc) <;> (try (exfalso; omega)) <;> (conv => whnf))))
 ·exact .of_eq (by rw [if_neg (by rw [gQ]; exact hc)])
 ·exact .of_eq (by rw [if_pos (by rw [gQ]; exact hc), (gQ ..).2 hc])
end Go.Proofs.YtcbpkdhoibemcaaGreat
