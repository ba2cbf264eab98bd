/- Parts of the proof, one behind the other: Sx24, Ty, Sx20, Bk1, Bk7a, Br1. Lemmas and contracts of functions; no condition of its own. -/
import Derived.Test.YtbdclkjelhlfbaaM4
import Derived.IntWalk
import Derived.Test.YtbdclkjelhlfbaaRows
import Derived.Shelf.Bits.Mul64
import Derived.Lib.BytesEntry
import Derived.Laws.Externs
import Derived.WalkKit
import Derived.WalkSpells
import Derived.WalkLawsBesides
import Derived.BigQuiet
import Derived.Deep.QuietTactic
import Derived.StillTailTactics
import Derived.Deep.RegionWith
import Derived.Deep.RegionHeld3
import Derived.Lib.Hide
import Derived.Deep.Slices
import Derived.ReadAgain
import Derived.ChangeSame
import Derived.ProofKit
import Derived.OpenShut
set_option linter.unusedVariables false
set_option linter.unusedSimpArgs false
namespace Go.Proofs.Ytbdclkjelhlfbaa
open Go.RowKit

/-- told anew for those who come after: labels by L, the rest lies still -/
structure Seal (S : St) (L : List Nat) (x y : SV) : Prop where
  out : ∀ O E a w v, Sat O E S a w → RS E S.nx w x v → RS (E.end S L) L.length w y v
def Seals (S : St) (L : List Nat) : List SV → List SV → Prop
  | [], [] => True
  | x :: xs, y :: ys => Seal S L x y ∧ Seals S L xs ys
  | _, _ => False
theorem Seals.out {S : St} {L : List Nat} : ∀ {xs ys : List SV}, Seals S L xs ys → xs.length = ys.length ∧ ∀ (j : Nat) (y : SV), ys[j]? = some y → ∃ x, xs[j]? = some x ∧ Seal S L x y
  | [], [], _ => ⟨rfl, fun j y h => by simp at h⟩
  | x :: xs, y :: ys, ⟨h1, h2⟩ => by
    obtain ⟨g1, g2⟩ := Seals.out h2
    refine ⟨by simp [g1], fun j z hz => ?_⟩
    cases j with
    | zero => simp at hz; subst hz; exact ⟨x, rfl, h1⟩
    | succ j => simp at hz; exact g2 j z hz
  | [], _ :: _, h => h.elim
  | _ :: _, [], h => h.elim
theorem Seals.at {S : St} {L : List Nat} {xs ys : List SV} (h : Seals S L xs ys) {j : Nat} (hj : j < ys.length) : ∃ hj' : j < xs.length, Seal S L xs[j] ys[j] := by
  obtain ⟨h1, h2⟩ := h.out
  obtain ⟨x, g1, g2⟩ := h2 j _ (List.getElem?_eq_getElem hj)
  obtain ⟨q1, q2⟩ := List.getElem?_eq_some_iff.1 g1
  exact ⟨q1, by rw [q2]; exact g2⟩
variable {S : St} {L : List Nat}
theorem Seal.any {x : SV} : Seal S L x .any := ⟨fun _ _ _ _ _ _ _ => .any _⟩
theorem Seal.d {x : D} : Seal S L (.d x) (.d x) := ⟨fun O E a w v hs hv => by cases hv with | d _ _ hv => exact .d _ _ (hv.mono (fun _ hb => Or.inl hb) fun _ _ => rfl)⟩
theorem Seal.le {x y z : SV} (h : Seal S L x y) (hl : SV.Le y z) : Seal S L x z := ⟨fun O E a w v hs hv => hl.out _ _ _ _ (h.out O E a w v hs hv)⟩
theorem Seal.pre {x y z : SV} (hl : SV.Le x y) (h : Seal S L y z) : Seal S L x z := ⟨fun O E a w v hs hv => h.out O E a w v hs (hl.out _ _ _ _ hv)⟩
theorem Seal.ptrL {l o i : Nat} (hi : idxK L l = some i) : Seal S L (.ptr l o) (.ptr i o) := by
  obtain ⟨h1, h2⟩ := idxK_some hi
  refine ⟨fun O E a w v hs hv => ?_⟩
  cases hv with
  | ptr _ _ hl =>
    have := RS.ptr (E := E.end S L) (nx := L.length) (w := w) i o h1
    simp only [Env.end, h2] at this; exact this
theorem Seal.slL {l z o n i : Nat} (hi : idxK L l = some i) : Seal S L (.sl l z o n) (.sl i z o n) := by
  obtain ⟨h1, h2⟩ := idxK_some hi
  refine ⟨fun O E a w v hs hv => ?_⟩
  cases hv with
  | sl _ _ _ _ ad cap hl hc hm ha h0 => exact .sl i z o n ad cap h1 hc hm (by simp only [Env.end, h2]; exact ha) (by simp only [Env.end, h2]; exact h0)
theorem Seal.ptr {l o : Nat} {cs ds : List SV} (hi : idxK L l = none) (hl : lkh S.hp l = some (.cells cs)) (h : Seals S L cs ds) : Seal S L (.ptr l o) (.iref ds o) := by
  refine ⟨fun O E a w v hs hv => ?_⟩
  cases hv with
  | ptr _ _ hlx =>
    obtain ⟨vs, T, g1, g2, g3⟩ := hs.hp l _ hl
    have hlen := h.out.1
    have := RS.iref (E := E.end S L) (nx := L.length) (w := w) ds o (E.ρ l) 0 (fun j => vs.getD j undef) (Or.inr ⟨l, _, hl, trivial, rfl, idxK_none hi⟩) (fun j hj => by
        have hj' : j < vs.size := by omega
        simp [World.cell?, g1, Array.getD, hj']) (fun j hj => (g3 j (by omega)).2) (fun j hj => by
        obtain ⟨q1, q2⟩ := h.at hj
        exact q2.out O E a w _ hs (g3 j q1).1)
    rwa [Nat.zero_add] at this
theorem Seal.sl {l e z o n m : Nat} {f : Nat → List D} (hi : idxK L l = none) (hl : lkh S.hp l = some (.row e z m f)) (hn : o + n ≤ m) : Seal S L (.sl l z o n) (.d (.sl z n fun i => f (o + i))) := by
  refine ⟨fun O E a w v hs hv => ?_⟩
  have hI : ∀ b, E.Im b → (E.end S L).Im b := fun b hb => Or.inl hb
  obtain ⟨y, h1, h2⟩ := sealD_fine (ρ' := (E.end S L).ρ) (κ' := (E.end S L).κ) (m' := L.length) (k := fun y => y = .d (.sl z n fun i => f (o + i))) hs hI hv (fun l' b hl' hb hr => by
      have : SV.lab (.sl l z o n) = some l := rfl
      rw [this] at hl'; cases hl'; exact Or.inr ⟨l, b, hb, hr, rfl, idxK_none hi⟩) (by simp only [sealD, hl]; simp [hn])
  rw [h1] at h2; exact h2
theorem Seal.fn {f : Fn} {cs ds : List SV} (h : Seals S L cs ds) : Seal S L (.fn f cs) (.fn f ds) := by
  refine ⟨fun O E a w v hs hv => ?_⟩
  cases hv with
  | fn _ _ us hsz hh => exact .fn _ _ us (by have := h.out.1; omega) fun j hj => by obtain ⟨q1, q2⟩ := h.at hj; exact q2.out O E a w _ hs (hh j q1)
theorem Seal.agg {cs ds : List SV} (h : Seals S L cs ds) : Seal S L (.agg cs) (.agg ds) := by
  refine ⟨fun O E a w v hs hv => ?_⟩
  cases hv with
  | agg _ us hsz h1 hh => exact .agg _ us (by have := h.out.1; omega) h1 fun j hj => by obtain ⟨q1, q2⟩ := h.at hj; exact q2.out O E a w _ hs (hh j q1)
theorem Seal.tup {cs ds : List SV} (h : Seals S L cs ds) : Seal S L (.tup cs) (.tup ds) := by
  refine ⟨fun O E a w v hs hv => ?_⟩
  cases hv with
  | tup _ us hsz hh => exact .tup _ us (by have := h.out.1; omega) fun j hj => by obtain ⟨q1, q2⟩ := h.at hj; exact q2.out O E a w _ hs (hh j q1)
theorem Seal.iref {cs ds : List SV} {o : Nat} (h : Seals S L cs ds) : Seal S L (.iref cs o) (.iref ds o) := by
  refine ⟨fun O E a w v hs hv => ?_⟩
  have hlen := h.out.1
  cases hv with
  | iref _ _ b p g hb hcell h1 hh => exact .iref _ _ b p g (Or.inl hb) (fun j hj => hcell j (by omega)) (fun j hj => h1 j (by omega)) fun j hj => by obtain ⟨q1, q2⟩ := h.at hj; exact q2.out O E a w _ hs (hh j q1)
/-- what names no label -/
theorem Seal.lt0 {x : SV} (h : SV.Lt 0 x) : Seal S L x x := ⟨fun O E a w v hs hv => RS.congr (E := E) (m := 0) (fun l hl => by omega) (Nat.zero_le _) (fun _ hb => Or.inl hb) h hv⟩
/-- what names only labels that stay -/
theorem Seal.same {x : SV} {m : Nat} (h : SV.Lt m x) (hm : m ≤ L.length) (hid : ∀ i, i < m → L.getD i 0 = i) : Seal S L x x :=
  ⟨fun O E a w v hs hv => RS.congr (E := E) (m := m) (fun l hl => by simp only [Env.end]; rw [hid l hl]; exact ⟨rfl, rfl⟩) hm (fun _ hb => Or.inl hb) h hv⟩

/-- a thing told with less -/
structure DLe (x y : D) : Prop where
  out : ∀ w Im v, RD w Im x v → RD w Im y v
theorem DLe.refl (x : D) : DLe x x := ⟨fun _ _ _ h => h⟩
theorem DLe.nil {z : Nat} {f : Nat → List D} : DLe (.val (.slice none 0 0)) (.sl z 0 f) := ⟨fun w Im v h => by
  cases h with | val _ _ => exact .sl z 0 f none 0 (fun _ _ => undef) (Nat.le_refl _) (by unfold maxLen; omega) (fun i hi => by omega) (fun h => by omega) (fun i j hi => by omega)⟩
def DLes : List D → List D → Prop
  | [], [] => True
  | x :: xs, y :: ys => DLe x y ∧ DLes xs ys
  | _, _ => False
theorem DLes.refl : ∀ xs : List D, DLes xs xs
  | [] => trivial
  | x :: xs => ⟨.refl x, DLes.refl xs⟩
theorem DLes.of {xs ys : List D} (h : xs = ys) : DLes xs ys := by subst h; exact .refl _
theorem DLes.out : ∀ {xs ys : List D}, DLes xs ys → xs.length = ys.length ∧ ∀ (j : Nat) (hx : j < xs.length) (hy : j < ys.length), DLe xs[j] ys[j]
  | [], [], _ => ⟨rfl, fun j hx => by simp at hx⟩
  | x :: xs, y :: ys, ⟨h1, h2⟩ => by
    obtain ⟨g1, g2⟩ := DLes.out h2
    refine ⟨by simp [g1], fun j hx hy => ?_⟩
    cases j with
    | zero => exact h1
    | succ j => exact g2 j (by simpa using hx) (by simpa using hy)
  | [], _ :: _, h => h.elim
  | _ :: _, [], h => h.elim
def blkS (S : St) (L : List Nat) : Option Blk → Blk → Prop
  | some (.cells cs), .cells cs' => Seals S L cs cs'
  | some (.row e z n f), .row e' z' n' f' => (e = e' ∧ z = z' ∧ n = n') ∧ ∀ i, i < n → DLes (f i) (f' i)
  | some (.cf _ n g), .cf m' n' g' => (n = n' ∧ m' ≤ L.length) ∧ ∀ j, j < n' → Seal S L (g j) (g' j) ∧ SV.Lt m' (g' j)
  | some (.cells cs), .cf m' n' g' => m' ≤ L.length ∧ Seals S L cs ((List.range n').map g') ∧ ∀ j, j < n' → SV.Lt m' (g' j)
  | _, _ => False
def heapS (S : St) (L : List Nat) : List (Nat × Option Blk) → Prop
  | [] => True
  | (_, none) :: r => heapS S L r
  | (i, some b) :: r => bif Nat.blt i L.length then blkS S L (lkh S.hp (L.getD i 0)) b ∧ heapS S L r else False
theorem heapS_out : ∀ {H : List (Nat × Option Blk)}, heapS S L H → ∀ i b, lkh H i = some b → i < L.length ∧ blkS S L (lkh S.hp (L.getD i 0)) b
  | [], _, i, b, h => by simp [lkh] at h
  | (j, none) :: r, hk, i, b, h => heapS_out (H := r) hk i b (lkh_dead h).2
  | (j, some b') :: r, hk, i, b, h => by
    unfold heapS at hk
    cases hb : Nat.blt j L.length with
    | false => simp [hb] at hk
    | true =>
      simp only [hb, cond_true] at hk
      rw [lkh_cons] at h
      by_cases e : j = i
      · subst e; rw [if_pos rfl] at h; cases h; exact ⟨by simpa using hb, hk.1⟩
      · rw [if_neg e] at h; exact heapS_out hk.2 i b h

theorem FinLe.laid {m m' : Nat} {S : St} {x r : SV} {H' : List (Nat × Option Blk)} (L : List Nat) (hlen : L.length = m') (hm : ∀ i, i < m → L.getD i 0 = i) (hd : noDup L = true) (hx : Seal S L x r) (hH : heapS S L H') : FinLe m S x m' r H' := by
  refine ⟨fun O E a w v hO hs hv => ?_⟩
  subst hlen
  have hblk : ∀ i b, lkh H' i = some b → i < L.length ∧ (∃ b0, lkh S.hp (L.getD i 0) = some b0 ∧ (b.real (E.κ (L.getD i 0)) → b0.real (E.κ (L.getD i 0)))) ∧ BS (E.end S L) L.length w i b := by
    intro i b hb
    obtain ⟨g1, g2⟩ := heapS_out hH i b hb
    unfold blkS at g2
    split at g2
    · rename_i cs cs' hl
      refine ⟨g1, ⟨_, hl, fun _ => trivial⟩, ?_⟩
      obtain ⟨vs, T, k1, k2, k3⟩ := hs.hp _ _ hl
      have hlen := g2.out.1
      refine ⟨vs, T, k1, by omega, fun j hj => ?_⟩
      obtain ⟨q1, q2⟩ := g2.at hj
      exact ⟨q2.out O E a w _ hs (k3 j q1).1, (k3 j q1).2⟩
    · rename_i e z n f e' z' n' f' hl
      obtain ⟨⟨rfl, rfl, rfl⟩, g3⟩ := g2
      refine ⟨g1, ⟨_, hl, fun h => h⟩, ?_⟩
      obtain ⟨k1, k2, k3, k4, k5⟩ := hs.hp _ _ hl
      refine ⟨k1, k2, k3, fun i hi => by rw [← (g3 i hi).out.1]; exact k4 i hi, fun hk => ?_⟩
      obtain ⟨vs, q1, q2, q3, q4⟩ := k5 hk
      refine ⟨vs, q1, q2, q3, fun i j hi hj => ?_⟩
      obtain ⟨p1, p2⟩ := (g3 i hi).out
      exact ((p2 j (by omega) hj).out _ _ _ (q4 i j hi (by omega))).mono (fun b hb => Or.inl hb) fun _ _ => rfl
    · rename_i m n g m' n' g' hl
      obtain ⟨⟨rfl, hm'⟩, g3⟩ := g2
      refine ⟨g1, ⟨_, hl, fun _ => trivial⟩, ?_⟩
      obtain ⟨k0, vs, T, k1, k2, k3⟩ := hs.hp _ _ hl
      exact ⟨hm', vs, T, k1, k2, fun j hj => ⟨(g3 j hj).2, (g3 j hj).1.out O E a w _ hs (k3 j hj).2.1, (k3 j hj).2.2⟩⟩
    · rename_i cs m' n' g' hl
      obtain ⟨hm', g3, g4⟩ := g2
      refine ⟨g1, ⟨_, hl, fun _ => trivial⟩, ?_⟩
      obtain ⟨vs, T, k1, k2, k3⟩ := hs.hp _ _ hl
      have hlen := g3.out.1
      refine ⟨hm', vs, T, k1, by simp at hlen; omega, fun j hj => ?_⟩
      obtain ⟨q1, q2⟩ := g3.at (j := j) (by simpa using hj)
      simp only [List.getElem_map, List.getElem_range] at q2
      exact ⟨g4 j hj, q2.out O E a w _ hs (k3 j q1).1, (k3 j q1).2⟩
    · exact g2.elim
  have hmem : ∀ i, i < L.length → L.getD i 0 ∈ L := fun i hi => by simp [List.getD, List.getElem?_eq_getElem hi]
  refine ⟨E.end S L, ⟨fun i b hb => (hblk i b hb).2.2, fun i b hb => (hblk i b hb).1, ?_, ?_⟩, fun l hl => by simp only [Env.end]; rw [hm l hl]; exact ⟨rfl, rfl⟩, ?_, ?_, fun b hb => Or.inl hb, hx.out O E a w v hs hv⟩
  · intro i j b b' hi hj hr hr' hne
    obtain ⟨g1, ⟨b0, g2, g3⟩, _⟩ := hblk i b hi
    obtain ⟨g4, ⟨b1, g5, g6⟩, _⟩ := hblk j b' hj
    exact hs.inj _ _ _ _ g2 g5 (g3 hr) (g6 hr') (noDup_ne hd g1 g4 hne)
  · intro b hb
    rcases hb with hb | ⟨l, y, hl, hr, rfl, hn⟩
    · obtain ⟨k1, _, k3⟩ := hs.im b hb
      refine ⟨k1, fun i z hz hzr => ?_⟩
      obtain ⟨g1, ⟨b0, g2, g3⟩, _⟩ := hblk i z hz
      exact k3 _ _ g2 (g3 hzr)
    · refine ⟨(hs.hp _ _ hl).lt hr, fun i z hz hzr => ?_⟩
      obtain ⟨g1, ⟨b0, g2, g3⟩, _⟩ := hblk i z hz
      exact hs.inj _ _ _ _ g2 hl (g3 hzr) hr (fun e => hn (e ▸ hmem i g1))
  · rintro b ⟨i, z, hz, hzr, rfl⟩
    obtain ⟨g1, ⟨b0, g2, g3⟩, _⟩ := hblk i z hz
    exact ⟨_, _, g2, g3 hzr, rfl⟩
  · rintro b (hb | ⟨l, y, hl, hr, rfl, hn⟩)
    · exact Or.inl hb
    · exact Or.inr ⟨l, y, hl, hr, rfl⟩

theorem FinLe.sealB {m m' : Nat} {S : St} {x r : SV} {H' : List (Nat × Option Blk)} (L : List Nat) (hlen : L.length = m') (hm : idP L m = true) (hd : noDup L = true) (hx : Seal S L x r) (hH : heapS S L H') : FinLe m S x m' r H' :=
  FinLe.laid L hlen (fun i hi => by unfold idP at hm; rw [List.all_eq_true] at hm; exact Nat.eq_of_beq_eq_true (hm i (by simpa using hi))) hd hx hH
theorem range_getD {m i : Nat} (h : i < m) : (List.range m).getD i 0 = i := by simp [List.getD, h]
theorem idxK_range_lt {m l : Nat} (h : l < m) : idxK (List.range m) l = some l := by
  cases e : idxK (List.range m) l with
  | none => exact absurd (List.mem_range.2 h) (idxK_none e)
  | some j =>
    obtain ⟨h1, h2⟩ := idxK_some e
    rw [range_getD (by simpa using h1)] at h2
    rw [h2]
theorem idxK_range_ge {m l : Nat} (h : m ≤ l) : idxK (List.range m) l = none := by
  cases e : idxK (List.range m) l with
  | none => rfl
  | some j =>
    obtain ⟨h1, h2⟩ := idxK_some e
    have h1 : j < m := by simpa using h1
    rw [range_getD h1] at h2
    omega
theorem noDup_of : ∀ {L : List Nat}, L.Nodup → noDup L = true
  | [], _ => rfl
  | x :: r, h => by
    rw [List.nodup_cons] at h
    unfold noDup
    have : r.any (Nat.beq x) = false := by
      rw [List.any_eq_false]; intro y hy hb
      exact h.1 (Nat.eq_of_beq_eq_true hb ▸ hy)
    rw [this]; exact noDup_of h.2
theorem FinLe.sealM {m : Nat} {S : St} {x r : SV} (hx : Seal S (List.range m) x r) : FinLe m S x m r [] :=
  FinLe.laid (List.range m) (by simp) (fun i hi => range_getD hi) (noDup_of List.nodup_range) hx trivial
theorem Seal.ptrM {S : St} {m l o : Nat} (h : Nat.blt l m = true) : Seal S (List.range m) (.ptr l o) (.ptr l o) := .ptrL (idxK_range_lt (by simpa using h))
theorem Seal.slM {S : St} {m l z o n : Nat} (h : Nat.blt l m = true) : Seal S (List.range m) (.sl l z o n) (.sl l z o n) := .slL (idxK_range_lt (by simpa using h))
theorem Seal.ptrN {S : St} {m l o : Nat} {cs ds : List SV} (h : Nat.ble m l = true) (hl : lkh S.hp l = some (.cells cs)) (hs : Seals S (List.range m) cs ds) : Seal S (List.range m) (.ptr l o) (.iref ds o) := .ptr (idxK_range_ge (Nat.le_of_ble_eq_true h)) hl hs
theorem Seal.sameM {S : St} {m : Nat} {x : SV} (h : SV.Lt m x) : Seal S (List.range m) x x := .same h (by simp) fun i hi => range_getD hi
theorem ArgLe.iref {L : List Nat} {cs cs0 : List SV} {o : Nat} (h : ArgLes L cs cs0) : ArgLe L (.iref cs o) (.iref cs0 o) := by
  obtain ⟨h1, h2⟩ := h.out
  refine ⟨fun E nx w v hv => ?_⟩
  cases hv with
  | iref _ _ b p g hb hcell h3 hh =>
    refine .iref _ _ b p g hb (fun j hj => hcell j (by omega)) (fun j hj => h3 j (by omega)) fun j hj => ?_
    obtain ⟨x, g1, g2⟩ := h2 j _ (List.getElem?_eq_getElem hj)
    obtain ⟨q1, q2⟩ := List.getElem?_eq_some_iff.1 g1
    have := hh j q1
    rw [q2] at this
    exact g2.out _ _ _ _ this
/-- what names only labels that the caller names alike -/
theorem ArgLe.same {L : List Nat} {x : SV} {m : Nat} (h : SV.Lt m x) (hm : m ≤ L.length) (hid : ∀ i, i < m → L.getD i 0 = i) : ArgLe L x x :=
  ⟨fun E nx w v hv => RS.congr (E := E) (m := m) (fun l hl => by simp only; rw [hid l hl]; exact ⟨_root_.rfl, _root_.rfl⟩) hm (fun _ hb => hb) h hv⟩
end Go.Proofs.Ytbdclkjelhlfbaa

namespace Go.Proofs.Ytbdclkjelhlfbaa
open Go.RowKit

def ti1 : TI := ⟨.func, 1, 8, [.nilFunc], false⟩
theorem ti1_ok : TIok Try.prog 1 ti1 := ⟨by kernel_rfl, by kernel_rfl, fun h => by cases h⟩
def ti2 : TI := ⟨.int .i64, 1, 8, [.int .i64 0], false⟩
theorem ti2_ok : TIok Try.prog 2 ti2 := ⟨by kernel_rfl, by kernel_rfl, fun h => by cases h⟩
def ti3 : TI := ⟨.int .i64, 1, 8, [.int .i64 0], false⟩
theorem ti3_ok : TIok Try.prog 3 ti3 := ⟨by kernel_rfl, by kernel_rfl, fun h => by cases h⟩
def ti4 : TI := ⟨.bool, 1, 1, [.bool false], false⟩
theorem ti4_ok : TIok Try.prog 4 ti4 := ⟨by kernel_rfl, by kernel_rfl, fun h => by cases h⟩
def ti5 : TI := ⟨.int .u8, 1, 1, [.int .u8 0], false⟩
theorem ti5_ok : TIok Try.prog 5 ti5 := ⟨by kernel_rfl, by kernel_rfl, fun h => by cases h⟩
def ti6 : TI := ⟨.int .u8, 1, 1, [.int .u8 0], false⟩
theorem ti6_ok : TIok Try.prog 6 ti6 := ⟨by kernel_rfl, by kernel_rfl, fun h => by cases h⟩
def ti7 : TI := ⟨.struct [(0, 2), (1, 3), (2, 4), (3, 6)], 4, 24, [.int .i64 0, .int .i64 0, .bool false, .int .u8 0], false⟩
theorem ti7_ok : TIok Try.prog 7 ti7 := ⟨by kernel_rfl, by kernel_rfl, fun h => by cases h⟩
def ti8 : TI := ⟨.struct [(0, 2), (1, 3), (2, 4), (3, 6)], 4, 24, [.int .i64 0, .int .i64 0, .bool false, .int .u8 0], false⟩
theorem ti8_ok : TIok Try.prog 8 ti8 := ⟨by kernel_rfl, by kernel_rfl, fun h => by cases h⟩
def ti9 : TI := ⟨.str, 1, 16, [.string ⟨#[]⟩], false⟩
theorem ti9_ok : TIok Try.prog 9 ti9 := ⟨by kernel_rfl, by kernel_rfl, fun h => by cases h⟩
def ti10 : TI := ⟨.str, 1, 16, [.string ⟨#[]⟩], false⟩
theorem ti10_ok : TIok Try.prog 10 ti10 := ⟨by kernel_rfl, by kernel_rfl, fun h => by cases h⟩
def ti11 : TI := ⟨.str, 1, 16, [.string ⟨#[]⟩], false⟩
theorem ti11_ok : TIok Try.prog 11 ti11 := ⟨by kernel_rfl, by kernel_rfl, fun h => by cases h⟩
def ti12 : TI := ⟨.int .u64, 1, 8, [.int .u64 0], false⟩
theorem ti12_ok : TIok Try.prog 12 ti12 := ⟨by kernel_rfl, by kernel_rfl, fun h => by cases h⟩
def ti13 : TI := ⟨.struct [(0, 9), (1, 12)], 2, 24, [.string ⟨#[]⟩, .int .u64 0], false⟩
theorem ti13_ok : TIok Try.prog 13 ti13 := ⟨by kernel_rfl, by kernel_rfl, fun h => by cases h⟩
def ti14 : TI := ⟨.struct [(0, 9), (1, 12)], 2, 24, [.string ⟨#[]⟩, .int .u64 0], false⟩
theorem ti14_ok : TIok Try.prog 14 ti14 := ⟨by kernel_rfl, by kernel_rfl, fun h => by cases h⟩
def ti15 : TI := ⟨.ptr 226, 1, 8, [.pointer none], false⟩
theorem ti15_ok : TIok Try.prog 15 ti15 := ⟨by kernel_rfl, by kernel_rfl, fun h => by cases h⟩
def ti16 : TI := ⟨.ptr 229, 1, 8, [.pointer none], false⟩
theorem ti16_ok : TIok Try.prog 16 ti16 := ⟨by kernel_rfl, by kernel_rfl, fun h => by cases h⟩
def ti17 : TI := ⟨.ptr 238, 1, 8, [.pointer none], false⟩
theorem ti17_ok : TIok Try.prog 17 ti17 := ⟨by kernel_rfl, by kernel_rfl, fun h => by cases h⟩
def ti18 : TI := ⟨.struct [(0, 17)], 1, 8, [.pointer none], false⟩
theorem ti18_ok : TIok Try.prog 18 ti18 := ⟨by kernel_rfl, by kernel_rfl, fun h => by cases h⟩
def ti19 : TI := ⟨.struct [(0, 17)], 1, 8, [.pointer none], false⟩
theorem ti19_ok : TIok Try.prog 19 ti19 := ⟨by kernel_rfl, by kernel_rfl, fun h => by cases h⟩
def ti20 : TI := ⟨.other, 1, 16, [.nilIface], false⟩
theorem ti20_ok : TIok Try.prog 20 ti20 := ⟨by kernel_rfl, by kernel_rfl, fun h => by cases h⟩
def ti21 : TI := ⟨.int .i32, 1, 4, [.int .i32 0], false⟩
theorem ti21_ok : TIok Try.prog 21 ti21 := ⟨by kernel_rfl, by kernel_rfl, fun h => by cases h⟩
def ti22 : TI := ⟨.slice 28, 1, 24, [.slice none 0 0], false⟩
theorem ti22_ok : TIok Try.prog 22 ti22 := ⟨by kernel_rfl, by kernel_rfl, fun h => by cases h⟩
def ti23 : TI := ⟨.func, 1, 8, [.nilFunc], false⟩
theorem ti23_ok : TIok Try.prog 23 ti23 := ⟨by kernel_rfl, by kernel_rfl, fun h => by cases h⟩
def ti24 : TI := ⟨.ptr 73, 1, 8, [.pointer none], false⟩
theorem ti24_ok : TIok Try.prog 24 ti24 := ⟨by kernel_rfl, by kernel_rfl, fun h => by cases h⟩
def ti25 : TI := ⟨.func, 1, 8, [.nilFunc], false⟩
theorem ti25_ok : TIok Try.prog 25 ti25 := ⟨by kernel_rfl, by kernel_rfl, fun h => by cases h⟩
def ti26 : TI := ⟨.slice 5, 1, 24, [.slice none 0 0], false⟩
theorem ti26_ok : TIok Try.prog 26 ti26 := ⟨by kernel_rfl, by kernel_rfl, fun h => by cases h⟩
def ti27 : TI := ⟨.struct [(0, 3), (1, 5), (2, 26), (3, 2)], 4, 48, [.int .i64 0, .int .u8 0, .slice none 0 0, .int .i64 0], false⟩
theorem ti27_ok : TIok Try.prog 27 ti27 := ⟨by kernel_rfl, by kernel_rfl, fun h => by cases h⟩
def ti28 : TI := ⟨.struct [(0, 3), (1, 5), (2, 26), (3, 2)], 4, 48, [.int .i64 0, .int .u8 0, .slice none 0 0, .int .i64 0], false⟩
theorem ti28_ok : TIok Try.prog 28 ti28 := ⟨by kernel_rfl, by kernel_rfl, fun h => by cases h⟩
def ti29 : TI := ⟨.func, 1, 8, [.nilFunc], false⟩
theorem ti29_ok : TIok Try.prog 29 ti29 := ⟨by kernel_rfl, by kernel_rfl, fun h => by cases h⟩
def ti30 : TI := ⟨.int .u64, 1, 8, [.int .u64 0], false⟩
theorem ti30_ok : TIok Try.prog 30 ti30 := ⟨by kernel_rfl, by kernel_rfl, fun h => by cases h⟩
def ti31 : TI := ⟨.func, 1, 8, [.nilFunc], false⟩
theorem ti31_ok : TIok Try.prog 31 ti31 := ⟨by kernel_rfl, by kernel_rfl, fun h => by cases h⟩
def ti32 : TI := ⟨.int .i64, 1, 8, [.int .i64 0], false⟩
theorem ti32_ok : TIok Try.prog 32 ti32 := ⟨by kernel_rfl, by kernel_rfl, fun h => by cases h⟩
def ti33 : TI := ⟨.func, 1, 8, [.nilFunc], false⟩
theorem ti33_ok : TIok Try.prog 33 ti33 := ⟨by kernel_rfl, by kernel_rfl, fun h => by cases h⟩
def ti34 : TI := ⟨.struct [(0, 4), (1, 32), (2, 2)], 3, 24, [.bool false, .int .i64 0, .int .i64 0], true⟩
theorem ti34_ok : TIok Try.prog 34 ti34 := ⟨by kernel_rfl, by kernel_rfl, fun _ => ⟨by kernel_rfl, by kernel_rfl, by kernel_rfl⟩⟩
def ti35 : TI := ⟨.struct [(0, 4), (1, 32), (2, 2)], 3, 24, [.bool false, .int .i64 0, .int .i64 0], true⟩
theorem ti35_ok : TIok Try.prog 35 ti35 := ⟨by kernel_rfl, by kernel_rfl, fun _ => ⟨by kernel_rfl, by kernel_rfl, by kernel_rfl⟩⟩
def ti37 : TI := ⟨.func, 1, 8, [.nilFunc], false⟩
theorem ti37_ok : TIok Try.prog 37 ti37 := ⟨by kernel_rfl, by kernel_rfl, fun h => by cases h⟩
def ti38 : TI := ⟨.func, 1, 8, [.nilFunc], false⟩
theorem ti38_ok : TIok Try.prog 38 ti38 := ⟨by kernel_rfl, by kernel_rfl, fun h => by cases h⟩
def ti39 : TI := ⟨.slice 84, 1, 24, [.slice none 0 0], false⟩
theorem ti39_ok : TIok Try.prog 39 ti39 := ⟨by kernel_rfl, by kernel_rfl, fun h => by cases h⟩
def ti40 : TI := ⟨.slice 52, 1, 24, [.slice none 0 0], false⟩
theorem ti40_ok : TIok Try.prog 40 ti40 := ⟨by kernel_rfl, by kernel_rfl, fun h => by cases h⟩
def ti42 : TI := ⟨.func, 1, 8, [.nilFunc], false⟩
theorem ti42_ok : TIok Try.prog 42 ti42 := ⟨by kernel_rfl, by kernel_rfl, fun h => by cases h⟩
def ti44 : TI := ⟨.func, 1, 8, [.nilFunc], false⟩
theorem ti44_ok : TIok Try.prog 44 ti44 := ⟨by kernel_rfl, by kernel_rfl, fun h => by cases h⟩
def ti45 : TI := ⟨.slice 96, 1, 24, [.slice none 0 0], false⟩
theorem ti45_ok : TIok Try.prog 45 ti45 := ⟨by kernel_rfl, by kernel_rfl, fun h => by cases h⟩
def ti46 : TI := ⟨.func, 1, 8, [.nilFunc], false⟩
theorem ti46_ok : TIok Try.prog 46 ti46 := ⟨by kernel_rfl, by kernel_rfl, fun h => by cases h⟩
def ti47 : TI := ⟨.struct [(0, 5), (1, 3), (2, 26), (3, 2)], 4, 48, [.int .u8 0, .int .i64 0, .slice none 0 0, .int .i64 0], false⟩
theorem ti47_ok : TIok Try.prog 47 ti47 := ⟨by kernel_rfl, by kernel_rfl, fun h => by cases h⟩
def ti48 : TI := ⟨.struct [(0, 5), (1, 3), (2, 26), (3, 2)], 4, 48, [.int .u8 0, .int .i64 0, .slice none 0 0, .int .i64 0], false⟩
theorem ti48_ok : TIok Try.prog 48 ti48 := ⟨by kernel_rfl, by kernel_rfl, fun h => by cases h⟩
def ti49 : TI := ⟨.struct [(0, 32), (1, 4), (2, 2), (3, 2), (4, 2), (5, 2)], 6, 48, [.int .i64 0, .bool false, .int .i64 0, .int .i64 0, .int .i64 0, .int .i64 0], true⟩
theorem ti49_ok : TIok Try.prog 49 ti49 := ⟨by kernel_rfl, by kernel_rfl, fun _ => ⟨by kernel_rfl, by kernel_rfl, by kernel_rfl⟩⟩
def ti50 : TI := ⟨.struct [(0, 32), (1, 4), (2, 2), (3, 2), (4, 2), (5, 2)], 6, 48, [.int .i64 0, .bool false, .int .i64 0, .int .i64 0, .int .i64 0, .int .i64 0], true⟩
theorem ti50_ok : TIok Try.prog 50 ti50 := ⟨by kernel_rfl, by kernel_rfl, fun _ => ⟨by kernel_rfl, by kernel_rfl, by kernel_rfl⟩⟩
def ti51 : TI := ⟨.struct [(0, 3), (1, 48), (5, 3), (6, 3), (7, 50)], 13, 120, [.int .i64 0, .int .u8 0, .int .i64 0, .slice none 0 0, .int .i64 0, .int .i64 0, .int .i64 0, .int .i64 0, .bool false, .int .i64 0, .int .i64 0, .int .i64 0, .int .i64 0], false⟩
theorem ti51_ok : TIok Try.prog 51 ti51 := ⟨by kernel_rfl, by kernel_rfl, fun h => by cases h⟩
def ti52 : TI := ⟨.struct [(0, 3), (1, 48), (5, 3), (6, 3), (7, 50)], 13, 120, [.int .i64 0, .int .u8 0, .int .i64 0, .slice none 0 0, .int .i64 0, .int .i64 0, .int .i64 0, .int .i64 0, .bool false, .int .i64 0, .int .i64 0, .int .i64 0, .int .i64 0], false⟩
theorem ti52_ok : TIok Try.prog 52 ti52 := ⟨by kernel_rfl, by kernel_rfl, fun h => by cases h⟩
def ti53 : TI := ⟨.func, 1, 8, [.nilFunc], false⟩
theorem ti53_ok : TIok Try.prog 53 ti53 := ⟨by kernel_rfl, by kernel_rfl, fun h => by cases h⟩
def ti54 : TI := ⟨.func, 1, 8, [.nilFunc], false⟩
theorem ti54_ok : TIok Try.prog 54 ti54 := ⟨by kernel_rfl, by kernel_rfl, fun h => by cases h⟩
def ti55 : TI := ⟨.func, 1, 8, [.nilFunc], false⟩
theorem ti55_ok : TIok Try.prog 55 ti55 := ⟨by kernel_rfl, by kernel_rfl, fun h => by cases h⟩
def ti56 : TI := ⟨.slice 97, 1, 24, [.slice none 0 0], false⟩
theorem ti56_ok : TIok Try.prog 56 ti56 := ⟨by kernel_rfl, by kernel_rfl, fun h => by cases h⟩
def ti57 : TI := ⟨.func, 1, 8, [.nilFunc], false⟩
theorem ti57_ok : TIok Try.prog 57 ti57 := ⟨by kernel_rfl, by kernel_rfl, fun h => by cases h⟩
def ti58 : TI := ⟨.func, 1, 8, [.nilFunc], false⟩
theorem ti58_ok : TIok Try.prog 58 ti58 := ⟨by kernel_rfl, by kernel_rfl, fun h => by cases h⟩
def ti60 : TI := ⟨.func, 1, 8, [.nilFunc], false⟩
theorem ti60_ok : TIok Try.prog 60 ti60 := ⟨by kernel_rfl, by kernel_rfl, fun h => by cases h⟩
def ti62 : TI := ⟨.func, 1, 8, [.nilFunc], false⟩
theorem ti62_ok : TIok Try.prog 62 ti62 := ⟨by kernel_rfl, by kernel_rfl, fun h => by cases h⟩
def ti63 : TI := ⟨.func, 1, 8, [.nilFunc], false⟩
theorem ti63_ok : TIok Try.prog 63 ti63 := ⟨by kernel_rfl, by kernel_rfl, fun h => by cases h⟩
def ti64 : TI := ⟨.ptr 104, 1, 8, [.pointer none], false⟩
theorem ti64_ok : TIok Try.prog 64 ti64 := ⟨by kernel_rfl, by kernel_rfl, fun h => by cases h⟩
def ti65 : TI := ⟨.func, 1, 8, [.nilFunc], false⟩
theorem ti65_ok : TIok Try.prog 65 ti65 := ⟨by kernel_rfl, by kernel_rfl, fun h => by cases h⟩
def ti66 : TI := ⟨.slice 110, 1, 24, [.slice none 0 0], false⟩
theorem ti66_ok : TIok Try.prog 66 ti66 := ⟨by kernel_rfl, by kernel_rfl, fun h => by cases h⟩
def ti67 : TI := ⟨.func, 1, 8, [.nilFunc], false⟩
theorem ti67_ok : TIok Try.prog 67 ti67 := ⟨by kernel_rfl, by kernel_rfl, fun h => by cases h⟩
def ti68 : TI := ⟨.func, 1, 8, [.nilFunc], false⟩
theorem ti68_ok : TIok Try.prog 68 ti68 := ⟨by kernel_rfl, by kernel_rfl, fun h => by cases h⟩
def ti69 : TI := ⟨.func, 1, 8, [.nilFunc], false⟩
theorem ti69_ok : TIok Try.prog 69 ti69 := ⟨by kernel_rfl, by kernel_rfl, fun h => by cases h⟩
def ti70 : TI := ⟨.array 64 69, 64, 512, [.nilFunc, .nilFunc, .nilFunc, .nilFunc, .nilFunc, .nilFunc, .nilFunc, .nilFunc, .nilFunc, .nilFunc, .nilFunc, .nilFunc, .nilFunc, .nilFunc, .nilFunc, .nilFunc, .nilFunc, .nilFunc, .nilFunc, .nilFunc, .nilFunc, .nilFunc, .nilFunc, .nilFunc, .nilFunc, .nilFunc, .nilFunc, .nilFunc, .nilFunc, .nilFunc, .nilFunc, .nilFunc, .nilFunc, .nilFunc, .nilFunc, .nilFunc, .nilFunc, .nilFunc, .nilFunc, .nilFunc, .nilFunc, .nilFunc, .nilFunc, .nilFunc, .nilFunc, .nilFunc, .nilFunc, .nilFunc, .nilFunc, .nilFunc, .nilFunc, .nilFunc, .nilFunc, .nilFunc, .nilFunc, .nilFunc, .nilFunc, .nilFunc, .nilFunc, .nilFunc, .nilFunc, .nilFunc, .nilFunc, .nilFunc], false⟩
theorem ti70_ok : TIok Try.prog 70 ti70 := ⟨by kernel_rfl, by kernel_rfl, fun h => by cases h⟩
def ti71 : TI := ⟨.array 64 69, 64, 512, [.nilFunc, .nilFunc, .nilFunc, .nilFunc, .nilFunc, .nilFunc, .nilFunc, .nilFunc, .nilFunc, .nilFunc, .nilFunc, .nilFunc, .nilFunc, .nilFunc, .nilFunc, .nilFunc, .nilFunc, .nilFunc, .nilFunc, .nilFunc, .nilFunc, .nilFunc, .nilFunc, .nilFunc, .nilFunc, .nilFunc, .nilFunc, .nilFunc, .nilFunc, .nilFunc, .nilFunc, .nilFunc, .nilFunc, .nilFunc, .nilFunc, .nilFunc, .nilFunc, .nilFunc, .nilFunc, .nilFunc, .nilFunc, .nilFunc, .nilFunc, .nilFunc, .nilFunc, .nilFunc, .nilFunc, .nilFunc, .nilFunc, .nilFunc, .nilFunc, .nilFunc, .nilFunc, .nilFunc, .nilFunc, .nilFunc, .nilFunc, .nilFunc, .nilFunc, .nilFunc, .nilFunc, .nilFunc, .nilFunc, .nilFunc], false⟩
theorem ti71_ok : TIok Try.prog 71 ti71 := ⟨by kernel_rfl, by kernel_rfl, fun h => by cases h⟩
def ti72 : TI := ⟨.struct [(0, 64), (1, 71)], 65, 520, [.pointer none, .nilFunc, .nilFunc, .nilFunc, .nilFunc, .nilFunc, .nilFunc, .nilFunc, .nilFunc, .nilFunc, .nilFunc, .nilFunc, .nilFunc, .nilFunc, .nilFunc, .nilFunc, .nilFunc, .nilFunc, .nilFunc, .nilFunc, .nilFunc, .nilFunc, .nilFunc, .nilFunc, .nilFunc, .nilFunc, .nilFunc, .nilFunc, .nilFunc, .nilFunc, .nilFunc, .nilFunc, .nilFunc, .nilFunc, .nilFunc, .nilFunc, .nilFunc, .nilFunc, .nilFunc, .nilFunc, .nilFunc, .nilFunc, .nilFunc, .nilFunc, .nilFunc, .nilFunc, .nilFunc, .nilFunc, .nilFunc, .nilFunc, .nilFunc, .nilFunc, .nilFunc, .nilFunc, .nilFunc, .nilFunc, .nilFunc, .nilFunc, .nilFunc, .nilFunc, .nilFunc, .nilFunc, .nilFunc, .nilFunc, .nilFunc], false⟩
theorem ti72_ok : TIok Try.prog 72 ti72 := ⟨by kernel_rfl, by kernel_rfl, fun h => by cases h⟩
def ti73 : TI := ⟨.struct [(0, 64), (1, 71)], 65, 520, [.pointer none, .nilFunc, .nilFunc, .nilFunc, .nilFunc, .nilFunc, .nilFunc, .nilFunc, .nilFunc, .nilFunc, .nilFunc, .nilFunc, .nilFunc, .nilFunc, .nilFunc, .nilFunc, .nilFunc, .nilFunc, .nilFunc, .nilFunc, .nilFunc, .nilFunc, .nilFunc, .nilFunc, .nilFunc, .nilFunc, .nilFunc, .nilFunc, .nilFunc, .nilFunc, .nilFunc, .nilFunc, .nilFunc, .nilFunc, .nilFunc, .nilFunc, .nilFunc, .nilFunc, .nilFunc, .nilFunc, .nilFunc, .nilFunc, .nilFunc, .nilFunc, .nilFunc, .nilFunc, .nilFunc, .nilFunc, .nilFunc, .nilFunc, .nilFunc, .nilFunc, .nilFunc, .nilFunc, .nilFunc, .nilFunc, .nilFunc, .nilFunc, .nilFunc, .nilFunc, .nilFunc, .nilFunc, .nilFunc, .nilFunc, .nilFunc], false⟩
theorem ti73_ok : TIok Try.prog 73 ti73 := ⟨by kernel_rfl, by kernel_rfl, fun h => by cases h⟩
def ti74 : TI := ⟨.func, 1, 8, [.nilFunc], false⟩
theorem ti74_ok : TIok Try.prog 74 ti74 := ⟨by kernel_rfl, by kernel_rfl, fun h => by cases h⟩
def ti75 : TI := ⟨.func, 1, 8, [.nilFunc], false⟩
theorem ti75_ok : TIok Try.prog 75 ti75 := ⟨by kernel_rfl, by kernel_rfl, fun h => by cases h⟩
def ti76 : TI := ⟨.func, 1, 8, [.nilFunc], false⟩
theorem ti76_ok : TIok Try.prog 76 ti76 := ⟨by kernel_rfl, by kernel_rfl, fun h => by cases h⟩
def ti77 : TI := ⟨.func, 1, 8, [.nilFunc], false⟩
theorem ti77_ok : TIok Try.prog 77 ti77 := ⟨by kernel_rfl, by kernel_rfl, fun h => by cases h⟩
def ti78 : TI := ⟨.func, 1, 8, [.nilFunc], false⟩
theorem ti78_ok : TIok Try.prog 78 ti78 := ⟨by kernel_rfl, by kernel_rfl, fun h => by cases h⟩
def ti79 : TI := ⟨.func, 1, 8, [.nilFunc], false⟩
theorem ti79_ok : TIok Try.prog 79 ti79 := ⟨by kernel_rfl, by kernel_rfl, fun h => by cases h⟩
def ti80 : TI := ⟨.ptr 131, 1, 8, [.pointer none], false⟩
theorem ti80_ok : TIok Try.prog 80 ti80 := ⟨by kernel_rfl, by kernel_rfl, fun h => by cases h⟩
def ti82 : TI := ⟨.func, 1, 8, [.nilFunc], false⟩
theorem ti82_ok : TIok Try.prog 82 ti82 := ⟨by kernel_rfl, by kernel_rfl, fun h => by cases h⟩
def ti83 : TI := ⟨.struct [(0, 48), (4, 2), (5, 2), (6, 5), (7, 5)], 8, 72, [.int .u8 0, .int .i64 0, .slice none 0 0, .int .i64 0, .int .i64 0, .int .i64 0, .int .u8 0, .int .u8 0], false⟩
theorem ti83_ok : TIok Try.prog 83 ti83 := ⟨by kernel_rfl, by kernel_rfl, fun h => by cases h⟩
def ti84 : TI := ⟨.struct [(0, 48), (4, 2), (5, 2), (6, 5), (7, 5)], 8, 72, [.int .u8 0, .int .i64 0, .slice none 0 0, .int .i64 0, .int .i64 0, .int .i64 0, .int .u8 0, .int .u8 0], false⟩
theorem ti84_ok : TIok Try.prog 84 ti84 := ⟨by kernel_rfl, by kernel_rfl, fun h => by cases h⟩
def ti85 : TI := ⟨.func, 1, 8, [.nilFunc], false⟩
theorem ti85_ok : TIok Try.prog 85 ti85 := ⟨by kernel_rfl, by kernel_rfl, fun h => by cases h⟩
def ti86 : TI := ⟨.other, 1, 8, [.map none], false⟩
theorem ti86_ok : TIok Try.prog 86 ti86 := ⟨by kernel_rfl, by kernel_rfl, fun h => by cases h⟩
def ti88 : TI := ⟨.func, 1, 8, [.nilFunc], false⟩
theorem ti88_ok : TIok Try.prog 88 ti88 := ⟨by kernel_rfl, by kernel_rfl, fun h => by cases h⟩
def ti89 : TI := ⟨.func, 1, 8, [.nilFunc], false⟩
theorem ti89_ok : TIok Try.prog 89 ti89 := ⟨by kernel_rfl, by kernel_rfl, fun h => by cases h⟩
def ti90 : TI := ⟨.struct [(0, 45), (1, 40), (2, 2)], 3, 56, [.slice none 0 0, .slice none 0 0, .int .i64 0], false⟩
theorem ti90_ok : TIok Try.prog 90 ti90 := ⟨by kernel_rfl, by kernel_rfl, fun h => by cases h⟩
def ti91 : TI := ⟨.struct [(0, 45), (1, 40), (2, 2)], 3, 56, [.slice none 0 0, .slice none 0 0, .int .i64 0], false⟩
theorem ti91_ok : TIok Try.prog 91 ti91 := ⟨by kernel_rfl, by kernel_rfl, fun h => by cases h⟩
def ti92 : TI := ⟨.func, 1, 8, [.nilFunc], false⟩
theorem ti92_ok : TIok Try.prog 92 ti92 := ⟨by kernel_rfl, by kernel_rfl, fun h => by cases h⟩
def ti93 : TI := ⟨.struct [(0, 2), (1, 2)], 2, 16, [.int .i64 0, .int .i64 0], true⟩
theorem ti93_ok : TIok Try.prog 93 ti93 := ⟨by kernel_rfl, by kernel_rfl, fun _ => ⟨by kernel_rfl, by kernel_rfl, by kernel_rfl⟩⟩
def ti94 : TI := ⟨.struct [(0, 2), (1, 2)], 2, 16, [.int .i64 0, .int .i64 0], true⟩
theorem ti94_ok : TIok Try.prog 94 ti94 := ⟨by kernel_rfl, by kernel_rfl, fun _ => ⟨by kernel_rfl, by kernel_rfl, by kernel_rfl⟩⟩
def ti95 : TI := ⟨.struct [(0, 5), (1, 94), (3, 3)], 4, 32, [.int .u8 0, .int .i64 0, .int .i64 0, .int .i64 0], true⟩
theorem ti95_ok : TIok Try.prog 95 ti95 := ⟨by kernel_rfl, by kernel_rfl, fun _ => ⟨by kernel_rfl, by kernel_rfl, by kernel_rfl⟩⟩
def ti96 : TI := ⟨.struct [(0, 5), (1, 94), (3, 3)], 4, 32, [.int .u8 0, .int .i64 0, .int .i64 0, .int .i64 0], true⟩
theorem ti96_ok : TIok Try.prog 96 ti96 := ⟨by kernel_rfl, by kernel_rfl, fun _ => ⟨by kernel_rfl, by kernel_rfl, by kernel_rfl⟩⟩
def ti97 : TI := ⟨.struct [(0, 3), (1, 48), (5, 3), (6, 3), (7, 50)], 13, 120, [.int .i64 0, .int .u8 0, .int .i64 0, .slice none 0 0, .int .i64 0, .int .i64 0, .int .i64 0, .int .i64 0, .bool false, .int .i64 0, .int .i64 0, .int .i64 0, .int .i64 0], false⟩
theorem ti97_ok : TIok Try.prog 97 ti97 := ⟨by kernel_rfl, by kernel_rfl, fun h => by cases h⟩
def ti98 : TI := ⟨.ptr 155, 1, 8, [.pointer none], false⟩
theorem ti98_ok : TIok Try.prog 98 ti98 := ⟨by kernel_rfl, by kernel_rfl, fun h => by cases h⟩
def ti99 : TI := ⟨.slice 66, 1, 24, [.slice none 0 0], false⟩
theorem ti99_ok : TIok Try.prog 99 ti99 := ⟨by kernel_rfl, by kernel_rfl, fun h => by cases h⟩
def ti100 : TI := ⟨.struct [(0, 98), (1, 99)], 2, 32, [.pointer none, .slice none 0 0], false⟩
theorem ti100_ok : TIok Try.prog 100 ti100 := ⟨by kernel_rfl, by kernel_rfl, fun h => by cases h⟩
def ti101 : TI := ⟨.struct [(0, 98), (1, 99)], 2, 32, [.pointer none, .slice none 0 0], false⟩
theorem ti101_ok : TIok Try.prog 101 ti101 := ⟨by kernel_rfl, by kernel_rfl, fun h => by cases h⟩
def ti102 : TI := ⟨.ptr 101, 1, 8, [.pointer none], false⟩
theorem ti102_ok : TIok Try.prog 102 ti102 := ⟨by kernel_rfl, by kernel_rfl, fun h => by cases h⟩
def ti103 : TI := ⟨.struct [(0, 102), (1, 67)], 2, 16, [.pointer none, .nilFunc], false⟩
theorem ti103_ok : TIok Try.prog 103 ti103 := ⟨by kernel_rfl, by kernel_rfl, fun h => by cases h⟩
def ti104 : TI := ⟨.struct [(0, 102), (1, 67)], 2, 16, [.pointer none, .nilFunc], false⟩
theorem ti104_ok : TIok Try.prog 104 ti104 := ⟨by kernel_rfl, by kernel_rfl, fun h => by cases h⟩
def ti105 : TI := ⟨.func, 1, 8, [.nilFunc], false⟩
theorem ti105_ok : TIok Try.prog 105 ti105 := ⟨by kernel_rfl, by kernel_rfl, fun h => by cases h⟩
def ti106 : TI := ⟨.func, 1, 8, [.nilFunc], false⟩
theorem ti106_ok : TIok Try.prog 106 ti106 := ⟨by kernel_rfl, by kernel_rfl, fun h => by cases h⟩
def ti107 : TI := ⟨.func, 1, 8, [.nilFunc], false⟩
theorem ti107_ok : TIok Try.prog 107 ti107 := ⟨by kernel_rfl, by kernel_rfl, fun h => by cases h⟩
def ti108 : TI := ⟨.int .u64, 1, 8, [.int .u64 0], false⟩
theorem ti108_ok : TIok Try.prog 108 ti108 := ⟨by kernel_rfl, by kernel_rfl, fun h => by cases h⟩
def ti109 : TI := ⟨.struct [(0, 26), (1, 2)], 2, 32, [.slice none 0 0, .int .i64 0], false⟩
theorem ti109_ok : TIok Try.prog 109 ti109 := ⟨by kernel_rfl, by kernel_rfl, fun h => by cases h⟩
def ti110 : TI := ⟨.struct [(0, 26), (1, 2)], 2, 32, [.slice none 0 0, .int .i64 0], false⟩
theorem ti110_ok : TIok Try.prog 110 ti110 := ⟨by kernel_rfl, by kernel_rfl, fun h => by cases h⟩
def ti112 : TI := ⟨.func, 1, 8, [.nilFunc], false⟩
theorem ti112_ok : TIok Try.prog 112 ti112 := ⟨by kernel_rfl, by kernel_rfl, fun h => by cases h⟩
def ti113 : TI := ⟨.func, 1, 8, [.nilFunc], false⟩
theorem ti113_ok : TIok Try.prog 113 ti113 := ⟨by kernel_rfl, by kernel_rfl, fun h => by cases h⟩
def ti114 : TI := ⟨.slice 108, 1, 24, [.slice none 0 0], false⟩
theorem ti114_ok : TIok Try.prog 114 ti114 := ⟨by kernel_rfl, by kernel_rfl, fun h => by cases h⟩
def ti115 : TI := ⟨.func, 1, 8, [.nilFunc], false⟩
theorem ti115_ok : TIok Try.prog 115 ti115 := ⟨by kernel_rfl, by kernel_rfl, fun h => by cases h⟩
def ti117 : TI := ⟨.func, 1, 8, [.nilFunc], false⟩
theorem ti117_ok : TIok Try.prog 117 ti117 := ⟨by kernel_rfl, by kernel_rfl, fun h => by cases h⟩
def ti118 : TI := ⟨.func, 1, 8, [.nilFunc], false⟩
theorem ti118_ok : TIok Try.prog 118 ti118 := ⟨by kernel_rfl, by kernel_rfl, fun h => by cases h⟩
def ti119 : TI := ⟨.func, 1, 8, [.nilFunc], false⟩
theorem ti119_ok : TIok Try.prog 119 ti119 := ⟨by kernel_rfl, by kernel_rfl, fun h => by cases h⟩
def ti120 : TI := ⟨.func, 1, 8, [.nilFunc], false⟩
theorem ti120_ok : TIok Try.prog 120 ti120 := ⟨by kernel_rfl, by kernel_rfl, fun h => by cases h⟩
def ti121 : TI := ⟨.func, 1, 8, [.nilFunc], false⟩
theorem ti121_ok : TIok Try.prog 121 ti121 := ⟨by kernel_rfl, by kernel_rfl, fun h => by cases h⟩
def ti122 : TI := ⟨.func, 1, 8, [.nilFunc], false⟩
theorem ti122_ok : TIok Try.prog 122 ti122 := ⟨by kernel_rfl, by kernel_rfl, fun h => by cases h⟩
def ti123 : TI := ⟨.func, 1, 8, [.nilFunc], false⟩
theorem ti123_ok : TIok Try.prog 123 ti123 := ⟨by kernel_rfl, by kernel_rfl, fun h => by cases h⟩
def ti124 : TI := ⟨.func, 1, 8, [.nilFunc], false⟩
theorem ti124_ok : TIok Try.prog 124 ti124 := ⟨by kernel_rfl, by kernel_rfl, fun h => by cases h⟩
def ti125 : TI := ⟨.ptr 71, 1, 8, [.pointer none], false⟩
theorem ti125_ok : TIok Try.prog 125 ti125 := ⟨by kernel_rfl, by kernel_rfl, fun h => by cases h⟩
def ti127 : TI := ⟨.func, 1, 8, [.nilFunc], false⟩
theorem ti127_ok : TIok Try.prog 127 ti127 := ⟨by kernel_rfl, by kernel_rfl, fun h => by cases h⟩
def ti128 : TI := ⟨.func, 1, 8, [.nilFunc], false⟩
theorem ti128_ok : TIok Try.prog 128 ti128 := ⟨by kernel_rfl, by kernel_rfl, fun h => by cases h⟩
def ti129 : TI := ⟨.slice 136, 1, 24, [.slice none 0 0], false⟩
theorem ti129_ok : TIok Try.prog 129 ti129 := ⟨by kernel_rfl, by kernel_rfl, fun h => by cases h⟩
def ti130 : TI := ⟨.struct [(0, 45), (1, 3), (2, 129)], 3, 56, [.slice none 0 0, .int .i64 0, .slice none 0 0], false⟩
theorem ti130_ok : TIok Try.prog 130 ti130 := ⟨by kernel_rfl, by kernel_rfl, fun h => by cases h⟩
def ti131 : TI := ⟨.struct [(0, 45), (1, 3), (2, 129)], 3, 56, [.slice none 0 0, .int .i64 0, .slice none 0 0], false⟩
theorem ti131_ok : TIok Try.prog 131 ti131 := ⟨by kernel_rfl, by kernel_rfl, fun h => by cases h⟩
def ti132 : TI := ⟨.func, 1, 8, [.nilFunc], false⟩
theorem ti132_ok : TIok Try.prog 132 ti132 := ⟨by kernel_rfl, by kernel_rfl, fun h => by cases h⟩
def ti133 : TI := ⟨.func, 1, 8, [.nilFunc], false⟩
theorem ti133_ok : TIok Try.prog 133 ti133 := ⟨by kernel_rfl, by kernel_rfl, fun h => by cases h⟩
def ti134 : TI := ⟨.slice 2, 1, 24, [.slice none 0 0], false⟩
theorem ti134_ok : TIok Try.prog 134 ti134 := ⟨by kernel_rfl, by kernel_rfl, fun h => by cases h⟩
def ti135 : TI := ⟨.struct [(0, 3), (1, 26), (2, 2), (3, 134)], 4, 64, [.int .i64 0, .slice none 0 0, .int .i64 0, .slice none 0 0], false⟩
theorem ti135_ok : TIok Try.prog 135 ti135 := ⟨by kernel_rfl, by kernel_rfl, fun h => by cases h⟩
def ti136 : TI := ⟨.struct [(0, 3), (1, 26), (2, 2), (3, 134)], 4, 64, [.int .i64 0, .slice none 0 0, .int .i64 0, .slice none 0 0], false⟩
theorem ti136_ok : TIok Try.prog 136 ti136 := ⟨by kernel_rfl, by kernel_rfl, fun h => by cases h⟩
def ti137 : TI := ⟨.func, 1, 8, [.nilFunc], false⟩
theorem ti137_ok : TIok Try.prog 137 ti137 := ⟨by kernel_rfl, by kernel_rfl, fun h => by cases h⟩
def ti138 : TI := ⟨.func, 1, 8, [.nilFunc], false⟩
theorem ti138_ok : TIok Try.prog 138 ti138 := ⟨by kernel_rfl, by kernel_rfl, fun h => by cases h⟩
def ti140 : TI := ⟨.func, 1, 8, [.nilFunc], false⟩
theorem ti140_ok : TIok Try.prog 140 ti140 := ⟨by kernel_rfl, by kernel_rfl, fun h => by cases h⟩
def ti141 : TI := ⟨.func, 1, 8, [.nilFunc], false⟩
theorem ti141_ok : TIok Try.prog 141 ti141 := ⟨by kernel_rfl, by kernel_rfl, fun h => by cases h⟩
def ti143 : TI := ⟨.func, 1, 8, [.nilFunc], false⟩
theorem ti143_ok : TIok Try.prog 143 ti143 := ⟨by kernel_rfl, by kernel_rfl, fun h => by cases h⟩
def ti144 : TI := ⟨.func, 1, 8, [.nilFunc], false⟩
theorem ti144_ok : TIok Try.prog 144 ti144 := ⟨by kernel_rfl, by kernel_rfl, fun h => by cases h⟩
def ti145 : TI := ⟨.func, 1, 8, [.nilFunc], false⟩
theorem ti145_ok : TIok Try.prog 145 ti145 := ⟨by kernel_rfl, by kernel_rfl, fun h => by cases h⟩
def ti146 : TI := ⟨.func, 1, 8, [.nilFunc], false⟩
theorem ti146_ok : TIok Try.prog 146 ti146 := ⟨by kernel_rfl, by kernel_rfl, fun h => by cases h⟩
def ti147 : TI := ⟨.func, 1, 8, [.nilFunc], false⟩
theorem ti147_ok : TIok Try.prog 147 ti147 := ⟨by kernel_rfl, by kernel_rfl, fun h => by cases h⟩
def ti149 : TI := ⟨.func, 1, 8, [.nilFunc], false⟩
theorem ti149_ok : TIok Try.prog 149 ti149 := ⟨by kernel_rfl, by kernel_rfl, fun h => by cases h⟩
def ti150 : TI := ⟨.func, 1, 8, [.nilFunc], false⟩
theorem ti150_ok : TIok Try.prog 150 ti150 := ⟨by kernel_rfl, by kernel_rfl, fun h => by cases h⟩
def ti151 : TI := ⟨.func, 1, 8, [.nilFunc], false⟩
theorem ti151_ok : TIok Try.prog 151 ti151 := ⟨by kernel_rfl, by kernel_rfl, fun h => by cases h⟩
def ti152 : TI := ⟨.func, 1, 8, [.nilFunc], false⟩
theorem ti152_ok : TIok Try.prog 152 ti152 := ⟨by kernel_rfl, by kernel_rfl, fun h => by cases h⟩
def ti153 : TI := ⟨.slice 198, 1, 24, [.slice none 0 0], false⟩
theorem ti153_ok : TIok Try.prog 153 ti153 := ⟨by kernel_rfl, by kernel_rfl, fun h => by cases h⟩
def ti154 : TI := ⟨.struct [(0, 114), (1, 2), (2, 3), (3, 153)], 4, 64, [.slice none 0 0, .int .i64 0, .int .i64 0, .slice none 0 0], false⟩
theorem ti154_ok : TIok Try.prog 154 ti154 := ⟨by kernel_rfl, by kernel_rfl, fun h => by cases h⟩
def ti155 : TI := ⟨.struct [(0, 114), (1, 2), (2, 3), (3, 153)], 4, 64, [.slice none 0 0, .int .i64 0, .int .i64 0, .slice none 0 0], false⟩
theorem ti155_ok : TIok Try.prog 155 ti155 := ⟨by kernel_rfl, by kernel_rfl, fun h => by cases h⟩
def ti157 : TI := ⟨.func, 1, 8, [.nilFunc], false⟩
theorem ti157_ok : TIok Try.prog 157 ti157 := ⟨by kernel_rfl, by kernel_rfl, fun h => by cases h⟩
def ti158 : TI := ⟨.func, 1, 8, [.nilFunc], false⟩
theorem ti158_ok : TIok Try.prog 158 ti158 := ⟨by kernel_rfl, by kernel_rfl, fun h => by cases h⟩
def ti160 : TI := ⟨.func, 1, 8, [.nilFunc], false⟩
theorem ti160_ok : TIok Try.prog 160 ti160 := ⟨by kernel_rfl, by kernel_rfl, fun h => by cases h⟩
def ti161 : TI := ⟨.func, 1, 8, [.nilFunc], false⟩
theorem ti161_ok : TIok Try.prog 161 ti161 := ⟨by kernel_rfl, by kernel_rfl, fun h => by cases h⟩
def ti163 : TI := ⟨.func, 1, 8, [.nilFunc], false⟩
theorem ti163_ok : TIok Try.prog 163 ti163 := ⟨by kernel_rfl, by kernel_rfl, fun h => by cases h⟩
def ti164 : TI := ⟨.func, 1, 8, [.nilFunc], false⟩
theorem ti164_ok : TIok Try.prog 164 ti164 := ⟨by kernel_rfl, by kernel_rfl, fun h => by cases h⟩
def ti165 : TI := ⟨.func, 1, 8, [.nilFunc], false⟩
theorem ti165_ok : TIok Try.prog 165 ti165 := ⟨by kernel_rfl, by kernel_rfl, fun h => by cases h⟩
def ti166 : TI := ⟨.func, 1, 8, [.nilFunc], false⟩
theorem ti166_ok : TIok Try.prog 166 ti166 := ⟨by kernel_rfl, by kernel_rfl, fun h => by cases h⟩
def ti167 : TI := ⟨.func, 1, 8, [.nilFunc], false⟩
theorem ti167_ok : TIok Try.prog 167 ti167 := ⟨by kernel_rfl, by kernel_rfl, fun h => by cases h⟩
def ti168 : TI := ⟨.func, 1, 8, [.nilFunc], false⟩
theorem ti168_ok : TIok Try.prog 168 ti168 := ⟨by kernel_rfl, by kernel_rfl, fun h => by cases h⟩
def ti169 : TI := ⟨.func, 1, 8, [.nilFunc], false⟩
theorem ti169_ok : TIok Try.prog 169 ti169 := ⟨by kernel_rfl, by kernel_rfl, fun h => by cases h⟩
def ti170 : TI := ⟨.func, 1, 8, [.nilFunc], false⟩
theorem ti170_ok : TIok Try.prog 170 ti170 := ⟨by kernel_rfl, by kernel_rfl, fun h => by cases h⟩
def ti171 : TI := ⟨.func, 1, 8, [.nilFunc], false⟩
theorem ti171_ok : TIok Try.prog 171 ti171 := ⟨by kernel_rfl, by kernel_rfl, fun h => by cases h⟩
def ti172 : TI := ⟨.func, 1, 8, [.nilFunc], false⟩
theorem ti172_ok : TIok Try.prog 172 ti172 := ⟨by kernel_rfl, by kernel_rfl, fun h => by cases h⟩
def ti173 : TI := ⟨.func, 1, 8, [.nilFunc], false⟩
theorem ti173_ok : TIok Try.prog 173 ti173 := ⟨by kernel_rfl, by kernel_rfl, fun h => by cases h⟩
def ti174 : TI := ⟨.func, 1, 8, [.nilFunc], false⟩
theorem ti174_ok : TIok Try.prog 174 ti174 := ⟨by kernel_rfl, by kernel_rfl, fun h => by cases h⟩
def ti175 : TI := ⟨.func, 1, 8, [.nilFunc], false⟩
theorem ti175_ok : TIok Try.prog 175 ti175 := ⟨by kernel_rfl, by kernel_rfl, fun h => by cases h⟩
def ti176 : TI := ⟨.func, 1, 8, [.nilFunc], false⟩
theorem ti176_ok : TIok Try.prog 176 ti176 := ⟨by kernel_rfl, by kernel_rfl, fun h => by cases h⟩
def ti177 : TI := ⟨.func, 1, 8, [.nilFunc], false⟩
theorem ti177_ok : TIok Try.prog 177 ti177 := ⟨by kernel_rfl, by kernel_rfl, fun h => by cases h⟩
def ti178 : TI := ⟨.func, 1, 8, [.nilFunc], false⟩
theorem ti178_ok : TIok Try.prog 178 ti178 := ⟨by kernel_rfl, by kernel_rfl, fun h => by cases h⟩
def ti179 : TI := ⟨.func, 1, 8, [.nilFunc], false⟩
theorem ti179_ok : TIok Try.prog 179 ti179 := ⟨by kernel_rfl, by kernel_rfl, fun h => by cases h⟩
def ti181 : TI := ⟨.func, 1, 8, [.nilFunc], false⟩
theorem ti181_ok : TIok Try.prog 181 ti181 := ⟨by kernel_rfl, by kernel_rfl, fun h => by cases h⟩
def ti182 : TI := ⟨.func, 1, 8, [.nilFunc], false⟩
theorem ti182_ok : TIok Try.prog 182 ti182 := ⟨by kernel_rfl, by kernel_rfl, fun h => by cases h⟩
def ti183 : TI := ⟨.struct [(0, 4), (1, 2), (2, 2), (3, 2)], 4, 32, [.bool false, .int .i64 0, .int .i64 0, .int .i64 0], true⟩
theorem ti183_ok : TIok Try.prog 183 ti183 := ⟨by kernel_rfl, by kernel_rfl, fun _ => ⟨by kernel_rfl, by kernel_rfl, by kernel_rfl⟩⟩
def ti184 : TI := ⟨.struct [(0, 4), (1, 2), (2, 2), (3, 2)], 4, 32, [.bool false, .int .i64 0, .int .i64 0, .int .i64 0], true⟩
theorem ti184_ok : TIok Try.prog 184 ti184 := ⟨by kernel_rfl, by kernel_rfl, fun _ => ⟨by kernel_rfl, by kernel_rfl, by kernel_rfl⟩⟩
def ti186 : TI := ⟨.func, 1, 8, [.nilFunc], false⟩
theorem ti186_ok : TIok Try.prog 186 ti186 := ⟨by kernel_rfl, by kernel_rfl, fun h => by cases h⟩
def ti187 : TI := ⟨.struct [(0, 3), (1, 134)], 2, 32, [.int .i64 0, .slice none 0 0], false⟩
theorem ti187_ok : TIok Try.prog 187 ti187 := ⟨by kernel_rfl, by kernel_rfl, fun h => by cases h⟩
def ti188 : TI := ⟨.struct [(0, 3), (1, 134)], 2, 32, [.int .i64 0, .slice none 0 0], false⟩
theorem ti188_ok : TIok Try.prog 188 ti188 := ⟨by kernel_rfl, by kernel_rfl, fun h => by cases h⟩
def ti190 : TI := ⟨.func, 1, 8, [.nilFunc], false⟩
theorem ti190_ok : TIok Try.prog 190 ti190 := ⟨by kernel_rfl, by kernel_rfl, fun h => by cases h⟩
def ti191 : TI := ⟨.func, 1, 8, [.nilFunc], false⟩
theorem ti191_ok : TIok Try.prog 191 ti191 := ⟨by kernel_rfl, by kernel_rfl, fun h => by cases h⟩
def ti192 : TI := ⟨.func, 1, 8, [.nilFunc], false⟩
theorem ti192_ok : TIok Try.prog 192 ti192 := ⟨by kernel_rfl, by kernel_rfl, fun h => by cases h⟩
def ti193 : TI := ⟨.func, 1, 8, [.nilFunc], false⟩
theorem ti193_ok : TIok Try.prog 193 ti193 := ⟨by kernel_rfl, by kernel_rfl, fun h => by cases h⟩
def ti194 : TI := ⟨.func, 1, 8, [.nilFunc], false⟩
theorem ti194_ok : TIok Try.prog 194 ti194 := ⟨by kernel_rfl, by kernel_rfl, fun h => by cases h⟩
def ti195 : TI := ⟨.func, 1, 8, [.nilFunc], false⟩
theorem ti195_ok : TIok Try.prog 195 ti195 := ⟨by kernel_rfl, by kernel_rfl, fun h => by cases h⟩
def ti196 : TI := ⟨.func, 1, 8, [.nilFunc], false⟩
theorem ti196_ok : TIok Try.prog 196 ti196 := ⟨by kernel_rfl, by kernel_rfl, fun h => by cases h⟩
def ti197 : TI := ⟨.struct [(0, 3), (1, 5), (2, 3), (3, 108), (4, 108), (5, 4)], 6, 48, [.int .i64 0, .int .u8 0, .int .i64 0, .int .u64 0, .int .u64 0, .bool false], true⟩
theorem ti197_ok : TIok Try.prog 197 ti197 := ⟨by kernel_rfl, by kernel_rfl, fun _ => ⟨by kernel_rfl, by kernel_rfl, by kernel_rfl⟩⟩
def ti198 : TI := ⟨.struct [(0, 3), (1, 5), (2, 3), (3, 108), (4, 108), (5, 4)], 6, 48, [.int .i64 0, .int .u8 0, .int .i64 0, .int .u64 0, .int .u64 0, .bool false], true⟩
theorem ti198_ok : TIok Try.prog 198 ti198 := ⟨by kernel_rfl, by kernel_rfl, fun _ => ⟨by kernel_rfl, by kernel_rfl, by kernel_rfl⟩⟩
def ti199 : TI := ⟨.ptr 35, 1, 8, [.pointer none], false⟩
theorem ti199_ok : TIok Try.prog 199 ti199 := ⟨by kernel_rfl, by kernel_rfl, fun h => by cases h⟩
def ti200 : TI := ⟨.func, 1, 8, [.nilFunc], false⟩
theorem ti200_ok : TIok Try.prog 200 ti200 := ⟨by kernel_rfl, by kernel_rfl, fun h => by cases h⟩
def ti201 : TI := ⟨.func, 1, 8, [.nilFunc], false⟩
theorem ti201_ok : TIok Try.prog 201 ti201 := ⟨by kernel_rfl, by kernel_rfl, fun h => by cases h⟩
def ti202 : TI := ⟨.func, 1, 8, [.nilFunc], false⟩
theorem ti202_ok : TIok Try.prog 202 ti202 := ⟨by kernel_rfl, by kernel_rfl, fun h => by cases h⟩
def ti203 : TI := ⟨.func, 1, 8, [.nilFunc], false⟩
theorem ti203_ok : TIok Try.prog 203 ti203 := ⟨by kernel_rfl, by kernel_rfl, fun h => by cases h⟩
def ti204 : TI := ⟨.func, 1, 8, [.nilFunc], false⟩
theorem ti204_ok : TIok Try.prog 204 ti204 := ⟨by kernel_rfl, by kernel_rfl, fun h => by cases h⟩
def ti205 : TI := ⟨.func, 1, 8, [.nilFunc], false⟩
theorem ti205_ok : TIok Try.prog 205 ti205 := ⟨by kernel_rfl, by kernel_rfl, fun h => by cases h⟩
def ti206 : TI := ⟨.func, 1, 8, [.nilFunc], false⟩
theorem ti206_ok : TIok Try.prog 206 ti206 := ⟨by kernel_rfl, by kernel_rfl, fun h => by cases h⟩
def ti207 : TI := ⟨.func, 1, 8, [.nilFunc], false⟩
theorem ti207_ok : TIok Try.prog 207 ti207 := ⟨by kernel_rfl, by kernel_rfl, fun h => by cases h⟩
def ti208 : TI := ⟨.func, 1, 8, [.nilFunc], false⟩
theorem ti208_ok : TIok Try.prog 208 ti208 := ⟨by kernel_rfl, by kernel_rfl, fun h => by cases h⟩
def ti209 : TI := ⟨.func, 1, 8, [.nilFunc], false⟩
theorem ti209_ok : TIok Try.prog 209 ti209 := ⟨by kernel_rfl, by kernel_rfl, fun h => by cases h⟩
def ti210 : TI := ⟨.func, 1, 8, [.nilFunc], false⟩
theorem ti210_ok : TIok Try.prog 210 ti210 := ⟨by kernel_rfl, by kernel_rfl, fun h => by cases h⟩
def ti211 : TI := ⟨.func, 1, 8, [.nilFunc], false⟩
theorem ti211_ok : TIok Try.prog 211 ti211 := ⟨by kernel_rfl, by kernel_rfl, fun h => by cases h⟩
def ti212 : TI := ⟨.func, 1, 8, [.nilFunc], false⟩
theorem ti212_ok : TIok Try.prog 212 ti212 := ⟨by kernel_rfl, by kernel_rfl, fun h => by cases h⟩
def ti213 : TI := ⟨.func, 1, 8, [.nilFunc], false⟩
theorem ti213_ok : TIok Try.prog 213 ti213 := ⟨by kernel_rfl, by kernel_rfl, fun h => by cases h⟩
def ti214 : TI := ⟨.func, 1, 8, [.nilFunc], false⟩
theorem ti214_ok : TIok Try.prog 214 ti214 := ⟨by kernel_rfl, by kernel_rfl, fun h => by cases h⟩
def ti215 : TI := ⟨.func, 1, 8, [.nilFunc], false⟩
theorem ti215_ok : TIok Try.prog 215 ti215 := ⟨by kernel_rfl, by kernel_rfl, fun h => by cases h⟩
def ti216 : TI := ⟨.func, 1, 8, [.nilFunc], false⟩
theorem ti216_ok : TIok Try.prog 216 ti216 := ⟨by kernel_rfl, by kernel_rfl, fun h => by cases h⟩
def ti217 : TI := ⟨.func, 1, 8, [.nilFunc], false⟩
theorem ti217_ok : TIok Try.prog 217 ti217 := ⟨by kernel_rfl, by kernel_rfl, fun h => by cases h⟩
def ti219 : TI := ⟨.func, 1, 8, [.nilFunc], false⟩
theorem ti219_ok : TIok Try.prog 219 ti219 := ⟨by kernel_rfl, by kernel_rfl, fun h => by cases h⟩
def ti220 : TI := ⟨.func, 1, 8, [.nilFunc], false⟩
theorem ti220_ok : TIok Try.prog 220 ti220 := ⟨by kernel_rfl, by kernel_rfl, fun h => by cases h⟩
def ti222 : TI := ⟨.func, 1, 8, [.nilFunc], false⟩
theorem ti222_ok : TIok Try.prog 222 ti222 := ⟨by kernel_rfl, by kernel_rfl, fun h => by cases h⟩
def ti223 : TI := ⟨.func, 1, 8, [.nilFunc], false⟩
theorem ti223_ok : TIok Try.prog 223 ti223 := ⟨by kernel_rfl, by kernel_rfl, fun h => by cases h⟩
def ti224 : TI := ⟨.func, 1, 8, [.nilFunc], false⟩
theorem ti224_ok : TIok Try.prog 224 ti224 := ⟨by kernel_rfl, by kernel_rfl, fun h => by cases h⟩
def ti225 : TI := ⟨.struct [(0, 17), (1, 17), (2, 17), (3, 9)], 4, 40, [.pointer none, .pointer none, .pointer none, .string ⟨#[]⟩], false⟩
theorem ti225_ok : TIok Try.prog 225 ti225 := ⟨by kernel_rfl, by kernel_rfl, fun h => by cases h⟩
def ti226 : TI := ⟨.struct [(0, 17), (1, 17), (2, 17), (3, 9)], 4, 40, [.pointer none, .pointer none, .pointer none, .string ⟨#[]⟩], false⟩
theorem ti226_ok : TIok Try.prog 226 ti226 := ⟨by kernel_rfl, by kernel_rfl, fun h => by cases h⟩
def ti227 : TI := ⟨.array 0 16, 0, 0, [], false⟩
theorem ti227_ok : TIok Try.prog 227 ti227 := ⟨by kernel_rfl, by kernel_rfl, fun h => by cases h⟩
def ti228 : TI := ⟨.struct [(0, 227)], 0, 0, [], false⟩
theorem ti228_ok : TIok Try.prog 228 ti228 := ⟨by kernel_rfl, by kernel_rfl, fun h => by cases h⟩
def ti229 : TI := ⟨.struct [(0, 227)], 0, 0, [], false⟩
theorem ti229_ok : TIok Try.prog 229 ti229 := ⟨by kernel_rfl, by kernel_rfl, fun h => by cases h⟩
def ti230 : TI := ⟨.int .u32, 1, 4, [.int .u32 0], false⟩
theorem ti230_ok : TIok Try.prog 230 ti230 := ⟨by kernel_rfl, by kernel_rfl, fun h => by cases h⟩
def ti231 : TI := ⟨.int .u8, 1, 1, [.int .u8 0], false⟩
theorem ti231_ok : TIok Try.prog 231 ti231 := ⟨by kernel_rfl, by kernel_rfl, fun h => by cases h⟩
def ti232 : TI := ⟨.int .u8, 1, 1, [.int .u8 0], false⟩
theorem ti232_ok : TIok Try.prog 232 ti232 := ⟨by kernel_rfl, by kernel_rfl, fun h => by cases h⟩
def ti233 : TI := ⟨.func, 1, 8, [.nilFunc], false⟩
theorem ti233_ok : TIok Try.prog 233 ti233 := ⟨by kernel_rfl, by kernel_rfl, fun h => by cases h⟩
def ti234 : TI := ⟨.ptr 5, 1, 8, [.pointer none], false⟩
theorem ti234_ok : TIok Try.prog 234 ti234 := ⟨by kernel_rfl, by kernel_rfl, fun h => by cases h⟩
def ti235 : TI := ⟨.int .i32, 1, 4, [.int .i32 0], false⟩
theorem ti235_ok : TIok Try.prog 235 ti235 := ⟨by kernel_rfl, by kernel_rfl, fun h => by cases h⟩
def ti236 : TI := ⟨.int .i32, 1, 4, [.int .i32 0], false⟩
theorem ti236_ok : TIok Try.prog 236 ti236 := ⟨by kernel_rfl, by kernel_rfl, fun h => by cases h⟩
def ti237 : TI := ⟨.struct [(0, 12), (1, 12), (2, 230), (3, 231), (4, 5), (5, 5), (6, 232), (7, 233), (8, 234), (9, 235), (10, 236)], 11, 48, [.int .u64 0, .int .u64 0, .int .u32 0, .int .u8 0, .int .u8 0, .int .u8 0, .int .u8 0, .nilFunc, .pointer none, .int .i32 0, .int .i32 0], false⟩
theorem ti237_ok : TIok Try.prog 237 ti237 := ⟨by kernel_rfl, by kernel_rfl, fun h => by cases h⟩
def ti238 : TI := ⟨.struct [(0, 12), (1, 12), (2, 230), (3, 231), (4, 5), (5, 5), (6, 232), (7, 233), (8, 234), (9, 235), (10, 236)], 11, 48, [.int .u64 0, .int .u64 0, .int .u32 0, .int .u8 0, .int .u8 0, .int .u8 0, .int .u8 0, .nilFunc, .pointer none, .int .i32 0, .int .i32 0], false⟩
theorem ti238_ok : TIok Try.prog 238 ti238 := ⟨by kernel_rfl, by kernel_rfl, fun h => by cases h⟩
def tyTree : TyTree := .node (.node (.node (.node (.node (.node (.node (.node (.leaf) 1 ti1 (.leaf)) 2 ti2 (.node (.leaf) 3 ti3 (.leaf))) 4 ti4 (.node (.node (.leaf) 5 ti5 (.leaf)) 6 ti6 (.leaf))) 7 ti7 (.node (.node (.node (.leaf) 8 ti8 (.leaf)) 9 ti9 (.node (.leaf) 10 ti10 (.leaf))) 11 ti11 (.node (.node (.leaf) 12 ti12 (.leaf)) 13 ti13 (.leaf)))) 14 ti14 (.node (.node (.node (.node (.leaf) 15 ti15 (.leaf)) 16 ti16 (.node (.leaf) 17 ti17 (.leaf))) 18 ti18 (.node (.node (.leaf) 19 ti19 (.leaf)) 20 ti20 (.leaf))) 21 ti21 (.node (.node (.node (.leaf) 22 ti22 (.leaf)) 23 ti23 (.node (.leaf) 24 ti24 (.leaf))) 25 ti25 (.node (.node (.leaf) 26 ti26 (.leaf)) 27 ti27 (.leaf))))) 28 ti28 (.node (.node (.node (.node (.node (.leaf) 29 ti29 (.leaf)) 30 ti30 (.node (.leaf) 31 ti31 (.leaf))) 32 ti32 (.node (.node (.leaf) 33 ti33 (.leaf)) 34 ti34 (.leaf))) 35 ti35 (.node (.node (.node (.leaf) 37 ti37 (.leaf)) 38 ti38 (.node (.leaf) 39 ti39 (.leaf))) 40 ti40 (.node (.node (.leaf) 42 ti42 (.leaf)) 44 ti44 (.leaf)))) 45 ti45 (.node (.node (.node (.node (.leaf) 46 ti46 (.leaf)) 47 ti47 (.node (.leaf) 48 ti48 (.leaf))) 49 ti49 (.node (.node (.leaf) 50 ti50 (.leaf)) 51 ti51 (.leaf))) 52 ti52 (.node (.node (.node (.leaf) 53 ti53 (.leaf)) 54 ti54 (.leaf)) 55 ti55 (.node (.node (.leaf) 56 ti56 (.leaf)) 57 ti57 (.leaf)))))) 58 ti58 (.node (.node (.node (.node (.node (.node (.leaf) 60 ti60 (.leaf)) 62 ti62 (.node (.leaf) 63 ti63 (.leaf))) 64 ti64 (.node (.node (.leaf) 65 ti65 (.leaf)) 66 ti66 (.leaf))) 67 ti67 (.node (.node (.node (.leaf) 68 ti68 (.leaf)) 69 ti69 (.node (.leaf) 70 ti70 (.leaf))) 71 ti71 (.node (.node (.leaf) 72 ti72 (.leaf)) 73 ti73 (.leaf)))) 74 ti74 (.node (.node (.node (.node (.leaf) 75 ti75 (.leaf)) 76 ti76 (.node (.leaf) 77 ti77 (.leaf))) 78 ti78 (.node (.node (.leaf) 79 ti79 (.leaf)) 80 ti80 (.leaf))) 82 ti82 (.node (.node (.node (.leaf) 83 ti83 (.leaf)) 84 ti84 (.leaf)) 85 ti85 (.node (.node (.leaf) 86 ti86 (.leaf)) 88 ti88 (.leaf))))) 89 ti89 (.node (.node (.node (.node (.node (.leaf) 90 ti90 (.leaf)) 91 ti91 (.node (.leaf) 92 ti92 (.leaf))) 93 ti93 (.node (.node (.leaf) 94 ti94 (.leaf)) 95 ti95 (.leaf))) 96 ti96 (.node (.node (.node (.leaf) 97 ti97 (.leaf)) 98 ti98 (.node (.leaf) 99 ti99 (.leaf))) 100 ti100 (.node (.node (.leaf) 101 ti101 (.leaf)) 102 ti102 (.leaf)))) 103 ti103 (.node (.node (.node (.node (.leaf) 104 ti104 (.leaf)) 105 ti105 (.node (.leaf) 106 ti106 (.leaf))) 107 ti107 (.node (.node (.leaf) 108 ti108 (.leaf)) 109 ti109 (.leaf))) 110 ti110 (.node (.node (.node (.leaf) 112 ti112 (.leaf)) 113 ti113 (.leaf)) 114 ti114 (.node (.node (.leaf) 115 ti115 (.leaf)) 117 ti117 (.leaf))))))) 118 ti118 (.node (.node (.node (.node (.node (.node (.node (.leaf) 119 ti119 (.leaf)) 120 ti120 (.node (.leaf) 121 ti121 (.leaf))) 122 ti122 (.node (.node (.leaf) 123 ti123 (.leaf)) 124 ti124 (.leaf))) 125 ti125 (.node (.node (.node (.leaf) 127 ti127 (.leaf)) 128 ti128 (.node (.leaf) 129 ti129 (.leaf))) 130 ti130 (.node (.node (.leaf) 131 ti131 (.leaf)) 132 ti132 (.leaf)))) 133 ti133 (.node (.node (.node (.node (.leaf) 134 ti134 (.leaf)) 135 ti135 (.node (.leaf) 136 ti136 (.leaf))) 137 ti137 (.node (.node (.leaf) 138 ti138 (.leaf)) 140 ti140 (.leaf))) 141 ti141 (.node (.node (.node (.leaf) 143 ti143 (.leaf)) 144 ti144 (.node (.leaf) 145 ti145 (.leaf))) 146 ti146 (.node (.node (.leaf) 147 ti147 (.leaf)) 149 ti149 (.leaf))))) 150 ti150 (.node (.node (.node (.node (.node (.leaf) 151 ti151 (.leaf)) 152 ti152 (.node (.leaf) 153 ti153 (.leaf))) 154 ti154 (.node (.node (.leaf) 155 ti155 (.leaf)) 157 ti157 (.leaf))) 158 ti158 (.node (.node (.node (.leaf) 160 ti160 (.leaf)) 161 ti161 (.node (.leaf) 163 ti163 (.leaf))) 164 ti164 (.node (.node (.leaf) 165 ti165 (.leaf)) 166 ti166 (.leaf)))) 167 ti167 (.node (.node (.node (.node (.leaf) 168 ti168 (.leaf)) 169 ti169 (.node (.leaf) 170 ti170 (.leaf))) 171 ti171 (.node (.node (.leaf) 172 ti172 (.leaf)) 173 ti173 (.leaf))) 174 ti174 (.node (.node (.node (.leaf) 175 ti175 (.leaf)) 176 ti176 (.leaf)) 177 ti177 (.node (.node (.leaf) 178 ti178 (.leaf)) 179 ti179 (.leaf)))))) 181 ti181 (.node (.node (.node (.node (.node (.node (.leaf) 182 ti182 (.leaf)) 183 ti183 (.node (.leaf) 184 ti184 (.leaf))) 186 ti186 (.node (.node (.leaf) 187 ti187 (.leaf)) 188 ti188 (.leaf))) 190 ti190 (.node (.node (.node (.leaf) 191 ti191 (.leaf)) 192 ti192 (.node (.leaf) 193 ti193 (.leaf))) 194 ti194 (.node (.node (.leaf) 195 ti195 (.leaf)) 196 ti196 (.leaf)))) 197 ti197 (.node (.node (.node (.node (.leaf) 198 ti198 (.leaf)) 199 ti199 (.node (.leaf) 200 ti200 (.leaf))) 201 ti201 (.node (.node (.leaf) 202 ti202 (.leaf)) 203 ti203 (.leaf))) 204 ti204 (.node (.node (.node (.leaf) 205 ti205 (.leaf)) 206 ti206 (.leaf)) 207 ti207 (.node (.node (.leaf) 208 ti208 (.leaf)) 209 ti209 (.leaf))))) 210 ti210 (.node (.node (.node (.node (.node (.leaf) 211 ti211 (.leaf)) 212 ti212 (.node (.leaf) 213 ti213 (.leaf))) 214 ti214 (.node (.node (.leaf) 215 ti215 (.leaf)) 216 ti216 (.leaf))) 217 ti217 (.node (.node (.node (.leaf) 219 ti219 (.leaf)) 220 ti220 (.node (.leaf) 222 ti222 (.leaf))) 223 ti223 (.node (.node (.leaf) 224 ti224 (.leaf)) 225 ti225 (.leaf)))) 226 ti226 (.node (.node (.node (.node (.leaf) 227 ti227 (.leaf)) 228 ti228 (.node (.leaf) 229 ti229 (.leaf))) 230 ti230 (.node (.node (.leaf) 231 ti231 (.leaf)) 232 ti232 (.leaf))) 233 ti233 (.node (.node (.node (.leaf) 234 ti234 (.leaf)) 235 ti235 (.leaf)) 236 ti236 (.node (.node (.leaf) 237 ti237 (.leaf)) 238 ti238 (.leaf)))))))
theorem tyTree_ok : tyTree.allP (TIok Try.prog) := ⟨⟨⟨⟨⟨⟨⟨⟨trivial, ti1_ok, trivial⟩, ti2_ok, ⟨trivial, ti3_ok, trivial⟩⟩, ti4_ok, ⟨⟨trivial, ti5_ok, trivial⟩, ti6_ok, trivial⟩⟩, ti7_ok, ⟨⟨⟨trivial, ti8_ok, trivial⟩, ti9_ok, ⟨trivial, ti10_ok, trivial⟩⟩, ti11_ok, ⟨⟨trivial, ti12_ok, trivial⟩, ti13_ok, trivial⟩⟩⟩, ti14_ok, ⟨⟨⟨⟨trivial, ti15_ok, trivial⟩, ti16_ok, ⟨trivial, ti17_ok, trivial⟩⟩, ti18_ok, ⟨⟨trivial, ti19_ok, trivial⟩, ti20_ok, trivial⟩⟩, ti21_ok, ⟨⟨⟨trivial, ti22_ok, trivial⟩, ti23_ok, ⟨trivial, ti24_ok, trivial⟩⟩, ti25_ok, ⟨⟨trivial, ti26_ok, trivial⟩, ti27_ok, trivial⟩⟩⟩⟩, ti28_ok, ⟨⟨⟨⟨⟨trivial, ti29_ok, trivial⟩, ti30_ok, ⟨trivial, ti31_ok, trivial⟩⟩, ti32_ok, ⟨⟨trivial, ti33_ok, trivial⟩, ti34_ok, trivial⟩⟩, ti35_ok, ⟨⟨⟨trivial, ti37_ok, trivial⟩, ti38_ok, ⟨trivial, ti39_ok, trivial⟩⟩, ti40_ok, ⟨⟨trivial, ti42_ok, trivial⟩, ti44_ok, trivial⟩⟩⟩, ti45_ok, ⟨⟨⟨⟨trivial, ti46_ok, trivial⟩, ti47_ok, ⟨trivial, ti48_ok, trivial⟩⟩, ti49_ok, ⟨⟨trivial, ti50_ok, trivial⟩, ti51_ok, trivial⟩⟩, ti52_ok, ⟨⟨⟨trivial, ti53_ok, trivial⟩, ti54_ok, trivial⟩, ti55_ok, ⟨⟨trivial, ti56_ok, trivial⟩, ti57_ok, trivial⟩⟩⟩⟩⟩, ti58_ok, ⟨⟨⟨⟨⟨⟨trivial, ti60_ok, trivial⟩, ti62_ok, ⟨trivial, ti63_ok, trivial⟩⟩, ti64_ok, ⟨⟨trivial, ti65_ok, trivial⟩, ti66_ok, trivial⟩⟩, ti67_ok, ⟨⟨⟨trivial, ti68_ok, trivial⟩, ti69_ok, ⟨trivial, ti70_ok, trivial⟩⟩, ti71_ok, ⟨⟨trivial, ti72_ok, trivial⟩, ti73_ok, trivial⟩⟩⟩, ti74_ok, ⟨⟨⟨⟨trivial, ti75_ok, trivial⟩, ti76_ok, ⟨trivial, ti77_ok, trivial⟩⟩, ti78_ok, ⟨⟨trivial, ti79_ok, trivial⟩, ti80_ok, trivial⟩⟩, ti82_ok, ⟨⟨⟨trivial, ti83_ok, trivial⟩, ti84_ok, trivial⟩, ti85_ok, ⟨⟨trivial, ti86_ok, trivial⟩, ti88_ok, trivial⟩⟩⟩⟩, ti89_ok, ⟨⟨⟨⟨⟨trivial, ti90_ok, trivial⟩, ti91_ok, ⟨trivial, ti92_ok, trivial⟩⟩, ti93_ok, ⟨⟨trivial, ti94_ok, trivial⟩, ti95_ok, trivial⟩⟩, ti96_ok, ⟨⟨⟨trivial, ti97_ok, trivial⟩, ti98_ok, ⟨trivial, ti99_ok, trivial⟩⟩, ti100_ok, ⟨⟨trivial, ti101_ok, trivial⟩, ti102_ok, trivial⟩⟩⟩, ti103_ok, ⟨⟨⟨⟨trivial, ti104_ok, trivial⟩, ti105_ok, ⟨trivial, ti106_ok, trivial⟩⟩, ti107_ok, ⟨⟨trivial, ti108_ok, trivial⟩, ti109_ok, trivial⟩⟩, ti110_ok, ⟨⟨⟨trivial, ti112_ok, trivial⟩, ti113_ok, trivial⟩, ti114_ok, ⟨⟨trivial, ti115_ok, trivial⟩, ti117_ok, trivial⟩⟩⟩⟩⟩⟩, ti118_ok, ⟨⟨⟨⟨⟨⟨⟨trivial, ti119_ok, trivial⟩, ti120_ok, ⟨trivial, ti121_ok, trivial⟩⟩, ti122_ok, ⟨⟨trivial, ti123_ok, trivial⟩, ti124_ok, trivial⟩⟩, ti125_ok, ⟨⟨⟨trivial, ti127_ok, trivial⟩, ti128_ok, ⟨trivial, ti129_ok, trivial⟩⟩, ti130_ok, ⟨⟨trivial, ti131_ok, trivial⟩, ti132_ok, trivial⟩⟩⟩, ti133_ok, ⟨⟨⟨⟨trivial, ti134_ok, trivial⟩, ti135_ok, ⟨trivial, ti136_ok, trivial⟩⟩, ti137_ok, ⟨⟨trivial, ti138_ok, trivial⟩, ti140_ok, trivial⟩⟩, ti141_ok, ⟨⟨⟨trivial, ti143_ok, trivial⟩, ti144_ok, ⟨trivial, ti145_ok, trivial⟩⟩, ti146_ok, ⟨⟨trivial, ti147_ok, trivial⟩, ti149_ok, trivial⟩⟩⟩⟩, ti150_ok, ⟨⟨⟨⟨⟨trivial, ti151_ok, trivial⟩, ti152_ok, ⟨trivial, ti153_ok, trivial⟩⟩, ti154_ok, ⟨⟨trivial, ti155_ok, trivial⟩, ti157_ok, trivial⟩⟩, ti158_ok, ⟨⟨⟨trivial, ti160_ok, trivial⟩, ti161_ok, ⟨trivial, ti163_ok, trivial⟩⟩, ti164_ok, ⟨⟨trivial, ti165_ok, trivial⟩, ti166_ok, trivial⟩⟩⟩, ti167_ok, ⟨⟨⟨⟨trivial, ti168_ok, trivial⟩, ti169_ok, ⟨trivial, ti170_ok, trivial⟩⟩, ti171_ok, ⟨⟨trivial, ti172_ok, trivial⟩, ti173_ok, trivial⟩⟩, ti174_ok, ⟨⟨⟨trivial, ti175_ok, trivial⟩, ti176_ok, trivial⟩, ti177_ok, ⟨⟨trivial, ti178_ok, trivial⟩, ti179_ok, trivial⟩⟩⟩⟩⟩, ti181_ok, ⟨⟨⟨⟨⟨⟨trivial, ti182_ok, trivial⟩, ti183_ok, ⟨trivial, ti184_ok, trivial⟩⟩, ti186_ok, ⟨⟨trivial, ti187_ok, trivial⟩, ti188_ok, trivial⟩⟩, ti190_ok, ⟨⟨⟨trivial, ti191_ok, trivial⟩, ti192_ok, ⟨trivial, ti193_ok, trivial⟩⟩, ti194_ok, ⟨⟨trivial, ti195_ok, trivial⟩, ti196_ok, trivial⟩⟩⟩, ti197_ok, ⟨⟨⟨⟨trivial, ti198_ok, trivial⟩, ti199_ok, ⟨trivial, ti200_ok, trivial⟩⟩, ti201_ok, ⟨⟨trivial, ti202_ok, trivial⟩, ti203_ok, trivial⟩⟩, ti204_ok, ⟨⟨⟨trivial, ti205_ok, trivial⟩, ti206_ok, trivial⟩, ti207_ok, ⟨⟨trivial, ti208_ok, trivial⟩, ti209_ok, trivial⟩⟩⟩⟩, ti210_ok, ⟨⟨⟨⟨⟨trivial, ti211_ok, trivial⟩, ti212_ok, ⟨trivial, ti213_ok, trivial⟩⟩, ti214_ok, ⟨⟨trivial, ti215_ok, trivial⟩, ti216_ok, trivial⟩⟩, ti217_ok, ⟨⟨⟨trivial, ti219_ok, trivial⟩, ti220_ok, ⟨trivial, ti222_ok, trivial⟩⟩, ti223_ok, ⟨⟨trivial, ti224_ok, trivial⟩, ti225_ok, trivial⟩⟩⟩, ti226_ok, ⟨⟨⟨⟨trivial, ti227_ok, trivial⟩, ti228_ok, ⟨trivial, ti229_ok, trivial⟩⟩, ti230_ok, ⟨⟨trivial, ti231_ok, trivial⟩, ti232_ok, trivial⟩⟩, ti233_ok, ⟨⟨⟨trivial, ti234_ok, trivial⟩, ti235_ok, trivial⟩, ti236_ok, ⟨⟨trivial, ti237_ok, trivial⟩, ti238_ok, trivial⟩⟩⟩⟩⟩⟩⟩
noncomputable def TC : Cx := ⟨Try.prog, tyTree.look, TyTree.look_ok tyTree_ok⟩
theorem TC_mixed : TC.P.follows .mixedOrders = true := by kernel_rfl
end Go.Proofs.Ytbdclkjelhlfbaa

namespace Go.Proofs.Ytbdclkjelhlfbaa
open Go.RowKit Go.Shelf

/-- a call of plain values that leaves all as it is -/
theorem Pure.val {C : Cx} {g : Nat} {xs : List Value} {r : Value} (ent : Enters C.P g) (hr : r.oneCell' = true) (h : ∀ w, Calls C.P g xs.toArray w fun e w' => e = .returned r ∧ w' = w) : Pure C g (xs.map fun v => .d (.val v)) (.d (.val r)) := by
  refine ⟨ent, fun E w vs hIm hsz hargs => ?_⟩
  have : vs = xs.toArray := by
    apply Array.ext (by simpa using hsz)
    intro i h1 h2
    have h3 := hargs i (by simpa using h2)
    rw [List.getElem_map] at h3
    have := h3.val_inv
    simpa [Array.getD, h1] using this
  subst this
  refine (h w).mono ?_
  rintro e w' ⟨rfl, rfl⟩
  exact ⟨r, rfl, Kp.refl _, .d _ _ (.val _ hr)⟩
theorem Pure.val2 {C : Cx} {g : Nat} {xs : List Value} {r s : Value} (ent : Enters C.P g) (hr : r.oneCell' = true) (hs : s.oneCell' = true) (h : ∀ w, Calls C.P g xs.toArray w fun e w' => e = .returned (.tuple #[r, s]) ∧ w' = w) : Pure C g (xs.map fun v => .d (.val v)) (.tup [.d (.val r), .d (.val s)]) := by
  refine ⟨ent, fun E w vs hIm hsz hargs => ?_⟩
  have : vs = xs.toArray := by
    apply Array.ext (by simpa using hsz)
    intro i h1 h2
    have h3 := hargs i (by simpa using h2)
    rw [List.getElem_map] at h3
    have := h3.val_inv
    simpa [Array.getD, h1] using this
  subst this
  refine (h w).mono ?_
  rintro e w' ⟨rfl, rfl⟩
  refine ⟨_, rfl, Kp.refl _, .tup _ _ rfl fun j hj => ?_⟩
  have : j = 0 ∨ j = 1 := by simp at hj; omega
  rcases this with rfl | rfl
  · exact .d _ _ (.val _ hr)
  · exact .d _ _ (.val _ hs)
def mulRen : Go.Shelf.Ren := ⟨fun | 264 => 147 | n => n, fun | 53 => 108 | 46 => 30 | n => n, fun | n => n⟩
theorem mulLays : Go.Proofs.Lays.n264 Try.prog mulRen := {
  mixed := by kernel_rfl
  f264 := Try.func147.trans (congrArg some (by kernel_rfl))
  t46 := Try.underlying30
  a46 := Try.isAgg30
  z46 := Try.sizeOf30
  v46 := Try.zeroValue30
  t53 := Try.underlying108
  a53 := Try.isAgg108
  z53 := Try.sizeOf108
  v53 := Try.zeroValue108 }
def hiI (x : Int) : Int := x / 18446744073709551616
def loI (x : Int) : Int := x % 18446744073709551616
theorem bits_Mul64 (x y : Int) (hx : 0 ≤ x) (hx2 : x < 18446744073709551616) (hy : 0 ≤ y) (hy2 : y < 18446744073709551616) : Pure TC 147 [.i .u64 x, .i .u64 y] (.tup [.i .u64 (hiI (x * y)), .i .u64 (loI (x * y))]) := by
  obtain ⟨n, rfl⟩ := Int.eq_ofNat_of_zero_le hx
  obtain ⟨m, rfl⟩ := Int.eq_ofNat_of_zero_le hy
  refine Pure.val2 (xs := [.int .u64 n, .int .u64 m]) (.mk Try.func147 rfl rfl) rfl rfl fun w => ?_
  refine (Any.bits_Mul64 mulLays n m (by omega) (by omega) w).mono ?_
  rintro e w' ⟨rfl, rfl⟩
  refine ⟨?_, rfl⟩
  simp [hiI, loI]
end Go.Proofs.Ytbdclkjelhlfbaa

namespace Go.Proofs.Ytbdclkjelhlfbaa
open Go.RowKit

/-- a slice of things, each of which lies in esz cells -/
def slOf {α : Type} [Inhabited α] (esz : Nat) (enc : α → List D) (xs : List α) : D := .sl esz xs.length fun i => enc (xs.getD i default)
def encI (k : IntKind) (n : Int) : List D := [.val (.int k n)]
theorem if_ii {c : Prop} [Decidable c] {k : IntKind} {x y : Int} : (if c then SV.i k x else SV.i k y) = SV.i k (if c then x else y) := by split <;> rfl

def tickB (n : Int) : Bool := decide (0 ≤ n) && decide (n ≤ 4611686018427387903)
theorem tickB_iff (n : Int) : tickB n = true ↔ 0 ≤ n ∧ n ≤ 4611686018427387903 := by simp [tickB]
theorem tickB_no (n : Int) : tickB n = false ↔ n < 0 ∨ 4611686018427387903 < n := by simp [tickB]; omega
def limE (T tau : Int) : Int := if tickB T = true ∧ 1 ≤ T ∧ tickB tau = true then 0 else 1

theorem tick_Form (n : Int) : Pure TC 26 [.i .i64 n] (.b (tickB n)) := by
  refine Pure.mk' Try.func26 rfl rfl (Nat.le_of_ble_eq_true rfl) ?_
  (repeat' (first
    | with_reducible refine Wp.seq ?_
    | with_reducible refine Wp.block ?_
    | ((with_reducible refine Wp.region ?_); conv => whnf)
    | ((with_reducible refine Wp.drawL TC_mixed ?_); conv => whnf)
    | ((with_reducible refine Wp.cond ?_); conv => whnf)
    | ((with_reducible refine Wp.ret ?_); conv => whnf)
    | ((with_reducible refine Wp.skip ?_); conv => whnf)
    | ((with_reducible refine Wp.exit ?_); conv => whnf)
    | ((with_reducible refine Go.mk ?_); conv => whnf)
    | ((with_reducible apply Eff1.of); conv => whnf)
    | with_reducible exact rfl
    | ((with_reducible refine Ov.ok (by first | exact IntWalk.i64_in _ (by omega) | exact IntWalk.u64_in _ (by omega) | exact IntWalk.u8_in _ (by omega) | exact IntWalk.u32_in _ (by omega) | exact IntWalk.i32_in _ (by omega) | exact IntWalk.u16_in _ (by omega)) ?_); conv => whnf)
    | (with_reducible refine Ov.sh1 (by with_unfolding_all exact rfl) ?_)
    | ((with_reducible refine Ov.quo (by omega) (by omega) (by omega) (fun _ _ => ?_)); conv => whnf)
    | ((with_reducible refine And.intro (show drawOK _ _ _ _ = true by kernel_rfl) ?_); conv => whnf)
    | ((with_reducible refine And.intro (by first | omega | exact Nat.le_of_ble_eq_true rfl) ?_); conv => whnf)
    | ((with_reducible refine And.intro ?hb ?_); (case hb => exact bytes_bd (Nat.le_of_ble_eq_true rfl) (by omega)); (conv => whnf))
    | ((refine DApp.a rfl rfl rfl rfl rfl rfl ?hb ?_); (case hb => first | exact bytes_bd (Nat.le_of_ble_eq_true rfl) (by omega) | omega); (conv => whnf))
    | ((refine DApp.b rfl rfl rfl rfl rfl rfl rfl rfl ?hb ?ho ?_); (case hb => first | exact bytes_bd (Nat.le_of_ble_eq_true rfl) (by omega) | omega); (case ho => omega); (conv => whnf))
    | ((refine DApp.c rfl rfl rfl rfl rfl ?hb ?_); (case hb => first | exact bytes_bd (Nat.le_of_ble_eq_true rfl) (by omega) | omega); (conv => whnf))
    | ((refine DApp.d rfl rfl rfl rfl rfl rfl ?hb ?ho ?_); (case hb => first | exact bytes_bd (Nat.le_of_ble_eq_true rfl) (by omega) | omega); (case ho => omega); (conv => whnf))
    | ((with_reducible refine nil_no (by omega) ?_); (conv => whnf))
    | ((with_reducible refine nil_any ?_ (fun hn0 => ?_)) <;> (conv => whnf))
    
    | ((refine ways (fun hc => ?_) (fun hc => ?_)) <;> (try simp only [decide_eq_true_eq, decide_eq_false_iff_not, Bool.and_eq_true, Bool.or_eq_true, Bool.and_eq_false_iff, Bool.or_eq_false_iff, Bool.not_eq_true', Bool.not_eq_false', beq_iff_eq, bne_iff_ne, ne_eq, beq_eq_false_iff_ne, bne_eq_false_iff_eq, Bool.not_eq_true, Bool.not_eq_false] at hc) <;> (try (exfalso; omega)) <;> (conv => whnf))))
  all_goals exact .b (by simp [tickB]; omega)
theorem rate_Check (T tau : Int) : Pure TC 120 [.agg [.i .i64 T, .i .i64 tau]] (.i .i64 (limE T tau)) := by
  refine Pure.mk' Try.func120 rfl rfl (Nat.le_of_ble_eq_true rfl) ?_
  (repeat' (first
    | with_reducible refine Wp.seq ?_
    | with_reducible refine Wp.block ?_
    | ((with_reducible refine Wp.region ?_); conv => whnf)
    | ((with_reducible refine Wp.drawL TC_mixed ?_); conv => whnf)
    | ((with_reducible refine Wp.cond ?_); conv => whnf)
    | ((with_reducible refine Wp.ret ?_); conv => whnf)
    | ((with_reducible refine Wp.skip ?_); conv => whnf)
    | ((with_reducible refine Wp.exit ?_); conv => whnf)
    | ((with_reducible refine Go.mk ?_); conv => whnf)
    | ((with_reducible apply Eff1.of); conv => whnf)
    | with_reducible exact rfl
    | ((with_reducible refine Ov.ok (by first | exact IntWalk.i64_in _ (by omega) | exact IntWalk.u64_in _ (by omega) | exact IntWalk.u8_in _ (by omega) | exact IntWalk.u32_in _ (by omega) | exact IntWalk.i32_in _ (by omega) | exact IntWalk.u16_in _ (by omega)) ?_); conv => whnf)
    | (with_reducible refine Ov.sh1 (by with_unfolding_all exact rfl) ?_)
    | ((with_reducible refine Ov.quo (by omega) (by omega) (by omega) (fun _ _ => ?_)); conv => whnf)
    | ((with_reducible refine And.intro (show drawOK _ _ _ _ = true by kernel_rfl) ?_); conv => whnf)
    | ((with_reducible refine And.intro (by first | omega | exact Nat.le_of_ble_eq_true rfl) ?_); conv => whnf)
    | ((with_reducible refine And.intro ?hb ?_); (case hb => exact bytes_bd (Nat.le_of_ble_eq_true rfl) (by omega)); (conv => whnf))
    | ((refine DApp.a rfl rfl rfl rfl rfl rfl ?hb ?_); (case hb => first | exact bytes_bd (Nat.le_of_ble_eq_true rfl) (by omega) | omega); (conv => whnf))
    | ((refine DApp.b rfl rfl rfl rfl rfl rfl rfl rfl ?hb ?ho ?_); (case hb => first | exact bytes_bd (Nat.le_of_ble_eq_true rfl) (by omega) | omega); (case ho => omega); (conv => whnf))
    | ((refine DApp.c rfl rfl rfl rfl rfl ?hb ?_); (case hb => first | exact bytes_bd (Nat.le_of_ble_eq_true rfl) (by omega) | omega); (conv => whnf))
    | ((refine DApp.d rfl rfl rfl rfl rfl rfl ?hb ?ho ?_); (case hb => first | exact bytes_bd (Nat.le_of_ble_eq_true rfl) (by omega) | omega); (case ho => omega); (conv => whnf))
    | ((with_reducible refine nil_no (by omega) ?_); (conv => whnf))
    | ((with_reducible refine nil_any ?_ (fun hn0 => ?_)) <;> (conv => whnf))
    | ((with_reducible refine CallStop.pure (tick_Form _) rfl rfl ?_); conv => whnf) | ((with_reducible refine DCall.pure (tick_Form _) rfl rfl ?_); conv => whnf)
    | ((refine ways (fun hc => ?_) (fun hc => ?_)) <;> (try simp only [decide_eq_true_eq, decide_eq_false_iff_not, Bool.and_eq_true, Bool.or_eq_true, Bool.and_eq_false_iff, Bool.or_eq_false_iff, Bool.not_eq_true', Bool.not_eq_false', beq_iff_eq, bne_iff_ne, ne_eq, beq_eq_false_iff_ne, bne_eq_false_iff_eq, Bool.not_eq_true, Bool.not_eq_false] at hc) <;> (try (exfalso; omega)) <;> (conv => whnf))))
  all_goals exact .i (by simp [limE, *]; try omega)
structure Pol where
  kind : Int
  T : Int
  tau : Int
  permits : Int
  deriving Inhabited
def Pol.D (p : Pol) : List D := [.val (.int .u8 p.kind), .val (.int .i64 p.T), .val (.int .i64 p.tau), .val (.int .i64 p.permits)]
def formB (k T tau m : Int) : Bool := if k = 1 then limE T tau == 0 else if k = 2 then decide (1 ≤ m) && decide (m ≤ 64) else false

theorem book_form (k T tau m : Int) : Pure TC 97 [.agg [.i .u8 k, .i .i64 T, .i .i64 tau, .i .i64 m]] (.b (formB k T tau m)) := by
  refine Pure.mk' Try.func97 rfl rfl (Nat.le_of_ble_eq_true rfl) ?_
  (repeat' (first
    | with_reducible refine Wp.seq ?_
    | with_reducible refine Wp.block ?_
    | ((with_reducible refine Wp.region ?_); conv => whnf)
    | ((with_reducible refine Wp.drawL TC_mixed ?_); conv => whnf)
    | ((with_reducible refine Wp.cond ?_); conv => whnf)
    | ((with_reducible refine Wp.ret ?_); conv => whnf)
    | ((with_reducible refine Wp.skip ?_); conv => whnf)
    | ((with_reducible refine Wp.exit ?_); conv => whnf)
    | ((with_reducible refine Go.mk ?_); conv => whnf)
    | ((with_reducible apply Eff1.of); conv => whnf)
    | with_reducible exact rfl
    | ((with_reducible refine Ov.ok (by first | exact IntWalk.i64_in _ (by omega) | exact IntWalk.u64_in _ (by omega) | exact IntWalk.u8_in _ (by omega) | exact IntWalk.u32_in _ (by omega) | exact IntWalk.i32_in _ (by omega) | exact IntWalk.u16_in _ (by omega)) ?_); conv => whnf)
    | (with_reducible refine Ov.sh1 (by with_unfolding_all exact rfl) ?_)
    | ((with_reducible refine Ov.quo (by omega) (by omega) (by omega) (fun _ _ => ?_)); conv => whnf)
    | ((with_reducible refine And.intro (show drawOK _ _ _ _ = true by kernel_rfl) ?_); conv => whnf)
    | ((with_reducible refine And.intro (by first | omega | exact Nat.le_of_ble_eq_true rfl) ?_); conv => whnf)
    | ((with_reducible refine And.intro ?hb ?_); (case hb => exact bytes_bd (Nat.le_of_ble_eq_true rfl) (by omega)); (conv => whnf))
    | ((refine DApp.a rfl rfl rfl rfl rfl rfl ?hb ?_); (case hb => first | exact bytes_bd (Nat.le_of_ble_eq_true rfl) (by omega) | omega); (conv => whnf))
    | ((refine DApp.b rfl rfl rfl rfl rfl rfl rfl rfl ?hb ?ho ?_); (case hb => first | exact bytes_bd (Nat.le_of_ble_eq_true rfl) (by omega) | omega); (case ho => omega); (conv => whnf))
    | ((refine DApp.c rfl rfl rfl rfl rfl ?hb ?_); (case hb => first | exact bytes_bd (Nat.le_of_ble_eq_true rfl) (by omega) | omega); (conv => whnf))
    | ((refine DApp.d rfl rfl rfl rfl rfl rfl ?hb ?ho ?_); (case hb => first | exact bytes_bd (Nat.le_of_ble_eq_true rfl) (by omega) | omega); (case ho => omega); (conv => whnf))
    | ((with_reducible refine nil_no (by omega) ?_); (conv => whnf))
    | ((with_reducible refine nil_any ?_ (fun hn0 => ?_)) <;> (conv => whnf))
    | ((with_reducible refine CallStop.pure (rate_Check _ _) rfl rfl ?_); conv => whnf) | ((with_reducible refine DCall.pure (rate_Check _ _) rfl rfl ?_); conv => whnf)
    | ((refine ways (fun hc => ?_) (fun hc => ?_)) <;> (try simp only [decide_eq_true_eq, decide_eq_false_iff_not, Bool.and_eq_true, Bool.or_eq_true, Bool.and_eq_false_iff, Bool.or_eq_false_iff, Bool.not_eq_true', Bool.not_eq_false', beq_iff_eq, bne_iff_ne, ne_eq, beq_eq_false_iff_ne, bne_eq_false_iff_eq, Bool.not_eq_true, Bool.not_eq_false] at hc) <;> (try (exfalso; omega)) <;> (conv => whnf))))
  all_goals exact .b (by simp [formB, *])
def polsE (ps : List Pol) : Int := if 32 < ps.length then 2 else if ps.all (fun p => formB p.kind p.T p.tau p.permits) then 0 else 3

theorem polsE_all {ps : List Pol} (h : ¬ 32 < ps.length) : polsE ps = if ps.all (fun p => formB p.kind p.T p.tau p.permits) then 0 else 3 := by simp [polsE, h]
theorem all_take_succ {α : Type} [Inhabited α] {f : α → Bool} {xs : List α} {k : Nat} (hk : k < xs.length) (h : (xs.take k).all f = true) (h2 : f (xs.getD k default) = true) : (xs.take (k + 1)).all f = true := by
  rw [List.take_succ_eq_append_getElem hk, List.all_append, h]
  simp only [List.getD, List.getElem?_eq_getElem hk, Option.getD_some] at h2
  simp [h2]
theorem not_all {α : Type} [Inhabited α] {f : α → Bool} {xs : List α} {k : Nat} (hk : k < xs.length) (h2 : f (xs.getD k default) = false) : xs.all f = false := by
  simp only [List.getD, List.getElem?_eq_getElem hk, Option.getD_some] at h2
  rw [List.all_eq_false]
  exact ⟨_, List.getElem_mem hk, by simp [h2]⟩

theorem book_Policies (ps : List Pol) : Pure TC 57 [.d (slOf 4 Pol.D ps)] (.i .i64 (polsE ps)) := by
  refine Pure.mk' Try.func57 rfl rfl (Nat.le_of_ble_eq_true rfl) ?_
  (repeat' (first
    | with_reducible refine Wp.seq ?_
    | with_reducible refine Wp.block ?_
    | ((with_reducible refine Wp.region ?_); conv => whnf)
    | ((with_reducible refine Wp.drawL TC_mixed ?_); conv => whnf)
    | ((with_reducible refine Wp.cond ?_); conv => whnf)
    | ((with_reducible refine Wp.ret ?_); conv => whnf)
    | ((with_reducible refine Wp.skip ?_); conv => whnf)
    | ((with_reducible refine Wp.exit ?_); conv => whnf)
    | ((with_reducible refine Go.mk ?_); conv => whnf)
    | ((with_reducible apply Eff1.of); conv => whnf)
    | with_reducible exact rfl
    | ((with_reducible refine Ov.ok (by first | exact IntWalk.i64_in _ (by omega) | exact IntWalk.u64_in _ (by omega) | exact IntWalk.u8_in _ (by omega) | exact IntWalk.u32_in _ (by omega) | exact IntWalk.i32_in _ (by omega) | exact IntWalk.u16_in _ (by omega)) ?_); conv => whnf)
    | (with_reducible refine Ov.sh1 (by with_unfolding_all exact rfl) ?_)
    | ((with_reducible refine Ov.quo (by omega) (by omega) (by omega) (fun _ _ => ?_)); conv => whnf)
    | ((with_reducible refine And.intro (show drawOK _ _ _ _ = true by kernel_rfl) ?_); conv => whnf)
    | ((with_reducible refine And.intro (by first | omega | exact Nat.le_of_ble_eq_true rfl) ?_); conv => whnf)
    | ((with_reducible refine And.intro ?hb ?_); (case hb => exact bytes_bd (Nat.le_of_ble_eq_true rfl) (by omega)); (conv => whnf))
    | ((refine DApp.a rfl rfl rfl rfl rfl rfl ?hb ?_); (case hb => first | exact bytes_bd (Nat.le_of_ble_eq_true rfl) (by omega) | omega); (conv => whnf))
    | ((refine DApp.b rfl rfl rfl rfl rfl rfl rfl rfl ?hb ?ho ?_); (case hb => first | exact bytes_bd (Nat.le_of_ble_eq_true rfl) (by omega) | omega); (case ho => omega); (conv => whnf))
    | ((refine DApp.c rfl rfl rfl rfl rfl ?hb ?_); (case hb => first | exact bytes_bd (Nat.le_of_ble_eq_true rfl) (by omega) | omega); (conv => whnf))
    | ((refine DApp.d rfl rfl rfl rfl rfl rfl ?hb ?ho ?_); (case hb => first | exact bytes_bd (Nat.le_of_ble_eq_true rfl) (by omega) | omega); (case ho => omega); (conv => whnf))
    | ((with_reducible refine nil_no (by omega) ?_); (conv => whnf))
    | ((with_reducible refine nil_any ?_ (fun hn0 => ?_)) <;> (conv => whnf))
    
    | ((refine ways (fun hc => ?_) (fun hc => ?_)) <;> (try simp only [decide_eq_true_eq, decide_eq_false_iff_not, Bool.and_eq_true, Bool.or_eq_true, Bool.and_eq_false_iff, Bool.or_eq_false_iff, Bool.not_eq_true', Bool.not_eq_false', beq_iff_eq, bne_iff_ne, ne_eq, beq_eq_false_iff_ne, bne_eq_false_iff_eq, Bool.not_eq_true, Bool.not_eq_false] at hc) <;> (try (exfalso; omega)) <;> (conv => whnf))))
  · exact .i (by simp [polsE]; omega)
  · refine Wp.loopP (fun k => k ≤ ps.length ∧ (ps.take k).all (fun p => formB p.kind p.T p.tau p.permits) = true) (fun k => ⟨⟨Try.f57.ntmps, 0⟩, 0, [(8, .d (slOf 4 Pol.D ps)), (9, .i .i64 ps.length), (10, .i .i64 k)], []⟩) (fun k => ps.length - k) 0 ⟨by simp, by simp⟩ ?_ ?_
    · (refine Le.by [] rfl rfl rfl rfl ?_ ?_ <;> (conv => whnf) <;> (repeat' (first | exact trivial | exact ArgLe.rfl rfl | exact ArgLe.ptr rfl | exact ArgLe.sl rfl | ((with_reducible refine ArgLe.fn ?_); (conv => whnf)) | ((refine ArgLe.iref ?_); (conv => whnf)) | exact ⟨rfl, rfl, rfl⟩ | exact fun i hi => rfl | ((with_reducible refine And.intro ?_ ?_) <;> (conv => whnf)))))
    · rintro k ⟨hk, hall⟩
      (repeat' (first
    | with_reducible refine Wp.seq ?_
    | with_reducible refine Wp.block ?_
    | ((with_reducible refine Wp.region ?_); conv => whnf)
    | ((with_reducible refine Wp.drawL TC_mixed ?_); conv => whnf)
    | ((with_reducible refine Wp.cond ?_); conv => whnf)
    | ((with_reducible refine Wp.ret ?_); conv => whnf)
    | ((with_reducible refine Wp.skip ?_); conv => whnf)
    | ((with_reducible refine Wp.exit ?_); conv => whnf)
    | ((with_reducible refine Go.mk ?_); conv => whnf)
    | ((with_reducible apply Eff1.of); conv => whnf)
    | with_reducible exact rfl
    | ((with_reducible refine Ov.ok (by first | exact IntWalk.i64_in _ (by omega) | exact IntWalk.u64_in _ (by omega) | exact IntWalk.u8_in _ (by omega) | exact IntWalk.u32_in _ (by omega) | exact IntWalk.i32_in _ (by omega) | exact IntWalk.u16_in _ (by omega)) ?_); conv => whnf)
    | (with_reducible refine Ov.sh1 (by with_unfolding_all exact rfl) ?_)
    | ((with_reducible refine Ov.quo (by omega) (by omega) (by omega) (fun _ _ => ?_)); conv => whnf)
    | ((with_reducible refine And.intro (show drawOK _ _ _ _ = true by kernel_rfl) ?_); conv => whnf)
    | ((with_reducible refine And.intro (by first | omega | exact Nat.le_of_ble_eq_true rfl) ?_); conv => whnf)
    | ((with_reducible refine And.intro ?hb ?_); (case hb => exact bytes_bd (Nat.le_of_ble_eq_true rfl) (by omega)); (conv => whnf))
    | ((refine DApp.a rfl rfl rfl rfl rfl rfl ?hb ?_); (case hb => first | exact bytes_bd (Nat.le_of_ble_eq_true rfl) (by omega) | omega); (conv => whnf))
    | ((refine DApp.b rfl rfl rfl rfl rfl rfl rfl rfl ?hb ?ho ?_); (case hb => first | exact bytes_bd (Nat.le_of_ble_eq_true rfl) (by omega) | omega); (case ho => omega); (conv => whnf))
    | ((refine DApp.c rfl rfl rfl rfl rfl ?hb ?_); (case hb => first | exact bytes_bd (Nat.le_of_ble_eq_true rfl) (by omega) | omega); (conv => whnf))
    | ((refine DApp.d rfl rfl rfl rfl rfl rfl ?hb ?ho ?_); (case hb => first | exact bytes_bd (Nat.le_of_ble_eq_true rfl) (by omega) | omega); (case ho => omega); (conv => whnf))
    | ((with_reducible refine nil_no (by omega) ?_); (conv => whnf))
    | ((with_reducible refine nil_any ?_ (fun hn0 => ?_)) <;> (conv => whnf))
    | ((with_reducible refine CallStop.pure (book_form _ _ _ _) rfl rfl ?_); conv => whnf) | ((with_reducible refine DCall.pure (book_form _ _ _ _) rfl rfl ?_); conv => whnf)
    | ((refine ways (fun hc => ?_) (fun hc => ?_)) <;> (try simp only [decide_eq_true_eq, decide_eq_false_iff_not, Bool.and_eq_true, Bool.or_eq_true, Bool.and_eq_false_iff, Bool.or_eq_false_iff, Bool.not_eq_true', Bool.not_eq_false', beq_iff_eq, bne_iff_ne, ne_eq, beq_eq_false_iff_ne, bne_eq_false_iff_eq, Bool.not_eq_true, Bool.not_eq_false] at hc) <;> (try (exfalso; omega)) <;> (conv => whnf))))
      · exact .i (by rw [polsE_all (by omega), not_all (k := k) (by omega) (by simpa using hc)]; rfl)
      · refine ⟨k + 1, ⟨by omega, all_take_succ (by omega) hall (by simpa using hc)⟩, by dsimp only; omega, ?_⟩
        (refine Le.by [] rfl rfl rfl rfl ?_ ?_ <;> (conv => whnf) <;> (repeat' (first | exact trivial | exact ArgLe.rfl rfl | exact ArgLe.ptr rfl | exact ArgLe.sl rfl | ((with_reducible refine ArgLe.fn ?_); (conv => whnf)) | ((refine ArgLe.iref ?_); (conv => whnf)) | exact ⟨rfl, rfl, rfl⟩ | exact fun i hi => rfl | ((with_reducible refine And.intro ?_ ?_) <;> (conv => whnf)))))
      · rw [List.take_of_length_le (by omega)] at hall
        exact .i (by rw [polsE_all (by omega), hall]; rfl)
def kindE (op : Int) : Int := if op = 1 then 1 else if op = 2 ∨ op = 3 then 2 else 0
theorem book_kind (op : Int) : Pure TC 108 [.i .u8 op] (.i .u8 (kindE op)) := by
  refine Pure.mk' Try.func108 rfl rfl (Nat.le_of_ble_eq_true rfl) ?_
  (repeat' (first
    | with_reducible refine Wp.seq ?_
    | with_reducible refine Wp.block ?_
    | ((with_reducible refine Wp.region ?_); conv => whnf)
    | ((with_reducible refine Wp.drawL TC_mixed ?_); conv => whnf)
    | ((with_reducible refine Wp.cond ?_); conv => whnf)
    | ((with_reducible refine Wp.ret ?_); conv => whnf)
    | ((with_reducible refine Wp.skip ?_); conv => whnf)
    | ((with_reducible refine Wp.exit ?_); conv => whnf)
    | ((with_reducible refine Go.mk ?_); conv => whnf)
    | ((with_reducible apply Eff1.of); conv => whnf)
    | with_reducible exact rfl
    | ((with_reducible refine Ov.ok (by first | exact IntWalk.i64_in _ (by omega) | exact IntWalk.u64_in _ (by omega) | exact IntWalk.u8_in _ (by omega) | exact IntWalk.u32_in _ (by omega) | exact IntWalk.i32_in _ (by omega) | exact IntWalk.u16_in _ (by omega)) ?_); conv => whnf)
    | (with_reducible refine Ov.sh1 (by with_unfolding_all exact rfl) ?_)
    | ((with_reducible refine Ov.quo (by omega) (by omega) (by omega) (fun _ _ => ?_)); conv => whnf)
    | ((with_reducible refine And.intro (show drawOK _ _ _ _ = true by kernel_rfl) ?_); conv => whnf)
    | ((with_reducible refine And.intro (by first | omega | exact Nat.le_of_ble_eq_true rfl) ?_); conv => whnf)
    | ((with_reducible refine And.intro ?hb ?_); (case hb => exact bytes_bd (Nat.le_of_ble_eq_true rfl) (by omega)); (conv => whnf))
    | ((refine DApp.a rfl rfl rfl rfl rfl rfl ?hb ?_); (case hb => first | exact bytes_bd (Nat.le_of_ble_eq_true rfl) (by omega) | omega); (conv => whnf))
    | ((refine DApp.b rfl rfl rfl rfl rfl rfl rfl rfl ?hb ?ho ?_); (case hb => first | exact bytes_bd (Nat.le_of_ble_eq_true rfl) (by omega) | omega); (case ho => omega); (conv => whnf))
    | ((refine DApp.c rfl rfl rfl rfl rfl ?hb ?_); (case hb => first | exact bytes_bd (Nat.le_of_ble_eq_true rfl) (by omega) | omega); (conv => whnf))
    | ((refine DApp.d rfl rfl rfl rfl rfl rfl ?hb ?ho ?_); (case hb => first | exact bytes_bd (Nat.le_of_ble_eq_true rfl) (by omega) | omega); (case ho => omega); (conv => whnf))
    | ((with_reducible refine nil_no (by omega) ?_); (conv => whnf))
    | ((with_reducible refine nil_any ?_ (fun hn0 => ?_)) <;> (conv => whnf))
    
    | ((refine ways (fun hc => ?_) (fun hc => ?_)) <;> (try simp only [decide_eq_true_eq, decide_eq_false_iff_not, Bool.and_eq_true, Bool.or_eq_true, Bool.and_eq_false_iff, Bool.or_eq_false_iff, Bool.not_eq_true', Bool.not_eq_false', beq_iff_eq, bne_iff_ne, ne_eq, beq_eq_false_iff_ne, bne_eq_false_iff_eq, Bool.not_eq_true, Bool.not_eq_false] at hc) <;> (try (exfalso; omega)) <;> (conv => whnf))))
  all_goals exact .i (by simp [kindE, *])
def bsF (lt : Nat → Bool) : Nat → Nat → Nat → Nat
  | 0, i, _ => i
  | n + 1, i, j => if i < j then (if lt ((i + j) / 2) then bsF lt n ((i + j) / 2 + 1) j else bsF lt n i ((i + j) / 2)) else i
def bs (lt : Nat → Bool) (n : Nat) : Nat := bsF lt (n + 1) 0 n
theorem bsF_end {lt : Nat → Bool} {q i j : Nat} (h : ¬ i < j) : bsF lt q i j = i := by cases q <;> simp [bsF, h]
end Go.Proofs.Ytbdclkjelhlfbaa

namespace Go.Proofs.Ytbdclkjelhlfbaa
open Go.RowKit
set_option maxRecDepth 100000

def IsB (xs : List Int) : Prop := ∀ x ∈ xs, 0 ≤ x ∧ x ≤ 255
theorem IsB.cons {x : Int} {xs : List Int} (h : IsB (x :: xs)) : (0 ≤ x ∧ x ≤ 255) ∧ IsB xs := ⟨h x (by simp), fun y hy => h y (by simp [hy])⟩
def cmpI : List Int → List Int → Int
  | [], [] => 0
  | [], _ :: _ => -1
  | _ :: _, [] => 1
  | a :: r, b :: s => if a < b then -1 else if b < a then 1 else cmpI r s
theorem cmpI_bytes : ∀ (a b : List Int), IsB a → IsB b → Lib.compareBytes (Lib.bytesOf a) (Lib.bytesOf b) = cmpI a b
  | [], [], _, _ => rfl
  | [], _ :: _, _, _ => rfl
  | _ :: _, [], _, _ => rfl
  | x :: a, y :: b, ha, hb => by
    obtain ⟨hx, ha'⟩ := ha.cons
    obtain ⟨hy, hb'⟩ := hb.cons
    have ih := cmpI_bytes a b ha' hb'
    have e1 : (x.toNat.toUInt8 < y.toNat.toUInt8) ↔ x < y := by
      rw [UInt8.lt_iff_toNat_lt]; simp only [Nat.toUInt8, UInt8.toNat_ofNat']; omega
    have e2 : (y.toNat.toUInt8 < x.toNat.toUInt8) ↔ y < x := by
      rw [UInt8.lt_iff_toNat_lt]; simp only [Nat.toUInt8, UInt8.toNat_ofNat']; omega
    show Lib.compareBytes (x.toNat.toUInt8 :: Lib.bytesOf a) (y.toNat.toUInt8 :: Lib.bytesOf b) = _
    simp only [Lib.compareBytes, cmpI, e1, e2, ih]
theorem run_bytesOf {P : Program} {Im : Nat → Prop} {w : World} {v : Value} {xs : List Int} (h : RD w Im (slOf 1 (encI .u8) xs) v) : (∃ a cap, v = .slice a xs.length cap) ∧ (Extern.Bytes.bytesOf v).run P w = .ok ⟨(Lib.bytesOf xs).toArray⟩ w := by
  cases h with
  | sl _ _ _ a cap g hc hm hl ha hg =>
    refine ⟨⟨a, cap, rfl⟩, ?_⟩
    cases a with
    | none =>
      cases xs with
      | nil => simp [Extern.Bytes.bytesOf, Lib.bytesOf]; rfl
      | cons x r => obtain ⟨b, o, e, _⟩ := ha (by simp); cases e
    | some ad =>
      have := Lib.run_loadBytesX (P := P) w xs ad .empty (fun j x hj => by
        have hjl := (List.getElem?_eq_some_iff.1 hj).1
        obtain ⟨b, o, e, _, hcell⟩ := ha (by omega)
        cases e
        have h1 := hcell j 0 hjl (by omega)
        have h2 := hg j 0 hjl (by simp [encI])
        have h3 : (encI .u8 (xs.getD j default))[0]'(by simp [encI]) = .val (.int .u8 x) := by
          simp [encI, List.getD, hj]
        rw [h3] at h2
        have h4 : g j 0 = .int .u8 x := by generalize g j 0 = y at h2; cases h2; rfl
        rw [h4] at h1
        rw [Addr.add_lit]
        simpa using h1)
      simp only [Extern.Bytes.bytesOf, this]
      simp
set_option maxHeartbeats 400000 in
set_option maxRecDepth 100000 in
theorem bytes_Compare (a b : List Int) (ba : IsB a) (bb : IsB b) : Pure TC 118 [.d (slOf 1 (encI .u8) a), .d (slOf 1 (encI .u8) b)] (.i .i64 (cmpI a b)) := by
  refine ⟨.mk Try.func118 rfl rfl, fun E w vs hIm hsz hargs => ?_⟩
  obtain ⟨va, vb, rfl⟩ : ∃ va vb, vs = #[va, vb] := ⟨vs[0]'(by simp at hsz; omega), vs[1]'(by simp at hsz; omega), by
    apply Array.ext (by simpa using hsz)
    intro i h1 h2
    have : i = 0 ∨ i = 1 := by simp at h2; omega
    rcases this with rfl | rfl <;> rfl⟩
  have ha : RD w E.Im (slOf 1 (encI .u8) a) va := by
    have := hargs 0 (by simp)
    cases this with | d _ _ h => exact h
  have hb : RD w E.Im (slOf 1 (encI .u8) b) vb := by
    have := hargs 1 (by simp)
    cases this with | d _ _ h => exact h
  obtain ⟨⟨a1, c1, rfl⟩, h1⟩ := run_bytesOf (P := Try.prog) ha
  obtain ⟨⟨a2, c2, rfl⟩, h2⟩ := run_bytesOf (P := Try.prog) hb
  have hr : (callFunc 135 #[.slice a1 a.length c1, .slice a2 b.length c2]).run Try.prog w = .ok (.value (.int .i64 (cmpI a b))) w := by
    rw [run_callFunc_extern Try.func135 (by kernel_rfl) (by kernel_rfl) (by kernel_rfl) (e := Extern.BytealgCompare.compare) (by kernel_rfl)]
    have h3 : (Extern.BytealgCompare.compare #[.slice a1 a.length c1, .slice a2 b.length c2]).run Try.prog w = .ok (.int .i64 (cmpI a b)) w := by
      change Sem.run Try.prog (do pure (goInt (Extern.BytealgCompare.cmp (← Extern.Bytes.bytesOf (.slice a1 a.length c1)) (← Extern.Bytes.bytesOf (.slice a2 b.length c2))))) w = _
      simp only [Sem.run_bind, h1, h2, Result.andThen_ok, Sem.run_pure, Lib.cmp_eq]
      rw [cmpI_bytes a b ba bb]
      rfl
    rw [h3]; rfl
  have hc : Calls Try.prog 118 #[.slice a1 a.length c1, .slice a2 b.length c2] w fun e w' => e = .returned (.int .i64 (cmpI a b)) ∧ w = w' := by
    clear ha hb ba bb h1 h2 hargs hIm hsz
    go_enter Try.func118, Try.ntmps118
    go_wp2_with (rw [hr])
    go_ret
    exact ⟨rfl, rfl⟩
  refine hc.mono ?_
  rintro e w' ⟨rfl, rfl⟩
  exact ⟨_, rfl, Kp.refl _, .d _ _ (.val _ rfl)⟩
theorem hash_Order (a b : List Int) (ba : IsB a) (bb : IsB b) : Pure TC 94 [.d (slOf 1 (encI .u8) a), .d (slOf 1 (encI .u8) b)] (.i .i64 (cmpI a b)) := by
  refine Pure.mk' Try.func94 rfl rfl (Nat.le_of_ble_eq_true rfl) ?_
  (repeat' (first
    | with_reducible refine Wp.seq ?_
    | with_reducible refine Wp.block ?_
    | ((with_reducible refine Wp.region ?_); conv => whnf)
    | ((with_reducible refine Wp.drawL TC_mixed ?_); conv => whnf)
    | ((with_reducible refine Wp.cond ?_); conv => whnf)
    | ((with_reducible refine Wp.ret ?_); conv => whnf)
    | ((with_reducible refine Wp.skip ?_); conv => whnf)
    | ((with_reducible refine Wp.exit ?_); conv => whnf)
    | ((with_reducible refine Go.mk ?_); conv => whnf)
    | ((with_reducible apply Eff1.of); conv => whnf)
    | with_reducible exact rfl
    | ((with_reducible refine Ov.ok (by first | exact IntWalk.i64_in _ (by omega) | exact IntWalk.u64_in _ (by omega) | exact IntWalk.u8_in _ (by omega) | exact IntWalk.u32_in _ (by omega) | exact IntWalk.i32_in _ (by omega) | exact IntWalk.u16_in _ (by omega)) ?_); conv => whnf)
    | (with_reducible refine Ov.sh1 (by with_unfolding_all exact rfl) ?_)
    | ((with_reducible refine Ov.quo (by omega) (by omega) (by omega) (fun _ _ => ?_)); conv => whnf)
    | ((with_reducible refine And.intro (show drawOK _ _ _ _ = true by kernel_rfl) ?_); conv => whnf)
    | ((with_reducible refine And.intro (by first | omega | exact Nat.le_of_ble_eq_true rfl) ?_); conv => whnf)
    | ((with_reducible refine And.intro ?hb ?_); (case hb => exact bytes_bd (Nat.le_of_ble_eq_true rfl) (by omega)); (conv => whnf))
    | ((refine DApp.a rfl rfl rfl rfl rfl rfl ?hb ?_); (case hb => first | exact bytes_bd (Nat.le_of_ble_eq_true rfl) (by omega) | omega); (conv => whnf))
    | ((refine DApp.b rfl rfl rfl rfl rfl rfl rfl rfl ?hb ?ho ?_); (case hb => first | exact bytes_bd (Nat.le_of_ble_eq_true rfl) (by omega) | omega); (case ho => omega); (conv => whnf))
    | ((refine DApp.c rfl rfl rfl rfl rfl ?hb ?_); (case hb => first | exact bytes_bd (Nat.le_of_ble_eq_true rfl) (by omega) | omega); (conv => whnf))
    | ((refine DApp.d rfl rfl rfl rfl rfl rfl ?hb ?ho ?_); (case hb => first | exact bytes_bd (Nat.le_of_ble_eq_true rfl) (by omega) | omega); (case ho => omega); (conv => whnf))
    | ((with_reducible refine nil_no (by omega) ?_); (conv => whnf))
    | ((with_reducible refine nil_any ?_ (fun hn0 => ?_)) <;> (conv => whnf))
    | ((with_reducible refine CallStop.pure (bytes_Compare a b ba bb) rfl rfl ?_); conv => whnf) | ((with_reducible refine DCall.pure (bytes_Compare a b ba bb) rfl rfl ?_); conv => whnf)
    | ((refine ways (fun hc => ?_) (fun hc => ?_)) <;> (try simp only [decide_eq_true_eq, decide_eq_false_iff_not, Bool.and_eq_true, Bool.or_eq_true, Bool.and_eq_false_iff, Bool.or_eq_false_iff, Bool.not_eq_true', Bool.not_eq_false', beq_iff_eq, bne_iff_ne, ne_eq, beq_eq_false_iff_ne, bne_eq_false_iff_eq, Bool.not_eq_true, Bool.not_eq_false] at hc) <;> (try (exfalso; omega)) <;> (conv => whnf))))
  exact .i rfl
end Go.Proofs.Ytbdclkjelhlfbaa

namespace Go.Proofs.Ytbdclkjelhlfbaa
open Go.RowKit

/-- the shape of a cell -/
inductive Sh where
  | int (k : IntKind)
  | bool
  | str
  | sl (z : Nat) (es : List Sh)
mutual
inductive FitD : Sh → D → Prop
  | int {k : IntKind} {n : Int} (h : (Lit.int k n).wf = true) : FitD (.int k) (.val (.int k n))
  | bool (b : Bool) : FitD .bool (.val (.bool b))
  | str (s : ByteArray) (h : s.size ≤ maxLen) : FitD .str (.val (.string s))
  | sl {z : Nat} {es : List Sh} {n : Nat} {f : Nat → List D} (hn : n ≤ maxLen) (h : ∀ i, i < n → FitL es (f i)) : FitD (.sl z es) (.sl z n f)
inductive FitL : List Sh → List D → Prop
  | nil : FitL [] []
  | cons {s : Sh} {d : D} {ss : List Sh} {ds : List D} (h : FitD s d) (t : FitL ss ds) : FitL (s :: ss) (d :: ds)
end
theorem FitL.len : ∀ {ss : List Sh} {ds : List D}, FitL ss ds → ds.length = ss.length
  | _, _, .nil => rfl
  | _, _, .cons _ t => by simp [FitL.len t]
theorem FitL.append : ∀ {ss ss' : List Sh} {ds ds' : List D}, FitL ss ds → FitL ss' ds' → FitL (ss ++ ss') (ds ++ ds')
  | _, _, _, _, .nil, h => h
  | _, _, _, _, .cons h t, h' => .cons h (t.append h')

def shF (r : TypeId → Option (List Sh)) (c : TypeId → Nat) : List Field → Nat → Option (List Sh)
  | [], _ => some []
  | f :: fs, o => if f.offset = o then (r f.type).bind fun a => if a.length = c f.type then (shF r c fs (o + a.length)).map (a ++ ·) else none else none
def shT (P : Program) : Nat → TypeId → Option (List Sh)
  | 0, _ => none
  | n + 1, t => match P.underlying t with
    | some .bool => some [.bool]
    | some (.int k) => some [.int k]
    | some .string => some [.str]
    | some (.slice e) => (shT P n e).bind fun es => if es.length = P.cellsOf e then some [.sl (P.cellsOf e) es] else none
    | some (.struct fs) => (shF (shT P n) P.cellsOf fs.toList 0).bind fun a => if a.length = P.cellsOf t then some a else none
    | _ => none

/-- cells, told -/
structure RLs (w : World) (ds : List D) (cs : List Value) : Prop where
  len : ds.length = cs.length
  out : ∀ (j : Nat) (d : D) (c : Value), ds[j]? = some d → cs[j]? = some c → RD w (fun b => b < w.heap.size) d c
theorem RLs.nil (w : World) : RLs w [] [] := ⟨rfl, fun j d c h => by simp at h⟩
theorem RLs.one {w : World} {d : D} {c : Value} (h : RD w (fun b => b < w.heap.size) d c) : RLs w [d] [c] := ⟨rfl, fun j d' c' hd hc => by
  cases j with
  | zero => simp at hd hc; subst hd hc; exact h
  | succ j => simp at hd⟩
theorem RLs.append {w : World} {ds ds' : List D} {cs cs' : List Value} (h : RLs w ds cs) (h' : RLs w ds' cs') : RLs w (ds ++ ds') (cs ++ cs') := by
  have hl := h.len
  refine ⟨by simp [h.len, h'.len], fun j d c hd hc => ?_⟩
  by_cases hj : j < ds.length
  · rw [List.getElem?_append_left hj] at hd
    rw [List.getElem?_append_left (by omega)] at hc
    exact h.out j d c hd hc
  · rw [List.getElem?_append_right (by omega)] at hd
    rw [List.getElem?_append_right (by omega)] at hc
    rw [← hl] at hc
    exact h'.out _ d c hd hc

section
variable {H : Type} {enc : TypeId × Value → H} {P : Program} {w : World} {spare : Nat → Bool}
theorem fit_fields {r : TypeId → Option (List Sh)} {c : TypeId → Nat} {cs : List Value} : ∀ (fs : List Field) (o : Nat) (a : List Sh), shF r c fs o = some a → o + a.length ≤ cs.length →
    (∀ f ∈ fs, ∀ b, r f.type = some b → ∃ ds, FitL b ds ∧ RLs w ds ((cs.drop f.offset).take (c f.type))) → ∃ ds, FitL a ds ∧ RLs w ds ((cs.drop o).take a.length)
  | [], o, a, h, hl, hr => by
    simp only [shF, Option.some.injEq] at h; subst h
    exact ⟨[], .nil, by simpa using RLs.nil w⟩
  | f :: fs, o, a, h, hl, hr => by
    unfold shF at h
    split at h
    · rename_i ho
      obtain ⟨b, hb, h⟩ := Option.bind_eq_some_iff.1 h
      split at h
      · rename_i hc
        obtain ⟨a', ha', rfl⟩ := Option.map_eq_some_iff.1 h
        rw [List.length_append] at hl
        obtain ⟨ds, h1, h2⟩ := hr f (by simp) b hb
        obtain ⟨ds', h3, h4⟩ := fit_fields fs _ a' ha' (by omega) (fun g hg => hr g (by simp [hg]))
        refine ⟨ds ++ ds', h1.append h3, ?_⟩
        rw [ho, ← hc] at h2
        have := h2.append h4
        rw [show (cs.drop o).take (b ++ a').length = (cs.drop o).take b.length ++ (cs.drop (o + b.length)).take a'.length by
          rw [List.length_append, List.take_add, List.drop_drop]]
        exact this
      · cases h
    · cases h
theorem spot_none {a : Addr} {v : Value} (h : w.cell? (a.add 0) = some v) : a.spot = none := by
  have := World.cell?_spot h
  unfold Addr.add at this
  simpa using this
theorem opened : ∀ (m fuel : Nat) (t : TypeId) (cs : List Value) (x : DataW H × List MemPlace) (shs : List Sh), DataW.trod enc P w 0 spare true fuel t cs = some x → shT P m t = some shs → ∃ ds, FitL shs ds ∧ RLs w ds cs
  | 0, fuel, t, cs, x, shs, h, hs => by simp [shT] at hs
  | m + 1, 0, t, cs, x, shs, h, hs => by simp [DataW.trod] at h
  | m + 1, fuel + 1, t, cs, x, shs, h, hs => by
    have ih := fun fuel t cs x shs h hs => opened m fuel t cs x shs h hs
    unfold shT at hs
    split at hs
    · rename_i hu
      cases hs
      unfold DataW.trod at h
      rw [hu] at h
      split at h <;> simp_all
      exact ⟨_, .cons (.bool _) .nil, .one (.val _ rfl)⟩
    · rename_i k hu
      cases hs
      unfold DataW.trod at h
      rw [hu] at h
      split at h <;> simp_all
      rename_i n _ _
      obtain ⟨⟨rfl, hw⟩, _⟩ := h
      exact ⟨_, .cons (.int hw) .nil, .one (.val _ rfl)⟩
    · rename_i hu
      cases hs
      unfold DataW.trod at h
      rw [hu] at h
      split at h <;> simp_all
      exact ⟨_, .cons (.str _ h.1) .nil, .one (.val _ rfl)⟩
    · rename_i e hu
      obtain ⟨es, he, hs⟩ := Option.bind_eq_some_iff.1 hs
      split at hs
      case isFalse => cases hs
      rename_i hz
      cases hs
      rcases Go.Deep.open_slice hu h with ⟨rfl, _⟩ | ⟨a, len, cap, mm, n, Dd, Pl, rfl, _, hl, hm, hmm, _, hel⟩
      · refine ⟨[.sl (P.cellsOf e) 0 fun _ => []], .cons (.sl (by unfold maxLen; omega) fun i hi => by omega) .nil, .one (.sl _ 0 _ none 0 (fun _ _ => undef) (Nat.le_refl _) (by unfold maxLen; omega) (fun i hi => by omega) (fun h => by omega) (fun i j hi => by omega))⟩
      · have hle : len ≤ mm := by rw [hmm]; split <;> omega
        have hx : ∀ i, ∃ p : List Value × List D, i < len → w.cells? 0 (a.add (i * P.cellsOf e)) (P.cellsOf e) = some p.1 ∧ FitL es p.2 ∧ RLs w p.2 p.1 := fun i => by
          by_cases hi : i < len
          · obtain ⟨cs', h1, h2⟩ := hel i (by omega)
            obtain ⟨ds, h3, h4⟩ := ih _ _ _ _ _ h2 he
            exact ⟨(cs', ds), fun _ => ⟨h1, h3, h4⟩⟩
          · exact ⟨([], []), fun h => absurd h hi⟩
        obtain ⟨F, hF⟩ := Classical.axiomOfChoice hx
        refine ⟨[.sl (P.cellsOf e) len fun i => (F i).2], .cons (.sl (by omega) fun i hi => (hF i hi).2.1) .nil, .one (.sl _ len _ (some a) cap (fun i j => ((F i).1[j]?).getD undef) hl hm (fun i hi => by rw [(hF i hi).2.1.len, hz]) (fun h0 => ?_) (fun i j hi hj => ?_))⟩
        · have h0' : 0 < len ∧ 0 < P.cellsOf e := ⟨Nat.pos_of_ne_zero fun h => by subst h; simp at h0, Nat.pos_of_ne_zero fun h => by rw [h] at h0; simp at h0⟩
          have hcell : ∀ i j, i < len → j < P.cellsOf e → ∃ v, (F i).1[j]? = some v ∧ w.cell? ((a.add (i * P.cellsOf e)).add j) = some v := fun i j hi hj => by
            obtain ⟨_, k2, k3⟩ := World.cells?_some (hF i hi).1
            have hj' : j < (F i).1.length := by omega
            refine ⟨_, List.getElem?_eq_getElem hj', ?_⟩
            rw [k3 j hj, List.getElem?_eq_getElem hj']
          obtain ⟨v0, _, c0⟩ := hcell 0 0 h0'.1 h0'.2
          rw [Nat.zero_mul] at c0
          have hsp : a.spot = none := spot_none (by
            have := World.cell?_spot c0
            have e1 : (a.add 0) = a := by unfold Addr.add; simp
            rw [e1] at c0; exact c0)
          obtain ⟨b, o, sp⟩ := a
          simp only at hsp
          subst hsp
          refine ⟨b, o, rfl, ?_, fun i j hi hj => ?_⟩
          · rw [Addr.add_mid, Addr.add_mid] at c0
            exact World.block_lt_of_cell? w _ c0
          · obtain ⟨v, k1, k2⟩ := hcell i j hi hj
            rw [Addr.add_mid, Addr.add_mid] at k2
            rw [k2, k1]; rfl
        · have h9 := (hF i hi).2.2
          have hl9 := h9.len
          have hj' : j < (F i).1.length := by rw [← hl9]; exact hj
          exact h9.out j _ _ (List.getElem?_eq_getElem hj) (by rw [List.getElem?_eq_getElem hj']; rfl)
    · rename_i fs hu
      obtain ⟨a, ha, hs⟩ := Option.bind_eq_some_iff.1 hs
      split at hs
      case isFalse => cases hs
      rename_i hz
      cases hs
      obtain ⟨xs, n, _, _, hl, _, hf⟩ := DataW.trod_struct hu h
      obtain ⟨ds, h1, h2⟩ := fit_fields (w := w) (cs := cs) fs.toList 0 shs ha (by omega) (fun f hf' b hb => by
        obtain ⟨i, hi, e⟩ := List.getElem_of_mem hf'
        have hi' : i < fs.size := by simpa using hi
        have hfi : fs[i]? = some f := by rw [Array.getElem?_eq_getElem hi']; rw [← e]; simp
        have hq := hf i f hfi
        rename_i hxl _
        have hxi : ∃ y, xs[i]? = some y := ⟨xs[i]'(by omega), List.getElem?_eq_getElem _⟩
        obtain ⟨y, hy⟩ := hxi
        rw [hy] at hq
        exact ih _ _ _ _ _ hq hb)
      refine ⟨ds, h1, ?_⟩
      rw [List.drop_zero, hz, ← hl, List.take_length] at h2
      exact h2
    · cases hs
end
end Go.Proofs.Ytbdclkjelhlfbaa
