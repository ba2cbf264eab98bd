/- Parts of the proof, one behind the other: Sx24. Lemmas and contracts of functions; no condition of its own. -/
import Derived.Test.YtbdclkjelhlfbaaGreatM4
set_option linter.unusedVariables false
set_option linter.unusedSimpArgs false
namespace Go.Proofs.YtbdclkjelhlfbaaGreat
open Go.RowKit
structure Seal (S : St) (L : List Nat) (x y : SV) : Prop where
  out : ∀ O E a w v, Sat O E S a w → RS E S.nx w x v → RS (E.end S L) L.length w y v
def Seals (S : St) (L : List Nat) : List SV → List SV → Prop
  | [], [] => True
  | x :: xs, y :: ys => Seal S L x y ∧ Seals S L xs ys
  | _, _ => False
theorem Seals.out {S : St} {L : List Nat} : ∀ {xs ys : List SV}, Seals S L xs ys → xs.length = ys.length ∧ ∀ (j : Nat) (y : SV), ys[j]? = some y → ∃ x, xs[j]? = some x ∧ Seal S L x y
  | [], [], _ => ⟨rfl, fun j y h => by simp at h⟩
  | x :: xs, y :: ys, ⟨h1, h2⟩ => by
    obtain ⟨g1, g2⟩ := Seals.out h2
    refine ⟨by simp [g1], fun j z hz => ?_⟩
    cases j with
    | zero => simp at hz; subst hz; exact ⟨x, rfl, h1⟩
    | succ j => simp at hz; exact g2 j z hz
  | [], _ :: _, h => h.elim
  | _ :: _, [], h => h.elim
theorem Seals.at {S : St} {L : List Nat} {xs ys : List SV} (h : Seals S L xs ys) {j : Nat} (hj : j < ys.length) : ∃ hj' : j < xs.length, Seal S L xs[j] ys[j] := by
  obtain ⟨h1, h2⟩ := h.out
  obtain ⟨x, g1, g2⟩ := h2 j _ (List.getElem?_eq_getElem hj)
  obtain ⟨q1, q2⟩ := List.getElem?_eq_some_iff.1 g1
  exact ⟨q1, by rw [q2]; exact g2⟩
variable {S : St} {L : List Nat}
theorem Seal.any {x : SV} : Seal S L x .any := ⟨fun _ _ _ _ _ _ _ => .any _⟩
theorem Seal.d {x : D} : Seal S L (.d x) (.d x) := ⟨fun O E a w v hs hv => by cases hv with | d _ _ hv => exact .d _ _ (hv.mono (fun _ hb => Or.inl hb) fun _ _ => rfl)⟩
theorem Seal.le {x y z : SV} (h : Seal S L x y) (hl : SV.Le y z) : Seal S L x z := ⟨fun O E a w v hs hv => hl.out _ _ _ _ (h.out O E a w v hs hv)⟩
theorem Seal.pre {x y z : SV} (hl : SV.Le x y) (h : Seal S L y z) : Seal S L x z := ⟨fun O E a w v hs hv => h.out O E a w v hs (hl.out _ _ _ _ hv)⟩
theorem Seal.ptrL {l o i : Nat} (hi : idxK L l = some i) : Seal S L (.ptr l o) (.ptr i o) := by
  obtain ⟨h1, h2⟩ := idxK_some hi
  refine ⟨fun O E a w v hs hv => ?_⟩
  cases hv with
  | ptr _ _ hl =>
    have := RS.ptr (E := E.end S L) (nx := L.length) (w := w) i o h1
    simp only [Env.end, h2] at this; exact this
theorem Seal.slL {l z o n i : Nat} (hi : idxK L l = some i) : Seal S L (.sl l z o n) (.sl i z o n) := by
  obtain ⟨h1, h2⟩ := idxK_some hi
  refine ⟨fun O E a w v hs hv => ?_⟩
  cases hv with
  | sl _ _ _ _ ad cap hl hc hm ha h0 => exact .sl i z o n ad cap h1 hc hm (by simp only [Env.end, h2]; exact ha) (by simp only [Env.end, h2]; exact h0)
theorem Seal.ptr {l o : Nat} {cs ds : List SV} (hi : idxK L l = none) (hl : lkh S.hp l = some (.cells cs)) (h : Seals S L cs ds) : Seal S L (.ptr l o) (.iref ds o) := by
  refine ⟨fun O E a w v hs hv => ?_⟩
  cases hv with
  | ptr _ _ hlx =>
    obtain ⟨vs, T, g1, g2, g3⟩ := hs.hp l _ hl
    have hlen := h.out.1
    have := RS.iref (E := E.end S L) (nx := L.length) (w := w) ds o (E.ρ l) 0 (fun j => vs.getD j undef) (Or.inr ⟨l, _, hl, trivial, rfl, idxK_none hi⟩) (fun j hj => by
        have hj' : j < vs.size := by omega
        simp [World.cell?, g1, Array.getD, hj']) (fun j hj => (g3 j (by omega)).2) (fun j hj => by
        obtain ⟨q1, q2⟩ := h.at hj
        exact q2.out O E a w _ hs (g3 j q1).1)
    rwa [Nat.zero_add] at this
theorem Seal.sl {l e z o n m : Nat} {f : Nat → List D} (hi : idxK L l = none) (hl : lkh S.hp l = some (.row e z m f)) (hn : o + n ≤ m) : Seal S L (.sl l z o n) (.d (.sl z n fun i => f (o + i))) := by
  refine ⟨fun O E a w v hs hv => ?_⟩
  have hI : ∀ b, E.Im b → (E.end S L).Im b := fun b hb => Or.inl hb
  obtain ⟨y, h1, h2⟩ := sealD_fine (ρ' := (E.end S L).ρ) (κ' := (E.end S L).κ) (m' := L.length) (k := fun y => y = .d (.sl z n fun i => f (o + i))) hs hI hv (fun l' b hl' hb hr => by
      have : SV.lab (.sl l z o n) = some l := rfl
      rw [this] at hl'; cases hl'; exact Or.inr ⟨l, b, hb, hr, rfl, idxK_none hi⟩) (by simp only [sealD, hl]; simp [hn])
  rw [h1] at h2; exact h2
theorem Seal.fn {f : Fn} {cs ds : List SV} (h : Seals S L cs ds) : Seal S L (.fn f cs) (.fn f ds) := by
  refine ⟨fun O E a w v hs hv => ?_⟩
  cases hv with
  | fn _ _ us hsz hh => exact .fn _ _ us (by have := h.out.1; omega) fun j hj => by obtain ⟨q1, q2⟩ := h.at hj; exact q2.out O E a w _ hs (hh j q1)
theorem Seal.agg {cs ds : List SV} (h : Seals S L cs ds) : Seal S L (.agg cs) (.agg ds) := by
  refine ⟨fun O E a w v hs hv => ?_⟩
  cases hv with
  | agg _ us hsz h1 hh => exact .agg _ us (by have := h.out.1; omega) h1 fun j hj => by obtain ⟨q1, q2⟩ := h.at hj; exact q2.out O E a w _ hs (hh j q1)
theorem Seal.tup {cs ds : List SV} (h : Seals S L cs ds) : Seal S L (.tup cs) (.tup ds) := by
  refine ⟨fun O E a w v hs hv => ?_⟩
  cases hv with
  | tup _ us hsz hh => exact .tup _ us (by have := h.out.1; omega) fun j hj => by obtain ⟨q1, q2⟩ := h.at hj; exact q2.out O E a w _ hs (hh j q1)
theorem Seal.iref {cs ds : List SV} {o : Nat} (h : Seals S L cs ds) : Seal S L (.iref cs o) (.iref ds o) := by
  refine ⟨fun O E a w v hs hv => ?_⟩
  have hlen := h.out.1
  cases hv with
  | iref _ _ b p g hb hcell h1 hh => exact .iref _ _ b p g (Or.inl hb) (fun j hj => hcell j (by omega)) (fun j hj => h1 j (by omega)) fun j hj => by obtain ⟨q1, q2⟩ := h.at hj; exact q2.out O E a w _ hs (hh j q1)
theorem Seal.lt0 {x : SV} (h : SV.Lt 0 x) : Seal S L x x := ⟨fun O E a w v hs hv => RS.congr (E := E) (m := 0) (fun l hl => by omega) (Nat.zero_le _) (fun _ hb => Or.inl hb) h hv⟩
theorem Seal.same {x : SV} {m : Nat} (h : SV.Lt m x) (hm : m ≤ L.length) (hid : ∀ i, i < m → L.getD i 0 = i) : Seal S L x x :=
  ⟨fun O E a w v hs hv => RS.congr (E := E) (m := m) (fun l hl => by simp only [Env.end]; rw [hid l hl]; exact ⟨rfl, rfl⟩) hm (fun _ hb => Or.inl hb) h hv⟩
structure DLe (x y : D) : Prop where
  out : ∀ w Im v, RD w Im x v → RD w Im y v
theorem DLe.refl (x : D) : DLe x x := ⟨fun _ _ _ h => h⟩
theorem DLe.nil {z : Nat} {f : Nat → List D} : DLe (.val (.slice none 0 0)) (.sl z 0 f) := ⟨fun w Im v h => by
  cases h with | val _ _ => exact .sl z 0 f none 0 (fun _ _ => undef) (Nat.le_refl _) (by unfold maxLen; omega) (fun i hi => by omega) (fun h => by omega) (fun i j hi => by omega)⟩
def DLes : List D → List D → Prop
  | [], [] => True
  | x :: xs, y :: ys => DLe x y ∧ DLes xs ys
  | _, _ => False
theorem DLes.refl : ∀ xs : List D, DLes xs xs
  | [] => trivial
  | x :: xs => ⟨.refl x, DLes.refl xs⟩
theorem DLes.of {xs ys : List D} (h : xs = ys) : DLes xs ys := by subst h; exact .refl _
theorem DLes.out : ∀ {xs ys : List D}, DLes xs ys → xs.length = ys.length ∧ ∀ (j : Nat) (hx : j < xs.length) (hy : j < ys.length), DLe xs[j] ys[j]
  | [], [], _ => ⟨rfl, fun j hx => by simp at hx⟩
  | x :: xs, y :: ys, ⟨h1, h2⟩ => by
    obtain ⟨g1, g2⟩ := DLes.out h2
    refine ⟨by simp [g1], fun j hx hy => ?_⟩
    cases j with
    | zero => exact h1
    | succ j => exact g2 j (by simpa using hx) (by simpa using hy)
  | [], _ :: _, h => h.elim
  | _ :: _, [], h => h.elim
def blkS (S : St) (L : List Nat) : Option Blk → Blk → Prop
  | some (.cells cs), .cells cs' => Seals S L cs cs'
  | some (.row e z n f), .row e' z' n' f' => (e = e' ∧ z = z' ∧ n = n') ∧ ∀ i, i < n → DLes (f i) (f' i)
  | some (.cf _ n g), .cf m' n' g' => (n = n' ∧ m' ≤ L.length) ∧ ∀ j, j < n' → Seal S L (g j) (g' j) ∧ SV.Lt m' (g' j)
  | some (.cells cs), .cf m' n' g' => m' ≤ L.length ∧ Seals S L cs ((List.range n').map g') ∧ ∀ j, j < n' → SV.Lt m' (g' j)
  | _, _ => False
def heapS (S : St) (L : List Nat) : List (Nat × Option Blk) → Prop
  | [] => True
  | (_, none) :: r => heapS S L r
  | (i, some b) :: r => bif Nat.blt i L.length then blkS S L (lkh S.hp (L.getD i 0)) b ∧ heapS S L r else False
theorem heapS_out : ∀ {H : List (Nat × Option Blk)}, heapS S L H → ∀ i b, lkh H i = some b → i < L.length ∧ blkS S L (lkh S.hp (L.getD i 0)) b
  | [], _, i, b, h => by simp [lkh] at h
  | (j, none) :: r, hk, i, b, h => heapS_out (H := r) hk i b (lkh_dead h).2
  | (j, some b') :: r, hk, i, b, h => by
    unfold heapS at hk
    cases hb : Nat.blt j L.length with
    | false => simp [hb] at hk
    | true =>
      simp only [hb, cond_true] at hk
      rw [lkh_cons] at h
      by_cases e : j = i
      · subst e; rw [if_pos rfl] at h; cases h; exact ⟨by simpa using hb, hk.1⟩
      · rw [if_neg e] at h; exact heapS_out hk.2 i b h
theorem FinLe.laid {m m' : Nat} {S : St} {x r : SV} {H' : List (Nat × Option Blk)} (L : List Nat) (hlen : L.length = m') (hm : ∀ i, i < m → L.getD i 0 = i) (hd : noDup L = true) (hx : Seal S L x r) (hH : heapS S L H') : FinLe m S x m' r H' := by
  refine ⟨fun O E a w v hO hs hv => ?_⟩
  subst hlen
  have hblk : ∀ i b, lkh H' i = some b → i < L.length ∧ (∃ b0, lkh S.hp (L.getD i 0) = some b0 ∧ (b.real (E.κ (L.getD i 0)) → b0.real (E.κ (L.getD i 0)))) ∧ BS (E.end S L) L.length w i b := by
    intro i b hb
    obtain ⟨g1, g2⟩ := heapS_out hH i b hb
    unfold blkS at g2
    split at g2
    · rename_i cs cs' hl
      refine ⟨g1, ⟨_, hl, fun _ => trivial⟩, ?_⟩
      obtain ⟨vs, T, k1, k2, k3⟩ := hs.hp _ _ hl
      have hlen := g2.out.1
      refine ⟨vs, T, k1, by omega, fun j hj => ?_⟩
      obtain ⟨q1, q2⟩ := g2.at hj
      exact ⟨q2.out O E a w _ hs (k3 j q1).1, (k3 j q1).2⟩
    · rename_i e z n f e' z' n' f' hl
      obtain ⟨⟨rfl, rfl, rfl⟩, g3⟩ := g2
      refine ⟨g1, ⟨_, hl, fun h => h⟩, ?_⟩
      obtain ⟨k1, k2, k3, k4, k5⟩ := hs.hp _ _ hl
      refine ⟨k1, k2, k3, fun i hi => by rw [← (g3 i hi).out.1]; exact k4 i hi, fun hk => ?_⟩
      obtain ⟨vs, q1, q2, q3, q4⟩ := k5 hk
      refine ⟨vs, q1, q2, q3, fun i j hi hj => ?_⟩
      obtain ⟨p1, p2⟩ := (g3 i hi).out
      exact ((p2 j (by omega) hj).out _ _ _ (q4 i j hi (by omega))).mono (fun b hb => Or.inl hb) fun _ _ => rfl
    · rename_i m n g m' n' g' hl
      obtain ⟨⟨rfl, hm'⟩, g3⟩ := g2
      refine ⟨g1, ⟨_, hl, fun _ => trivial⟩, ?_⟩
      obtain ⟨k0, vs, T, k1, k2, k3⟩ := hs.hp _ _ hl
      exact ⟨hm', vs, T, k1, k2, fun j hj => ⟨(g3 j hj).2, (g3 j hj).1.out O E a w _ hs (k3 j hj).2.1, (k3 j hj).2.2⟩⟩
    · rename_i cs m' n' g' hl
      obtain ⟨hm', g3, g4⟩ := g2
      refine ⟨g1, ⟨_, hl, fun _ => trivial⟩, ?_⟩
      obtain ⟨vs, T, k1, k2, k3⟩ := hs.hp _ _ hl
      have hlen := g3.out.1
      refine ⟨hm', vs, T, k1, by simp at hlen; omega, fun j hj => ?_⟩
      obtain ⟨q1, q2⟩ := g3.at (j := j) (by simpa using hj)
      simp only [List.getElem_map, List.getElem_range] at q2
      exact ⟨g4 j hj, q2.out O E a w _ hs (k3 j q1).1, (k3 j q1).2⟩
    · exact g2.elim
  have hmem : ∀ i, i < L.length → L.getD i 0 ∈ L := fun i hi => by simp [List.getD, List.getElem?_eq_getElem hi]
  refine ⟨E.end S L, ⟨fun i b hb => (hblk i b hb).2.2, fun i b hb => (hblk i b hb).1, ?_, ?_⟩, fun l hl => by simp only [Env.end]; rw [hm l hl]; exact ⟨rfl, rfl⟩, ?_, ?_, fun b hb => Or.inl hb, hx.out O E a w v hs hv⟩
  · intro i j b b' hi hj hr hr' hne
    obtain ⟨g1, ⟨b0, g2, g3⟩, _⟩ := hblk i b hi
    obtain ⟨g4, ⟨b1, g5, g6⟩, _⟩ := hblk j b' hj
    exact hs.inj _ _ _ _ g2 g5 (g3 hr) (g6 hr') (noDup_ne hd g1 g4 hne)
  · intro b hb
    rcases hb with hb | ⟨l, y, hl, hr, rfl, hn⟩
    · obtain ⟨k1, _, k3⟩ := hs.im b hb
      refine ⟨k1, fun i z hz hzr => ?_⟩
      obtain ⟨g1, ⟨b0, g2, g3⟩, _⟩ := hblk i z hz
      exact k3 _ _ g2 (g3 hzr)
    · refine ⟨(hs.hp _ _ hl).lt hr, fun i z hz hzr => ?_⟩
      obtain ⟨g1, ⟨b0, g2, g3⟩, _⟩ := hblk i z hz
      exact hs.inj _ _ _ _ g2 hl (g3 hzr) hr (fun e => hn (e ▸ hmem i g1))
  · rintro b ⟨i, z, hz, hzr, rfl⟩
    obtain ⟨g1, ⟨b0, g2, g3⟩, _⟩ := hblk i z hz
    exact ⟨_, _, g2, g3 hzr, rfl⟩
  · rintro b (hb | ⟨l, y, hl, hr, rfl, hn⟩)
    · exact Or.inl hb
    · exact Or.inr ⟨l, y, hl, hr, rfl⟩
theorem FinLe.sealB {m m' : Nat} {S : St} {x r : SV} {H' : List (Nat × Option Blk)} (L : List Nat) (hlen : L.length = m') (hm : idP L m = true) (hd : noDup L = true) (hx : Seal S L x r) (hH : heapS S L H') : FinLe m S x m' r H' :=
  FinLe.laid L hlen (fun i hi => by unfold idP at hm; rw [List.all_eq_true] at hm; exact Nat.eq_of_beq_eq_true (hm i (by simpa using hi))) hd hx hH
theorem range_getD {m i : Nat} (h : i < m) : (List.range m).getD i 0 = i := by simp [List.getD, h]
theorem idxK_range_lt {m l : Nat} (h : l < m) : idxK (List.range m) l = some l := by
  cases e : idxK (List.range m) l with
  | none => exact absurd (List.mem_range.2 h) (idxK_none e)
  | some j =>
    obtain ⟨h1, h2⟩ := idxK_some e
    rw [range_getD (by simpa using h1)] at h2
    rw [h2]
theorem idxK_range_ge {m l : Nat} (h : m ≤ l) : idxK (List.range m) l = none := by
  cases e : idxK (List.range m) l with
  | none => rfl
  | some j =>
    obtain ⟨h1, h2⟩ := idxK_some e
    have h1 : j < m := by simpa using h1
    rw [range_getD h1] at h2
    omega
theorem noDup_of : ∀ {L : List Nat}, L.Nodup → noDup L = true
  | [], _ => rfl
  | x :: r, h => by
    rw [List.nodup_cons] at h
    unfold noDup
    have : r.any (Nat.beq x) = false := by
      rw [List.any_eq_false]; intro y hy hb
      exact h.1 (Nat.eq_of_beq_eq_true hb ▸ hy)
    rw [this]; exact noDup_of h.2
theorem FinLe.sealM {m : Nat} {S : St} {x r : SV} (hx : Seal S (List.range m) x r) : FinLe m S x m r [] :=
  FinLe.laid (List.range m) (by simp) (fun i hi => range_getD hi) (noDup_of List.nodup_range) hx trivial
theorem Seal.ptrM {S : St} {m l o : Nat} (h : Nat.blt l m = true) : Seal S (List.range m) (.ptr l o) (.ptr l o) := .ptrL (idxK_range_lt (by simpa using h))
theorem Seal.slM {S : St} {m l z o n : Nat} (h : Nat.blt l m = true) : Seal S (List.range m) (.sl l z o n) (.sl l z o n) := .slL (idxK_range_lt (by simpa using h))
theorem Seal.ptrN {S : St} {m l o : Nat} {cs ds : List SV} (h : Nat.ble m l = true) (hl : lkh S.hp l = some (.cells cs)) (hs : Seals S (List.range m) cs ds) : Seal S (List.range m) (.ptr l o) (.iref ds o) := .ptr (idxK_range_ge (Nat.le_of_ble_eq_true h)) hl hs
theorem Seal.sameM {S : St} {m : Nat} {x : SV} (h : SV.Lt m x) : Seal S (List.range m) x x := .same h (by simp) fun i hi => range_getD hi
theorem ArgLe.iref {L : List Nat} {cs cs0 : List SV} {o : Nat} (h : ArgLes L cs cs0) : ArgLe L (.iref cs o) (.iref cs0 o) := by
  obtain ⟨h1, h2⟩ := h.out
  refine ⟨fun E nx w v hv => ?_⟩
  cases hv with
  | iref _ _ b p g hb hcell h3 hh =>
    refine .iref _ _ b p g hb (fun j hj => hcell j (by omega)) (fun j hj => h3 j (by omega)) fun j hj => ?_
    obtain ⟨x, g1, g2⟩ := h2 j _ (List.getElem?_eq_getElem hj)
    obtain ⟨q1, q2⟩ := List.getElem?_eq_some_iff.1 g1
    have := hh j q1
    rw [q2] at this
    exact g2.out _ _ _ _ this
theorem ArgLe.same {L : List Nat} {x : SV} {m : Nat} (h : SV.Lt m x) (hm : m ≤ L.length) (hid : ∀ i, i < m → L.getD i 0 = i) : ArgLe L x x :=
  ⟨fun E nx w v hv => RS.congr (E := E) (m := m) (fun l hl => by simp only; rw [hid l hl]; exact ⟨_root_.rfl, _root_.rfl⟩) hm (fun _ hb => hb) h hv⟩
theorem zA {p : Prop} (h : p := by first | ((((conv => whnf); repeat' (first | exact trivial | exact ArgLe.rfl rfl | exact ArgLe.ptr rfl | exact ArgLe.sl rfl | ((with_reducible refine ArgLe.fn ?_); (conv => whnf)) | ((refine ArgLe.iref ?_); (conv => whnf)) | exact ArgLe.free SV.Le.nil rfl | ((with_reducible refine And.intro ?_ ?_) <;> (conv => whnf)) | ((refine ArgLe.free ?_ rfl); (repeat' (first | exact SV.Le.rfl _ | exact SV.Le.nil | exact SV.Le.sl (fun i hi => by (rcases i with _ | _ | _ | _ | i) <;> first | rfl | (exfalso; omega)) | with_reducible refine SV.Le.agg ?_ | exact Les.nil | with_reducible refine Les.cons ?_ ?_)))))); done) | fail "no") : p := h
theorem zH {p : Prop} (h : p := by first | ((((conv => whnf); repeat' (first | exact trivial | exact ArgLe.rfl rfl | exact ArgLe.ptr rfl | exact ArgLe.sl rfl | ((with_reducible refine ArgLe.fn ?_); (conv => whnf)) | ((refine ArgLe.iref ?_); (conv => whnf)) | exact ArgLe.free SV.Le.nil rfl | exact ⟨rfl, rfl, rfl⟩ | exact fun i hi => rfl | exact (fun i hi => by (rcases i with _ | i) <;> first | rfl | (exfalso; omega)) | ((with_reducible refine And.intro ?_ ?_) <;> (conv => whnf))))); done) | fail "no") : p := h
theorem zD {p : Prop} (h : p := by first | ((((conv => whnf); repeat' (first | exact trivial | exact ArgLe.rfl rfl | exact ArgLe.ptr rfl | exact ArgLe.sl rfl | exact ⟨rfl, rfl, rfl⟩ | exact ⟨rfl, Nat.le_of_ble_eq_true rfl⟩ | exact dir_arg (by assumption) | exact dir_argR (by assumption) (fun l hl => by rcases l with _ | _ | _ | _ | _ | l <;> first | rfl | omega) | exact fun i hi => rfl | ((with_reducible refine And.intro ?_ ?_) <;> (conv => whnf))))); done) | fail "no") : p := h
theorem zG {p : Prop} (h : p := by first | ((((conv => whnf); repeat' (first | exact trivial | exact ArgLe.rfl rfl | exact ArgLe.ptr rfl | exact ArgLe.sl5 | exact ArgLe.sl rfl | exact ⟨rfl, rfl, rfl⟩ | exact ⟨rfl, Nat.le_of_ble_eq_true rfl⟩ | exact dir_arg4 | exact dir_argR4 (fun l hl => by rcases l with _ | _ | _ | _ | l <;> first | rfl | omega) | exact fun i hi => rfl | ((with_reducible refine And.intro ?_ ?_) <;> (conv => whnf))))); done) | fail "no") : p := h
theorem zK {p : Prop} (h : p := by first | (((conv => whnf); repeat' (first | exact trivial | ((refine And.intro rfl ?_); (conv => whnf)))); done) | fail "no") : p := h
theorem zB {p : Prop} (h : p := by first | ((first | exact bytes_bd (Nat.le_of_ble_eq_true rfl) (by omega) | omega); done) | fail "no") : p := h
theorem zO {p : Prop} (h : p := by first | ((first | exact IntWalk.i64_in _ (by omega) | exact IntWalk.u64_in _ (by omega) | exact IntWalk.u8_in _ (by omega) | exact IntWalk.u32_in _ (by omega) | exact IntWalk.i32_in _ (by omega) | exact IntWalk.u16_in _ (by omega)); done) | fail "no") : p := h
theorem zC {p : Prop} (h : p := by first | ((first | omega | exact Nat.le_of_ble_eq_true rfl); done) | fail "no") : p := h
theorem zF {p : Prop} (h : p := by first | ((first | exact trivial | exact Seal.any | exact Seal.d | exact Seal.ptrL rfl | exact Seal.slL rfl | exact Seal.lt0 (SV.Lt.of rfl) | exact Seal.same (by assumption) (Nat.le_of_ble_eq_true rfl) (fun i hi => id5 hi) | exact Seal.le Seal.d (SV.Le.i (by omega)) | exact ⟨rfl, rfl, rfl⟩ | exact ⟨rfl, Nat.le_of_ble_eq_true rfl⟩ | exact dir_seal (by assumption) | exact dir_sealR4 (fun l hl => by rcases l with _ | _ | _ | _ | l <;> first | rfl | omega) | exact dir_sealR (by assumption) (fun l hl => by rcases l with _ | _ | _ | _ | _ | l <;> first | rfl | omega) | exact fun i hi => DLes.refl _ | exact Seal.le Seal.d SV.Le.nil | exact Seal.le (Seal.sl rfl rfl (by omega)) (SV.Le.sl fun i hi => by simp only [Nat.zero_add])); done) | fail "no") : p := h
theorem zE {p : Prop} (h : p := by first | ((first | exact trivial | exact Seal.any | exact Seal.d | exact Seal.ptrL rfl | exact Seal.slL rfl | exact Seal.lt0 (SV.Lt.of rfl) | exact Seal.same (by assumption) (Nat.le_of_ble_eq_true rfl) (fun i hi => id5 hi) | exact Seal.le Seal.d (SV.Le.i (by omega)) | exact ⟨rfl, rfl, rfl⟩ | exact ⟨rfl, Nat.le_of_ble_eq_true rfl⟩ | exact dir_seal (by assumption) | exact dir_sealR (by assumption) (fun l hl => by rcases l with _ | _ | _ | _ | _ | l <;> first | rfl | omega) | exact fun i hi => DLes.refl _ | exact Seal.le Seal.d SV.Le.nil | exact Seal.le (Seal.sl rfl rfl (by omega)) (SV.Le.sl fun i hi => by simp only [Nat.zero_add])); done) | fail "no") : p := h
end Go.Proofs.YtbdclkjelhlfbaaGreat
