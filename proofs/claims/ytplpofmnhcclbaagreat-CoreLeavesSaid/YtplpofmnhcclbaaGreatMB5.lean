/- Parts of the proof, one behind the other: Sx24, Ty, Sx20, Bk1, Bk2, Bk3, Bk4, Bk5. Lemmas and contracts of functions; no condition of its own. -/
import Derived.Test.YtplpofmnhcclbaaGreatMB4
import Derived.IntWalk
import Derived.Test.YtplpofmnhcclbaaGreatRows
import Derived.Shelf.Bits.Mul64
set_option linter.unusedVariables false
set_option linter.unusedSimpArgs false
set_option maxHeartbeats 1000000
namespace Go.Proofs.YtplpofmnhcclbaaGreat
open Go.RowKit
structure Seal (S : St) (L : List Nat) (x y : SV) : Prop where
 out : ∀ O E a w v, Sat O E S a w → RS E S.nx w x v → RS (E.end S L) L.length w y v
def Seals (S : St) (L : List Nat) : List SV → List SV → Prop
 | [], [] => True
 | x :: xs, y :: ys => Seal S L x y ∧ Seals S L xs ys
 | _, _ => False
theorem Seals.out {S : St} {L : List Nat} : ∀ {xs ys : List SV}, Seals S L xs ys → xs.length = ys.length ∧ ∀ (j : Nat) (y : SV), ys[j]? = some y → ∃ x, xs[j]? = some x ∧ Seal S L x y
 | [], [], _ => ⟨rfl, fun j y h => by simp at h⟩
 | x :: xs, y :: ys, ⟨h1, h2⟩ => by
  obtain ⟨g1, g2⟩ := Seals.out h2
  refine ⟨by simp [g1], fun j z hz => ?_⟩
  cases j with
  | zero => simp at hz; subst hz; exact ⟨x, rfl, h1⟩
  | succ j => simp at hz; exact g2 j z hz
 | [], _ :: _, h => h.elim
 | _ :: _, [], h => h.elim
theorem Seals.at {S : St} {L : List Nat} {xs ys : List SV} (h : Seals S L xs ys) {j : Nat} (hj : j < ys.length) : ∃ hj' : j < xs.length, Seal S L xs[j] ys[j] := by
 obtain ⟨h1, h2⟩ := h.out
 obtain ⟨x, g1, g2⟩ := h2 j _ (List.getElem?_eq_getElem hj)
 obtain ⟨q1, q2⟩ := List.getElem?_eq_some_iff.1 g1
 exact ⟨q1, by rw [q2]; exact g2⟩
variable {S : St} {L : List Nat}
theorem Seal.any {x : SV} : Seal S L x .any := ⟨fun _ _ _ _ _ _ _ => .any _⟩
theorem Seal.d {x : D} : Seal S L (.d x) (.d x) := ⟨fun O E a w v hs hv => by cases hv with | d _ _ hv => exact .d _ _ (hv.mono (fun _ hb => Or.inl hb) fun _ _ => rfl)⟩
theorem Seal.le {x y z : SV} (h : Seal S L x y) (hl : SV.Le y z) : Seal S L x z := ⟨fun O E a w v hs hv => hl.out _ _ _ _ (h.out O E a w v hs hv)⟩
theorem Seal.ptrL {l o i : Nat} (hi : idxK L l = some i) : Seal S L (.ptr l o) (.ptr i o) := by
 obtain ⟨h1, h2⟩ := idxK_some hi
 refine ⟨fun O E a w v hs hv => ?_⟩
 cases hv with
 | ptr _ _ hl =>
  have := RS.ptr (E := E.end S L) (nx := L.length) (w := w) i o h1
  simp only [Env.end, h2] at this; exact this
theorem Seal.slL {l z o n i : Nat} (hi : idxK L l = some i) : Seal S L (.sl l z o n) (.sl i z o n) := by
 obtain ⟨h1, h2⟩ := idxK_some hi
 refine ⟨fun O E a w v hs hv => ?_⟩
 cases hv with
 | sl _ _ _ _ ad cap hl hc hm ha h0 => exact .sl i z o n ad cap h1 hc hm (by simp only [Env.end, h2]; exact ha) (by simp only [Env.end, h2]; exact h0)
theorem Seal.ptr {l o : Nat} {cs ds : List SV} (hi : idxK L l = none) (hl : lkh S.hp l = some (.cells cs)) (h : Seals S L cs ds) : Seal S L (.ptr l o) (.iref ds o) := by
 refine ⟨fun O E a w v hs hv => ?_⟩
 cases hv with
 | ptr _ _ hlx =>
  obtain ⟨vs, T, g1, g2, g3⟩ := hs.hp l _ hl
  have hlen := h.out.1
  have := RS.iref (E := E.end S L) (nx := L.length) (w := w) ds o (E.ρ l) 0 (fun j => vs.getD j undef) (Or.inr ⟨l, _, hl, trivial, rfl, idxK_none hi⟩) (fun j hj => by
    have hj' : j < vs.size := by omega
    simp [World.cell?, g1, Array.getD, hj']) (fun j hj => (g3 j (by omega)).2) (fun j hj => by
    obtain ⟨q1, q2⟩ := h.at hj
    exact q2.out O E a w _ hs (g3 j q1).1)
  rwa [Nat.zero_add] at this
theorem Seal.sl {l e z o n m : Nat} {f : Nat → List D} (hi : idxK L l = none) (hl : lkh S.hp l = some (.row e z m f)) (hn : o + n ≤ m) : Seal S L (.sl l z o n) (.d (.sl z n fun i => f (o + i))) := by
 refine ⟨fun O E a w v hs hv => ?_⟩
 have hI : ∀ b, E.Im b → (E.end S L).Im b := fun b hb => Or.inl hb
 obtain ⟨y, h1, h2⟩ := sealD_fine (ρ' := (E.end S L).ρ) (κ' := (E.end S L).κ) (m' := L.length) (k := fun y => y = .d (.sl z n fun i => f (o + i))) hs hI hv (fun l' b hl' hb hr => by
   have : SV.lab (.sl l z o n) = some l := rfl
   rw [this] at hl'; cases hl'; exact Or.inr ⟨l, b, hb, hr, rfl, idxK_none hi⟩) (by simp only [sealD, hl]; simp [hn])
 rw [h1] at h2; exact h2
theorem Seal.fn {f : Fn} {cs ds : List SV} (h : Seals S L cs ds) : Seal S L (.fn f cs) (.fn f ds) := by
 refine ⟨fun O E a w v hs hv => ?_⟩
 cases hv with
 | fn _ _ us hsz hh => exact .fn _ _ us (by have := h.out.1; omega) fun j hj => by obtain ⟨q1, q2⟩ := h.at hj; exact q2.out O E a w _ hs (hh j q1)
theorem Seal.agg {cs ds : List SV} (h : Seals S L cs ds) : Seal S L (.agg cs) (.agg ds) := by
 refine ⟨fun O E a w v hs hv => ?_⟩
 cases hv with
 | agg _ us hsz h1 hh => exact .agg _ us (by have := h.out.1; omega) h1 fun j hj => by obtain ⟨q1, q2⟩ := h.at hj; exact q2.out O E a w _ hs (hh j q1)
theorem Seal.tup {cs ds : List SV} (h : Seals S L cs ds) : Seal S L (.tup cs) (.tup ds) := by
 refine ⟨fun O E a w v hs hv => ?_⟩
 cases hv with
 | tup _ us hsz hh => exact .tup _ us (by have := h.out.1; omega) fun j hj => by obtain ⟨q1, q2⟩ := h.at hj; exact q2.out O E a w _ hs (hh j q1)
theorem Seal.iref {cs ds : List SV} {o : Nat} (h : Seals S L cs ds) : Seal S L (.iref cs o) (.iref ds o) := by
 refine ⟨fun O E a w v hs hv => ?_⟩
 have hlen := h.out.1
 cases hv with
 | iref _ _ b p g hb hcell h1 hh => exact .iref _ _ b p g (Or.inl hb) (fun j hj => hcell j (by omega)) (fun j hj => h1 j (by omega)) fun j hj => by obtain ⟨q1, q2⟩ := h.at hj; exact q2.out O E a w _ hs (hh j q1)
theorem Seal.lt0 {x : SV} (h : SV.Lt 0 x) : Seal S L x x := ⟨fun O E a w v hs hv => RS.congr (E := E) (m := 0) (fun l hl => by omega) (Nat.zero_le _) (fun _ hb => Or.inl hb) h hv⟩
theorem Seal.same {x : SV} {m : Nat} (h : SV.Lt m x) (hm : m ≤ L.length) (hid : ∀ i, i < m → L.getD i 0 = i) : Seal S L x x :=
 ⟨fun O E a w v hs hv => RS.congr (E := E) (m := m) (fun l hl => by simp only [Env.end]; rw [hid l hl]; exact ⟨rfl, rfl⟩) hm (fun _ hb => Or.inl hb) h hv⟩
structure DLe (x y : D) : Prop where
 out : ∀ w Im v, RD w Im x v → RD w Im y v
theorem DLe.refl (x : D) : DLe x x := ⟨fun _ _ _ h => h⟩
theorem DLe.nil {z : Nat} {f : Nat → List D} : DLe (.val (.slice none 0 0)) (.sl z 0 f) := ⟨fun w Im v h => by
 cases h with | val _ _ => exact .sl z 0 f none 0 (fun _ _ => undef) (Nat.le_refl _) (by unfold maxLen; omega) (fun i hi => by omega) (fun h => by omega) (fun i j hi => by omega)⟩
def DLes : List D → List D → Prop
 | [], [] => True
 | x :: xs, y :: ys => DLe x y ∧ DLes xs ys
 | _, _ => False
theorem DLes.refl : ∀ xs : List D, DLes xs xs
 | [] => trivial
 | x :: xs => ⟨.refl x, DLes.refl xs⟩
theorem DLes.of {xs ys : List D} (h : xs = ys) : DLes xs ys := by subst h; exact .refl _
theorem DLes.out : ∀ {xs ys : List D}, DLes xs ys → xs.length = ys.length ∧ ∀ (j : Nat) (hx : j < xs.length) (hy : j < ys.length), DLe xs[j] ys[j]
 | [], [], _ => ⟨rfl, fun j hx => by simp at hx⟩
 | x :: xs, y :: ys, ⟨h1, h2⟩ => by
  obtain ⟨g1, g2⟩ := DLes.out h2
  refine ⟨by simp [g1], fun j hx hy => ?_⟩
  cases j with
  | zero => exact h1
  | succ j => exact g2 j (by simpa using hx) (by simpa using hy)
 | [], _ :: _, h => h.elim
 | _ :: _, [], h => h.elim
def blkS (S : St) (L : List Nat) : Option Blk → Blk → Prop
 | some (.cells cs), .cells cs' => Seals S L cs cs'
 | some (.row e z n f), .row e' z' n' f' => (e = e' ∧ z = z' ∧ n = n') ∧ ∀ i, i < n → DLes (f i) (f' i)
 | some (.cf _ n g), .cf m' n' g' => (n = n' ∧ m' ≤ L.length) ∧ ∀ j, j < n' → Seal S L (g j) (g' j) ∧ SV.Lt m' (g' j)
 | some (.cells cs), .cf m' n' g' => m' ≤ L.length ∧ Seals S L cs ((List.range n').map g') ∧ ∀ j, j < n' → SV.Lt m' (g' j)
 | _, _ => False
def heapS (S : St) (L : List Nat) : List (Nat × Option Blk) → Prop
 | [] => True
 | (_, none) :: r => heapS S L r
 | (i, some b) :: r => bif Nat.blt i L.length then blkS S L (lkh S.hp (L.getD i 0)) b ∧ heapS S L r else False
theorem heapS_out : ∀ {H : List (Nat × Option Blk)}, heapS S L H → ∀ i b, lkh H i = some b → i < L.length ∧ blkS S L (lkh S.hp (L.getD i 0)) b
 | [], _, i, b, h => by simp [lkh] at h
 | (j, none) :: r, hk, i, b, h => heapS_out (H := r) hk i b (lkh_dead h).2
 | (j, some b') :: r, hk, i, b, h => by
  unfold heapS at hk
  cases hb : Nat.blt j L.length with
  | false => simp [hb] at hk
  | true =>
   simp only [hb, cond_true] at hk
   rw [lkh_cons] at h
   by_cases e : j = i
   ·subst e; rw [if_pos rfl] at h; cases h; exact ⟨by simpa using hb, hk.1⟩
   ·rw [if_neg e] at h; exact heapS_out hk.2 i b h
theorem FinLe.laid {m m' : Nat} {S : St} {x r : SV} {H' : List (Nat × Option Blk)} (L : List Nat) (hlen : L.length = m') (hm : ∀ i, i < m → L.getD i 0 = i) (hd : noDup L = true) (hx : Seal S L x r) (hH : heapS S L H') : FinLe m S x m' r H' := by
 refine ⟨fun O E a w v hO hs hv => ?_⟩
 subst hlen
 have hblk : ∀ i b, lkh H' i = some b → i < L.length ∧ (∃ b0, lkh S.hp (L.getD i 0) = some b0 ∧ (b.real (E.κ (L.getD i 0)) → b0.real (E.κ (L.getD i 0)))) ∧ BS (E.end S L) L.length w i b := by
  intro i b hb
  obtain ⟨g1, g2⟩ := heapS_out hH i b hb
  unfold blkS at g2
  split at g2
  ·rename_i cs cs' hl
   refine ⟨g1, ⟨_, hl, fun _ => trivial⟩, ?_⟩
   obtain ⟨vs, T, k1, k2, k3⟩ := hs.hp _ _ hl
   have hlen := g2.out.1
   refine ⟨vs, T, k1, by omega, fun j hj => ?_⟩
   obtain ⟨q1, q2⟩ := g2.at hj
   exact ⟨q2.out O E a w _ hs (k3 j q1).1, (k3 j q1).2⟩
  ·rename_i e z n f e' z' n' f' hl
   obtain ⟨⟨rfl, rfl, rfl⟩, g3⟩ := g2
   refine ⟨g1, ⟨_, hl, fun h => h⟩, ?_⟩
   obtain ⟨k1, k2, k3, k4, k5⟩ := hs.hp _ _ hl
   refine ⟨k1, k2, k3, fun i hi => by rw [← (g3 i hi).out.1]; exact k4 i hi, fun hk => ?_⟩
   obtain ⟨vs, q1, q2, q3, q4⟩ := k5 hk
   refine ⟨vs, q1, q2, q3, fun i j hi hj => ?_⟩
   obtain ⟨p1, p2⟩ := (g3 i hi).out
   exact ((p2 j (by omega) hj).out _ _ _ (q4 i j hi (by omega))).mono (fun b hb => Or.inl hb) fun _ _ => rfl
  ·rename_i m n g m' n' g' hl
   obtain ⟨⟨rfl, hm'⟩, g3⟩ := g2
   refine ⟨g1, ⟨_, hl, fun h => h⟩, ?_⟩
   obtain ⟨k0, hh⟩ := hs.hp _ _ hl
   refine ⟨hm', fun hp => ?_⟩
   obtain ⟨vs, T, k1, k2, k3⟩ := hh hp
   exact ⟨vs, T, k1, k2, fun j hj => ⟨(g3 j hj).2, (g3 j hj).1.out O E a w _ hs (k3 j hj).2.1, (k3 j hj).2.2⟩⟩
  ·rename_i cs m' n' g' hl
   obtain ⟨hm', g3, g4⟩ := g2
   refine ⟨g1, ⟨_, hl, fun _ => trivial⟩, ?_⟩
   obtain ⟨vs, T, k1, k2, k3⟩ := hs.hp _ _ hl
   have hlen := g3.out.1
   refine ⟨hm', fun _ => ⟨vs, T, k1, by simp at hlen; omega, fun j hj => ?_⟩⟩
   obtain ⟨q1, q2⟩ := g3.at (j := j) (by simpa using hj)
   simp only [List.getElem_map, List.getElem_range] at q2
   exact ⟨g4 j hj, q2.out O E a w _ hs (k3 j q1).1, (k3 j q1).2⟩
  ·exact g2.elim
 have hmem : ∀ i, i < L.length → L.getD i 0 ∈ L := fun i hi => by simp [List.getD, List.getElem?_eq_getElem hi]
 refine ⟨E.end S L, ⟨fun i b hb => (hblk i b hb).2.2, fun i b hb => (hblk i b hb).1, ?_, ?_⟩, fun l hl => by simp only [Env.end]; rw [hm l hl]; exact ⟨rfl, rfl⟩, ?_, ?_, fun b hb => Or.inl hb, hx.out O E a w v hs hv⟩
 ·intro i j b b' hi hj hr hr' hne
  obtain ⟨g1, ⟨b0, g2, g3⟩, _⟩ := hblk i b hi
  obtain ⟨g4, ⟨b1, g5, g6⟩, _⟩ := hblk j b' hj
  exact hs.inj _ _ _ _ g2 g5 (g3 hr) (g6 hr') (noDup_ne hd g1 g4 hne)
 ·intro b hb
  rcases hb with hb | ⟨l, y, hl, hr, rfl, hn⟩
  ·obtain ⟨k1, _, k3⟩ := hs.im b hb
   refine ⟨k1, fun i z hz hzr => ?_⟩
   obtain ⟨g1, ⟨b0, g2, g3⟩, _⟩ := hblk i z hz
   exact k3 _ _ g2 (g3 hzr)
  ·refine ⟨(hs.hp _ _ hl).lt hr, fun i z hz hzr => ?_⟩
   obtain ⟨g1, ⟨b0, g2, g3⟩, _⟩ := hblk i z hz
   exact hs.inj _ _ _ _ g2 hl (g3 hzr) hr (fun e => hn (e ▸ hmem i g1))
 ·rintro b ⟨i, z, hz, hzr, rfl⟩
  obtain ⟨g1, ⟨b0, g2, g3⟩, _⟩ := hblk i z hz
  exact ⟨_, _, g2, g3 hzr, rfl⟩
 ·rintro b (hb | ⟨l, y, hl, hr, rfl, hn⟩)
  ·exact Or.inl hb
  ·exact Or.inr ⟨l, y, hl, hr, rfl⟩
theorem FinLe.sealB {m m' : Nat} {S : St} {x r : SV} {H' : List (Nat × Option Blk)} (L : List Nat) (hlen : L.length = m') (hm : idP L m = true) (hd : noDup L = true) (hx : Seal S L x r) (hH : heapS S L H') : FinLe m S x m' r H' :=
 FinLe.laid L hlen (fun i hi => by unfold idP at hm; rw [List.all_eq_true] at hm; exact Nat.eq_of_beq_eq_true (hm i (by simpa using hi))) hd hx hH
theorem range_getD {m i : Nat} (h : i < m) : (List.range m).getD i 0 = i := by simp [List.getD, h]
theorem idxK_range_lt {m l : Nat} (h : l < m) : idxK (List.range m) l = some l := by
 cases e : idxK (List.range m) l with
 | none => exact absurd (List.mem_range.2 h) (idxK_none e)
 | some j =>
  obtain ⟨h1, h2⟩ := idxK_some e
  rw [range_getD (by simpa using h1)] at h2
  rw [h2]
theorem idxK_range_ge {m l : Nat} (h : m ≤ l) : idxK (List.range m) l = none := by
 cases e : idxK (List.range m) l with
 | none => rfl
 | some j =>
  obtain ⟨h1, h2⟩ := idxK_some e
  have h1 : j < m := by simpa using h1
  rw [range_getD h1] at h2
  omega
theorem noDup_of : ∀ {L : List Nat}, L.Nodup → noDup L = true
 | [], _ => rfl
 | x :: r, h => by
  rw [List.nodup_cons] at h
  unfold noDup
  have : r.any (Nat.beq x) = false := by
   rw [List.any_eq_false]; intro y hy hb
   exact h.1 (Nat.eq_of_beq_eq_true hb ▸ hy)
  rw [this]; exact noDup_of h.2
theorem FinLe.sealM {m : Nat} {S : St} {x r : SV} (hx : Seal S (List.range m) x r) : FinLe m S x m r [] :=
 FinLe.laid (List.range m) (by simp) (fun i hi => range_getD hi) (noDup_of List.nodup_range) hx trivial
theorem Seal.ptrM {S : St} {m l o : Nat} (h : Nat.blt l m = true) : Seal S (List.range m) (.ptr l o) (.ptr l o) := .ptrL (idxK_range_lt (by simpa using h))
theorem Seal.ptrN {S : St} {m l o : Nat} {cs ds : List SV} (h : Nat.ble m l = true) (hl : lkh S.hp l = some (.cells cs)) (hs : Seals S (List.range m) cs ds) : Seal S (List.range m) (.ptr l o) (.iref ds o) := .ptr (idxK_range_ge (Nat.le_of_ble_eq_true h)) hl hs
theorem Seal.sameM {S : St} {m : Nat} {x : SV} (h : SV.Lt m x) : Seal S (List.range m) x x := .same h (by simp) fun i hi => range_getD hi
theorem ArgLe.iref {L : List Nat} {cs cs0 : List SV} {o : Nat} (h : ArgLes L cs cs0) : ArgLe L (.iref cs o) (.iref cs0 o) := by
 obtain ⟨h1, h2⟩ := h.out
 refine ⟨fun E nx w v hv => ?_⟩
 cases hv with
 | iref _ _ b p g hb hcell h3 hh =>
  refine .iref _ _ b p g hb (fun j hj => hcell j (by omega)) (fun j hj => h3 j (by omega)) fun j hj => ?_
  obtain ⟨x, g1, g2⟩ := h2 j _ (List.getElem?_eq_getElem hj)
  obtain ⟨q1, q2⟩ := List.getElem?_eq_some_iff.1 g1
  have := hh j q1
  rw [q2] at this
  exact g2.out _ _ _ _ this
theorem ArgLe.same {L : List Nat} {x : SV} {m : Nat} (h : SV.Lt m x) (hm : m ≤ L.length) (hid : ∀ i, i < m → L.getD i 0 = i) : ArgLe L x x :=
 ⟨fun E nx w v hv => RS.congr (E := E) (m := m) (fun l hl => by simp only; rw [hid l hl]; exact ⟨_root_.rfl, _root_.rfl⟩) hm (fun _ hb => hb) h hv⟩
theorem zA {p : Prop} (h : p := by first | ((((conv => whnf); repeat' (first | exact trivial | exact ArgLe.rfl rfl | exact ArgLe.ptr rfl | exact ArgLe.sl rfl | ((with_reducible refine ArgLe.fn ?_); (conv => whnf)) | ((refine ArgLe.iref ?_); (conv => whnf)) | exact ArgLe.free SV.Le.nil rfl | ((with_reducible refine And.intro ?_ ?_) <;> (conv => whnf)) | ((refine ArgLe.free ?_ rfl); (repeat' (first | exact SV.Le.rfl _ | exact SV.Le.nil | exact SV.Le.sl (fun i hi => by (rcases i with _ | _ | _ | _ | i) <;> first | rfl | (exfalso; omega)) | with_reducible refine SV.Le.agg ?_ | exact Les.nil | with_reducible refine Les.cons ?_ ?_)))))); done) | fail "no") : p := h
theorem zH {p : Prop} (h : p := by first | ((((conv => whnf); repeat' (first | exact trivial | exact ArgLe.rfl rfl | exact ArgLe.ptr rfl | exact ArgLe.sl rfl | ((with_reducible refine ArgLe.fn ?_); (conv => whnf)) | ((refine ArgLe.iref ?_); (conv => whnf)) | exact ArgLe.free SV.Le.nil rfl | exact ⟨rfl, rfl, rfl⟩ | exact fun i hi => rfl | exact (fun i hi => by (rcases i with _ | i) <;> first | rfl | (exfalso; omega)) | ((with_reducible refine And.intro ?_ ?_) <;> (conv => whnf))))); done) | fail "no") : p := h
theorem zK {p : Prop} (h : p := by first | (((conv => whnf); repeat' (first | exact trivial | ((refine And.intro rfl ?_); (conv => whnf)))); done) | fail "no") : p := h
theorem zB {p : Prop} (h : p := by first | ((first | exact bytes_bd (Nat.le_of_ble_eq_true rfl) (by omega) | omega); done) | fail "no") : p := h
theorem zO {p : Prop} (h : p := by first | ((first | exact IntWalk.i64_in _ (by omega) | exact IntWalk.u64_in _ (by omega) | exact IntWalk.u8_in _ (by omega) | exact IntWalk.u32_in _ (by omega) | exact IntWalk.i32_in _ (by omega) | exact IntWalk.u16_in _ (by omega)); done) | fail "no") : p := h
theorem zC {p : Prop} (h : p := by first | ((first | omega | exact Nat.le_of_ble_eq_true rfl); done) | fail "no") : p := h
theorem zE {p : Prop} (h : p := by first | ((first | exact trivial | exact Seal.any | exact Seal.d | exact Seal.ptrL rfl | exact Seal.slL rfl | exact Seal.lt0 (SV.Lt.of rfl) | exact Seal.same (by assumption) (Nat.le_of_ble_eq_true rfl) (fun i hi => id5 hi) | exact Seal.le Seal.d (SV.Le.i (by omega)) | exact ⟨rfl, rfl, rfl⟩ | exact ⟨rfl, Nat.le_of_ble_eq_true rfl⟩ | exact dir_seal (by assumption) | exact dir_sealR (by assumption) (fun l hl => by rcases l with _ | _ | _ | _ | _ | l <;> first | rfl | omega) | exact fun i hi => DLes.refl _ | exact Seal.le Seal.d SV.Le.nil | exact Seal.le (Seal.sl rfl rfl (by omega)) (SV.Le.sl fun i hi => by simp only [Nat.zero_add])); done) | fail "no") : p := h
theorem zA9 {p : Prop} (h : p := by first | ((first | exact Les.nil | exact SV.Le.rfl _ | exact SV.Le.sl (fun i hi => by (rcases i with _ | _ | _ | _ | i) <;> first | rfl | (exfalso; omega))); done) | fail "no") : p := h
theorem zB9 {p : Prop} (h : p := by first | ((first | exact trivial | exact ArgLe.rfl rfl | exact ArgLe.sl rfl | exact ⟨rfl, rfl, rfl⟩ | exact fun i hi => rfl | exact fun i hi => ite_row); done) | fail "no") : p := h
theorem zC9 {p : Prop} (h : p := by first | ((first | exact trivial | exact Seal.any | exact Seal.d | exact Seal.sl14 | exact Seal.ptrL rfl | exact Seal.slL rfl | exact Seal.lt0 (SV.Lt.of rfl) | exact Seal.same (by assumption) (Nat.le_of_ble_eq_true rfl) (fun i hi => id13 (Nat.lt_of_lt_of_le hi (Nat.le_of_ble_eq_true rfl))) | exact Seal.le Seal.d (SV.Le.i (by omega)) | exact ⟨rfl, rfl, rfl⟩ | exact ⟨rfl, Nat.le_of_ble_eq_true rfl⟩ | exact core_seal (by assumption) | exact core_sealR (by assumption) (fun l hl => by rcases l with _ | _ | _ | _ | _ | _ | _ | _ | _ | _ | _ | _ | _ | l <;> first | rfl | omega) | exact x_seal (xF_lt _ _) | exact x_sealR (xF_lt _ _) rfl | exact xres_seal _ _ | exact fun i hi => DLes.refl _ | exact Seal.le (Seal.sl rfl rfl (by omega)) (SV.Le.sl fun i hi => by simp only [Nat.zero_add])); done) | fail "no") : p := h
theorem zD9 {p : Prop} (h : p := by first | ((first | exact trivial | exact Seal.d | exact Seal.ptrM rfl | exact Seal.sameM (by assumption) | exact Seal.lt0 (SV.Lt.of rfl) | exact Seal.sameM (SV.Lt.of rfl)); done) | fail "no") : p := h
theorem zE9 {p : Prop} (h : p := by first | ((first | exact trivial | exact ArgLe.rfl rfl | exact ArgLe.sl13 | exact ArgLe.sl rfl | exact ⟨rfl, rfl, rfl⟩ | exact ⟨rfl, Nat.le_of_ble_eq_true rfl⟩ | exact core_arg (by assumption) | exact core_argR (by assumption) (fun l hl => by rcases l with _ | _ | _ | _ | _ | _ | _ | _ | _ | _ | _ | _ | _ | l <;> first | rfl | omega) | exact x_arg (xF_lt _ _) | exact xser_arg _ _ (by first | rfl | omega) | exact x_argR (xF_lt _ _) rfl | exact fun i hi => rfl); done) | fail "no") : p := h
theorem zF9 {p : Prop} (h : p := by first | ((first | exact trivial | exact ArgLe.rfl rfl | exact ArgLe.ptr rfl | exact ArgLe.sl rfl); done) | fail "no") : p := h
theorem zG9 {p : Prop} (h : p := by first | ((first | exact trivial | exact SV.Le.rfl _ | exact ⟨rfl, rfl, rfl⟩ | exact ⟨rfl, Nat.le_of_ble_eq_true rfl⟩ | exact core_arg (by assumption) | exact core_argR (by assumption) (fun l hl => by rcases l with _ | _ | _ | _ | _ | _ | _ | _ | _ | _ | _ | _ | _ | l <;> first | rfl | omega) | exact x_arg (xF_lt _ _) | exact x_argR (xF_lt _ _) rfl | exact fun i hi => rfl); done) | fail "no") : p := h
theorem zH9 {p : Prop} (h : p := by first | ((first | exact trivial | exact SV.Lt.mono (Nat.le_of_ble_eq_true rfl) hlt); done) | fail "no") : p := h
theorem zI9 {p : Prop} (h : p := by first | ((first | exact trivial | exact ArgLe.rfl rfl | exact ArgLe.sl rfl | exact ⟨rfl, rfl, rfl⟩ | exact ⟨rfl, Nat.le_of_ble_eq_true rfl⟩ | exact x_arg (xF_lt _ _) | exact fun i hi => rfl); done) | fail "no") : p := h
theorem zJ9 {p : Prop} (h : p := by first | ((first | exact trivial | exact Seal.d | exact Seal.sl14 | exact Seal.slL rfl | exact ⟨rfl, rfl, rfl⟩ | exact ⟨rfl, Nat.le_of_ble_eq_true rfl⟩ | exact x_sealR (xF_lt _ _) rfl | exact fun i hi => DLes.refl _); done) | fail "no") : p := h
theorem zK9 {p : Prop} (h : p := by first | ((first | exact trivial | exact ArgLe.rfl rfl | exact ArgLe.ptr rfl | exact ArgLe.sl rfl | exact ⟨rfl, rfl, rfl⟩ | exact ⟨rfl, Nat.le_of_ble_eq_true rfl⟩ | exact Nat.le_of_ble_eq_true rfl | exact (fun j _ => xF_lt _ _ j) | exact fun i hi => rfl); done) | fail "no") : p := h
theorem zL9 {p : Prop} (h : p := by first | ((first | exact trivial | exact Seal.d | exact Seal.slX (Nat.le_of_ble_eq_true rfl) rfl | exact ⟨rfl, rfl, rfl⟩ | exact ⟨rfl, Nat.le_of_ble_eq_true rfl⟩ | exact x_sealR (xF_lt _ _) rfl | exact fun i hi => DLes.refl _); done) | fail "no") : p := h
theorem zM9 {p : Prop} (h : p := by first | ((first | exact trivial | exact law_argR (by decide) (fun l hl => by rcases l with _ | _ | _ | _ | l <;> first | exact ⟨Nat.le_of_ble_eq_true rfl, rfl⟩ | exact ⟨Nat.le_of_ble_eq_true rfl, rfl, rfl⟩ | omega) (fun q hq => by rcases q with _ | _ | _ | _ | _ | _ | _ | _ | _ | q <;> first | exact ⟨Nat.le_of_ble_eq_true rfl, rfl⟩ | omega) | exact law_argI (by decide) (by decide) (fun l hl => by rcases l with _ | _ | _ | _ | l <;> first | exact ⟨Nat.le_of_ble_eq_true rfl, rfl⟩ | exact ⟨Nat.le_of_ble_eq_true rfl, rfl, rfl⟩ | omega) (fun q hq => by rcases q with _ | _ | _ | _ | _ | _ | _ | _ | _ | q <;> first | exact ⟨Nat.le_of_ble_eq_true rfl, rfl⟩ | omega) | exact ArgLe.rfl rfl | exact ArgLe.sl rfl | exact ⟨rfl, rfl, rfl⟩ | exact ⟨rfl, Nat.le_of_ble_eq_true rfl⟩ | exact x_argRA (by assumption) rfl | exact x_argA (by assumption) | exact fun i hi => rfl); done) | fail "no") : p := h
theorem zN9 {p : Prop} (h : p := by first | ((first | exact trivial | exact Seal.d | exact law_sealR (by decide) (fun l hl => by rcases l with _ | _ | _ | _ | l <;> first | exact ⟨Nat.le_of_ble_eq_true rfl, rfl⟩ | exact ⟨Nat.le_of_ble_eq_true rfl, rfl, rfl⟩ | omega) (fun q hq => by rcases q with _ | _ | _ | _ | _ | _ | _ | _ | _ | q <;> first | exact ⟨Nat.le_of_ble_eq_true rfl, rfl⟩ | omega) | exact Seal.slL rfl | exact ⟨rfl, rfl, rfl⟩ | exact ⟨rfl, Nat.le_of_ble_eq_true rfl⟩ | exact x_sealRA (by assumption) rfl | exact fun i hi => DLes.refl _); done) | fail "no") : p := h
theorem zO9 {p : Prop} (h : p := by first | ((first | exact trivial | exact Seal.d | exact Seal.slX (Nat.le_of_ble_eq_true rfl) rfl | exact law_sealR (by decide) (fun l hl => by rcases l with _ | _ | _ | _ | l <;> first | exact ⟨Nat.le_of_ble_eq_true rfl, rfl⟩ | exact ⟨Nat.le_of_ble_eq_true rfl, rfl, rfl⟩ | omega) (fun q hq => by rcases q with _ | _ | _ | _ | _ | _ | _ | _ | _ | q <;> first | exact ⟨Nat.le_of_ble_eq_true rfl, rfl⟩ | omega) | exact ⟨rfl, rfl, rfl⟩ | exact ⟨rfl, Nat.le_of_ble_eq_true rfl⟩ | exact x_sealRA (by assumption) rfl | exact fun i hi => DLes.refl _); done) | fail "no") : p := h
theorem wz9 : (∀ {p : Prop} [Decidable p], (decide p = true) = p) ∧ (∀ {p : Prop} [Decidable p], decide p = false ↔ ¬p) ∧ (∀ {a b : Bool}, ((a && b) = true) = (a = true ∧ b = true)) ∧ (∀ {a b : Bool}, ((a || b) = true) = (a = true ∨ b = true)) ∧ (∀ (x y : Bool), ((x && y) = false) = (x = false ∨ y = false)) ∧ (∀ (x y : Bool), ((x || y) = false) = (x = false ∧ y = false)) ∧ (∀ {b : Bool}, ((!b) = true) = (b = false)) ∧ (∀ {b : Bool}, ((!b) = false) = (b = true)) ∧ (∀ {α : Type} [BEq α] [LawfulBEq α] {a b : α}, (a == b) = true ↔ a = b) ∧ (∀ {α : Type} [BEq α] [LawfulBEq α] {a b : α}, (a != b) = true ↔ a ≠ b) ∧ (∀ {α : Type} (a b : α), (a ≠ b) = ¬(a = b)) ∧ (∀ {α : Type} [BEq α] [LawfulBEq α] {a b : α}, (a == b) = false ↔ a ≠ b) ∧ (∀ {α : Type} [BEq α] [LawfulBEq α] {a b : α}, (a != b) = false ↔ a = b) ∧ (∀ (b : Bool), (¬(b = true)) = (b = false)) ∧ (∀ (b : Bool), (¬(b = false)) = (b = true)) := ⟨by intros; first | (simp; done) | (rename_i x y; cases x <;> cases y <;> simp), by intros; first | (simp; done) | (rename_i x y; cases x <;> cases y <;> simp), by intros; first | (simp; done) | (rename_i x y; cases x <;> cases y <;> simp), by intros; first | (simp; done) | (rename_i x y; cases x <;> cases y <;> simp), by intros; first | (simp; done) | (rename_i x y; cases x <;> cases y <;> simp), by intros; first | (simp; done) | (rename_i x y; cases x <;> cases y <;> simp), by intros; first | (simp; done) | (rename_i x y; cases x <;> cases y <;> simp), by intros; first | (simp; done) | (rename_i x y; cases x <;> cases y <;> simp), by intros; first | (simp; done) | (rename_i x y; cases x <;> cases y <;> simp), by intros; first | (simp; done) | (rename_i x y; cases x <;> cases y <;> simp), by intros; first | (simp; done) | (rename_i x y; cases x <;> cases y <;> simp), by intros; first | (simp; done) | (rename_i x y; cases x <;> cases y <;> simp), by intros; first | (simp; done) | (rename_i x y; cases x <;> cases y <;> simp), by intros; first | (simp; done) | (rename_i x y; cases x <;> cases y <;> simp), by intros; first | (simp; done) | (rename_i x y; cases x <;> cases y <;> simp)⟩
def wpCan : Code → Bool
 | .seq _ _ => true
 | .block _ _ => true
 | .skip => true
 | .ret => true
 | .exit _ => true
 | .region _ _ _ => true
 | .cond _ _ _ => true
 | _ => false
def wpA (C : Cx) (c : Code) (S : St) (Q : Exit → St → Prop) : Prop :=
 match c with
 | .seq x y => Wp C x S (thenQ C y Q)
 | .block id c => Wp C c S (blockQ id Q)
 | .skip => Q .normal S
 | .ret => Q .ret S
 | .exit id => Q (.exit id) S
 | .region _ ⟨l⟩ false => execL C l l S (Q .normal)
 | .region _ ⟨l⟩ true => match S with
  | ⟨nt, nx, fr, hp⟩ => cntK l nx fun m => execR C l nx l 0 ⟨nt, m, fr, hp⟩ fun efs Sn => drawOK l efs nx ⟨nt, m, fr, hp⟩ = true ∧ Q .normal Sn
 | .cond x c d => condK C (ev S x) S c d Q
 | _ => False
theorem Wp.any {C : Cx} {c : Code} {S : St} {Q : Exit → St → Prop} (hm : C.P.follows .mixedOrders = true) (hc : wpCan c = true) (h : wpA C c S Q) : Wp C c S Q := by
 cases c with
 | seq x y => exact .seq h
 | block id c => exact .block h
 | skip => exact .skip h
 | ret => exact .ret h
 | exit id => exact .exit h
 | region id a b =>
  obtain ⟨l⟩ := a
  cases b with
  | false => exact .region h
  | true => obtain ⟨nt, nx, fr, hp⟩ := S; exact .drawL hm h
 | cond x c d => exact .cond h
 | _ => exact h.elim
theorem zN {a b : Nat} (h : Nat.ble a b = true := by exact rfl) : a ≤ b := Nat.le_of_ble_eq_true h
theorem zV {a b c d} {q : Prop} (h2 : q) (h : drawOK a b c d = true := by kernel_rfl) : drawOK a b c d = true ∧ q := ⟨h, h2⟩
theorem zz0 {p : Prop} (h : p := by first | (((conv => whnf); (repeat' (first | exact zC9 | ((refine Seal.fn ?_); (conv => whnf)) | ((refine Seal.tup ?_); (conv => whnf)) | ((refine Seal.iref ?_); (conv => whnf)) | ((refine And.intro ?_ ?_) <;> (conv => whnf))))); done) | fail "no") : p := h
theorem zz1 {p : Prop} (h : p := by first | ((((conv => whnf); repeat' (first | exact zE9 | exact x_arg (qo _) | ((with_reducible refine And.intro ?_ ?_) <;> (conv => whnf))))); done) | fail "no") : p := h
theorem zz2 {p : Prop} (h : p := by first | (((conv => whnf); (repeat' (first | exact zC9 | exact x_seal (qo _) | ((refine And.intro ?_ ?_) <;> (conv => whnf))))); done) | fail "no") : p := h
theorem zz3 {p : Prop} (h : p := by first | ((exact bytes_bd zN (by omega)); done) | fail "no") : p := h
theorem zz4 {p : Prop} (h : p := by first | (((conv => whnf); (repeat' (first | exact zC9 | exact x_sealR (qo _) rfl | ((refine And.intro ?_ ?_) <;> (conv => whnf))))); done) | fail "no") : p := h
theorem zz5 {p : Prop} (h : p := by first | (((conv => whnf); (repeat' (first | exact zC9 | exact x_seal (qo _) | ((refine And.intro ?_ ?_) <;> (conv => whnf)) | (intro i hi; refine DLes.of ?_; dsimp only; first | (rw [if_neg (by assumption)]; done) | (rw [if_pos (by assumption)]; rfl))))); done) | fail "no") : p := h
theorem zz6 {p : Prop} (h : p := by first | (((conv => whnf); (repeat' (first | exact zC9 | ((refine Seal.ptr rfl rfl ?_); (conv => whnf)) | ((refine Seal.fn ?_); (conv => whnf)) | ((refine Seal.tup ?_); (conv => whnf)) | ((refine Seal.iref ?_); (conv => whnf)) | ((refine And.intro ?_ ?_) <;> (conv => whnf))))); done) | fail "no") : p := h
theorem zz7 {p : Prop} (h : p := by first | ((((conv => whnf); repeat' (first | exact zH9 | ((with_reducible refine And.intro ?_ ?_) <;> (conv => whnf))))); done) | fail "no") : p := h
theorem zz8 {p : Prop} (h : p := by first | ((((conv => whnf); repeat' (first | exact trivial | ((with_reducible refine And.intro ?_ ?_) <;> (conv => whnf))))); done) | fail "no") : p := h
theorem zz9 {p : Prop} (h : p := by first | ((((conv => whnf); repeat' (first | exact trivial | exact law_argR (by decide) (fun l hl => by rcases l with _ | _ | _ | _ | l <;> first | exact ⟨Nat.le_of_ble_eq_true rfl, rfl⟩ | exact ⟨Nat.le_of_ble_eq_true rfl, rfl, rfl⟩ | omega) (fun q hq => by rcases q with _ | _ | _ | _ | _ | _ | _ | _ | _ | q <;> first | exact ⟨Nat.le_of_ble_eq_true rfl, rfl⟩ | omega) | exact law_argI (by decide) (by decide) (fun l hl => by rcases l with _ | _ | _ | _ | l <;> first | exact ⟨Nat.le_of_ble_eq_true rfl, rfl⟩ | exact ⟨Nat.le_of_ble_eq_true rfl, rfl, rfl⟩ | omega) (fun q hq => by rcases q with _ | _ | _ | _ | _ | _ | _ | _ | _ | q <;> first | exact ⟨Nat.le_of_ble_eq_true rfl, rfl⟩ | omega) | exact ArgLe.rfl rfl | exact ArgLe.ptr rfl | exact ArgLe.sl rfl | exact ⟨rfl, rfl, rfl⟩ | exact ⟨rfl, Nat.le_of_ble_eq_true rfl⟩ | exact x_argRA (by assumption) rfl | exact x_argA (by assumption) | exact fun i hi => rfl | ((with_reducible refine And.intro ?_ ?_) <;> (conv => whnf))))); done) | fail "no") : p := h
theorem zz10 {p : Prop} (h : p := by first | ((((conv => whnf); repeat' (first | exact zM9 | ((with_reducible refine And.intro ?_ ?_) <;> (conv => whnf))))); done) | fail "no") : p := h
theorem zz11 {p : Prop} (h : p := by first | ((((conv => whnf); repeat' (first | exact zH9 | exact SV.Lt.mono zN (lt_renS lt2 (fun l hl => by rcases l with _ | _ | _ | _ | _ | l <;> first | exact zN | omega) rfl) | ((with_reducible refine And.intro ?_ ?_) <;> (conv => whnf))))); done) | fail "no") : p := h
theorem zz12 {p : Prop} (h : p := by first | ((exact args_at (fun l hl => by rcases l with _ | _ | _ | _ | _ | l <;> first | exact ⟨by decide, rfl⟩ | rfl | omega) (lt_caps hlt5)); done) | fail "no") : p := h
theorem zz13 {p : Prop} (h : p := by first | ((((conv => whnf); repeat' (first | exact zI9 | exact core_argS q5 (fun l hl => swp_lo hl) (fun l hl => by rcases l with _ | _ | _ | _ | _ | _ | _ | _ | _ | _ | _ | _ | _ | l <;> first | exact ⟨by decide, rfl⟩ | rfl | omega) zN | exact x_arg (qo _) | ((with_reducible refine And.intro ?_ ?_) <;> (conv => whnf))))); done) | fail "no") : p := h
theorem zz14 {p : Prop} (h : p := by first | ((((conv => whnf); repeat' (first | exact trivial | exact renL_z lt2 (fun l hl => by rcases l with _ | _ | _ | _ | _ | l <;> first | exact .inl zN | exact .inr rfl | omega) | ((with_reducible refine And.intro ?_ ?_) <;> (conv => whnf))))); done) | fail "no") : p := h
theorem zz15 {p : Prop} (h : p := by first | ((exact ⟨ArgLe.ptr rfl, trivial⟩); done) | fail "no") : p := h
theorem zz16 {p : Prop} (h : p := by first | ((((conv => whnf); repeat' (first | exact zK9 | exact g1_arg (by decide) hn hne (fun l hl => by rcases l with _ | _ | _ | _ | l <;> first | exact ⟨Nat.le_of_ble_eq_true rfl, rfl, rfl⟩ | exact ⟨Nat.le_of_ble_eq_true rfl, rfl⟩ | omega) (fun k hk hne' => by rcases k with _ | _ | _ | _ | _ | _ | _ | _ | _ | k <;> first | exact ⟨Nat.le_of_ble_eq_true rfl, rfl⟩ | exact absurd rfl hne' | omega) | exact x_arg (qo _) | ((with_reducible refine And.intro ?_ ?_) <;> (conv => whnf))))); done) | fail "no") : p := h
theorem zz17 {p : Prop} (h : p := by first | (((conv => whnf); (repeat' (first | exact zC9))); done) | fail "no") : p := h
theorem zz18 {p : Prop} (h : p := by first | ((((conv => whnf); repeat' (first | exact zE9 | exact x_argR (qo _) rfl | ((with_reducible refine And.intro ?_ ?_) <;> (conv => whnf))))); done) | fail "no") : p := h
theorem zz19 {p : Prop} (h : p := by first | ((((conv => whnf); repeat' (first | exact trivial | exact law_argR (by decide) (fun l hl => by rcases l with _ | _ | _ | _ | l <;> first | exact ⟨Nat.le_of_ble_eq_true rfl, rfl⟩ | exact ⟨Nat.le_of_ble_eq_true rfl, rfl, rfl⟩ | omega) (fun q hq => by rcases q with _ | _ | _ | _ | _ | _ | _ | _ | _ | q <;> first | exact ⟨Nat.le_of_ble_eq_true rfl, rfl⟩ | omega) | exact law_argI (by decide) (by decide) (fun l hl => by rcases l with _ | _ | _ | _ | l <;> first | exact ⟨Nat.le_of_ble_eq_true rfl, rfl⟩ | exact ⟨Nat.le_of_ble_eq_true rfl, rfl, rfl⟩ | omega) (fun q hq => by rcases q with _ | _ | _ | _ | _ | _ | _ | _ | _ | q <;> first | exact ⟨Nat.le_of_ble_eq_true rfl, rfl⟩ | omega) | exact law_arg2 (fun l hl => by rcases l with _ | _ | _ | _ | l <;> first | exact ⟨Nat.le_of_ble_eq_true rfl, rfl⟩ | exact ⟨Nat.le_of_ble_eq_true rfl, rfl, rfl⟩ | omega) (fun q hq => by rcases q with _ | _ | _ | _ | _ | _ | _ | _ | _ | q <;> first | exact ⟨Nat.le_of_ble_eq_true rfl, rfl⟩ | omega) | exact ArgLe.rfl rfl | exact ArgLe.ptr rfl | exact ArgLe.sl rfl | exact ⟨rfl, rfl, rfl⟩ | exact ⟨rfl, Nat.le_of_ble_eq_true rfl⟩ | exact x_argRA (by assumption) rfl | exact x_argA (by assumption) | exact x_arg2 (by assumption) zN rfl | exact x_argS (by assumption) | exact fun i hi => rfl | ((with_reducible refine And.intro ?_ ?_) <;> (conv => whnf))))); done) | fail "no") : p := h
theorem zz20 {p : Prop} (h : p := by first | ((((conv => whnf); repeat' (first | exact zF9 | ((refine ArgLe.iref ?_); (conv => whnf)) | ((with_reducible refine And.intro ?_ ?_) <;> (conv => whnf))))); done) | fail "no") : p := h
theorem zz21 {p : Prop} (h : p := by first | ((((conv => whnf); repeat' (first | exact zF9 | ((refine ArgLe.fn ?_); (conv => whnf)) | ((refine ArgLe.iref ?_); (conv => whnf)) | ((with_reducible refine And.intro ?_ ?_) <;> (conv => whnf))))); done) | fail "no") : p := h
theorem zz22 {p : Prop} (h : p := by first | (((conv => whnf); (repeat' (first | exact Seal.d))); done) | fail "no") : p := h
theorem zz23 {p : Prop} (h : p := by first | (((conv => whnf); (repeat' (first | exact zC9 | ((refine Seal.tup ?_); (conv => whnf)) | ((refine And.intro ?_ ?_) <;> (conv => whnf))))); done) | fail "no") : p := h
theorem zz24 {p : Prop} (h : p := by first | ((((conv => whnf); repeat' (first | exact zF9 | ((with_reducible refine And.intro ?_ ?_) <;> (conv => whnf))))); done) | fail "no") : p := h
theorem zz25 {p : Prop} (h : p := by first | ((((conv => whnf); (refine And.intro (core_sameP rfl rfl q5 (fun l hl => by rcases l with _ | _ | _ | _ | _ | _ | _ | _ | _ | _ | _ | _ | _ | l <;> first | rfl | omega) rfl) ?_); (conv => whnf); (refine And.intro rfl ?_); (conv => whnf); (refine And.intro rfl ?_); (conv => whnf); (refine And.intro (x_sameP (n := 9) (f := xF who x) rfl rfl (xF_lt who x) rfl rfl) ?_); (conv => whnf); (refine And.intro (x_sameP (n := (o 0).n) (f := (o 0).f) rfl rfl (qo 0) rfl rfl) ?_); (conv => whnf); (refine And.intro (x_sameP (n := (o 1).n) (f := (o 1).f) rfl rfl (qo 1) rfl rfl) ?_); (conv => whnf); (refine And.intro (x_sameP (n := (o 2).n) (f := (o 2).f) rfl rfl (qo 2) rfl rfl) ?_); (conv => whnf); (refine And.intro (x_sameP (n := (o 3).n) (f := (o 3).f) rfl rfl (qo 3) rfl rfl) ?_); (conv => whnf); (refine And.intro (x_sameP (n := (o 4).n) (f := (o 4).f) rfl rfl (qo 4) rfl rfl) ?_); (conv => whnf); (refine And.intro (x_sameP (n := (o 5).n) (f := (o 5).f) rfl rfl (qo 5) rfl rfl) ?_); (conv => whnf); (refine And.intro (x_sameP (n := (o 6).n) (f := (o 6).f) rfl rfl (qo 6) rfl rfl) ?_); (conv => whnf); (refine And.intro (x_sameP (n := (o 7).n) (f := (o 7).f) rfl rfl (qo 7) rfl rfl) ?_); (conv => whnf); exact trivial)); done) | fail "no") : p := h
theorem zz26 {p : Prop} (h : p := by first | ((((conv => whnf); repeat' (first | exact zB9 | ((with_reducible refine And.intro ?_ ?_) <;> (conv => whnf))))); done) | fail "no") : p := h
end Go.Proofs.YtplpofmnhcclbaaGreat

namespace Go.Proofs.YtplpofmnhcclbaaGreat
open Go.RowKit
abbrev zP := TIok Tryz.prog
theorem zT {P : Program} {t : Nat} {i : TI} (h : TIok P t i := by exact ⟨by kernel_rfl, by kernel_rfl, fun h => by cases h⟩) : TIok P t i := h
def ti39 : TI := ⟨.struct [(0, 25), (1, 4), (2, 2), (3, 2), (4, 2), (5, 2)], 6, 48, [.int .i64 0, .bool false, .int .i64 0, .int .i64 0, .int .i64 0, .int .i64 0], true⟩
theorem ti39_ok : zP 39 ti39 := ⟨by kernel_rfl, by kernel_rfl, fun _ => ⟨by kernel_rfl, by kernel_rfl, by kernel_rfl⟩⟩
def ti40 : TI := ⟨.struct [(0, 25), (1, 4), (2, 2), (3, 2), (4, 2), (5, 2)], 6, 48, [.int .i64 0, .bool false, .int .i64 0, .int .i64 0, .int .i64 0, .int .i64 0], true⟩
theorem ti40_ok : zP 40 ti40 := ⟨by kernel_rfl, by kernel_rfl, fun _ => ⟨by kernel_rfl, by kernel_rfl, by kernel_rfl⟩⟩
def ti41 : TI := ⟨.struct [(0, 4), (1, 40)], 7, 56, [.bool false, .int .i64 0, .bool false, .int .i64 0, .int .i64 0, .int .i64 0, .int .i64 0], true⟩
theorem ti41_ok : zP 41 ti41 := ⟨by kernel_rfl, by kernel_rfl, fun _ => ⟨by kernel_rfl, by kernel_rfl, by kernel_rfl⟩⟩
def ti42 : TI := ⟨.struct [(0, 4), (1, 40)], 7, 56, [.bool false, .int .i64 0, .bool false, .int .i64 0, .int .i64 0, .int .i64 0, .int .i64 0], true⟩
theorem ti42_ok : zP 42 ti42 := ⟨by kernel_rfl, by kernel_rfl, fun _ => ⟨by kernel_rfl, by kernel_rfl, by kernel_rfl⟩⟩
def ti74 : TI := ⟨.struct [(0, 2), (1, 2)], 2, 16, [.int .i64 0, .int .i64 0], true⟩
theorem ti74_ok : zP 74 ti74 := ⟨by kernel_rfl, by kernel_rfl, fun _ => ⟨by kernel_rfl, by kernel_rfl, by kernel_rfl⟩⟩
def ti75 : TI := ⟨.struct [(0, 2), (1, 2)], 2, 16, [.int .i64 0, .int .i64 0], true⟩
theorem ti75_ok : zP 75 ti75 := ⟨by kernel_rfl, by kernel_rfl, fun _ => ⟨by kernel_rfl, by kernel_rfl, by kernel_rfl⟩⟩
def ti76 : TI := ⟨.struct [(0, 5), (1, 75), (3, 3)], 4, 32, [.int .u8 0, .int .i64 0, .int .i64 0, .int .i64 0], true⟩
theorem ti76_ok : zP 76 ti76 := ⟨by kernel_rfl, by kernel_rfl, fun _ => ⟨by kernel_rfl, by kernel_rfl, by kernel_rfl⟩⟩
def ti77 : TI := ⟨.struct [(0, 5), (1, 75), (3, 3)], 4, 32, [.int .u8 0, .int .i64 0, .int .i64 0, .int .i64 0], true⟩
theorem ti77_ok : zP 77 ti77 := ⟨by kernel_rfl, by kernel_rfl, fun _ => ⟨by kernel_rfl, by kernel_rfl, by kernel_rfl⟩⟩
def ti84 : TI := ⟨.struct [(0, 3), (1, 3), (2, 3), (3, 4), (4, 78), (5, 3)], 6, 48, [.int .i64 0, .int .i64 0, .int .i64 0, .bool false, .int .u64 0, .int .i64 0], true⟩
theorem ti84_ok : zP 84 ti84 := ⟨by kernel_rfl, by kernel_rfl, fun _ => ⟨by kernel_rfl, by kernel_rfl, by kernel_rfl⟩⟩
def ti85 : TI := ⟨.struct [(0, 3), (1, 3), (2, 3), (3, 4), (4, 78), (5, 3)], 6, 48, [.int .i64 0, .int .i64 0, .int .i64 0, .bool false, .int .u64 0, .int .i64 0], true⟩
theorem ti85_ok : zP 85 ti85 := ⟨by kernel_rfl, by kernel_rfl, fun _ => ⟨by kernel_rfl, by kernel_rfl, by kernel_rfl⟩⟩
def ti207 : TI := ⟨.struct [(0, 4), (1, 2), (2, 2), (3, 2)], 4, 32, [.bool false, .int .i64 0, .int .i64 0, .int .i64 0], true⟩
theorem ti207_ok : zP 207 ti207 := ⟨by kernel_rfl, by kernel_rfl, fun _ => ⟨by kernel_rfl, by kernel_rfl, by kernel_rfl⟩⟩
def ti208 : TI := ⟨.struct [(0, 4), (1, 2), (2, 2), (3, 2)], 4, 32, [.bool false, .int .i64 0, .int .i64 0, .int .i64 0], true⟩
theorem ti208_ok : zP 208 ti208 := ⟨by kernel_rfl, by kernel_rfl, fun _ => ⟨by kernel_rfl, by kernel_rfl, by kernel_rfl⟩⟩
def ti271 : TI := ⟨.struct [(0, 3), (1, 5), (2, 3), (3, 78), (4, 78), (5, 4)], 6, 48, [.int .i64 0, .int .u8 0, .int .i64 0, .int .u64 0, .int .u64 0, .bool false], true⟩
theorem ti271_ok : zP 271 ti271 := ⟨by kernel_rfl, by kernel_rfl, fun _ => ⟨by kernel_rfl, by kernel_rfl, by kernel_rfl⟩⟩
def ti272 : TI := ⟨.struct [(0, 3), (1, 5), (2, 3), (3, 78), (4, 78), (5, 4)], 6, 48, [.int .i64 0, .int .u8 0, .int .i64 0, .int .u64 0, .int .u64 0, .bool false], true⟩
theorem ti272_ok : zP 272 ti272 := ⟨by kernel_rfl, by kernel_rfl, fun _ => ⟨by kernel_rfl, by kernel_rfl, by kernel_rfl⟩⟩
def ti316 : TI := ⟨.struct [(0, 4), (1, 2), (2, 2), (3, 2)], 4, 32, [.bool false, .int .i64 0, .int .i64 0, .int .i64 0], true⟩
theorem ti316_ok : zP 316 ti316 := ⟨by kernel_rfl, by kernel_rfl, fun _ => ⟨by kernel_rfl, by kernel_rfl, by kernel_rfl⟩⟩
def tyTree : TyTree := .node (.node (.node (.node (.node (.node (.node (.node (.node (.leaf) 1 ⟨.func, 1, 8, [.nilFunc], false⟩ (.leaf)) 2 ⟨.int .i64, 1, 8, [.int .i64 0], false⟩ (.leaf)) 3 ⟨.int .i64, 1, 8, [.int .i64 0], false⟩ (.node (.leaf) 4 ⟨.bool, 1, 1, [.bool false], false⟩ (.leaf))) 5 ⟨.int .u8, 1, 1, [.int .u8 0], false⟩ (.node (.node (.node (.leaf) 6 ⟨.int .u8, 1, 1, [.int .u8 0], false⟩ (.leaf)) 7 ⟨.struct [(0, 2), (1, 3), (2, 4), (3, 6)], 4, 24, [.int .i64 0, .int .i64 0, .bool false, .int .u8 0], false⟩ (.leaf)) 8 ⟨.struct [(0, 2), (1, 3), (2, 4), (3, 6)], 4, 24, [.int .i64 0, .int .i64 0, .bool false, .int .u8 0], false⟩ (.node (.leaf) 9 ⟨.str, 1, 16, [.string ⟨#[]⟩], false⟩ (.leaf)))) 10 ⟨.str, 1, 16, [.string ⟨#[]⟩], false⟩ (.node (.node (.node (.node (.leaf) 11 ⟨.str, 1, 16, [.string ⟨#[]⟩], false⟩ (.leaf)) 12 ⟨.int .u64, 1, 8, [.int .u64 0], false⟩ (.leaf)) 13 ⟨.struct [(0, 9), (1, 12)], 2, 24, [.string ⟨#[]⟩, .int .u64 0], false⟩ (.node (.leaf) 14 ⟨.struct [(0, 9), (1, 12)], 2, 24, [.string ⟨#[]⟩, .int .u64 0], false⟩ (.leaf))) 15 ⟨.ptr 329, 1, 8, [.pointer none], false⟩ (.node (.node (.leaf) 16 ⟨.ptr 332, 1, 8, [.pointer none], false⟩ (.leaf)) 17 ⟨.ptr 340, 1, 8, [.pointer none], false⟩ (.node (.leaf) 18 ⟨.struct [(0, 17)], 1, 8, [.pointer none], false⟩ (.leaf))))) 19 ⟨.struct [(0, 17)], 1, 8, [.pointer none], false⟩ (.node (.node (.node (.node (.node (.leaf) 20 ⟨.other, 1, 16, [.nilIface], false⟩ (.leaf)) 21 ⟨.int .i32, 1, 4, [.int .i32 0], false⟩ (.leaf)) 22 ⟨.slice 34, 1, 24, [.slice none 0 0], false⟩ (.node (.leaf) 23 ⟨.func, 1, 8, [.nilFunc], false⟩ (.leaf))) 24 ⟨.ptr 119, 1, 8, [.pointer none], false⟩ (.node (.node (.leaf) 25 ⟨.int .i64, 1, 8, [.int .i64 0], false⟩ (.leaf)) 27 ⟨.func, 1, 8, [.nilFunc], false⟩ (.node (.leaf) 28 ⟨.slice 77, 1, 24, [.slice none 0 0], false⟩ (.leaf)))) 29 ⟨.func, 1, 8, [.nilFunc], false⟩ (.node (.node (.node (.node (.leaf) 30 ⟨.slice 5, 1, 24, [.slice none 0 0], false⟩ (.leaf)) 31 ⟨.struct [(0, 5), (1, 3), (2, 30), (3, 2)], 4, 48, [.int .u8 0, .int .i64 0, .slice none 0 0, .int .i64 0], false⟩ (.leaf)) 32 ⟨.struct [(0, 5), (1, 3), (2, 30), (3, 2)], 4, 48, [.int .u8 0, .int .i64 0, .slice none 0 0, .int .i64 0], false⟩ (.node (.leaf) 33 ⟨.struct [(0, 5), (1, 3), (2, 32), (6, 2)], 7, 72, [.int .u8 0, .int .i64 0, .int .u8 0, .int .i64 0, .slice none 0 0, .int .i64 0, .int .i64 0], false⟩ (.leaf))) 34 ⟨.struct [(0, 5), (1, 3), (2, 32), (6, 2)], 7, 72, [.int .u8 0, .int .i64 0, .int .u8 0, .int .i64 0, .slice none 0 0, .int .i64 0, .int .i64 0], false⟩ (.node (.node (.leaf) 35 ⟨.int .u64, 1, 8, [.int .u64 0], false⟩ (.leaf)) 36 ⟨.func, 1, 8, [.nilFunc], false⟩ (.node (.leaf) 37 ⟨.func, 1, 8, [.nilFunc], false⟩ (.leaf)))))) 38 ⟨.func, 1, 8, [.nilFunc], false⟩ (.node (.node (.node (.node (.node (.node (.leaf) 39 ti39 (.leaf)) 40 ti40 (.leaf)) 41 ti41 (.node (.leaf) 42 ti42 (.leaf))) 44 ⟨.func, 1, 8, [.nilFunc], false⟩ (.node (.node (.node (.leaf) 45 ⟨.func, 1, 8, [.nilFunc], false⟩ (.leaf)) 46 ⟨.func, 1, 8, [.nilFunc], false⟩ (.leaf)) 48 ⟨.func, 1, 8, [.nilFunc], false⟩ (.node (.leaf) 49 ⟨.func, 1, 8, [.nilFunc], false⟩ (.leaf)))) 50 ⟨.func, 1, 8, [.nilFunc], false⟩ (.node (.node (.node (.node (.leaf) 52 ⟨.func, 1, 8, [.nilFunc], false⟩ (.leaf)) 53 ⟨.func, 1, 8, [.nilFunc], false⟩ (.leaf)) 54 ⟨.slice 2, 1, 24, [.slice none 0 0], false⟩ (.node (.leaf) 55 ⟨.func, 1, 8, [.nilFunc], false⟩ (.leaf))) 57 ⟨.func, 1, 8, [.nilFunc], false⟩ (.node (.node (.leaf) 58 ⟨.func, 1, 8, [.nilFunc], false⟩ (.leaf)) 59 ⟨.func, 1, 8, [.nilFunc], false⟩ (.node (.leaf) 60 ⟨.slice 87, 1, 24, [.slice none 0 0], false⟩ (.leaf))))) 61 ⟨.func, 1, 8, [.nilFunc], false⟩ (.node (.node (.node (.node (.node (.leaf) 62 ⟨.func, 1, 8, [.nilFunc], false⟩ (.leaf)) 63 ⟨.ptr 66, 1, 8, [.pointer none], false⟩ (.leaf)) 64 ⟨.array 5 32, 20, 240, [.int .u8 0, .int .i64 0, .slice none 0 0, .int .i64 0, .int .u8 0, .int .i64 0, .slice none 0 0, .int .i64 0, .int .u8 0, .int .i64 0, .slice none 0 0, .int .i64 0, .int .u8 0, .int .i64 0, .slice none 0 0, .int .i64 0, .int .u8 0, .int .i64 0, .slice none 0 0, .int .i64 0], false⟩ (.node (.leaf) 65 ⟨.struct [(0, 24), (1, 64), (21, 54), (22, 54)], 23, 296, [.pointer none, .int .u8 0, .int .i64 0, .slice none 0 0, .int .i64 0, .int .u8 0, .int .i64 0, .slice none 0 0, .int .i64 0, .int .u8 0, .int .i64 0, .slice none 0 0, .int .i64 0, .int .u8 0, .int .i64 0, .slice none 0 0, .int .i64 0, .int .u8 0, .int .i64 0, .slice none 0 0, .int .i64 0, .slice none 0 0, .slice none 0 0], false⟩ (.leaf))) 66 ⟨.struct [(0, 24), (1, 64), (21, 54), (22, 54)], 23, 296, [.pointer none, .int .u8 0, .int .i64 0, .slice none 0 0, .int .i64 0, .int .u8 0, .int .i64 0, .slice none 0 0, .int .i64 0, .int .u8 0, .int .i64 0, .slice none 0 0, .int .i64 0, .int .u8 0, .int .i64 0, .slice none 0 0, .int .i64 0, .int .u8 0, .int .i64 0, .slice none 0 0, .int .i64 0, .slice none 0 0, .slice none 0 0], false⟩ (.node (.node (.leaf) 67 ⟨.int .u16, 1, 2, [.int .u16 0], false⟩ (.leaf)) 68 ⟨.ptr 93, 1, 8, [.pointer none], false⟩ (.node (.leaf) 69 ⟨.struct [(0, 24), (1, 68)], 2, 16, [.pointer none, .pointer none], false⟩ (.leaf)))) 70 ⟨.struct [(0, 24), (1, 68)], 2, 16, [.pointer none, .pointer none], false⟩ (.node (.node (.node (.node (.leaf) 72 ⟨.func, 1, 8, [.nilFunc], false⟩ (.leaf)) 73 ⟨.func, 1, 8, [.nilFunc], false⟩ (.leaf)) 74 ti74 (.node (.leaf) 75 ti75 (.leaf))) 76 ti76 (.node (.node (.leaf) 77 ti77 (.leaf)) 78 ⟨.int .u64, 1, 8, [.int .u64 0], false⟩ (.node (.leaf) 79 ⟨.array 32 78, 32, 256, (.replicate 32 (.int .u64 0)), false⟩ (.leaf))))))) 80 ⟨.struct [(0, 79)], 32, 256, (.replicate 32 (.int .u64 0)), false⟩ (.node (.node (.node (.node (.node (.node (.node (.leaf) 81 ⟨.struct [(0, 79)], 32, 256, (.replicate 32 (.int .u64 0)), false⟩ (.leaf)) 82 ⟨.array 32 60, 32, 768, [.slice none 0 0, .slice none 0 0, .slice none 0 0, .slice none 0 0, .slice none 0 0, .slice none 0 0, .slice none 0 0, .slice none 0 0, .slice none 0 0, .slice none 0 0, .slice none 0 0, .slice none 0 0, .slice none 0 0, .slice none 0 0, .slice none 0 0, .slice none 0 0, .slice none 0 0, .slice none 0 0, .slice none 0 0, .slice none 0 0, .slice none 0 0, .slice none 0 0, .slice none 0 0, .slice none 0 0, .slice none 0 0, .slice none 0 0, .slice none 0 0, .slice none 0 0, .slice none 0 0, .slice none 0 0, .slice none 0 0, .slice none 0 0], false⟩ (.leaf)) 83 ⟨.slice 95, 1, 24, [.slice none 0 0], false⟩ (.node (.leaf) 84 ti84 (.leaf))) 85 ti85 (.node (.node (.node (.leaf) 86 ⟨.struct [(0, 3), (1, 30), (2, 2), (3, 54)], 4, 64, [.int .i64 0, .slice none 0 0, .int .i64 0, .slice none 0 0], false⟩ (.leaf)) 87 ⟨.struct [(0, 3), (1, 30), (2, 2), (3, 54)], 4, 64, [.int .i64 0, .slice none 0 0, .int .i64 0, .slice none 0 0], false⟩ (.leaf)) 88 ⟨.struct [(0, 32), (4, 3), (5, 78), (6, 85), (12, 4), (13, 87), (17, 4), (18, 2), (19, 2), (20, 2), (21, 40), (27, 2), (28, 2), (29, 3), (30, 3), (31, 2), (32, 60), (33, 3)], 34, 336, [.int .u8 0, .int .i64 0, .slice none 0 0, .int .i64 0, .int .i64 0, .int .u64 0, .int .i64 0, .int .i64 0, .int .i64 0, .bool false, .int .u64 0, .int .i64 0, .bool false, .int .i64 0, .slice none 0 0, .int .i64 0, .slice none 0 0, .bool false, .int .i64 0, .int .i64 0, .int .i64 0, .int .i64 0, .bool false, .int .i64 0, .int .i64 0, .int .i64 0, .int .i64 0, .int .i64 0, .int .i64 0, .int .i64 0, .int .i64 0, .int .i64 0, .slice none 0 0, .int .i64 0], false⟩ (.node (.leaf) 89 ⟨.struct [(0, 32), (4, 3), (5, 78), (6, 85), (12, 4), (13, 87), (17, 4), (18, 2), (19, 2), (20, 2), (21, 40), (27, 2), (28, 2), (29, 3), (30, 3), (31, 2), (32, 60), (33, 3)], 34, 336, [.int .u8 0, .int .i64 0, .slice none 0 0, .int .i64 0, .int .i64 0, .int .u64 0, .int .i64 0, .int .i64 0, .int .i64 0, .bool false, .int .u64 0, .int .i64 0, .bool false, .int .i64 0, .slice none 0 0, .int .i64 0, .slice none 0 0, .bool false, .int .i64 0, .int .i64 0, .int .i64 0, .int .i64 0, .bool false, .int .i64 0, .int .i64 0, .int .i64 0, .int .i64 0, .int .i64 0, .int .i64 0, .int .i64 0, .int .i64 0, .int .i64 0, .slice none 0 0, .int .i64 0], false⟩ (.leaf)))) 91 ⟨.array 64 3, 64, 512, (.replicate 64 (.int .i64 0)), false⟩ (.node (.node (.node (.node (.leaf) 94 ⟨.struct [(0, 3), (1, 32), (5, 3), (6, 3), (7, 3), (8, 40)], 14, 128, [.int .i64 0, .int .u8 0, .int .i64 0, .slice none 0 0, .int .i64 0, .int .i64 0, .int .i64 0, .int .i64 0, .int .i64 0, .bool false, .int .i64 0, .int .i64 0, .int .i64 0, .int .i64 0], false⟩ (.leaf)) 95 ⟨.struct [(0, 3), (1, 32), (5, 3), (6, 3), (7, 3), (8, 40)], 14, 128, [.int .i64 0, .int .u8 0, .int .i64 0, .slice none 0 0, .int .i64 0, .int .i64 0, .int .i64 0, .int .i64 0, .int .i64 0, .bool false, .int .i64 0, .int .i64 0, .int .i64 0, .int .i64 0], false⟩ (.leaf)) 96 ⟨.slice 9, 1, 24, [.slice none 0 0], false⟩ (.node (.leaf) 97 ⟨.func, 1, 8, [.nilFunc], false⟩ (.leaf))) 98 ⟨.ptr 148, 1, 8, [.pointer none], false⟩ (.node (.node (.leaf) 100 ⟨.func, 1, 8, [.nilFunc], false⟩ (.leaf)) 101 ⟨.func, 1, 8, [.nilFunc], false⟩ (.node (.leaf) 102 ⟨.func, 1, 8, [.nilFunc], false⟩ (.leaf))))) 103 ⟨.func, 1, 8, [.nilFunc], false⟩ (.node (.node (.node (.node (.node (.leaf) 105 ⟨.func, 1, 8, [.nilFunc], false⟩ (.leaf)) 106 ⟨.func, 1, 8, [.nilFunc], false⟩ (.leaf)) 107 ⟨.func, 1, 8, [.nilFunc], false⟩ (.node (.leaf) 108 ⟨.func, 1, 8, [.nilFunc], false⟩ (.leaf))) 109 ⟨.func, 1, 8, [.nilFunc], false⟩ (.node (.node (.leaf) 110 ⟨.func, 1, 8, [.nilFunc], false⟩ (.leaf)) 111 ⟨.ptr 135, 1, 8, [.pointer none], false⟩ (.node (.leaf) 112 ⟨.func, 1, 8, [.nilFunc], false⟩ (.leaf)))) 113 ⟨.func, 1, 8, [.nilFunc], false⟩ (.node (.node (.node (.node (.leaf) 114 ⟨.func, 1, 8, [.nilFunc], false⟩ (.leaf)) 115 ⟨.func, 1, 8, [.nilFunc], false⟩ (.leaf)) 116 ⟨.array 64 115, 64, 512, (.replicate 64 (.nilFunc)), false⟩ (.node (.leaf) 117 ⟨.array 64 115, 64, 512, (.replicate 64 (.nilFunc)), false⟩ (.leaf))) 118 ⟨.struct [(0, 28), (1, 78), (2, 111), (3, 117)], 67, 552, [.slice none 0 0, .int .u64 0, .pointer none, .nilFunc, .nilFunc, .nilFunc, .nilFunc, .nilFunc, .nilFunc, .nilFunc, .nilFunc, .nilFunc, .nilFunc, .nilFunc, .nilFunc, .nilFunc, .nilFunc, .nilFunc, .nilFunc, .nilFunc, .nilFunc, .nilFunc, .nilFunc, .nilFunc, .nilFunc, .nilFunc, .nilFunc, .nilFunc, .nilFunc, .nilFunc, .nilFunc, .nilFunc, .nilFunc, .nilFunc, .nilFunc, .nilFunc, .nilFunc, .nilFunc, .nilFunc, .nilFunc, .nilFunc, .nilFunc, .nilFunc, .nilFunc, .nilFunc, .nilFunc, .nilFunc, .nilFunc, .nilFunc, .nilFunc, .nilFunc, .nilFunc, .nilFunc, .nilFunc, .nilFunc, .nilFunc, .nilFunc, .nilFunc, .nilFunc, .nilFunc, .nilFunc, .nilFunc, .nilFunc, .nilFunc, .nilFunc, .nilFunc, .nilFunc], false⟩ (.node (.node (.leaf) 119 ⟨.struct [(0, 28), (1, 78), (2, 111), (3, 117)], 67, 552, [.slice none 0 0, .int .u64 0, .pointer none, .nilFunc, .nilFunc, .nilFunc, .nilFunc, .nilFunc, .nilFunc, .nilFunc, .nilFunc, .nilFunc, .nilFunc, .nilFunc, .nilFunc, .nilFunc, .nilFunc, .nilFunc, .nilFunc, .nilFunc, .nilFunc, .nilFunc, .nilFunc, .nilFunc, .nilFunc, .nilFunc, .nilFunc, .nilFunc, .nilFunc, .nilFunc, .nilFunc, .nilFunc, .nilFunc, .nilFunc, .nilFunc, .nilFunc, .nilFunc, .nilFunc, .nilFunc, .nilFunc, .nilFunc, .nilFunc, .nilFunc, .nilFunc, .nilFunc, .nilFunc, .nilFunc, .nilFunc, .nilFunc, .nilFunc, .nilFunc, .nilFunc, .nilFunc, .nilFunc, .nilFunc, .nilFunc, .nilFunc, .nilFunc, .nilFunc, .nilFunc, .nilFunc, .nilFunc, .nilFunc, .nilFunc, .nilFunc, .nilFunc, .nilFunc], false⟩ (.leaf)) 120 ⟨.func, 1, 8, [.nilFunc], false⟩ (.node (.leaf) 121 ⟨.func, 1, 8, [.nilFunc], false⟩ (.leaf)))))) 122 ⟨.func, 1, 8, [.nilFunc], false⟩ (.node (.node (.node (.node (.node (.node (.leaf) 123 ⟨.ptr 126, 1, 8, [.pointer none], false⟩ (.leaf)) 124 ⟨.func, 1, 8, [.nilFunc], false⟩ (.leaf)) 125 ⟨.struct [(0, 32), (4, 24), (5, 3), (6, 78), (7, 4), (8, 2)], 9, 88, [.int .u8 0, .int .i64 0, .slice none 0 0, .int .i64 0, .pointer none, .int .i64 0, .int .u64 0, .bool false, .int .i64 0], false⟩ (.node (.leaf) 126 ⟨.struct [(0, 32), (4, 24), (5, 3), (6, 78), (7, 4), (8, 2)], 9, 88, [.int .u8 0, .int .i64 0, .slice none 0 0, .int .i64 0, .pointer none, .int .i64 0, .int .u64 0, .bool false, .int .i64 0], false⟩ (.leaf))) 127 ⟨.func, 1, 8, [.nilFunc], false⟩ (.node (.node (.leaf) 128 ⟨.func, 1, 8, [.nilFunc], false⟩ (.leaf)) 129 ⟨.ptr 195, 1, 8, [.pointer none], false⟩ (.node (.leaf) 130 ⟨.slice 60, 1, 24, [.slice none 0 0], false⟩ (.leaf)))) 131 ⟨.struct [(0, 129), (1, 130)], 2, 32, [.pointer none, .slice none 0 0], false⟩ (.node (.node (.node (.node (.leaf) 132 ⟨.struct [(0, 129), (1, 130)], 2, 32, [.pointer none, .slice none 0 0], false⟩ (.leaf)) 133 ⟨.ptr 132, 1, 8, [.pointer none], false⟩ (.leaf)) 134 ⟨.struct [(0, 133), (1, 113)], 2, 16, [.pointer none, .nilFunc], false⟩ (.node (.leaf) 135 ⟨.struct [(0, 133), (1, 113)], 2, 16, [.pointer none, .nilFunc], false⟩ (.leaf))) 137 ⟨.func, 1, 8, [.nilFunc], false⟩ (.node (.node (.leaf) 138 ⟨.func, 1, 8, [.nilFunc], false⟩ (.leaf)) 139 ⟨.func, 1, 8, [.nilFunc], false⟩ (.node (.leaf) 140 ⟨.func, 1, 8, [.nilFunc], false⟩ (.leaf))))) 141 ⟨.func, 1, 8, [.nilFunc], false⟩ (.node (.node (.node (.node (.node (.leaf) 142 ⟨.func, 1, 8, [.nilFunc], false⟩ (.leaf)) 143 ⟨.func, 1, 8, [.nilFunc], false⟩ (.leaf)) 144 ⟨.func, 1, 8, [.nilFunc], false⟩ (.node (.leaf) 145 ⟨.func, 1, 8, [.nilFunc], false⟩ (.leaf))) 146 ⟨.func, 1, 8, [.nilFunc], false⟩ (.node (.node (.leaf) 147 ⟨.struct [(0, 28), (1, 3), (2, 60)], 3, 56, [.slice none 0 0, .int .i64 0, .slice none 0 0], false⟩ (.leaf)) 148 ⟨.struct [(0, 28), (1, 3), (2, 60)], 3, 56, [.slice none 0 0, .int .i64 0, .slice none 0 0], false⟩ (.node (.leaf) 149 ⟨.func, 1, 8, [.nilFunc], false⟩ (.leaf)))) 150 ⟨.func, 1, 8, [.nilFunc], false⟩ (.node (.node (.node (.node (.leaf) 151 ⟨.func, 1, 8, [.nilFunc], false⟩ (.leaf)) 152 ⟨.func, 1, 8, [.nilFunc], false⟩ (.leaf)) 154 ⟨.func, 1, 8, [.nilFunc], false⟩ (.node (.leaf) 155 ⟨.func, 1, 8, [.nilFunc], false⟩ (.leaf))) 157 ⟨.func, 1, 8, [.nilFunc], false⟩ (.node (.node (.leaf) 158 ⟨.func, 1, 8, [.nilFunc], false⟩ (.leaf)) 159 ⟨.func, 1, 8, [.nilFunc], false⟩ (.node (.leaf) 160 ⟨.ptr 164, 1, 8, [.pointer none], false⟩ (.leaf)))))))) 162 ⟨.func, 1, 8, [.nilFunc], false⟩ (.node (.node (.node (.node (.node (.node (.node (.node (.leaf) 163 ⟨.struct [(0, 28), (1, 3), (2, 60)], 3, 56, [.slice none 0 0, .int .i64 0, .slice none 0 0], false⟩ (.leaf)) 164 ⟨.struct [(0, 28), (1, 3), (2, 60)], 3, 56, [.slice none 0 0, .int .i64 0, .slice none 0 0], false⟩ (.leaf)) 166 ⟨.func, 1, 8, [.nilFunc], false⟩ (.node (.leaf) 168 ⟨.func, 1, 8, [.nilFunc], false⟩ (.leaf))) 169 ⟨.func, 1, 8, [.nilFunc], false⟩ (.node (.node (.node (.leaf) 171 ⟨.func, 1, 8, [.nilFunc], false⟩ (.leaf)) 172 ⟨.func, 1, 8, [.nilFunc], false⟩ (.leaf)) 173 ⟨.func, 1, 8, [.nilFunc], false⟩ (.node (.leaf) 174 ⟨.func, 1, 8, [.nilFunc], false⟩ (.leaf)))) 175 ⟨.func, 1, 8, [.nilFunc], false⟩ (.node (.node (.node (.node (.leaf) 177 ⟨.func, 1, 8, [.nilFunc], false⟩ (.leaf)) 179 ⟨.func, 1, 8, [.nilFunc], false⟩ (.leaf)) 180 ⟨.func, 1, 8, [.nilFunc], false⟩ (.node (.leaf) 181 ⟨.slice 78, 1, 24, [.slice none 0 0], false⟩ (.leaf))) 182 ⟨.func, 1, 8, [.nilFunc], false⟩ (.node (.node (.leaf) 183 ⟨.func, 1, 8, [.nilFunc], false⟩ (.leaf)) 184 ⟨.func, 1, 8, [.nilFunc], false⟩ (.node (.leaf) 185 ⟨.func, 1, 8, [.nilFunc], false⟩ (.leaf))))) 186 ⟨.func, 1, 8, [.nilFunc], false⟩ (.node (.node (.node (.node (.node (.leaf) 187 ⟨.func, 1, 8, [.nilFunc], false⟩ (.leaf)) 189 ⟨.func, 1, 8, [.nilFunc], false⟩ (.leaf)) 190 ⟨.func, 1, 8, [.nilFunc], false⟩ (.node (.leaf) 191 ⟨.ptr 117, 1, 8, [.pointer none], false⟩ (.leaf))) 192 ⟨.func, 1, 8, [.nilFunc], false⟩ (.node (.node (.leaf) 193 ⟨.slice 272, 1, 24, [.slice none 0 0], false⟩ (.leaf)) 194 ⟨.struct [(0, 181), (1, 2), (2, 3), (3, 193)], 4, 64, [.slice none 0 0, .int .i64 0, .int .i64 0, .slice none 0 0], false⟩ (.node (.leaf) 195 ⟨.struct [(0, 181), (1, 2), (2, 3), (3, 193)], 4, 64, [.slice none 0 0, .int .i64 0, .int .i64 0, .slice none 0 0], false⟩ (.leaf)))) 197 ⟨.func, 1, 8, [.nilFunc], false⟩ (.node (.node (.node (.node (.leaf) 198 ⟨.slice 3, 1, 24, [.slice none 0 0], false⟩ (.leaf)) 199 ⟨.func, 1, 8, [.nilFunc], false⟩ (.leaf)) 200 ⟨.func, 1, 8, [.nilFunc], false⟩ (.node (.leaf) 201 ⟨.func, 1, 8, [.nilFunc], false⟩ (.leaf))) 202 ⟨.func, 1, 8, [.nilFunc], false⟩ (.node (.node (.leaf) 203 ⟨.func, 1, 8, [.nilFunc], false⟩ (.leaf)) 204 ⟨.func, 1, 8, [.nilFunc], false⟩ (.node (.leaf) 205 ⟨.func, 1, 8, [.nilFunc], false⟩ (.leaf)))))) 206 ⟨.func, 1, 8, [.nilFunc], false⟩ (.node (.node (.node (.node (.node (.node (.leaf) 207 ti207 (.leaf)) 208 ti208 (.leaf)) 210 ⟨.func, 1, 8, [.nilFunc], false⟩ (.node (.leaf) 211 ⟨.struct [(0, 3), (1, 54)], 2, 32, [.int .i64 0, .slice none 0 0], false⟩ (.leaf))) 212 ⟨.struct [(0, 3), (1, 54)], 2, 32, [.int .i64 0, .slice none 0 0], false⟩ (.node (.node (.node (.leaf) 214 ⟨.func, 1, 8, [.nilFunc], false⟩ (.leaf)) 215 ⟨.func, 1, 8, [.nilFunc], false⟩ (.leaf)) 216 ⟨.func, 1, 8, [.nilFunc], false⟩ (.node (.leaf) 218 ⟨.func, 1, 8, [.nilFunc], false⟩ (.leaf)))) 219 ⟨.ptr 89, 1, 8, [.pointer none], false⟩ (.node (.node (.node (.node (.leaf) 220 ⟨.func, 1, 8, [.nilFunc], false⟩ (.leaf)) 221 ⟨.func, 1, 8, [.nilFunc], false⟩ (.leaf)) 222 ⟨.func, 1, 8, [.nilFunc], false⟩ (.node (.leaf) 223 ⟨.func, 1, 8, [.nilFunc], false⟩ (.leaf))) 224 ⟨.ptr 81, 1, 8, [.pointer none], false⟩ (.node (.node (.leaf) 225 ⟨.func, 1, 8, [.nilFunc], false⟩ (.leaf)) 227 ⟨.func, 1, 8, [.nilFunc], false⟩ (.node (.leaf) 229 ⟨.func, 1, 8, [.nilFunc], false⟩ (.leaf))))) 231 ⟨.func, 1, 8, [.nilFunc], false⟩ (.node (.node (.node (.node (.node (.leaf) 232 ⟨.func, 1, 8, [.nilFunc], false⟩ (.leaf)) 233 ⟨.func, 1, 8, [.nilFunc], false⟩ (.leaf)) 234 ⟨.func, 1, 8, [.nilFunc], false⟩ (.node (.leaf) 235 ⟨.func, 1, 8, [.nilFunc], false⟩ (.leaf))) 236 ⟨.func, 1, 8, [.nilFunc], false⟩ (.node (.node (.leaf) 237 ⟨.func, 1, 8, [.nilFunc], false⟩ (.leaf)) 238 ⟨.func, 1, 8, [.nilFunc], false⟩ (.node (.leaf) 239 ⟨.func, 1, 8, [.nilFunc], false⟩ (.leaf)))) 240 ⟨.func, 1, 8, [.nilFunc], false⟩ (.node (.node (.node (.node (.leaf) 241 ⟨.struct [(0, 3), (1, 78), (2, 60)], 3, 40, [.int .i64 0, .int .u64 0, .slice none 0 0], false⟩ (.leaf)) 242 ⟨.struct [(0, 3), (1, 78), (2, 60)], 3, 40, [.int .i64 0, .int .u64 0, .slice none 0 0], false⟩ (.leaf)) 243 ⟨.func, 1, 8, [.nilFunc], false⟩ (.node (.leaf) 244 ⟨.func, 1, 8, [.nilFunc], false⟩ (.leaf))) 245 ⟨.func, 1, 8, [.nilFunc], false⟩ (.node (.node (.leaf) 246 ⟨.func, 1, 8, [.nilFunc], false⟩ (.leaf)) 247 ⟨.func, 1, 8, [.nilFunc], false⟩ (.node (.leaf) 248 ⟨.func, 1, 8, [.nilFunc], false⟩ (.leaf))))))) 249 ⟨.int .i64, 1, 8, [.int .i64 0], false⟩ (.node (.node (.node (.node (.node (.node (.node (.leaf) 251 ⟨.func, 1, 8, [.nilFunc], false⟩ (.leaf)) 252 ⟨.func, 1, 8, [.nilFunc], false⟩ (.leaf)) 253 ⟨.func, 1, 8, [.nilFunc], false⟩ (.node (.leaf) 254 ⟨.func, 1, 8, [.nilFunc], false⟩ (.leaf))) 255 ⟨.func, 1, 8, [.nilFunc], false⟩ (.node (.node (.node (.leaf) 256 ⟨.int .u32, 1, 4, [.int .u32 0], false⟩ (.leaf)) 257 ⟨.func, 1, 8, [.nilFunc], false⟩ (.leaf)) 258 ⟨.func, 1, 8, [.nilFunc], false⟩ (.node (.leaf) 259 ⟨.func, 1, 8, [.nilFunc], false⟩ (.leaf)))) 260 ⟨.func, 1, 8, [.nilFunc], false⟩ (.node (.node (.node (.node (.leaf) 261 ⟨.func, 1, 8, [.nilFunc], false⟩ (.leaf)) 262 ⟨.func, 1, 8, [.nilFunc], false⟩ (.leaf)) 263 ⟨.func, 1, 8, [.nilFunc], false⟩ (.node (.leaf) 264 ⟨.func, 1, 8, [.nilFunc], false⟩ (.leaf))) 265 ⟨.func, 1, 8, [.nilFunc], false⟩ (.node (.node (.leaf) 266 ⟨.func, 1, 8, [.nilFunc], false⟩ (.leaf)) 267 ⟨.func, 1, 8, [.nilFunc], false⟩ (.node (.leaf) 268 ⟨.func, 1, 8, [.nilFunc], false⟩ (.leaf))))) 269 ⟨.func, 1, 8, [.nilFunc], false⟩ (.node (.node (.node (.node (.node (.leaf) 270 ⟨.func, 1, 8, [.nilFunc], false⟩ (.leaf)) 271 ti271 (.leaf)) 272 ti272 (.node (.leaf) 273 ⟨.func, 1, 8, [.nilFunc], false⟩ (.leaf))) 274 ⟨.func, 1, 8, [.nilFunc], false⟩ (.node (.node (.leaf) 275 ⟨.func, 1, 8, [.nilFunc], false⟩ (.leaf)) 276 ⟨.func, 1, 8, [.nilFunc], false⟩ (.node (.leaf) 277 ⟨.func, 1, 8, [.nilFunc], false⟩ (.leaf)))) 278 ⟨.func, 1, 8, [.nilFunc], false⟩ (.node (.node (.node (.node (.leaf) 279 ⟨.func, 1, 8, [.nilFunc], false⟩ (.leaf)) 280 ⟨.func, 1, 8, [.nilFunc], false⟩ (.leaf)) 281 ⟨.func, 1, 8, [.nilFunc], false⟩ (.node (.leaf) 282 ⟨.func, 1, 8, [.nilFunc], false⟩ (.leaf))) 283 ⟨.int .u64, 1, 8, [.int .u64 0], false⟩ (.node (.node (.leaf) 284 ⟨.func, 1, 8, [.nilFunc], false⟩ (.leaf)) 285 ⟨.func, 1, 8, [.nilFunc], false⟩ (.node (.leaf) 286 ⟨.func, 1, 8, [.nilFunc], false⟩ (.leaf)))))) 287 ⟨.ptr 3, 1, 8, [.pointer none], false⟩ (.node (.node (.node (.node (.node (.node (.leaf) 288 ⟨.func, 1, 8, [.nilFunc], false⟩ (.leaf)) 289 ⟨.func, 1, 8, [.nilFunc], false⟩ (.leaf)) 290 ⟨.func, 1, 8, [.nilFunc], false⟩ (.node (.leaf) 291 ⟨.func, 1, 8, [.nilFunc], false⟩ (.leaf))) 292 ⟨.func, 1, 8, [.nilFunc], false⟩ (.node (.node (.leaf) 295 ⟨.func, 1, 8, [.nilFunc], false⟩ (.leaf)) 296 ⟨.ptr 85, 1, 8, [.pointer none], false⟩ (.node (.leaf) 298 ⟨.func, 1, 8, [.nilFunc], false⟩ (.leaf)))) 299 ⟨.func, 1, 8, [.nilFunc], false⟩ (.node (.node (.node (.node (.leaf) 300 ⟨.func, 1, 8, [.nilFunc], false⟩ (.leaf)) 302 ⟨.func, 1, 8, [.nilFunc], false⟩ (.leaf)) 303 ⟨.func, 1, 8, [.nilFunc], false⟩ (.node (.leaf) 304 ⟨.func, 1, 8, [.nilFunc], false⟩ (.leaf))) 305 ⟨.ptr 42, 1, 8, [.pointer none], false⟩ (.node (.node (.leaf) 306 ⟨.func, 1, 8, [.nilFunc], false⟩ (.leaf)) 307 ⟨.ptr 283, 1, 8, [.pointer none], false⟩ (.node (.leaf) 311 ⟨.func, 1, 8, [.nilFunc], false⟩ (.leaf))))) 312 ⟨.func, 1, 8, [.nilFunc], false⟩ (.node (.node (.node (.node (.node (.leaf) 313 ⟨.func, 1, 8, [.nilFunc], false⟩ (.leaf)) 315 ⟨.func, 1, 8, [.nilFunc], false⟩ (.leaf)) 316 ti316 (.node (.leaf) 317 ⟨.func, 1, 8, [.nilFunc], false⟩ (.leaf))) 321 ⟨.func, 1, 8, [.nilFunc], false⟩ (.node (.node (.leaf) 328 ⟨.struct [(0, 17), (1, 17), (2, 17), (3, 9)], 4, 40, [.pointer none, .pointer none, .pointer none, .string ⟨#[]⟩], false⟩ (.leaf)) 329 ⟨.struct [(0, 17), (1, 17), (2, 17), (3, 9)], 4, 40, [.pointer none, .pointer none, .pointer none, .string ⟨#[]⟩], false⟩ (.node (.leaf) 330 ⟨.array 0 16, 0, 0, [], false⟩ (.leaf)))) 332 ⟨.struct [(0, 330)], 0, 0, [], false⟩ (.node (.node (.node (.node (.leaf) 333 ⟨.int .u8, 1, 1, [.int .u8 0], false⟩ (.leaf)) 334 ⟨.int .u8, 1, 1, [.int .u8 0], false⟩ (.leaf)) 335 ⟨.func, 1, 8, [.nilFunc], false⟩ (.node (.leaf) 336 ⟨.ptr 5, 1, 8, [.pointer none], false⟩ (.leaf))) 337 ⟨.int .i32, 1, 4, [.int .i32 0], false⟩ (.node (.node (.leaf) 338 ⟨.int .i32, 1, 4, [.int .i32 0], false⟩ (.leaf)) 339 ⟨.struct [(0, 12), (1, 12), (2, 256), (3, 333), (4, 5), (5, 5), (6, 334), (7, 335), (8, 336), (9, 337), (10, 338)], 11, 48, [.int .u64 0, .int .u64 0, .int .u32 0, .int .u8 0, .int .u8 0, .int .u8 0, .int .u8 0, .nilFunc, .pointer none, .int .i32 0, .int .i32 0], false⟩ (.node (.leaf) 340 ⟨.struct [(0, 12), (1, 12), (2, 256), (3, 333), (4, 5), (5, 5), (6, 334), (7, 335), (8, 336), (9, 337), (10, 338)], 11, 48, [.int .u64 0, .int .u64 0, .int .u32 0, .int .u8 0, .int .u8 0, .int .u8 0, .int .u8 0, .nilFunc, .pointer none, .int .i32 0, .int .i32 0], false⟩ (.leaf))))))))
theorem tyTree_ok : tyTree.allP (TIok Tryz.prog) := ⟨⟨⟨⟨⟨⟨⟨⟨⟨trivial, zT, trivial⟩, zT, trivial⟩, zT, ⟨trivial, zT, trivial⟩⟩, zT, ⟨⟨⟨trivial, zT, trivial⟩, zT, trivial⟩, zT, ⟨trivial, zT, trivial⟩⟩⟩, zT, ⟨⟨⟨⟨trivial, zT, trivial⟩, zT, trivial⟩, zT, ⟨trivial, zT, trivial⟩⟩, zT, ⟨⟨trivial, zT, trivial⟩, zT, ⟨trivial, zT, trivial⟩⟩⟩⟩, zT, ⟨⟨⟨⟨⟨trivial, zT, trivial⟩, zT, trivial⟩, zT, ⟨trivial, zT, trivial⟩⟩, zT, ⟨⟨trivial, zT, trivial⟩, zT, ⟨trivial, zT, trivial⟩⟩⟩, zT, ⟨⟨⟨⟨trivial, zT, trivial⟩, zT, trivial⟩, zT, ⟨trivial, zT, trivial⟩⟩, zT, ⟨⟨trivial, zT, trivial⟩, zT, ⟨trivial, zT, trivial⟩⟩⟩⟩⟩, zT, ⟨⟨⟨⟨⟨⟨trivial, ti39_ok, trivial⟩, ti40_ok, trivial⟩, ti41_ok, ⟨trivial, ti42_ok, trivial⟩⟩, zT, ⟨⟨⟨trivial, zT, trivial⟩, zT, trivial⟩, zT, ⟨trivial, zT, trivial⟩⟩⟩, zT, ⟨⟨⟨⟨trivial, zT, trivial⟩, zT, trivial⟩, zT, ⟨trivial, zT, trivial⟩⟩, zT, ⟨⟨trivial, zT, trivial⟩, zT, ⟨trivial, zT, trivial⟩⟩⟩⟩, zT, ⟨⟨⟨⟨⟨trivial, zT, trivial⟩, zT, trivial⟩, zT, ⟨trivial, zT, trivial⟩⟩, zT, ⟨⟨trivial, zT, trivial⟩, zT, ⟨trivial, zT, trivial⟩⟩⟩, zT, ⟨⟨⟨⟨trivial, zT, trivial⟩, zT, trivial⟩, ti74_ok, ⟨trivial, ti75_ok, trivial⟩⟩, ti76_ok, ⟨⟨trivial, ti77_ok, trivial⟩, zT, ⟨trivial, zT, trivial⟩⟩⟩⟩⟩⟩, zT, ⟨⟨⟨⟨⟨⟨⟨trivial, zT, trivial⟩, zT, trivial⟩, zT, ⟨trivial, ti84_ok, trivial⟩⟩, ti85_ok, ⟨⟨⟨trivial, zT, trivial⟩, zT, trivial⟩, zT, ⟨trivial, zT, trivial⟩⟩⟩, zT, ⟨⟨⟨⟨trivial, zT, trivial⟩, zT, trivial⟩, zT, ⟨trivial, zT, trivial⟩⟩, zT, ⟨⟨trivial, zT, trivial⟩, zT, ⟨trivial, zT, trivial⟩⟩⟩⟩, zT, ⟨⟨⟨⟨⟨trivial, zT, trivial⟩, zT, trivial⟩, zT, ⟨trivial, zT, trivial⟩⟩, zT, ⟨⟨trivial, zT, trivial⟩, zT, ⟨trivial, zT, trivial⟩⟩⟩, zT, ⟨⟨⟨⟨trivial, zT, trivial⟩, zT, trivial⟩, zT, ⟨trivial, zT, trivial⟩⟩, zT, ⟨⟨trivial, zT, trivial⟩, zT, ⟨trivial, zT, trivial⟩⟩⟩⟩⟩, zT, ⟨⟨⟨⟨⟨⟨trivial, zT, trivial⟩, zT, trivial⟩, zT, ⟨trivial, zT, trivial⟩⟩, zT, ⟨⟨trivial, zT, trivial⟩, zT, ⟨trivial, zT, trivial⟩⟩⟩, zT, ⟨⟨⟨⟨trivial, zT, trivial⟩, zT, trivial⟩, zT, ⟨trivial, zT, trivial⟩⟩, zT, ⟨⟨trivial, zT, trivial⟩, zT, ⟨trivial, zT, trivial⟩⟩⟩⟩, zT, ⟨⟨⟨⟨⟨trivial, zT, trivial⟩, zT, trivial⟩, zT, ⟨trivial, zT, trivial⟩⟩, zT, ⟨⟨trivial, zT, trivial⟩, zT, ⟨trivial, zT, trivial⟩⟩⟩, zT, ⟨⟨⟨⟨trivial, zT, trivial⟩, zT, trivial⟩, zT, ⟨trivial, zT, trivial⟩⟩, zT, ⟨⟨trivial, zT, trivial⟩, zT, ⟨trivial, zT, trivial⟩⟩⟩⟩⟩⟩⟩, zT, ⟨⟨⟨⟨⟨⟨⟨⟨trivial, zT, trivial⟩, zT, trivial⟩, zT, ⟨trivial, zT, trivial⟩⟩, zT, ⟨⟨⟨trivial, zT, trivial⟩, zT, trivial⟩, zT, ⟨trivial, zT, trivial⟩⟩⟩, zT, ⟨⟨⟨⟨trivial, zT, trivial⟩, zT, trivial⟩, zT, ⟨trivial, zT, trivial⟩⟩, zT, ⟨⟨trivial, zT, trivial⟩, zT, ⟨trivial, zT, trivial⟩⟩⟩⟩, zT, ⟨⟨⟨⟨⟨trivial, zT, trivial⟩, zT, trivial⟩, zT, ⟨trivial, zT, trivial⟩⟩, zT, ⟨⟨trivial, zT, trivial⟩, zT, ⟨trivial, zT, trivial⟩⟩⟩, zT, ⟨⟨⟨⟨trivial, zT, trivial⟩, zT, trivial⟩, zT, ⟨trivial, zT, trivial⟩⟩, zT, ⟨⟨trivial, zT, trivial⟩, zT, ⟨trivial, zT, trivial⟩⟩⟩⟩⟩, zT, ⟨⟨⟨⟨⟨⟨trivial, ti207_ok, trivial⟩, ti208_ok, trivial⟩, zT, ⟨trivial, zT, trivial⟩⟩, zT, ⟨⟨⟨trivial, zT, trivial⟩, zT, trivial⟩, zT, ⟨trivial, zT, trivial⟩⟩⟩, zT, ⟨⟨⟨⟨trivial, zT, trivial⟩, zT, trivial⟩, zT, ⟨trivial, zT, trivial⟩⟩, zT, ⟨⟨trivial, zT, trivial⟩, zT, ⟨trivial, zT, trivial⟩⟩⟩⟩, zT, ⟨⟨⟨⟨⟨trivial, zT, trivial⟩, zT, trivial⟩, zT, ⟨trivial, zT, trivial⟩⟩, zT, ⟨⟨trivial, zT, trivial⟩, zT, ⟨trivial, zT, trivial⟩⟩⟩, zT, ⟨⟨⟨⟨trivial, zT, trivial⟩, zT, trivial⟩, zT, ⟨trivial, zT, trivial⟩⟩, zT, ⟨⟨trivial, zT, trivial⟩, zT, ⟨trivial, zT, trivial⟩⟩⟩⟩⟩⟩, zT, ⟨⟨⟨⟨⟨⟨⟨trivial, zT, trivial⟩, zT, trivial⟩, zT, ⟨trivial, zT, trivial⟩⟩, zT, ⟨⟨⟨trivial, zT, trivial⟩, zT, trivial⟩, zT, ⟨trivial, zT, trivial⟩⟩⟩, zT, ⟨⟨⟨⟨trivial, zT, trivial⟩, zT, trivial⟩, zT, ⟨trivial, zT, trivial⟩⟩, zT, ⟨⟨trivial, zT, trivial⟩, zT, ⟨trivial, zT, trivial⟩⟩⟩⟩, zT, ⟨⟨⟨⟨⟨trivial, zT, trivial⟩, ti271_ok, trivial⟩, ti272_ok, ⟨trivial, zT, trivial⟩⟩, zT, ⟨⟨trivial, zT, trivial⟩, zT, ⟨trivial, zT, trivial⟩⟩⟩, zT, ⟨⟨⟨⟨trivial, zT, trivial⟩, zT, trivial⟩, zT, ⟨trivial, zT, trivial⟩⟩, zT, ⟨⟨trivial, zT, trivial⟩, zT, ⟨trivial, zT, trivial⟩⟩⟩⟩⟩, zT, ⟨⟨⟨⟨⟨⟨trivial, zT, trivial⟩, zT, trivial⟩, zT, ⟨trivial, zT, trivial⟩⟩, zT, ⟨⟨trivial, zT, trivial⟩, zT, ⟨trivial, zT, trivial⟩⟩⟩, zT, ⟨⟨⟨⟨trivial, zT, trivial⟩, zT, trivial⟩, zT, ⟨trivial, zT, trivial⟩⟩, zT, ⟨⟨trivial, zT, trivial⟩, zT, ⟨trivial, zT, trivial⟩⟩⟩⟩, zT, ⟨⟨⟨⟨⟨trivial, zT, trivial⟩, zT, trivial⟩, ti316_ok, ⟨trivial, zT, trivial⟩⟩, zT, ⟨⟨trivial, zT, trivial⟩, zT, ⟨trivial, zT, trivial⟩⟩⟩, zT, ⟨⟨⟨⟨trivial, zT, trivial⟩, zT, trivial⟩, zT, ⟨trivial, zT, trivial⟩⟩, zT, ⟨⟨trivial, zT, trivial⟩, zT, ⟨trivial, zT, trivial⟩⟩⟩⟩⟩⟩⟩⟩
noncomputable def TC : Cx := ⟨Tryz.prog, tyTree.look, TyTree.look_ok tyTree_ok⟩
theorem TC_mixed : TC.P.follows .mixedOrders = true := by kernel_rfl
end Go.Proofs.YtplpofmnhcclbaaGreat

namespace Go.Proofs.YtplpofmnhcclbaaGreat
open Go.RowKit Go.Shelf
theorem Pure.val {C : Cx} {g : Nat} {xs : List Value} {r : Value} (ent : Enters C.P g) (hr : r.oneCell' = true) (h : ∀ w, Calls C.P g xs.toArray w fun e w' => e = .returned r ∧ w' = w) : Pure C g (xs.map fun v => .d (.val v)) (.d (.val r)) := by
 refine ⟨ent, fun E w vs hIm hsz hargs => ?_⟩
 have : vs = xs.toArray := by
  apply Array.ext (by simpa using hsz)
  intro i h1 h2
  have h3 := hargs i (by simpa using h2)
  rw [List.getElem_map] at h3
  have := h3.val_inv
  simpa [Array.getD, h1] using this
 subst this
 refine (h w).mono ?_
 rintro e w' ⟨rfl, rfl⟩
 exact ⟨r, rfl, Kp.refl _, .d _ _ (.val _ hr)⟩
theorem Pure.val2 {C : Cx} {g : Nat} {xs : List Value} {r s : Value} (ent : Enters C.P g) (hr : r.oneCell' = true) (hs : s.oneCell' = true) (h : ∀ w, Calls C.P g xs.toArray w fun e w' => e = .returned (.tuple #[r, s]) ∧ w' = w) : Pure C g (xs.map fun v => .d (.val v)) (.tup [.d (.val r), .d (.val s)]) := by
 refine ⟨ent, fun E w vs hIm hsz hargs => ?_⟩
 have : vs = xs.toArray := by
  apply Array.ext (by simpa using hsz)
  intro i h1 h2
  have h3 := hargs i (by simpa using h2)
  rw [List.getElem_map] at h3
  have := h3.val_inv
  simpa [Array.getD, h1] using this
 subst this
 refine (h w).mono ?_
 rintro e w' ⟨rfl, rfl⟩
 refine ⟨_, rfl, Kp.refl _, .tup _ _ rfl fun j hj => ?_⟩
 have : j = 0 ∨ j = 1 := by simp at hj; omega
 rcases this with rfl | rfl
 ·exact .d _ _ (.val _ hr)
 ·exact .d _ _ (.val _ hs)
def mulRen : Go.Shelf.Ren := ⟨fun | 264 => 261 | n => n, fun | 53 => 78 | 46 => 35 | n => n, fun | n => n⟩
theorem mulLays : Go.Proofs.Lays.n264 Tryz.prog mulRen := {
 mixed := by kernel_rfl
 f264 := Tryz.func261.trans (congrArg some (by kernel_rfl))
 t46 := Tryz.underlying35
 a46 := Tryz.isAgg35
 z46 := Tryz.sizeOf35
 v46 := Tryz.zeroValue35
 t53 := Tryz.underlying78
 a53 := Tryz.isAgg78
 z53 := Tryz.sizeOf78
 v53 := Tryz.zeroValue78 }
def hiI (x : Int) : Int := x / 18446744073709551616
def loI (x : Int) : Int := x % 18446744073709551616
theorem bits_Mul64 (x y : Int) (hx : 0 ≤ x) (hx2 : x < 18446744073709551616) (hy : 0 ≤ y) (hy2 : y < 18446744073709551616) : Pure TC 261 [.i .u64 x, .i .u64 y] (.tup [.i .u64 (hiI (x * y)), .i .u64 (loI (x * y))]) := by
 obtain ⟨n, rfl⟩ := Int.eq_ofNat_of_zero_le hx
 obtain ⟨m, rfl⟩ := Int.eq_ofNat_of_zero_le hy
 refine Pure.val2 (xs := [.int .u64 n, .int .u64 m]) (.mk Tryz.func261 rfl rfl) rfl rfl fun w => ?_
 refine (Any.bits_Mul64 mulLays n m (by omega) (by omega) w).mono ?_
 rintro e w' ⟨rfl, rfl⟩
 refine ⟨?_, rfl⟩
 simp [hiI, loI]
end Go.Proofs.YtplpofmnhcclbaaGreat

namespace Go.Proofs.YtplpofmnhcclbaaGreat
open Go.RowKit
def slOf {α : Type} [Inhabited α] (esz : Nat) (enc : α → List D) (xs : List α) : D := .sl esz xs.length fun i => enc (xs.getD i default)
def encI (k : IntKind) (n : Int) : List D := [.val (.int k n)]
def tickB (n : Int) : Bool := decide (0 ≤ n) && decide (n ≤ 4611686018427387903)
theorem tickB_iff (n : Int) : tickB n = true ↔ 0 ≤ n ∧ n ≤ 4611686018427387903 := by simp [tickB]
def limE (T tau : Int) : Int := if tickB T = true ∧ 1 ≤ T ∧ tickB tau = true then 0 else 1
theorem tick_Form (n : Int) : Pure TC 64 [.i .i64 n] (.b (tickB n)) := by
 refine Pure.mk' Tryz.func64 rfl rfl zN ?_
 (repeat' (first | ((first | refine Wp.any TC_mixed rfl ?_ | (with_reducible first | refine Go.mk ?_ | apply Eff1.of)); conv => whnf) | ((refine ways (fun hc => ?_) (fun hc => ?_)) <;> (try simp only [wz9] at hc) <;> (try (exfalso; omega)) <;> (conv => whnf))))
 all_goals exact .b (by simp [tickB]; omega)
theorem rate_Check (T tau : Int) : Pure TC 63 [.agg [.i .i64 T, .i .i64 tau]] (.i .i64 (limE T tau)) := by
 refine Pure.mk' Tryz.func63 rfl rfl zN ?_
 (repeat' (first | ((first | refine Wp.any TC_mixed rfl ?_ | (with_reducible first | refine Go.mk ?_ | apply Eff1.of | refine CallStop.pure (tick_Form _) rfl rfl ?_)); conv => whnf) | ((refine ways (fun hc => ?_) (fun hc => ?_)) <;> (try simp only [wz9] at hc) <;> (try (exfalso; omega)) <;> (conv => whnf))))
 all_goals exact .i (by simp [limE, *]; try omega)
structure Pol where
 kind : Int
 T : Int
 tau : Int
 permits : Int
 deriving Inhabited
def Pol.D (p : Pol) : List D := [.val (.int .u8 p.kind), .val (.int .i64 p.T), .val (.int .i64 p.tau), .val (.int .i64 p.permits)]
def formB (k T tau m : Int) : Bool := if k = 1 then limE T tau == 0 else if k = 2 then decide (1 ≤ m) && decide (m ≤ 64) else false
theorem book_form (k T tau m : Int) : Pure TC 107 [.agg [.i .u8 k, .i .i64 T, .i .i64 tau, .i .i64 m]] (.b (formB k T tau m)) := by
 refine Pure.mk' Tryz.func107 rfl rfl zN ?_
 (repeat' (first | ((first | refine Wp.any TC_mixed rfl ?_ | (with_reducible first | refine Go.mk ?_ | apply Eff1.of | refine CallStop.pure (rate_Check _ _) rfl rfl ?_)); conv => whnf) | ((refine ways (fun hc => ?_) (fun hc => ?_)) <;> (try simp only [wz9] at hc) <;> (try (exfalso; omega)) <;> (conv => whnf))))
 all_goals exact .b (by simp [formB, *])
def polsE (ps : List Pol) : Int := if 32 < ps.length then 2 else if ps.all (fun p => formB p.kind p.T p.tau p.permits) then 0 else 3
theorem polsE_all {ps : List Pol} (h : ¬ 32 < ps.length) : polsE ps = if ps.all (fun p => formB p.kind p.T p.tau p.permits) then 0 else 3 := by simp [polsE, h]
theorem all_take_succ {α : Type} [Inhabited α] {f : α → Bool} {xs : List α} {k : Nat} (hk : k < xs.length) (h : (xs.take k).all f = true) (h2 : f (xs.getD k default) = true) : (xs.take (k + 1)).all f = true := by
 rw [List.take_succ_eq_append_getElem hk, List.all_append, h]
 simp only [List.getD, List.getElem?_eq_getElem hk, Option.getD_some] at h2
 simp [h2]
theorem not_all {α : Type} [Inhabited α] {f : α → Bool} {xs : List α} {k : Nat} (hk : k < xs.length) (h2 : f (xs.getD k default) = false) : xs.all f = false := by
 simp only [List.getD, List.getElem?_eq_getElem hk, Option.getD_some] at h2
 rw [List.all_eq_false]
 exact ⟨_, List.getElem_mem hk, by simp [h2]⟩
theorem book_Policies (ps : List Pol) : Pure TC 65 [.d (slOf 4 Pol.D ps)] (.i .i64 (polsE ps)) := by
 refine Pure.mk' Tryz.func65 rfl rfl zN ?_
 (repeat' (first | ((first | refine Wp.any TC_mixed rfl ?_ | (with_reducible first | refine Go.mk ?_ | apply Eff1.of)); conv => whnf) | ((refine ways (fun hc => ?_) (fun hc => ?_)) <;> (try simp only [wz9] at hc) <;> (try (exfalso; omega)) <;> (conv => whnf))))
 ·exact .i (by simp [polsE]; omega)
 ·refine Wp.loopP (fun k => k ≤ ps.length ∧ (ps.take k).all (fun p => formB p.kind p.T p.tau p.permits) = true) (fun k => ⟨⟨Tryz.f65.ntmps, 0⟩, 0, [(8, .d (slOf 4 Pol.D ps)), (9, .i .i64 ps.length), (10, .i .i64 k)], []⟩) (fun k => ps.length - k) 0 ⟨by simp, by simp⟩ ?_ ?_
  ·(refine Le.by [] rfl rfl rfl rfl ?_ ?_ <;> (conv => whnf) <;> (repeat' (first | exact trivial | exact ArgLe.rfl rfl | ((with_reducible refine And.intro ?_ ?_) <;> (conv => whnf)))))
  ·rintro k ⟨hk, hall⟩
   (repeat' (first | ((first | refine Wp.any TC_mixed rfl ?_ | (with_reducible first | refine Go.mk ?_ | apply Eff1.of | refine Ov.ok zO ?_ | refine And.intro zC ?_ | refine CallStop.pure (book_form _ _ _ _) rfl rfl ?_)); conv => whnf) | ((refine ways (fun hc => ?_) (fun hc => ?_)) <;> (try simp only [wz9] at hc) <;> (try (exfalso; omega)) <;> (conv => whnf))))
   ·exact .i (by rw [polsE_all (by omega), not_all (k := k) (by omega) (by simpa using hc)]; rfl)
   ·refine ⟨k + 1, ⟨by omega, all_take_succ (by omega) hall (by simpa using hc)⟩, by dsimp only; omega, ?_⟩
    (refine Le.by [] rfl rfl rfl rfl ?_ ?_ <;> (conv => whnf) <;> (repeat' (first | exact trivial | exact ArgLe.rfl rfl | ((with_reducible refine And.intro ?_ ?_) <;> (conv => whnf)))))
   ·rw [List.take_of_length_le (by omega)] at hall
    exact .i (by rw [polsE_all (by omega), hall]; rfl)
def kindE (op : Int) : Int := if op = 1 then 1 else if op = 2 ∨ op = 3 then 2 else 0
theorem book_kind (op : Int) : Pure TC 92 [.i .u8 op] (.i .u8 (kindE op)) := by
 refine Pure.mk' Tryz.func92 rfl rfl zN ?_
 (repeat' (first | ((first | refine Wp.any TC_mixed rfl ?_ | (with_reducible first | refine Go.mk ?_ | apply Eff1.of)); conv => whnf) | ((refine ways (fun hc => ?_) (fun hc => ?_)) <;> (try simp only [wz9] at hc) <;> (try (exfalso; omega)) <;> (conv => whnf))))
 all_goals exact .i (by simp [kindE, *])
def bsF (lt : Nat → Bool) : Nat → Nat → Nat → Nat
 | 0, i, _ => i
 | n + 1, i, j => if i < j then (if lt ((i + j) / 2) then bsF lt n ((i + j) / 2 + 1) j else bsF lt n i ((i + j) / 2)) else i
def bs (lt : Nat → Bool) (n : Nat) : Nat := bsF lt (n + 1) 0 n
theorem bsF_end {lt : Nat → Bool} {q i j : Nat} (h : ¬ i < j) : bsF lt q i j = i := by cases q <;> simp [bsF, h]
set_option maxRecDepth 100000
def chkE (ps : List Pol) (op pol : Int) (key : List Int) (n : Int) : Int :=
 if op < 1 ∨ 6 < op ∨ (op = 1 ∧ tickB n = false) then 1
 else if op ≤ 4 ∧ 255 < key.length then 2
 else if polsE ps ≠ 0 then polsE ps
 else if op ≤ 4 ∧ (pol < 0 ∨ ps.length ≤ pol ∨ (kindE op ≠ 0 ∧ (ps.getD pol.toNat default).kind ≠ kindE op)) then 6 else 0
theorem book_Check (ps : List Pol) (op pol : Int) (key : List Int) (n : Int) : Pure TC 49 [.d (slOf 4 Pol.D ps), .agg [.i .u8 op, .i .i64 pol, .d (slOf 1 (encI .u8) key), .i .i64 n]] (.i .i64 (chkE ps op pol key n)) := by
 refine Pure.mk' Tryz.func49 rfl rfl zN ?_
 (repeat' (first | ((first | refine Wp.any TC_mixed rfl ?_ | (with_reducible first | refine Go.mk ?_ | apply Eff1.of) | refine zV ?_ | (with_reducible first | refine And.intro zC ?_ | refine CallStop.pure (tick_Form _) rfl rfl ?_ | refine CallStop.pure (book_Policies _) rfl rfl ?_ | refine DCall.pure (book_kind _) rfl rfl ?_)); conv => whnf) | ((refine ways (fun hc => ?_) (fun hc => ?_)) <;> (try simp only [wz9] at hc) <;> (try (exfalso; omega)) <;> (conv => whnf))))
 all_goals exact .i (by
  unfold chkE
  repeat' split
  all_goals first | rfl | omega | (exfalso; simp_all; try omega) | simp_all)
set_option maxRecDepth 100000
def bothE (a b : Int) : Int := if tickB a && tickB b then 0 else 1
theorem bothE_0 (a b : Int) : bothE a b = 0 ↔ (0 ≤ a ∧ a ≤ 4611686018427387903) ∧ 0 ≤ b ∧ b ≤ 4611686018427387903 := by simp [bothE, tickB]; omega
theorem limE_0 (T tau : Int) : limE T tau = 0 ↔ (1 ≤ T ∧ T ≤ 4611686018427387903) ∧ 0 ≤ tau ∧ tau ≤ 4611686018427387903 := by simp [limE, tickB]; omega
theorem tick_both (a b : Int) : Pure TC 151 [.i .i64 a, .i .i64 b] (.i .i64 (bothE a b)) := by
 refine Pure.mk' Tryz.func151 rfl rfl zN ?_
 (repeat' (first | ((first | refine Wp.any TC_mixed rfl ?_ | (with_reducible first | refine Go.mk ?_ | apply Eff1.of | refine CallStop.pure (tick_Form _) rfl rfl ?_)); conv => whnf) | ((refine ways (fun hc => ?_) (fun hc => ?_)) <;> (try simp only [wz9] at hc) <;> (try (exfalso; omega)) <;> (conv => whnf))))
 all_goals exact .i (by simp [bothE, *])
def clampI (n : Int) : Int := min (max n 0) 4611686018427387903
theorem tick_Clamp (n : Int) : Pure TC 152 [.i .i64 n] (.i .i64 (clampI n)) := by
 refine Pure.mk' Tryz.func152 rfl rfl zN ?_
 (repeat' (first | ((first | refine Wp.any TC_mixed rfl ?_ | (with_reducible first | refine Go.mk ?_ | apply Eff1.of)); conv => whnf)))
 all_goals exact .i (by unfold clampI; omega)
def tkSub (a b : Int) : Int := if bothE a b = 0 then max (a - b) 0 else 0
theorem tick_Sub (a b : Int) : Pure TC 111 [.i .i64 a, .i .i64 b] (.tup [.i .i64 (tkSub a b), .i .i64 (bothE a b)]) := by
 refine Pure.mk' Tryz.func111 rfl rfl zN ?_
 (repeat' (first | ((first | refine Wp.any TC_mixed rfl ?_ | (with_reducible first | refine Go.mk ?_ | apply Eff1.of | refine Ov.ok zO ?_ | refine CallStop.pure (tick_both _ _) rfl rfl ?_ | refine CallStop.pure (tick_Clamp _) rfl rfl ?_)); conv => whnf) | ((refine ways (fun hc => ?_) (fun hc => ?_)) <;> (try simp only [wz9, bothE_0] at hc) <;> (try (exfalso; omega)) <;> (conv => whnf))))
 ·exact .of_eq (by rw [tkSub, if_neg (by rw [bothE_0]; omega)])
 ·exact .of_eq (by rw [tkSub, if_pos (by rw [bothE_0]; omega), show bothE a b = 0 by rw [bothE_0]; omega, show clampI (a - b) = max (a - b) 0 by unfold clampI; omega])
theorem quo_bd (a T : Int) (ha : 0 ≤ a) (hT : 1 ≤ T) : 0 ≤ a / T ∧ a / T ≤ a := ⟨Int.ediv_nonneg ha (by omega), Int.ediv_le_self _ ha⟩
def leftI (T tau tat now : Int) : Int := if tau < max tat now - now then 0 else min ((tau - (max tat now - now)) / T + 1) ((4611686018427387903 - max tat now) / T)
theorem gcra_left (T tau tat now : Int) (hT : 1 ≤ T) (hT2 : T ≤ 4611686018427387903) (h1 : 0 ≤ tau) (h2 : tau ≤ 4611686018427387903) (h3 : 0 ≤ tat) (h4 : tat ≤ 4611686018427387903) (h5 : 0 ≤ now) (h6 : now ≤ 4611686018427387903) :
  Pure TC 167 [.agg [.i .i64 T, .i .i64 tau], .i .i64 tat, .i .i64 now] (.i .i64 (leftI T tau tat now)) := by
 have q1 : ¬ (if now > tat then now else tat) - now > tau → _ := fun h => quo_bd (tau - ((if now > tat then now else tat) - now)) T (by omega) hT
 have q2 := quo_bd (4611686018427387903 - (if now > tat then now else tat)) T (by omega) hT
 refine Pure.mk' Tryz.func167 rfl rfl zN ?_
 (repeat' (first | ((first | refine Wp.any TC_mixed rfl ?_ | (with_reducible first | refine Go.mk ?_ | apply Eff1.of | refine Ov.ok zO ?_ | refine Ov.quo (by omega) (by omega) (by omega) (fun _ _ => ?_)) | refine zV ?_ | with_reducible refine And.intro zC ?_); conv => whnf) | ((refine ways (fun hc => ?_) (fun hc => ?_)) <;> (try simp only [wz9] at hc) <;> (try (exfalso; omega)) <;> (conv => whnf))))
 ·exact .i (by unfold leftI; omega)
 ·refine .i ?_
  have e : max tat now = if now > tat then now else tat := by omega
  rw [leftI, e, if_neg (show ¬ tau < (if now > tat then now else tat) - now by omega)]
  omega
theorem mul_lt {x y : Int} (hx : 0 ≤ x) (hx2 : x ≤ 4611686018427387903) (hy : 0 ≤ y) (hy2 : y ≤ 4611686018427387903) : 0 ≤ x * y ∧ x * y ≤ 4611686018427387903 * 4611686018427387903 :=
 ⟨Int.mul_nonneg hx hy, Int.mul_le_mul hx2 hy2 hy (by omega)⟩
def aheadLo (T n : Int) : Int := IntKind.i64.wrap (loI ((n - 1) * T))
theorem hi_0 {p : Int} (h : 0 ≤ p) : (hiI p = 0 → loI p = p) ∧ (hiI p ≠ 0 → 18446744073709551616 ≤ p) := by unfold hiI loI; omega
theorem gcra_ahead (T tau n : Int) (hT : 1 ≤ T) (hT2 : T ≤ 4611686018427387903) (h1 : 0 ≤ tau) (h2 : tau ≤ 4611686018427387903) (h3 : 1 ≤ n) (h4 : n ≤ 4611686018427387903) :
  Pure TC 246 [.agg [.i .i64 T, .i .i64 tau], .i .i64 n] (.tup [.i .i64 (aheadLo T n), .b (decide ((n - 1) * T ≤ tau))]) := by
 obtain ⟨m1, m2⟩ := mul_lt (x := n - 1) (y := T) (by omega) (by omega) (by omega) hT2
 refine Pure.mk' Tryz.func246 rfl rfl zN ?_
 (repeat' (first | ((first | refine Wp.any TC_mixed rfl ?_ | (with_reducible first | refine Go.mk ?_ | apply Eff1.of | refine Ov.ok zO ?_) | refine zV ?_ | (with_reducible first | refine CallStop.pure (bits_Mul64 _ _ (by omega) (by omega) (by omega) (by omega)) rfl rfl ?_ | refine Ov.mk ?_)); conv => whnf) | ((refine ways (fun hc => ?_) (fun hc => ?_)) <;> (try simp only [wz9] at hc) <;> (try (exfalso; omega)) <;> (conv => whnf))))
 ·rw [(hi_0 m1).1 hc]
  exact .of_eq (by unfold aheadLo; rw [(hi_0 m1).1 hc])
 ·have := (hi_0 m1).2 hc
  exact .of_eq (by rw [show decide ((n - 1) * T ≤ tau) = false by simp; omega]; rfl)
def waitI (T tau tat now n : Int) : Int :=
 if (n - 1) * T ≤ tau ∧ n ≤ (4611686018427387903 - max tat now) / T then tat - now - (tau - (n - 1) * T) else 4611686018427387903
theorem ahead_lo {T tau n : Int} (h0 : 0 ≤ (n - 1) * T) (h : (n - 1) * T ≤ tau) (ht : tau ≤ 4611686018427387903) : aheadLo T n = (n - 1) * T := by
 unfold aheadLo loI
 generalize (n - 1) * T = p at *
 rw [show p % 18446744073709551616 = p by omega, IntWalk.i64_in _ (by omega)]
theorem gcra_wait (T tau tat now n : Int) (hT : 1 ≤ T) (hT2 : T ≤ 4611686018427387903) (h1 : 0 ≤ tau) (h2 : tau ≤ 4611686018427387903) (h3 : 0 ≤ tat) (h4 : tat ≤ 4611686018427387903) (h5 : 0 ≤ now) (h6 : now ≤ 4611686018427387903) (h7 : 1 ≤ n) (h8 : n ≤ 4611686018427387903) :
  Pure TC 218 [.agg [.i .i64 T, .i .i64 tau], .i .i64 tat, .i .i64 now, .i .i64 n] (.i .i64 (waitI T tau tat now n)) := by
 obtain ⟨m1, m2⟩ := mul_lt (x := n - 1) (y := T) (by omega) (by omega) (by omega) hT2
 have q2 := quo_bd (4611686018427387903 - (if now > tat then now else tat)) T (by omega) hT
 have q3 : (n - 1) * T ≤ tau → aheadLo T n = (n - 1) * T := fun h => ahead_lo m1 h h2
 refine Pure.mk' Tryz.func218 rfl rfl zN ?_
 have e : max tat now = if now > tat then now else tat := by omega
 (repeat' (first | ((first | refine Wp.any TC_mixed rfl ?_ | (with_reducible first | refine Go.mk ?_ | apply Eff1.of | refine Ov.ok zO ?_ | refine Ov.quo (by omega) (by omega) (by omega) (fun _ _ => ?_) | refine And.intro zC ?_ | refine CallStop.pure (gcra_ahead T tau n hT hT2 h1 h2 h7 h8) rfl rfl ?_)); conv => whnf) | ((refine ways (fun hc => ?_) (fun hc => ?_)) <;> (try simp only [wz9] at hc) <;> (try (exfalso; omega)) <;> (conv => whnf))))
 ·exact .i (by rw [waitI, if_neg (by omega)])
 ·exact .i (by rw [waitI, e, if_neg (show ¬ ((n - 1) * T ≤ tau ∧ n ≤ (4611686018427387903 - (if now > tat then now else tat)) / T) by omega)])
 ·exact .i (by rw [waitI, e, if_pos (show (n - 1) * T ≤ tau ∧ n ≤ (4611686018427387903 - (if now > tat then now else tat)) / T by omega), q3 (by omega)])
structure Ans where
 g : Bool
 tat : Int
 wait : Int
 left : Int
def Ans.S (a : Ans) : SV := .agg [.b a.g, .i .i64 a.tat, .i .i64 a.wait, .i .i64 a.left]
def tatI (T tau tat now n : Int) : Int := if n ≤ leftI T tau tat now ∧ 0 < n then max tat now + n * T else tat
def decI (T tau tat now n : Int) : Ans :=
 {g := decide (n ≤ leftI T tau tat now), tat := tatI T tau tat now n
  wait := if n ≤ leftI T tau tat now then 0 else waitI T tau tat now n, left := leftI T tau (tatI T tau tat now n) now }
theorem leftI_le {T tau tat now : Int} (hT : 1 ≤ T) (h3 : 0 ≤ tat) (h4 : tat ≤ 4611686018427387903) (h5 : 0 ≤ now) (h6 : now ≤ 4611686018427387903) {n : Int} (hn : n ≤ leftI T tau tat now) (h0 : 0 < n) :
  0 ≤ n * T ∧ max tat now + n * T ≤ 4611686018427387903 := by
 unfold leftI at hn
 split at hn
 ·omega
 ·have h : n ≤ (4611686018427387903 - max tat now) / T := by omega
  rw [Int.le_ediv_iff_mul_le (by omega)] at h
  exact ⟨Int.mul_nonneg (by omega) (by omega), by omega⟩
theorem leftI_nonneg {T tau tat now : Int} (hT : 1 ≤ T) (h3 : 0 ≤ tat) (h4 : tat ≤ 4611686018427387903) (h5 : 0 ≤ now) (h6 : now ≤ 4611686018427387903) : 0 ≤ leftI T tau tat now ∧ leftI T tau tat now ≤ 4611686018427387903 := by
 unfold leftI
 split
 ·omega
 ·have h1 := quo_bd (tau - (max tat now - now)) T (by omega) hT
  have h2 := quo_bd (4611686018427387903 - max tat now) T (by omega) hT
  omega
theorem gcra_decide (T tau tat now n : Int) (hT : 1 ≤ T) (hT2 : T ≤ 4611686018427387903) (h1 : 0 ≤ tau) (h2 : tau ≤ 4611686018427387903) (h3 : 0 ≤ tat) (h4 : tat ≤ 4611686018427387903) (h5 : 0 ≤ now) (h6 : now ≤ 4611686018427387903) (h7 : 0 ≤ n) (h8 : n ≤ 4611686018427387903) :
  Pure TC 168 [.agg [.i .i64 T, .i .i64 tau], .i .i64 tat, .i .i64 now, .i .i64 n] (decI T tau tat now n).S := by
 have hl0 := leftI_nonneg (tau := tau) hT h3 h4 h5 h6
 have hl1 : n ≤ leftI T tau tat now → 0 < n → _ := leftI_le (n := n) (tau := tau) hT h3 h4 h5 h6
 have e : max tat now = if now > tat then now else tat := by omega
 refine Pure.mk' Tryz.func168 rfl rfl zN ?_
 (repeat' (first | ((first | refine Wp.any TC_mixed rfl ?_ | (with_reducible first | refine Go.mk ?_ | apply Eff1.of | refine Ov.ok zO ?_ | refine CallStop.pure (gcra_left _ _ _ _ hT hT2 h1 h2 (by omega) (by omega) h5 h6) rfl rfl ?_ | refine CallStop.pure (gcra_wait _ _ _ _ _ hT hT2 h1 h2 (by omega) (by omega) h5 h6 (by omega) (by omega)) rfl rfl ?_)); conv => whnf) | ((refine ways (fun hc => ?_) (fun hc => ?_)) <;> (try simp only [wz9] at hc) <;> (try (exfalso; omega)) <;> (conv => whnf))))
 all_goals refine .of_eq ?_
 ·simp [Ans.S, decI, tatI, hc]
 ·have h9 : n ≤ leftI T tau tat now ∧ 0 < n := by omega
  simp [Ans.S, decI, tatI, h9, e]
 ·have h9 : ¬ (n ≤ leftI T tau tat now ∧ 0 < n) := by omega
  have h8 : n ≤ leftI T tau tat now := by omega
  simp only [Ans.S, decI, tatI, if_neg h9, if_pos h8]
def chkL (T tau : Int) (xs : List Int) : Int := if xs.all tickB then limE T tau else 1
theorem gcra_check (T tau : Int) (xs : List Int) : Pure TC 166 [.agg [.i .i64 T, .i .i64 tau], .d (slOf 1 (encI .i64) xs)] (.i .i64 (chkL T tau xs)) := by
 refine Pure.lens (.mk Tryz.func166 rfl rfl) fun hlen => ?_
 have hlen := hlen xs.length (by simp [lensOf, slOf])
 refine Pure.mk' Tryz.func166 rfl rfl zN ?_
 (repeat' (first | ((first | refine Wp.any TC_mixed rfl ?_ | (with_reducible first | refine Go.mk ?_ | apply Eff1.of)); conv => whnf)))
 refine Wp.loopP (fun k => k ≤ xs.length ∧ (xs.take k).all tickB = true) (fun k => ⟨⟨Tryz.f166.ntmps, 0⟩, 1, [(2, .ptr 0 0), (7, .d (slOf 1 (encI .i64) xs)), (8, .i .i64 xs.length), (9, .i .i64 k)], [(0, some (.cells [.i .i64 T, .i .i64 tau]))]⟩) (fun k => xs.length - k) 0 ⟨by simp, by simp⟩ ?_ ?_
 ·(refine Le.by [0] rfl rfl rfl rfl ?_ ?_ <;> (conv => whnf) <;> (repeat' (first | exact trivial | exact ArgLe.rfl rfl | exact ArgLe.ptr rfl | ((with_reducible refine And.intro ?_ ?_) <;> (conv => whnf)))))
 ·rintro k ⟨hk, hall⟩
  (repeat' (first | ((first | refine Wp.any TC_mixed rfl ?_ | (with_reducible first | refine Go.mk ?_ | apply Eff1.of | refine Ov.ok zO ?_ | refine And.intro zC ?_ | refine CallStop.pure (tick_Form _) rfl rfl ?_ | refine CallStop.pure (rate_Check _ _) rfl rfl ?_)); conv => whnf) | ((refine ways (fun hc => ?_) (fun hc => ?_)) <;> (try simp only [wz9] at hc) <;> (try (exfalso; omega)) <;> (conv => whnf))))
  ·exact .i (by rw [chkL, not_all (k := k) (by omega) (by simpa using hc)]; rfl)
  ·refine ⟨k + 1, ⟨by omega, all_take_succ (by omega) hall (by simpa using hc)⟩, by dsimp only; omega, ?_⟩
   (refine Le.by [0] rfl rfl rfl rfl ?_ ?_ <;> (conv => whnf) <;> (repeat' (first | exact trivial | exact ArgLe.rfl rfl | exact ArgLe.ptr rfl | ((with_reducible refine And.intro ?_ ?_) <;> (conv => whnf)))))
  ·rw [List.take_of_length_le (by omega)] at hall
   exact .i (by rw [chkL, hall]; rfl)
theorem chk3_0 (T tau a b c : Int) : chkL T tau [a, b, c] = 0 ↔ ((1 ≤ T ∧ T ≤ 4611686018427387903) ∧ 0 ≤ tau ∧ tau ≤ 4611686018427387903) ∧ (0 ≤ a ∧ a ≤ 4611686018427387903) ∧ (0 ≤ b ∧ b ≤ 4611686018427387903) ∧ 0 ≤ c ∧ c ≤ 4611686018427387903 := by
 rw [← limE_0]; unfold chkL
 simp only [List.all_cons, List.all_nil, Bool.and_true, Bool.and_eq_true, tickB_iff]
 split <;> omega
theorem chk2_0 (T tau a b : Int) : chkL T tau [a, b] = 0 ↔ ((1 ≤ T ∧ T ≤ 4611686018427387903) ∧ 0 ≤ tau ∧ tau ≤ 4611686018427387903) ∧ (0 ≤ a ∧ a ≤ 4611686018427387903) ∧ 0 ≤ b ∧ b ≤ 4611686018427387903 := by
 rw [← limE_0]; unfold chkL
 simp only [List.all_cons, List.all_nil, Bool.and_true, Bool.and_eq_true, tickB_iff]
 split <;> omega
def decA (T tau tat now n : Int) : Ans := if chkL T tau [tat, now, n] = 0 then decI T tau tat now n else ⟨false, 0, 0, 0⟩
theorem gcra_Decide (T tau tat now n : Int) : Pure TC 112 [.agg [.i .i64 T, .i .i64 tau], .i .i64 tat, .i .i64 now, .i .i64 n] (.tup [(decA T tau tat now n).S, .i .i64 (chkL T tau [tat, now, n])]) := by
 refine Pure.mk' Tryz.func112 rfl rfl zN ?_
 (repeat' (first | ((first | refine Wp.any TC_mixed rfl ?_ | (with_reducible first | refine Go.mk ?_ | apply Eff1.of)); conv => whnf) | ((with_reducible refine CallStop.pureI (gcra_check T tau [tat, now, n]) rfl ?_); (conv => whnf); (repeat' ((with_reducible refine And.intro (by omega) ?_); (conv => whnf))); (refine And.intro (by (repeat' (first | exact zA9 | with_reducible refine Les.cons ?_ ?_))) ?_); (conv => whnf)) | ((with_reducible refine CallStop.pure (gcra_decide T tau tat now n (by omega) (by omega) (by omega) (by omega) (by omega) (by omega) (by omega) (by omega) (by omega) (by omega)) rfl rfl ?_); conv => whnf) | ((refine ways (fun hc => ?_) (fun hc => ?_)) <;> (try simp only [wz9, chk3_0] at hc) <;> (try (exfalso; omega)) <;> (conv => whnf))))
 ·exact .of_eq (by rw [decA, if_neg (by rw [chk3_0]; exact hc)]; rfl)
 ·exact .of_eq (by rw [decA, if_pos (by rw [chk3_0]; exact hc), (chk3_0 ..).2 hc]; rfl)
theorem gcra_Left (T tau tat now : Int) : Pure TC 110 [.agg [.i .i64 T, .i .i64 tau], .i .i64 tat, .i .i64 now] (.tup [.i .i64 (if chkL T tau [tat, now] = 0 then leftI T tau tat now else 0), .i .i64 (chkL T tau [tat, now])]) := by
 refine Pure.mk' Tryz.func110 rfl rfl zN ?_
 (repeat' (first | ((first | refine Wp.any TC_mixed rfl ?_ | (with_reducible first | refine Go.mk ?_ | apply Eff1.of)); conv => whnf) | ((with_reducible refine CallStop.pureI (gcra_check T tau [tat, now]) rfl ?_); (conv => whnf); (repeat' ((with_reducible refine And.intro (by omega) ?_); (conv => whnf))); (refine And.intro (by (repeat' (first | exact zA9 | with_reducible refine Les.cons ?_ ?_))) ?_); (conv => whnf)) | ((with_reducible refine CallStop.pure (gcra_left T tau tat now (by omega) (by omega) (by omega) (by omega) (by omega) (by omega) (by omega) (by omega)) rfl rfl ?_); conv => whnf) | ((refine ways (fun hc => ?_) (fun hc => ?_)) <;> (try simp only [wz9, chk2_0] at hc) <;> (try (exfalso; omega)) <;> (conv => whnf))))
 ·exact .of_eq (by rw [if_neg (by rw [chk2_0]; exact hc)])
 ·exact .of_eq (by rw [if_pos (by rw [chk2_0]; exact hc), (chk2_0 ..).2 hc])
set_option maxRecDepth 100000
theorem cmp_isNaN (n : Int) : Pure TC 247 [.i .i64 n] (.b false) := by
 refine Pure.mk' Tryz.func247 rfl rfl zN ?_
 (repeat' (first | ((first | refine Wp.any TC_mixed rfl ?_ | (with_reducible first | refine Go.mk ?_ | apply Eff1.of)); conv => whnf)))
 all_goals exact .b (by simp)
theorem slices_isNaN (n : Int) : Pure TC 220 [.i .i64 n] (.b false) := by
 refine Pure.mk' Tryz.func220 rfl rfl zN ?_
 (repeat' (first | ((first | refine Wp.any TC_mixed rfl ?_ | (with_reducible first | refine Go.mk ?_ | apply Eff1.of)); conv => whnf)))
 all_goals exact .b (by simp)
theorem cmp_Less (a b : Int) : Pure TC 219 [.i .i64 a, .i .i64 b] (.b (decide (a < b))) := by
 refine Pure.mk' Tryz.func219 rfl rfl zN ?_
 (repeat' (first | ((first | refine Wp.any TC_mixed rfl ?_ | (with_reducible first | refine Go.mk ?_ | apply Eff1.of | refine CallStop.pure (cmp_isNaN _) rfl rfl ?_)); conv => whnf)))
 all_goals exact .b (by simp; try omega)
def posI (xs : List Int) (t : Int) : Nat := bs (fun k => decide (xs.getD k default < t)) xs.length
def hasI (xs : List Int) (t : Int) : Bool := decide (posI xs t < xs.length) && decide (xs.getD (posI xs t) default = t)
theorem search_i64 (xs : List Int) (t : Int) (hlen : xs.length ≤ 4611686018427387903) : Pure TC 171 [.d (slOf 1 (encI .i64) xs), .i .i64 t] (.tup [.i .i64 (posI xs t), .b (hasI xs t)]) := by
 refine Pure.mk' Tryz.func171 rfl rfl zN ?_
 (repeat' (first | ((first | refine Wp.any TC_mixed rfl ?_ | (with_reducible first | refine Go.mk ?_ | apply Eff1.of)); conv => whnf)))
 refine Wp.loopP (ι := Nat × Nat × Nat) (fun k => k.1 ≤ k.2.1 ∧ k.2.1 ≤ xs.length ∧ k.2.1 - k.1 < k.2.2 ∧ bsF (fun k => decide (xs.getD k default < t)) k.2.2 k.1 k.2.1 = posI xs t) (fun k => ⟨⟨Tryz.f171.ntmps, 0⟩, 0, [(0, .d (slOf 1 (encI .i64) xs)), (1, .i .i64 t), (6, .i .i64 xs.length), (7, .i .i64 k.1), (8, .i .i64 k.2.1)], []⟩) (fun k => k.2.1 - k.1) (0, xs.length, xs.length + 1) ⟨by simp, by simp, by simp, rfl⟩ ?_ ?_
 ·(refine Le.by [] rfl rfl rfl rfl ?_ ?_ <;> (conv => whnf) <;> (repeat' (first | exact trivial | exact ArgLe.rfl rfl | ((with_reducible refine And.intro ?_ ?_) <;> (conv => whnf)))))
 ·rintro ⟨i, j, q⟩ ⟨h1, h2, h3, h4⟩
  dsimp only at h1 h2 h3 h4 ⊢
  (repeat' (first | ((first | refine Wp.any TC_mixed rfl ?_ | (with_reducible first | refine Go.mk ?_ | apply Eff1.of | refine Ov.ok zO ?_)); conv => whnf) | (with_reducible refine Ov.sh1 (by with_unfolding_all exact rfl) ?_) | ((with_reducible first | refine And.intro zC ?_ | refine CallStop.pure (cmp_Less _ _) rfl rfl ?_ | refine CallStop.pure (slices_isNaN _) rfl rfl ?_); conv => whnf) | ((refine ways (fun hc => ?_) (fun hc => ?_)) <;> (try simp only [wz9] at hc) <;> (try (exfalso; omega)) <;> (conv => whnf))))
  ·rw [show (((i : Int) + j) / 2).toNat = (i + j) / 2 by omega] at hc
   have hh : decide (xs.getD ((i + j) / 2) default < t) = true := by simpa using hc
   refine ⟨((i + j) / 2 + 1, j, q - 1), ⟨by dsimp only; omega, h2, by dsimp only; omega, ?_⟩, by dsimp only; omega, ?_⟩
   ·rw [← h4]
    obtain ⟨q, rfl⟩ : ∃ r, q = r + 1 := ⟨q - 1, by omega⟩
    rw [bsF, if_pos (by omega), if_pos hh]; rfl
   ·(refine Le.by [] rfl rfl rfl rfl ?_ ?_ <;> (conv => whnf) <;> (repeat' (first | exact trivial | exact ArgLe.rfl rfl | ((with_reducible refine And.intro ?_ ?_) <;> (conv => whnf)))))
  ·rw [show (((i : Int) + j) / 2).toNat = (i + j) / 2 by omega] at hc
   have hh : ¬ decide (xs.getD ((i + j) / 2) default < t) = true := by simpa using hc
   refine ⟨(i, (i + j) / 2, q - 1), ⟨by dsimp only; omega, by dsimp only; omega, by dsimp only; omega, ?_⟩, by dsimp only; omega, ?_⟩
   ·rw [← h4]
    obtain ⟨q, rfl⟩ : ∃ r, q = r + 1 := ⟨q - 1, by omega⟩
    rw [bsF, if_pos (by omega), if_neg hh]; rfl
   ·(refine Le.by [] rfl rfl rfl rfl ?_ ?_ <;> (conv => whnf) <;> (repeat' (first | exact trivial | exact ArgLe.rfl rfl | ((with_reducible refine And.intro ?_ ?_) <;> (conv => whnf)))))
  all_goals rw [bsF_end (by omega)] at h4
  all_goals subst h4
  ·exact .of_eq (by simp [hasI]; simp_all)
  ·exact .of_eq (by simp [hasI]; simp_all)
  ·exact .of_eq (by simp [hasI]; intros; omega)
def serB (n : Int) : Bool := decide (1 ≤ n) && decide (n ≤ 4611686018427387903)
theorem perm_serial (n : Int) : Pure TC 169 [.i .i64 n] (.b (serB n)) := by
 refine Pure.mk' Tryz.func169 rfl rfl zN ?_
 (repeat' (first | ((first | refine Wp.any TC_mixed rfl ?_ | (with_reducible first | refine Go.mk ?_ | apply Eff1.of)); conv => whnf) | ((refine ways (fun hc => ?_) (fun hc => ?_)) <;> (try simp only [wz9] at hc) <;> (try (exfalso; omega)) <;> (conv => whnf))))
 all_goals exact .b (by simp [serB]; try omega)
def riseB : Int → List Int → Bool
 | _, [] => true
 | l, x :: r => serB x && decide (l < x) && riseB x r
def semE (p : Int) (xs : List Int) : Int := if 1 ≤ p ∧ p ≤ 64 ∧ (xs.length : Int) ≤ p ∧ riseB 0 xs = true then 0 else 3
theorem drop_getD {α : Type} [Inhabited α] {xs : List α} {k : Nat} (h : k < xs.length) : xs.drop k = xs.getD k default :: xs.drop (k + 1) := by
 rw [List.drop_eq_getElem_cons h]; simp [List.getD, List.getElem?_eq_getElem h]
theorem perm_Check (p : Int) (xs : List Int) : Pure TC 170 [.agg [.i .i64 p, .d (slOf 1 (encI .i64) xs)]] (.i .i64 (semE p xs)) := by
 refine Pure.mk' Tryz.func170 rfl rfl zN ?_
 (repeat' (first | ((first | refine Wp.any TC_mixed rfl ?_ | (with_reducible first | refine Go.mk ?_ | apply Eff1.of)); conv => whnf) | ((refine ways (fun hc => ?_) (fun hc => ?_)) <;> (try simp only [wz9] at hc) <;> (try (exfalso; omega)) <;> (conv => whnf))))
 ·exact .i (by rw [semE, if_neg (by omega)])
 ·exact .i (by rw [semE, if_neg (by omega)])
 ·exact .i (by rw [semE, if_neg (by omega)])
 refine Wp.loopP (ι := Nat × Int) (fun k => k.1 ≤ xs.length ∧ riseB k.2 (xs.drop k.1) = riseB 0 xs) (fun k => ⟨⟨Tryz.f170.ntmps, 0⟩, 0, [(3, .i .i64 k.2), (23, .d (slOf 1 (encI .i64) xs)), (24, .i .i64 xs.length), (25, .i .i64 k.1)], []⟩) (fun k => xs.length - k.1) (0, 0) ⟨by simp, by simp⟩ ?_ ?_
 ·(refine Le.by [] rfl rfl rfl rfl ?_ ?_ <;> (conv => whnf) <;> (repeat' (first | exact trivial | exact ArgLe.rfl rfl | ((with_reducible refine And.intro ?_ ?_) <;> (conv => whnf)))))
 ·rintro ⟨k, l⟩ ⟨h1, h2⟩
  dsimp only at h1 h2 ⊢
  (repeat' (first | ((first | refine Wp.any TC_mixed rfl ?_ | (with_reducible first | refine Go.mk ?_ | apply Eff1.of | refine Ov.ok zO ?_ | refine And.intro zC ?_ | refine CallStop.pure (perm_serial _) rfl rfl ?_)); conv => whnf) | ((refine ways (fun hc => ?_) (fun hc => ?_)) <;> (try simp only [wz9] at hc) <;> (try (exfalso; omega)) <;> (conv => whnf))))
  all_goals try simp only [Int.toNat_natCast] at *
  ·rw [drop_getD (by omega), riseB, hc] at h2
   exact .i (by rw [semE, if_neg (by rw [← h2]; simp)])
  ·rw [drop_getD (by omega), riseB, decide_eq_false (by omega)] at h2
   exact .i (by rw [semE, if_neg (by rw [← h2]; simp)])
  ·rename_i hs
   rw [drop_getD (by omega), riseB, hs, decide_eq_true (by omega)] at h2
   refine ⟨(k + 1, xs.getD k default), ⟨by dsimp only; omega, by simpa using h2⟩, by dsimp only; omega, ?_⟩
   (refine Le.by [] rfl rfl rfl rfl ?_ ?_ <;> (conv => whnf) <;> (repeat' (first | exact trivial | exact ArgLe.rfl rfl | ((with_reducible refine And.intro ?_ ?_) <;> (conv => whnf)))))
  ·rw [List.drop_eq_nil_of_le (by omega), riseB] at h2
   exact .i (by rw [semE, if_pos ⟨by omega, by omega, by omega, h2.symm⟩])
set_option maxRecDepth 100000
structure Cel where
 pol : Int
 key : List Int
 tat : Int
 held : List Int
 deriving Inhabited
def Cel.D (c : Cel) : List D := [.val (.int .i64 c.pol), slOf 1 (encI .u8) c.key, .val (.int .i64 c.tat), slOf 1 (encI .i64) c.held]
theorem i64_Clone (xs : List Int) (hn : xs.length ≤ 16777216) : Fun TC 103 0 [.d (slOf 1 (encI .i64) xs)] [] 1 (.sl 0 1 0 xs.length) [(0, some (rowOf 2 1 (encI .i64) xs))] := by
 refine Fun.mk' Tryz.func103 rfl rfl zN (by decide) ?_
 (repeat' (first | ((first | refine Wp.any TC_mixed rfl ?_ | (with_reducible first | refine Go.mk ?_ | apply Eff1.of | refine And.intro zC ?_)); conv => whnf) | ((with_reducible refine And.intro ?hb ?_); (case hb => exact zz3); (conv => whnf)) | ((with_reducible refine nil_any ?_ (fun hn0 => ?_)) <;> (conv => whnf))))
 ·refine FinLe.of [1] rfl (by simp) rfl ?_ ?_
  ·exact .of_eq (congrArg (SV.sl _ _ _) (Nat.zero_add _))
  ·refine ⟨⟨⟨rfl, rfl, Nat.zero_add _⟩, fun i hi => ?_⟩, trivial⟩
   simp [catF]
 ·obtain rfl := List.eq_nil_of_length_eq_zero hn0
  refine FinLe.virt 2 1 (fun i => (encI .i64) (([] : List Int).getD i default)) (by decide) (by decide) ?_
  refine FinLe.of [0] rfl (by simp) rfl ?_ ?_
  ·exact .of_eq rfl
  ·exact ⟨⟨⟨rfl, rfl, rfl⟩, fun i hi => rfl⟩, trivial⟩
theorem cel_Clone (xs : List Cel) (hn : xs.length ≤ 16777216) : Fun TC 115 0 [.d (slOf 4 Cel.D xs)] [] 1 (.sl 0 4 0 xs.length) [(0, some (rowOf 87 4 Cel.D xs))] := by
 refine Fun.mk' Tryz.func115 rfl rfl zN (by decide) ?_
 (repeat' (first | ((first | refine Wp.any TC_mixed rfl ?_ | (with_reducible first | refine Go.mk ?_ | apply Eff1.of | refine And.intro zC ?_)); conv => whnf) | ((with_reducible refine And.intro ?hb ?_); (case hb => exact zz3); (conv => whnf)) | ((with_reducible refine nil_any ?_ (fun hn0 => ?_)) <;> (conv => whnf))))
 ·refine FinLe.of [1] rfl (by simp) rfl ?_ ?_
  ·exact .of_eq (congrArg (SV.sl _ _ _) (Nat.zero_add _))
  ·refine ⟨⟨⟨rfl, rfl, Nat.zero_add _⟩, fun i hi => ?_⟩, trivial⟩
   simp [catF]
 ·obtain rfl := List.eq_nil_of_length_eq_zero hn0
  refine FinLe.virt 87 4 (fun i => Cel.D (([] : List Cel).getD i default)) (by decide) (by decide) ?_
  refine FinLe.of [0] rfl (by simp) rfl ?_ ?_
  ·exact .of_eq rfl
  ·exact ⟨⟨⟨rfl, rfl, rfl⟩, fun i hi => rfl⟩, trivial⟩
end Go.Proofs.YtplpofmnhcclbaaGreat
