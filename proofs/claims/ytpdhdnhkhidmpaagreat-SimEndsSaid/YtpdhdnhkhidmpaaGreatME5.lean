/- Lemmas of Sx24, Ty, Sx20, Bk1, Bk2, Bk3, Bk4, Bk5, Bk6. No condition. -/
import Derived.Test.YtpdhdnhkhidmpaaGreatME4
import Derived.IntWalk
import Derived.Test.YtpdhdnhkhidmpaaGreatRows
import Derived.Shelf.Bits.Mul64
set_option linter.unusedVariables false
set_option linter.unusedSimpArgs false
set_option maxHeartbeats 80000000
set_option maxRecDepth 100000
namespace Go.Proofs.YtpdhdnhkhidmpaaGreat
open Go.RowKit
section
structure ai (S : St) (L : List Nat) (x y : SV) : Prop where
 out : ∀ O E a w v, Sat O E S a w → RS E S.nx w x v → RS (E.end S L) L.length w y v
def fv (S : St) (L : List Nat) : List SV → List SV → Prop
 | [], [] => True
 | x :: xs, y :: ys => ai S L x y ∧ fv S L xs ys
 | _, _ => False
theorem fv.out {S : St} {L : List Nat} : ∀ {xs ys : List SV}, fv S L xs ys → xs.length = ys.length ∧ ∀ (j : Nat) (y : SV), ys[j]? = some y → ∃ x, xs[j]? = some x ∧ ai S L x y
 | [], [], _ => ⟨rfl, fun j y h => by simp at h⟩
 | x :: xs, y :: ys, ⟨h1, h2⟩ => by
  obtain ⟨g1, g2⟩ := fv.out h2
  refine ⟨by simp [g1], fun j z hz => ?_⟩
  cases j with
  | zero => simp at hz; subst hz; exact ⟨x, rfl, h1⟩
  | succ j => simp at hz; exact g2 j z hz
 | [], _ :: _, h => h.elim
 | _ :: _, [], h => h.elim
theorem fv.at {S : St} {L : List Nat} {xs ys : List SV} (h : fv S L xs ys) {j : Nat} (hj : j < ys.length) : ∃ hj' : j < xs.length, ai S L xs[j] ys[j] := by
 obtain ⟨h1, h2⟩ := h.out
 obtain ⟨x, g1, g2⟩ := h2 j _ (Q0 hj)
 obtain ⟨q1, q2⟩ := Q3 g1
 exact ⟨q1, by rw [q2]; exact g2⟩
variable {S : St} {L : List Nat}
theorem ai.any {x : SV} : ai S L x .any := ⟨fun _ _ _ _ _ _ _ => .any _⟩
theorem ai.d {x : D} : ai S L (.d x) (.d x) := ⟨fun O E a w v hs hv => by cases hv with | d _ _ hv => exact .d _ _ (hv.mono (fun _ hb => Or.inl hb) fun _ _ => rfl)⟩
theorem ai.le {x y z : SV} (h : ai S L x y) (hl : SV.Le y z) : ai S L x z := ⟨fun O E a w v hs hv => hl.out _ _ _ _ (h.out O E a w v hs hv)⟩
theorem ai.ptrL {l o i : Nat} (hi : jB L l = some i) : ai S L (.ptr l o) (.ptr i o) := by
 obtain ⟨h1, h2⟩ := bq hi
 refine ⟨fun O E a w v hs hv => ?_⟩
 cases hv with
 | ptr _ _ hl =>
  have := RS.ptr (E := E.end S L) (nx := L.length) (w := w) i o h1
  simp only [Env.end, h2] at this; exact this
theorem ai.slL {l z o n i : Nat} (hi : jB L l = some i) : ai S L (.sl l z o n) (.sl i z o n) := by
 obtain ⟨h1, h2⟩ := bq hi
 refine ⟨fun O E a w v hs hv => ?_⟩
 cases hv with
 | sl _ _ _ _ ad cap hl hc hm ha h0 => exact .sl i z o n ad cap h1 hc hm (by simp only [Env.end, h2]; exact ha) (by simp only [Env.end, h2]; exact h0)
theorem ai.ptr {l o : Nat} {cs ds : List SV} (hi : jB L l = none) (hl : lkh S.hp l = some (.cells cs)) (h : fv S L cs ds) : ai S L (.ptr l o) (.iref ds o) := by
 refine ⟨fun O E a w v hs hv => ?_⟩
 cases hv with
 | ptr _ _ hlx =>
  obtain ⟨vs, T, g1, g2, g3⟩ := hs.hp l _ hl
  have hlen := h.out.1
  have := RS.iref (E := E.end S L) (nx := L.length) (w := w) ds o (E.ρ l) 0 (fun j => vs.getD j undef) (Or.inr ⟨l, _, hl, trivial, rfl, eT hi⟩) (fun j hj => by
    have hj' : j < vs.size := by omega
    simp [World.cell?, g1, Array.getD, hj']) (fun j hj => (g3 j (by omega)).2) (fun j hj => by
    obtain ⟨q1, q2⟩ := h.at hj
    exact q2.out O E a w _ hs (g3 j q1).1)
  rwa [Q19] at this
theorem ai.sl {l e z o n m : Nat} {f : Nat → List D} (hi : jB L l = none) (hl : lkh S.hp l = some (.row e z m f)) (hn : o + n ≤ m) : ai S L (.sl l z o n) (.d (.sl z n fun i => f (o + i))) := by
 refine ⟨fun O E a w v hs hv => ?_⟩
 have hI : ∀ b, E.Im b → (E.end S L).Im b := fun b hb => Or.inl hb
 obtain ⟨y, h1, h2⟩ := jm (ρ' := (E.end S L).ρ) (κ' := (E.end S L).κ) (m' := L.length) (k := fun y => y = .d (.sl z n fun i => f (o + i))) hs hI hv (fun l' b hl' hb hr => by
   have : SV.lab (.sl l z o n) = some l := rfl
   rw [this] at hl'; cases hl'; exact Or.inr ⟨l, b, hb, hr, rfl, eT hi⟩) (by simp only [hJ, hl]; simp [hn])
 rw [h1] at h2; exact h2
theorem ai.fn {f : Fn} {cs ds : List SV} (h : fv S L cs ds) : ai S L (.fn f cs) (.fn f ds) := by
 refine ⟨fun O E a w v hs hv => ?_⟩
 cases hv with
 | fn _ _ us hsz hh => exact .fn _ _ us (by have := h.out.1; omega) fun j hj => by obtain ⟨q1, q2⟩ := h.at hj; exact q2.out O E a w _ hs (hh j q1)
theorem ai.agg {cs ds : List SV} (h : fv S L cs ds) : ai S L (.agg cs) (.agg ds) := by
 refine ⟨fun O E a w v hs hv => ?_⟩
 cases hv with
 | agg _ us hsz h1 hh => exact .agg _ us (by have := h.out.1; omega) h1 fun j hj => by obtain ⟨q1, q2⟩ := h.at hj; exact q2.out O E a w _ hs (hh j q1)
theorem ai.tup {cs ds : List SV} (h : fv S L cs ds) : ai S L (.tup cs) (.tup ds) := by
 refine ⟨fun O E a w v hs hv => ?_⟩
 cases hv with
 | tup _ us hsz hh => exact .tup _ us (by have := h.out.1; omega) fun j hj => by obtain ⟨q1, q2⟩ := h.at hj; exact q2.out O E a w _ hs (hh j q1)
theorem ai.iref {cs ds : List SV} {o : Nat} (h : fv S L cs ds) : ai S L (.iref cs o) (.iref ds o) := by
 refine ⟨fun O E a w v hs hv => ?_⟩
 have hlen := h.out.1
 cases hv with
 | iref _ _ b p g hb hcell h1 hh => exact .iref _ _ b p g (Or.inl hb) (fun j hj => hcell j (by omega)) (fun j hj => h1 j (by omega)) fun j hj => by obtain ⟨q1, q2⟩ := h.at hj; exact q2.out O E a w _ hs (hh j q1)
theorem ai.lt0 {x : SV} (h : SV.Lt 0 x) : ai S L x x := ⟨fun O E a w v hs hv => RS.congr (E := E) (m := 0) (fun l hl => by omega) (Nat.zero_le _) (fun _ hb => Or.inl hb) h hv⟩
theorem ai.same {x : SV} {m : Nat} (h : SV.Lt m x) (hm : m ≤ L.length) (hid : ∀ i, i < m → L.getD i 0 = i) : ai S L x x :=
 ⟨fun O E a w v hs hv => RS.congr (E := E) (m := m) (fun l hl => by simp only [Env.end]; rw [hid l hl]; exact ⟨rfl, rfl⟩) hm (fun _ hb => Or.inl hb) h hv⟩
structure DLe (x y : D) : Prop where
 out : ∀ w Im v, RD w Im x v → RD w Im y v
theorem DLe.refl (x : D) : DLe x x := ⟨fun _ _ _ h => h⟩
theorem DLe.nil {z : Nat} {f : Nat → List D} : DLe (.val (.slice none 0 0)) (.sl z 0 f) := ⟨fun w Im v h => by
 cases h with | val _ _ => exact .sl z 0 f none 0 (fun _ _ => undef) (Q4 _) (by unfold maxLen; omega) (fun i hi => by omega) (fun h => by omega) (fun i j hi => by omega)⟩
def fW : List D → List D → Prop
 | [], [] => True
 | x :: xs, y :: ys => DLe x y ∧ fW xs ys
 | _, _ => False
theorem fW.refl : ∀ xs : List D, fW xs xs
 | [] => trivial
 | x :: xs => ⟨.refl x, fW.refl xs⟩
theorem fW.of {xs ys : List D} (h : xs = ys) : fW xs ys := by subst h; exact .refl _
theorem fW.out : ∀ {xs ys : List D}, fW xs ys → xs.length = ys.length ∧ ∀ (j : Nat) (hx : j < xs.length) (hy : j < ys.length), DLe xs[j] ys[j]
 | [], [], _ => ⟨rfl, fun j hx => by simp at hx⟩
 | x :: xs, y :: ys, ⟨h1, h2⟩ => by
  obtain ⟨g1, g2⟩ := fW.out h2
  refine ⟨by simp [g1], fun j hx hy => ?_⟩
  cases j with
  | zero => exact h1
  | succ j => exact g2 j (by simpa using hx) (by simpa using hy)
 | [], _ :: _, h => h.elim
 | _ :: _, [], h => h.elim
def blkS (S : St) (L : List Nat) : Option Blk → Blk → Prop
 | some (.cells cs), .cells cs' => fv S L cs cs'
 | some (.row e z n f), .row e' z' n' f' => (e = e' ∧ z = z' ∧ n = n') ∧ ∀ i, i < n → fW (f i) (f' i)
 | some (.cf _ n g), .cf m' n' g' => (n = n' ∧ m' ≤ L.length) ∧ ∀ j, j < n' → ai S L (g j) (g' j) ∧ SV.Lt m' (g' j)
 | some (.cells cs), .cf m' n' g' => m' ≤ L.length ∧ fv S L cs ((List.range n').map g') ∧ ∀ j, j < n' → SV.Lt m' (g' j)
 | _, _ => False
def np (S : St) (L : List Nat) : List (Nat × Option Blk) → Prop
 | [] => True
 | (_, none) :: r => np S L r
 | (i, some b) :: r => bif Nat.blt i L.length then blkS S L (lkh S.hp (L.getD i 0)) b ∧ np S L r else False
theorem iy : ∀ {H : List (Nat × Option Blk)}, np S L H → ∀ i b, lkh H i = some b → i < L.length ∧ blkS S L (lkh S.hp (L.getD i 0)) b
 | [], _, i, b, h => by simp [lkh] at h
 | (j, none) :: r, hk, i, b, h => iy (H := r) hk i b (aB h).2
 | (j, some b') :: r, hk, i, b, h => by
  unfold np at hk
  cases hb : Nat.blt j L.length with
  | false => simp [hb] at hk
  | true =>
   simp only [hb, cond_true] at hk
   rw [aj] at h
   by_cases e : j = i
   ·subst e; rw [if_pos rfl] at h; cases h; exact ⟨by simpa using hb, hk.1⟩
   ·rw [if_neg e] at h; exact iy hk.2 i b h
theorem af.laid {m m' : Nat} {S : St} {x r : SV} {H' : List (Nat × Option Blk)} (L : List Nat) (hlen : L.length = m') (hm : ∀ i, i < m → L.getD i 0 = i) (hd : bh L = true) (hx : ai S L x r) (hH : np S L H') : af m S x m' r H' := by
 refine ⟨fun O E a w v hO hs hv => ?_⟩
 subst hlen
 have hblk : ∀ i b, lkh H' i = some b → i < L.length ∧ (∃ b0, lkh S.hp (L.getD i 0) = some b0 ∧ (b.real (E.κ (L.getD i 0)) → b0.real (E.κ (L.getD i 0)))) ∧ BS (E.end S L) L.length w i b := by
  intro i b hb
  obtain ⟨g1, g2⟩ := iy hH i b hb
  unfold blkS at g2
  split at g2
  ·rename_i cs cs' hl
   refine ⟨g1, ⟨_, hl, fun _ => trivial⟩, ?_⟩
   obtain ⟨vs, T, k1, k2, k3⟩ := hs.hp _ _ hl
   have hlen := g2.out.1
   refine ⟨vs, T, k1, by omega, fun j hj => ?_⟩
   obtain ⟨q1, q2⟩ := g2.at hj
   exact ⟨q2.out O E a w _ hs (k3 j q1).1, (k3 j q1).2⟩
  ·rename_i e z n f e' z' n' f' hl
   obtain ⟨⟨rfl, rfl, rfl⟩, g3⟩ := g2
   refine ⟨g1, ⟨_, hl, fun h => h⟩, ?_⟩
   obtain ⟨k1, k2, k3, k4, k5⟩ := hs.hp _ _ hl
   refine ⟨k1, k2, k3, fun i hi => by rw [← (g3 i hi).out.1]; exact k4 i hi, fun hk => ?_⟩
   obtain ⟨vs, q1, q2, q3, q4⟩ := k5 hk
   refine ⟨vs, q1, q2, q3, fun i j hi hj => ?_⟩
   obtain ⟨p1, p2⟩ := (g3 i hi).out
   exact ((p2 j (by omega) hj).out _ _ _ (q4 i j hi (by omega))).mono (fun b hb => Or.inl hb) fun _ _ => rfl
  ·rename_i m n g m' n' g' hl
   obtain ⟨⟨rfl, hm'⟩, g3⟩ := g2
   refine ⟨g1, ⟨_, hl, fun h => h⟩, ?_⟩
   obtain ⟨k0, hh⟩ := hs.hp _ _ hl
   refine ⟨hm', fun hp => ?_⟩
   obtain ⟨vs, T, k1, k2, k3⟩ := hh hp
   exact ⟨vs, T, k1, k2, fun j hj => ⟨(g3 j hj).2, (g3 j hj).1.out O E a w _ hs (k3 j hj).2.1, (k3 j hj).2.2⟩⟩
  ·rename_i cs m' n' g' hl
   obtain ⟨hm', g3, g4⟩ := g2
   refine ⟨g1, ⟨_, hl, fun _ => trivial⟩, ?_⟩
   obtain ⟨vs, T, k1, k2, k3⟩ := hs.hp _ _ hl
   have hlen := g3.out.1
   refine ⟨hm', fun _ => ⟨vs, T, k1, by simp at hlen; omega, fun j hj => ?_⟩⟩
   obtain ⟨q1, q2⟩ := g3.at (j := j) (by simpa using hj)
   simp only [List.getElem_map, List.getElem_range] at q2
   exact ⟨g4 j hj, q2.out O E a w _ hs (k3 j q1).1, (k3 j q1).2⟩
  ·exact g2.elim
 have hmem : ∀ i, i < L.length → L.getD i 0 ∈ L := fun i hi => by simp [List.getD, Q0 hi]
 refine ⟨E.end S L, ⟨fun i b hb => (hblk i b hb).2.2, fun i b hb => (hblk i b hb).1, ?_, ?_⟩, fun l hl => by simp only [Env.end]; rw [hm l hl]; exact ⟨rfl, rfl⟩, ?_, ?_, fun b hb => Or.inl hb, hx.out O E a w v hs hv⟩
 ·intro i j b b' hi hj hr hr' hne
  obtain ⟨g1, ⟨b0, g2, g3⟩, _⟩ := hblk i b hi
  obtain ⟨g4, ⟨b1, g5, g6⟩, _⟩ := hblk j b' hj
  exact hs.inj _ _ _ _ g2 g5 (g3 hr) (g6 hr') (bW hd g1 g4 hne)
 ·intro b hb
  rcases hb with hb | ⟨l, y, hl, hr, rfl, hn⟩
  ·obtain ⟨k1, _, k3⟩ := hs.im b hb
   refine ⟨k1, fun i z hz hzr => ?_⟩
   obtain ⟨g1, ⟨b0, g2, g3⟩, _⟩ := hblk i z hz
   exact k3 _ _ g2 (g3 hzr)
  ·refine ⟨(hs.hp _ _ hl).lt hr, fun i z hz hzr => ?_⟩
   obtain ⟨g1, ⟨b0, g2, g3⟩, _⟩ := hblk i z hz
   exact hs.inj _ _ _ _ g2 hl (g3 hzr) hr (fun e => hn (e ▸ hmem i g1))
 ·rintro b ⟨i, z, hz, hzr, rfl⟩
  obtain ⟨g1, ⟨b0, g2, g3⟩, _⟩ := hblk i z hz
  exact ⟨_, _, g2, g3 hzr, rfl⟩
 ·rintro b (hb | ⟨l, y, hl, hr, rfl, hn⟩)
  ·exact Or.inl hb
  ·exact Or.inr ⟨l, y, hl, hr, rfl⟩
theorem af.sealB {m m' : Nat} {S : St} {x r : SV} {H' : List (Nat × Option Blk)} (L : List Nat) (hlen : L.length = m') (hm : idP L m = true) (hd : bh L = true) (hx : ai S L x r) (hH : np S L H') : af m S x m' r H' :=
 af.laid L hlen (fun i hi => by unfold idP at hm; rw [Q23] at hm; exact Q2 (hm i (by simpa using hi))) hd hx hH
theorem dM {m i : Nat} (h : i < m) : (List.range m).getD i 0 = i := by simp [List.getD, h]
theorem kD {m l : Nat} (h : l < m) : jB (List.range m) l = some l := by
 cases e : jB (List.range m) l with
 | none => exact absurd (List.mem_range.2 h) (eT e)
 | some j =>
  obtain ⟨h1, h2⟩ := bq e
  rw [dM (by simpa using h1)] at h2
  rw [h2]
theorem kI {m l : Nat} (h : m ≤ l) : jB (List.range m) l = none := by
 cases e : jB (List.range m) l with
 | none => rfl
 | some j =>
  obtain ⟨h1, h2⟩ := bq e
  have h1 : j < m := by simpa using h1
  rw [dM h1] at h2
  omega
theorem oj : ∀ {L : List Nat}, L.Nodup → bh L = true
 | [], _ => rfl
 | x :: r, h => by
  rw [List.nodup_cons] at h
  unfold bh
  have : r.any (Nat.beq x) = false := by
   rw [List.any_eq_false]; intro y hy hb
   exact h.1 (Q2 hb ▸ hy)
  rw [this]; exact oj h.2
theorem af.sealM {m : Nat} {S : St} {x r : SV} (hx : ai S (List.range m) x r) : af m S x m r [] :=
 af.laid (List.range m) (by simp) (fun i hi => dM hi) (oj List.nodup_range) hx trivial
theorem ai.ptrM {S : St} {m l o : Nat} (h : Nat.blt l m = true) : ai S (List.range m) (.ptr l o) (.ptr l o) := .ptrL (kD (by simpa using h))
theorem ai.ptrN {S : St} {m l o : Nat} {cs ds : List SV} (h : Nat.ble m l = true) (hl : lkh S.hp l = some (.cells cs)) (hs : fv S (List.range m) cs ds) : ai S (List.range m) (.ptr l o) (.iref ds o) := .ptr (kI (zzb h)) hl hs
theorem ai.sameM {S : St} {m : Nat} {x : SV} (h : SV.Lt m x) : ai S (List.range m) x x := .same h (by simp) fun i hi => dM hi
theorem ae.iref {L : List Nat} {cs cs0 : List SV} {o : Nat} (h : a8 L cs cs0) : ae L (.iref cs o) (.iref cs0 o) := by
 obtain ⟨h1, h2⟩ := h.out
 refine ⟨fun E nx w v hv => ?_⟩
 cases hv with
 | iref _ _ b p g hb hcell h3 hh =>
  refine .iref _ _ b p g hb (fun j hj => hcell j (by omega)) (fun j hj => h3 j (by omega)) fun j hj => ?_
  obtain ⟨x, g1, g2⟩ := h2 j _ (Q0 hj)
  obtain ⟨q1, q2⟩ := Q3 g1
  have := hh j q1
  rw [q2] at this
  exact g2.out _ _ _ _ this
theorem ae.same {L : List Nat} {x : SV} {m : Nat} (h : SV.Lt m x) (hm : m ≤ L.length) (hid : ∀ i, i < m → L.getD i 0 = i) : ae L x x :=
 ⟨fun E nx w v hv => RS.congr (E := E) (m := m) (fun l hl => by simp only; rw [hid l hl]; exact ⟨_root_.rfl, _root_.rfl⟩) hm (fun _ hb => hb) h hv⟩
theorem zA {p : Prop} (h : p := by first | ((((conv => whnf); repeat' (first | exact trivial | exact ae.rfl rfl | exact ae.ptr rfl | exact ae.sl rfl | ((with_reducible refine ae.fn ?_); (conv => whnf)) | ((refine ae.iref ?_); (conv => whnf)) | exact ae.free SV.Le.nil rfl | ((with_reducible refine And.intro ?_ ?_) <;> (conv => whnf)) | ((refine ae.free ?_ rfl); (repeat' (first | exact SV.Le.rfl _ | exact SV.Le.nil | exact SV.Le.sl (fun i hi => by (rcases i with _ | _ | _ | _ | i) <;> first | rfl | (exfalso; omega)) | with_reducible refine SV.Le.agg ?_ | exact Les.nil | with_reducible refine Les.cons ?_ ?_)))))); done) | fail "no") : p := h
theorem zH {p : Prop} (h : p := by first | ((((conv => whnf); repeat' (first | exact trivial | exact ae.rfl rfl | exact ae.ptr rfl | exact ae.sl rfl | ((with_reducible refine ae.fn ?_); (conv => whnf)) | ((refine ae.iref ?_); (conv => whnf)) | exact ae.free SV.Le.nil rfl | exact ⟨rfl, rfl, rfl⟩ | exact fun i hi => rfl | exact (fun i hi => by (rcases i with _ | i) <;> first | rfl | (exfalso; omega)) | ((with_reducible refine And.intro ?_ ?_) <;> (conv => whnf))))); done) | fail "no") : p := h
theorem zK {p : Prop} (h : p := by first | (((conv => whnf); repeat' (first | exact trivial | ((refine And.intro rfl ?_); (conv => whnf)))); done) | fail "no") : p := h
theorem zB {p : Prop} (h : p := by first | ((first | exact o8 (zzb rfl) (by omega) | omega); done) | fail "no") : p := h
theorem zO {p : Prop} (h : p := by first | ((first | exact IntWalk.i64_in _ (by omega) | exact IntWalk.u64_in _ (by omega) | exact IntWalk.u8_in _ (by omega) | exact IntWalk.u32_in _ (by omega) | exact IntWalk.i32_in _ (by omega) | exact IntWalk.u16_in _ (by omega)); done) | fail "no") : p := h
theorem zC {p : Prop} (h : p := by first | ((first | omega | exact zzb rfl); done) | fail "no") : p := h
theorem zE {p : Prop} (h : p := by first | ((first | exact trivial | exact ai.any | exact ai.d | exact ai.ptrL rfl | exact ai.slL rfl | exact ai.lt0 (SV.Lt.of rfl) | exact ai.same (by assumption) (zzb rfl) (fun i hi => id5 hi) | exact ai.le ai.d (SV.Le.i (by omega)) | exact ⟨rfl, rfl, rfl⟩ | exact ⟨rfl, zzb rfl⟩ | exact dir_seal (by assumption) | exact dir_sealR (by assumption) (fun l hl => by rcases l with _ | _ | _ | _ | _ | l <;> first | rfl | omega) | exact fun i hi => fW.refl _ | exact ai.le ai.d SV.Le.nil | exact ai.le (ai.sl rfl rfl (by omega)) (SV.Le.sl fun i hi => by simp only [Q19])); done) | fail "no") : p := h
theorem zA9 {p : Prop} (h : p := by first | ((first | exact Les.nil | exact SV.Le.rfl _ | exact SV.Le.sl (fun i hi => by (rcases i with _ | _ | _ | _ | i) <;> first | rfl | (exfalso; omega))); done) | fail "no") : p := h
theorem zB9 {p : Prop} (h : p := by first | ((first | exact trivial | exact ae.rfl rfl | exact ae.sl rfl | exact ⟨rfl, rfl, rfl⟩ | exact fun i hi => rfl | exact fun i hi => ite_row); done) | fail "no") : p := h
theorem zC9 {p : Prop} (h : p := by first | ((first | exact trivial | exact ai.any | exact ai.d | exact ai.sl14 | exact ai.ptrL rfl | exact ai.slL rfl | exact ai.lt0 (SV.Lt.of rfl) | exact ai.same (by assumption) (zzb rfl) (fun i hi => id13 (Nat.lt_of_lt_of_le hi (zzb rfl))) | exact ai.le ai.d (SV.Le.i (by omega)) | exact ⟨rfl, rfl, rfl⟩ | exact ⟨rfl, zzb rfl⟩ | exact my (by assumption) | exact pZ (by assumption) (fun l hl => by rcases l with _ | _ | _ | _ | _ | _ | _ | _ | _ | _ | _ | _ | _ | l <;> first | rfl | omega) | exact aQ (cz _ _) | exact aw (cz _ _) rfl | exact qy _ _ | exact fun i hi => fW.refl _ | exact ai.le (ai.sl rfl rfl (by omega)) (SV.Le.sl fun i hi => by simp only [Q19])); done) | fail "no") : p := h
theorem zD9 {p : Prop} (h : p := by first | ((first | exact trivial | exact ai.d | exact ai.ptrM rfl | exact ai.sameM (by assumption) | exact ai.lt0 (SV.Lt.of rfl) | exact ai.sameM (SV.Lt.of rfl)); done) | fail "no") : p := h
theorem zE9 {p : Prop} (h : p := by first | ((first | exact trivial | exact ae.rfl rfl | exact ae.sl13 | exact ae.sl rfl | exact ⟨rfl, rfl, rfl⟩ | exact ⟨rfl, zzb rfl⟩ | exact d7 (by assumption) | exact cQ (by assumption) (fun l hl => by rcases l with _ | _ | _ | _ | _ | _ | _ | _ | _ | _ | _ | _ | _ | l <;> first | rfl | omega) | exact eF (cz _ _) | exact tU _ _ (by first | rfl | omega) | exact b9 (cz _ _) rfl | exact fun i hi => rfl); done) | fail "no") : p := h
theorem zF9 {p : Prop} (h : p := by first | ((first | exact trivial | exact ae.rfl rfl | exact ae.ptr rfl | exact ae.sl rfl); done) | fail "no") : p := h
theorem zG9 {p : Prop} (h : p := by first | ((first | exact trivial | exact SV.Le.rfl _ | exact ⟨rfl, rfl, rfl⟩ | exact ⟨rfl, zzb rfl⟩ | exact d7 (by assumption) | exact cQ (by assumption) (fun l hl => by rcases l with _ | _ | _ | _ | _ | _ | _ | _ | _ | _ | _ | _ | _ | l <;> first | rfl | omega) | exact eF (cz _ _) | exact b9 (cz _ _) rfl | exact fun i hi => rfl); done) | fail "no") : p := h
theorem zH9 {p : Prop} (h : p := by first | ((first | exact trivial | exact SV.Lt.mono (zzb rfl) hlt); done) | fail "no") : p := h
theorem zI9 {p : Prop} (h : p := by first | ((first | exact trivial | exact ae.rfl rfl | exact ae.sl rfl | exact ⟨rfl, rfl, rfl⟩ | exact ⟨rfl, zzb rfl⟩ | exact eF (cz _ _) | exact fun i hi => rfl); done) | fail "no") : p := h
theorem zJ9 {p : Prop} (h : p := by first | ((first | exact trivial | exact ai.d | exact ai.sl14 | exact ai.slL rfl | exact ⟨rfl, rfl, rfl⟩ | exact ⟨rfl, zzb rfl⟩ | exact aw (cz _ _) rfl | exact fun i hi => fW.refl _); done) | fail "no") : p := h
theorem zK9 {p : Prop} (h : p := by first | ((first | exact trivial | exact ae.rfl rfl | exact ae.ptr rfl | exact ae.sl rfl | exact ⟨rfl, rfl, rfl⟩ | exact ⟨rfl, zzb rfl⟩ | exact zzb rfl | exact (fun j _ => cz _ _ j) | exact fun i hi => rfl); done) | fail "no") : p := h
theorem zL9 {p : Prop} (h : p := by first | ((first | exact trivial | exact ai.d | exact ai.slX (zzb rfl) rfl | exact ⟨rfl, rfl, rfl⟩ | exact ⟨rfl, zzb rfl⟩ | exact aw (cz _ _) rfl | exact fun i hi => fW.refl _); done) | fail "no") : p := h
theorem zM9 {p : Prop} (h : p := by first | ((first | exact trivial | exact bF (by decide) (fun l hl => by rcases l with _ | _ | _ | _ | l <;> first | exact ⟨zzb rfl, rfl⟩ | exact ⟨zzb rfl, rfl, rfl⟩ | omega) (fun q hq => by rcases q with _ | _ | _ | _ | _ | _ | _ | _ | _ | q <;> first | exact ⟨zzb rfl, rfl⟩ | omega) | exact cp (by decide) (by decide) (fun l hl => by rcases l with _ | _ | _ | _ | l <;> first | exact ⟨zzb rfl, rfl⟩ | exact ⟨zzb rfl, rfl, rfl⟩ | omega) (fun q hq => by rcases q with _ | _ | _ | _ | _ | _ | _ | _ | _ | q <;> first | exact ⟨zzb rfl, rfl⟩ | omega) | exact ae.rfl rfl | exact ae.ptr rfl | exact ae.sl rfl | exact ⟨rfl, rfl, rfl⟩ | exact ⟨rfl, zzb rfl⟩ | exact du (by assumption) rfl | exact fX (by assumption) | exact fun i hi => rfl); done) | fail "no") : p := h
theorem zN9 {p : Prop} (h : p := by first | ((first | exact trivial | exact ai.d | exact it (by decide) (fun l hl => by rcases l with _ | _ | _ | _ | l <;> first | exact ⟨zzb rfl, rfl⟩ | exact ⟨zzb rfl, rfl, rfl⟩ | omega) (fun q hq => by rcases q with _ | _ | _ | _ | _ | _ | _ | _ | _ | q <;> first | exact ⟨zzb rfl, rfl⟩ | omega) | exact ai.slX (zzb rfl) rfl | exact ai.ptrL rfl | exact ⟨rfl, rfl, rfl⟩ | exact ⟨rfl, zzb rfl⟩ | exact nR (by assumption) rfl | exact fun i hi => fW.refl _); done) | fail "no") : p := h
theorem wz9 : (∀ {p : Prop} [Decidable p], (decide p = true) = p) ∧ (∀ {p : Prop} [Decidable p], decide p = false ↔ ¬p) ∧ (∀ {a b : Bool}, ((a && b) = true) = (a = true ∧ b = true)) ∧ (∀ {a b : Bool}, ((a || b) = true) = (a = true ∨ b = true)) ∧ (∀ (x y : Bool), ((x && y) = false) = (x = false ∨ y = false)) ∧ (∀ (x y : Bool), ((x || y) = false) = (x = false ∧ y = false)) ∧ (∀ {b : Bool}, ((!b) = true) = (b = false)) ∧ (∀ {b : Bool}, ((!b) = false) = (b = true)) ∧ (∀ {α : Type} [BEq α] [LawfulBEq α] {a b : α}, (a == b) = true ↔ a = b) ∧ (∀ {α : Type} [BEq α] [LawfulBEq α] {a b : α}, (a != b) = true ↔ a ≠ b) ∧ (∀ {α : Type} (a b : α), (a ≠ b) = ¬(a = b)) ∧ (∀ {α : Type} [BEq α] [LawfulBEq α] {a b : α}, (a == b) = false ↔ a ≠ b) ∧ (∀ {α : Type} [BEq α] [LawfulBEq α] {a b : α}, (a != b) = false ↔ a = b) ∧ (∀ (b : Bool), (¬(b = true)) = (b = false)) ∧ (∀ (b : Bool), (¬(b = false)) = (b = true)) := ⟨by intros; first | (simp; done) | (rename_i x y; cases x <;> cases y <;> simp), by intros; first | (simp; done) | (rename_i x y; cases x <;> cases y <;> simp), by intros; first | (simp; done) | (rename_i x y; cases x <;> cases y <;> simp), by intros; first | (simp; done) | (rename_i x y; cases x <;> cases y <;> simp), by intros; first | (simp; done) | (rename_i x y; cases x <;> cases y <;> simp), by intros; first | (simp; done) | (rename_i x y; cases x <;> cases y <;> simp), by intros; first | (simp; done) | (rename_i x y; cases x <;> cases y <;> simp), by intros; first | (simp; done) | (rename_i x y; cases x <;> cases y <;> simp), by intros; first | (simp; done) | (rename_i x y; cases x <;> cases y <;> simp), by intros; first | (simp; done) | (rename_i x y; cases x <;> cases y <;> simp), by intros; first | (simp; done) | (rename_i x y; cases x <;> cases y <;> simp), by intros; first | (simp; done) | (rename_i x y; cases x <;> cases y <;> simp), by intros; first | (simp; done) | (rename_i x y; cases x <;> cases y <;> simp), by intros; first | (simp; done) | (rename_i x y; cases x <;> cases y <;> simp), by intros; first | (simp; done) | (rename_i x y; cases x <;> cases y <;> simp)⟩
def wpCan : Code → Bool
 | .seq _ _ => true
 | .block _ _ => true
 | .skip => true
 | .ret => true
 | .exit _ => true
 | .region _ _ _ => true
 | .cond _ _ _ => true
 | _ => false
def wpA (C : Cx) (c : Code) (S : St) (Q : Exit → St → Prop) : Prop :=
 match c with
 | .seq x y => Wp C x S (thenQ C y Q)
 | .block id c => Wp C c S (pa id Q)
 | .skip => Q .normal S
 | .ret => Q .ret S
 | .exit id => Q (.exit id) S
 | .region _ ⟨l⟩ false => nI C l l S (Q .normal)
 | .region _ ⟨l⟩ true => match S with
  | ⟨nt, nx, fr, hp⟩ => cntK l nx fun m => cG C l nx l 0 ⟨nt, m, fr, hp⟩ fun efs Sn => dI l efs nx ⟨nt, m, fr, hp⟩ = true ∧ Q .normal Sn
 | .cond x c d => condK C (ev S x) S c d Q
 | _ => False
theorem Wp.any {C : Cx} {c : Code} {S : St} {Q : Exit → St → Prop} (hm : C.P.follows .mixedOrders = true) (hc : wpCan c = true) (h : wpA C c S Q) : Wp C c S Q := by
 cases c with
 | seq x y => exact .seq h
 | block id c => exact .block h
 | skip => exact .skip h
 | ret => exact .ret h
 | exit id => exact .exit h
 | region id a b =>
  obtain ⟨l⟩ := a
  cases b with
  | false => exact .region h
  | true => obtain ⟨nt, nx, fr, hp⟩ := S; exact .drawL hm h
 | cond x c d => exact .cond h
 | _ => exact h.elim
theorem zN {a b : Nat} (h : Nat.ble a b = true := by exact rfl) : a ≤ b := zzb h
theorem zV {a b c d} {q : Prop} (h2 : q) (h : dI a b c d = true := by kernel_rfl) : dI a b c d = true ∧ q := ⟨h, h2⟩
theorem zz0 {p : Prop} (h : p := by first | (((conv => whnf); (repeat' (first | exact zC9 | ((refine ai.fn ?_); (conv => whnf)) | ((refine ai.tup ?_); (conv => whnf)) | ((refine ai.iref ?_); (conv => whnf)) | ((refine And.intro ?_ ?_) <;> (conv => whnf))))); done) | fail "no") : p := h
theorem zz1 {p : Prop} (h : p := by first | ((((conv => whnf); repeat' (first | exact zE9 | exact eF (qo _) | ((with_reducible refine And.intro ?_ ?_) <;> (conv => whnf))))); done) | fail "no") : p := h
theorem zz2 {p : Prop} (h : p := by first | (((conv => whnf); (repeat' (first | exact zC9 | exact aQ (qo _) | ((refine And.intro ?_ ?_) <;> (conv => whnf))))); done) | fail "no") : p := h
theorem zz3 {p : Prop} (h : p := by first | ((((conv => whnf); repeat' (first | exact zM9 | ((with_reducible refine And.intro ?_ ?_) <;> (conv => whnf))))); done) | fail "no") : p := h
theorem zz4 {p : Prop} (h : p := by first | (((conv => whnf); (repeat' (first | exact zC9 | exact aw (qo _) rfl | ((refine And.intro ?_ ?_) <;> (conv => whnf))))); done) | fail "no") : p := h
theorem zz5 {p : Prop} (h : p := by first | (((conv => whnf); (repeat' (first | exact zC9 | exact aQ (qo _) | ((refine And.intro ?_ ?_) <;> (conv => whnf)) | (intro i hi; refine fW.of ?_; dsimp only; first | (rw [if_neg (by assumption)]; done) | (rw [if_pos (by assumption)]; rfl))))); done) | fail "no") : p := h
theorem zz6 {p : Prop} (h : p := by first | ((exact o8 zN (by omega)); done) | fail "no") : p := h
theorem zz7 {p : Prop} (h : p := by first | (((conv => whnf); (repeat' (first | exact zC9 | ((refine ai.ptr rfl rfl ?_); (conv => whnf)) | ((refine ai.fn ?_); (conv => whnf)) | ((refine ai.tup ?_); (conv => whnf)) | ((refine ai.iref ?_); (conv => whnf)) | ((refine And.intro ?_ ?_) <;> (conv => whnf))))); done) | fail "no") : p := h
theorem zz8 {p : Prop} (h : p := by first | ((((conv => whnf); repeat' (first | exact zH9 | ((with_reducible refine And.intro ?_ ?_) <;> (conv => whnf))))); done) | fail "no") : p := h
theorem zz9 {p : Prop} (h : p := by first | ((((conv => whnf); repeat' (first | exact trivial | ((with_reducible refine And.intro ?_ ?_) <;> (conv => whnf))))); done) | fail "no") : p := h
theorem tT {p : Prop} (h : p := by first | ((((conv => whnf); repeat' (first | exact zH9 | exact SV.Lt.mono zN (aO lt2 (fun l hl => by rcases l with _ | _ | _ | _ | _ | l <;> first | exact zN | omega) rfl) | ((with_reducible refine And.intro ?_ ?_) <;> (conv => whnf))))); done) | fail "no") : p := h
theorem tS {p : Prop} (h : p := by first | ((exact tq (fun l hl => by rcases l with _ | _ | _ | _ | _ | l <;> first | exact ⟨by decide, rfl⟩ | rfl | omega) (lt_caps hlt5)); done) | fail "no") : p := h
theorem tR {p : Prop} (h : p := by first | ((((conv => whnf); repeat' (first | exact zI9 | exact s5 q5 (fun l hl => bo hl) (fun l hl => by rcases l with _ | _ | _ | _ | _ | _ | _ | _ | _ | _ | _ | _ | _ | l <;> first | exact ⟨by decide, rfl⟩ | rfl | omega) zN | exact eF (qo _) | ((with_reducible refine And.intro ?_ ?_) <;> (conv => whnf))))); done) | fail "no") : p := h
theorem tQ {p : Prop} (h : p := by first | ((((conv => whnf); repeat' (first | exact trivial | exact renL_z lt2 (fun l hl => by rcases l with _ | _ | _ | _ | _ | l <;> first | exact .inl zN | exact .inr rfl | omega) | ((with_reducible refine And.intro ?_ ?_) <;> (conv => whnf))))); done) | fail "no") : p := h
theorem tP {p : Prop} (h : p := by first | ((exact ⟨ae.ptr rfl, trivial⟩); done) | fail "no") : p := h
theorem tO {p : Prop} (h : p := by first | ((((conv => whnf); repeat' (first | exact zK9 | exact g1_arg (by decide) hn hne (fun l hl => by rcases l with _ | _ | _ | _ | l <;> first | exact ⟨zzb rfl, rfl, rfl⟩ | exact ⟨zzb rfl, rfl⟩ | omega) (fun k hk hne' => by rcases k with _ | _ | _ | _ | _ | _ | _ | _ | _ | k <;> first | exact ⟨zzb rfl, rfl⟩ | exact absurd rfl hne' | omega) | exact eF (qo _) | ((with_reducible refine And.intro ?_ ?_) <;> (conv => whnf))))); done) | fail "no") : p := h
theorem zz16 {p : Prop} (h : p := by first | (((conv => whnf); (repeat' (first | exact zC9))); done) | fail "no") : p := h
theorem zz17 {p : Prop} (h : p := by first | ((((conv => whnf); repeat' (first | exact zE9 | exact b9 (qo _) rfl | ((with_reducible refine And.intro ?_ ?_) <;> (conv => whnf))))); done) | fail "no") : p := h
theorem zz18 {p : Prop} (h : p := by first | ((((conv => whnf); repeat' (first | exact zF9 | ((refine ae.iref ?_); (conv => whnf)) | ((with_reducible refine And.intro ?_ ?_) <;> (conv => whnf))))); done) | fail "no") : p := h
theorem zz19 {p : Prop} (h : p := by first | ((((conv => whnf); repeat' (first | exact zF9 | ((refine ae.fn ?_); (conv => whnf)) | ((refine ae.iref ?_); (conv => whnf)) | ((with_reducible refine And.intro ?_ ?_) <;> (conv => whnf))))); done) | fail "no") : p := h
theorem zz20 {p : Prop} (h : p := by first | (((conv => whnf); (repeat' (first | exact ai.d))); done) | fail "no") : p := h
theorem zz21 {p : Prop} (h : p := by first | (((conv => whnf); (repeat' (first | exact zC9 | ((refine ai.tup ?_); (conv => whnf)) | ((refine And.intro ?_ ?_) <;> (conv => whnf))))); done) | fail "no") : p := h
theorem zz22 {p : Prop} (h : p := by first | ((((conv => whnf); repeat' (first | exact zF9 | ((with_reducible refine And.intro ?_ ?_) <;> (conv => whnf))))); done) | fail "no") : p := h
theorem zz23 {p : Prop} (h : p := by first | ((((conv => whnf); (refine And.intro (p6 rfl rfl q5 (fun l hl => by rcases l with _ | _ | _ | _ | _ | _ | _ | _ | _ | _ | _ | _ | _ | l <;> first | rfl | omega) rfl) ?_); (conv => whnf); (refine And.intro rfl ?_); (conv => whnf); (refine And.intro rfl ?_); (conv => whnf); (refine And.intro (cR (n := 9) (f := xF who x) rfl rfl (cz who x) rfl rfl) ?_); (conv => whnf); (refine And.intro (cR (n := (o 0).n) (f := (o 0).f) rfl rfl (qo 0) rfl rfl) ?_); (conv => whnf); (refine And.intro (cR (n := (o 1).n) (f := (o 1).f) rfl rfl (qo 1) rfl rfl) ?_); (conv => whnf); (refine And.intro (cR (n := (o 2).n) (f := (o 2).f) rfl rfl (qo 2) rfl rfl) ?_); (conv => whnf); (refine And.intro (cR (n := (o 3).n) (f := (o 3).f) rfl rfl (qo 3) rfl rfl) ?_); (conv => whnf); (refine And.intro (cR (n := (o 4).n) (f := (o 4).f) rfl rfl (qo 4) rfl rfl) ?_); (conv => whnf); (refine And.intro (cR (n := (o 5).n) (f := (o 5).f) rfl rfl (qo 5) rfl rfl) ?_); (conv => whnf); (refine And.intro (cR (n := (o 6).n) (f := (o 6).f) rfl rfl (qo 6) rfl rfl) ?_); (conv => whnf); (refine And.intro (cR (n := (o 7).n) (f := (o 7).f) rfl rfl (qo 7) rfl rfl) ?_); (conv => whnf); exact trivial)); done) | fail "no") : p := h
theorem zz24 {p : Prop} (h : p := by first | ((((conv => whnf); repeat' (first | exact zB9 | ((with_reducible refine And.intro ?_ ?_) <;> (conv => whnf))))); done) | fail "no") : p := h
end
abbrev zP := eD Tryz.prog
theorem zT {P : Program} {t : Nat} {i : TI} (h : eD P t i := by exact ⟨by kernel_rfl, by kernel_rfl, fun h => by cases h⟩) : eD P t i := h
def ti42 : TI := ⟨.struct [(0, 25), (1, 4), (2, 2), (3, 2), (4, 2), (5, 2)], 6, 48, [.int .i64 0, .bool false, .int .i64 0, .int .i64 0, .int .i64 0, .int .i64 0], true⟩
theorem ti42_ok : zP 42 ti42 := ⟨by kernel_rfl, by kernel_rfl, fun _ => ⟨by kernel_rfl, by kernel_rfl, by kernel_rfl⟩⟩
def ti43 : TI := ⟨.struct [(0, 25), (1, 4), (2, 2), (3, 2), (4, 2), (5, 2)], 6, 48, [.int .i64 0, .bool false, .int .i64 0, .int .i64 0, .int .i64 0, .int .i64 0], true⟩
theorem ti43_ok : zP 43 ti43 := ⟨by kernel_rfl, by kernel_rfl, fun _ => ⟨by kernel_rfl, by kernel_rfl, by kernel_rfl⟩⟩
def ti44 : TI := ⟨.struct [(0, 4), (1, 43)], 7, 56, [.bool false, .int .i64 0, .bool false, .int .i64 0, .int .i64 0, .int .i64 0, .int .i64 0], true⟩
theorem ti44_ok : zP 44 ti44 := ⟨by kernel_rfl, by kernel_rfl, fun _ => ⟨by kernel_rfl, by kernel_rfl, by kernel_rfl⟩⟩
def ti45 : TI := ⟨.struct [(0, 4), (1, 43)], 7, 56, [.bool false, .int .i64 0, .bool false, .int .i64 0, .int .i64 0, .int .i64 0, .int .i64 0], true⟩
theorem ti45_ok : zP 45 ti45 := ⟨by kernel_rfl, by kernel_rfl, fun _ => ⟨by kernel_rfl, by kernel_rfl, by kernel_rfl⟩⟩
def ti56 : TI := ⟨.struct [(0, 3), (1, 2)], 2, 16, [.int .i64 0, .int .i64 0], true⟩
theorem ti56_ok : zP 56 ti56 := ⟨by kernel_rfl, by kernel_rfl, fun _ => ⟨by kernel_rfl, by kernel_rfl, by kernel_rfl⟩⟩
def ti57 : TI := ⟨.struct [(0, 3), (1, 2)], 2, 16, [.int .i64 0, .int .i64 0], true⟩
theorem ti57_ok : zP 57 ti57 := ⟨by kernel_rfl, by kernel_rfl, fun _ => ⟨by kernel_rfl, by kernel_rfl, by kernel_rfl⟩⟩
def ti79 : TI := ⟨.struct [(0, 2), (1, 2)], 2, 16, [.int .i64 0, .int .i64 0], true⟩
theorem ti79_ok : zP 79 ti79 := ⟨by kernel_rfl, by kernel_rfl, fun _ => ⟨by kernel_rfl, by kernel_rfl, by kernel_rfl⟩⟩
def ti80 : TI := ⟨.struct [(0, 2), (1, 2)], 2, 16, [.int .i64 0, .int .i64 0], true⟩
theorem ti80_ok : zP 80 ti80 := ⟨by kernel_rfl, by kernel_rfl, fun _ => ⟨by kernel_rfl, by kernel_rfl, by kernel_rfl⟩⟩
def ti81 : TI := ⟨.struct [(0, 5), (1, 80), (3, 3)], 4, 32, [.int .u8 0, .int .i64 0, .int .i64 0, .int .i64 0], true⟩
theorem ti81_ok : zP 81 ti81 := ⟨by kernel_rfl, by kernel_rfl, fun _ => ⟨by kernel_rfl, by kernel_rfl, by kernel_rfl⟩⟩
def ti82 : TI := ⟨.struct [(0, 5), (1, 80), (3, 3)], 4, 32, [.int .u8 0, .int .i64 0, .int .i64 0, .int .i64 0], true⟩
theorem ti82_ok : zP 82 ti82 := ⟨by kernel_rfl, by kernel_rfl, fun _ => ⟨by kernel_rfl, by kernel_rfl, by kernel_rfl⟩⟩
def ti121 : TI := ⟨.struct [(0, 3), (1, 2)], 2, 16, [.int .i64 0, .int .i64 0], true⟩
theorem ue : zP 121 ti121 := ⟨by kernel_rfl, by kernel_rfl, fun _ => ⟨by kernel_rfl, by kernel_rfl, by kernel_rfl⟩⟩
def ti177 : TI := ⟨.struct [(0, 4), (1, 2), (2, 2), (3, 2)], 4, 32, [.bool false, .int .i64 0, .int .i64 0, .int .i64 0], true⟩
theorem ud : zP 177 ti177 := ⟨by kernel_rfl, by kernel_rfl, fun _ => ⟨by kernel_rfl, by kernel_rfl, by kernel_rfl⟩⟩
def ti178 : TI := ⟨.struct [(0, 4), (1, 2), (2, 2), (3, 2)], 4, 32, [.bool false, .int .i64 0, .int .i64 0, .int .i64 0], true⟩
theorem uc : zP 178 ti178 := ⟨by kernel_rfl, by kernel_rfl, fun _ => ⟨by kernel_rfl, by kernel_rfl, by kernel_rfl⟩⟩
def ti222 : TI := ⟨.struct [(0, 3), (1, 5), (2, 3), (3, 96), (4, 96), (5, 4)], 6, 48, [.int .i64 0, .int .u8 0, .int .i64 0, .int .u64 0, .int .u64 0, .bool false], true⟩
theorem ub : zP 222 ti222 := ⟨by kernel_rfl, by kernel_rfl, fun _ => ⟨by kernel_rfl, by kernel_rfl, by kernel_rfl⟩⟩
def ti223 : TI := ⟨.struct [(0, 3), (1, 5), (2, 3), (3, 96), (4, 96), (5, 4)], 6, 48, [.int .i64 0, .int .u8 0, .int .i64 0, .int .u64 0, .int .u64 0, .bool false], true⟩
theorem ua : zP 223 ti223 := ⟨by kernel_rfl, by kernel_rfl, fun _ => ⟨by kernel_rfl, by kernel_rfl, by kernel_rfl⟩⟩
def vH : cx := .node (.node (.node (.node (.node (.node (.node (.node (.node (.leaf) 1 ⟨.func, 1, 8, [.nilFunc], false⟩ (.leaf)) 2 ⟨.int .i64, 1, 8, [.int .i64 0], false⟩ (.leaf)) 3 ⟨.int .i64, 1, 8, [.int .i64 0], false⟩ (.node (.leaf) 4 ⟨.bool, 1, 1, [.bool false], false⟩ (.leaf))) 5 ⟨.int .u8, 1, 1, [.int .u8 0], false⟩ (.node (.node (.leaf) 6 ⟨.int .u8, 1, 1, [.int .u8 0], false⟩ (.leaf)) 7 ⟨.struct [(0, 2), (1, 3), (2, 4), (3, 6)], 4, 24, [.int .i64 0, .int .i64 0, .bool false, .int .u8 0], false⟩ (.node (.leaf) 8 ⟨.struct [(0, 2), (1, 3), (2, 4), (3, 6)], 4, 24, [.int .i64 0, .int .i64 0, .bool false, .int .u8 0], false⟩ (.leaf)))) 9 ⟨.str, 1, 16, [.string ⟨#[]⟩], false⟩ (.node (.node (.node (.leaf) 10 ⟨.str, 1, 16, [.string ⟨#[]⟩], false⟩ (.leaf)) 11 ⟨.str, 1, 16, [.string ⟨#[]⟩], false⟩ (.node (.leaf) 12 ⟨.int .u64, 1, 8, [.int .u64 0], false⟩ (.leaf))) 13 ⟨.struct [(0, 9), (1, 12)], 2, 24, [.string ⟨#[]⟩, .int .u64 0], false⟩ (.node (.node (.leaf) 14 ⟨.struct [(0, 9), (1, 12)], 2, 24, [.string ⟨#[]⟩, .int .u64 0], false⟩ (.leaf)) 15 ⟨.ptr 280, 1, 8, [.pointer none], false⟩ (.node (.leaf) 16 ⟨.ptr 283, 1, 8, [.pointer none], false⟩ (.leaf))))) 17 ⟨.ptr 291, 1, 8, [.pointer none], false⟩ (.node (.node (.node (.node (.leaf) 18 ⟨.struct [(0, 17)], 1, 8, [.pointer none], false⟩ (.leaf)) 19 ⟨.struct [(0, 17)], 1, 8, [.pointer none], false⟩ (.node (.leaf) 20 ⟨.other, 1, 16, [.nilIface], false⟩ (.leaf))) 21 ⟨.int .i32, 1, 4, [.int .i32 0], false⟩ (.node (.node (.leaf) 22 ⟨.slice 39, 1, 24, [.slice none 0 0], false⟩ (.leaf)) 23 ⟨.func, 1, 8, [.nilFunc], false⟩ (.node (.leaf) 24 ⟨.ptr 105, 1, 8, [.pointer none], false⟩ (.leaf)))) 25 ⟨.int .i64, 1, 8, [.int .i64 0], false⟩ (.node (.node (.node (.leaf) 27 ⟨.func, 1, 8, [.nilFunc], false⟩ (.leaf)) 28 ⟨.slice 82, 1, 24, [.slice none 0 0], false⟩ (.node (.leaf) 29 ⟨.func, 1, 8, [.nilFunc], false⟩ (.leaf))) 30 ⟨.ptr 37, 1, 8, [.pointer none], false⟩ (.node (.node (.leaf) 31 ⟨.slice 5, 1, 24, [.slice none 0 0], false⟩ (.leaf)) 32 ⟨.struct [(0, 5), (1, 3), (2, 31), (3, 2)], 4, 48, [.int .u8 0, .int .i64 0, .slice none 0 0, .int .i64 0], false⟩ (.node (.leaf) 33 ⟨.struct [(0, 5), (1, 3), (2, 31), (3, 2)], 4, 48, [.int .u8 0, .int .i64 0, .slice none 0 0, .int .i64 0], false⟩ (.leaf)))))) 34 ⟨.array 5 33, 20, 240, [.int .u8 0, .int .i64 0, .slice none 0 0, .int .i64 0, .int .u8 0, .int .i64 0, .slice none 0 0, .int .i64 0, .int .u8 0, .int .i64 0, .slice none 0 0, .int .i64 0, .int .u8 0, .int .i64 0, .slice none 0 0, .int .i64 0, .int .u8 0, .int .i64 0, .slice none 0 0, .int .i64 0], false⟩ (.node (.node (.node (.node (.node (.node (.leaf) 35 ⟨.slice 2, 1, 24, [.slice none 0 0], false⟩ (.leaf)) 36 ⟨.struct [(0, 24), (1, 34), (21, 35), (22, 35)], 23, 296, [.pointer none, .int .u8 0, .int .i64 0, .slice none 0 0, .int .i64 0, .int .u8 0, .int .i64 0, .slice none 0 0, .int .i64 0, .int .u8 0, .int .i64 0, .slice none 0 0, .int .i64 0, .int .u8 0, .int .i64 0, .slice none 0 0, .int .i64 0, .int .u8 0, .int .i64 0, .slice none 0 0, .int .i64 0, .slice none 0 0, .slice none 0 0], false⟩ (.leaf)) 37 ⟨.struct [(0, 24), (1, 34), (21, 35), (22, 35)], 23, 296, [.pointer none, .int .u8 0, .int .i64 0, .slice none 0 0, .int .i64 0, .int .u8 0, .int .i64 0, .slice none 0 0, .int .i64 0, .int .u8 0, .int .i64 0, .slice none 0 0, .int .i64 0, .int .u8 0, .int .i64 0, .slice none 0 0, .int .i64 0, .int .u8 0, .int .i64 0, .slice none 0 0, .int .i64 0, .slice none 0 0, .slice none 0 0], false⟩ (.node (.leaf) 38 ⟨.struct [(0, 5), (1, 3), (2, 33), (6, 2)], 7, 72, [.int .u8 0, .int .i64 0, .int .u8 0, .int .i64 0, .slice none 0 0, .int .i64 0, .int .i64 0], false⟩ (.leaf))) 39 ⟨.struct [(0, 5), (1, 3), (2, 33), (6, 2)], 7, 72, [.int .u8 0, .int .i64 0, .int .u8 0, .int .i64 0, .slice none 0 0, .int .i64 0, .int .i64 0], false⟩ (.node (.node (.leaf) 40 ⟨.func, 1, 8, [.nilFunc], false⟩ (.leaf)) 41 ⟨.func, 1, 8, [.nilFunc], false⟩ (.node (.leaf) 42 ti42 (.leaf)))) 43 ti43 (.node (.node (.node (.leaf) 44 ti44 (.leaf)) 45 ti45 (.node (.leaf) 47 ⟨.func, 1, 8, [.nilFunc], false⟩ (.leaf))) 49 ⟨.func, 1, 8, [.nilFunc], false⟩ (.node (.node (.leaf) 50 ⟨.func, 1, 8, [.nilFunc], false⟩ (.leaf)) 51 ⟨.slice 55, 1, 24, [.slice none 0 0], false⟩ (.node (.leaf) 52 ⟨.slice 57, 1, 24, [.slice none 0 0], false⟩ (.leaf))))) 53 ⟨.struct [(0, 28), (1, 3), (2, 51), (3, 52), (4, 4)], 5, 88, [.slice none 0 0, .int .i64 0, .slice none 0 0, .slice none 0 0, .bool false], false⟩ (.node (.node (.node (.node (.leaf) 54 ⟨.struct [(0, 28), (1, 3), (2, 51), (3, 52), (4, 4)], 5, 88, [.slice none 0 0, .int .i64 0, .slice none 0 0, .slice none 0 0, .bool false], false⟩ (.leaf)) 55 ⟨.slice 33, 1, 24, [.slice none 0 0], false⟩ (.node (.leaf) 56 ti56 (.leaf))) 57 ti57 (.node (.node (.leaf) 58 ⟨.slice 71, 1, 24, [.slice none 0 0], false⟩ (.leaf)) 59 ⟨.slice 112, 1, 24, [.slice none 0 0], false⟩ (.node (.leaf) 60 ⟨.struct [(0, 58), (1, 59), (2, 2), (3, 3), (4, 2), (5, 3)], 6, 80, [.slice none 0 0, .slice none 0 0, .int .i64 0, .int .i64 0, .int .i64 0, .int .i64 0], false⟩ (.leaf)))) 61 ⟨.struct [(0, 58), (1, 59), (2, 2), (3, 3), (4, 2), (5, 3)], 6, 80, [.slice none 0 0, .slice none 0 0, .int .i64 0, .int .i64 0, .int .i64 0, .int .i64 0], false⟩ (.node (.node (.node (.leaf) 63 ⟨.func, 1, 8, [.nilFunc], false⟩ (.leaf)) 64 ⟨.func, 1, 8, [.nilFunc], false⟩ (.node (.leaf) 65 ⟨.slice 121, 1, 24, [.slice none 0 0], false⟩ (.leaf))) 66 ⟨.struct [(0, 28), (1, 3), (2, 51), (3, 65), (4, 4)], 5, 88, [.slice none 0 0, .int .i64 0, .slice none 0 0, .slice none 0 0, .bool false], false⟩ (.node (.node (.leaf) 67 ⟨.struct [(0, 28), (1, 3), (2, 51), (3, 65), (4, 4)], 5, 88, [.slice none 0 0, .int .i64 0, .slice none 0 0, .slice none 0 0, .bool false], false⟩ (.leaf)) 68 ⟨.int .u16, 1, 2, [.int .u16 0], false⟩ (.node (.leaf) 69 ⟨.func, 1, 8, [.nilFunc], false⟩ (.leaf))))))) 70 ⟨.struct [(0, 3), (1, 33), (5, 3), (6, 3), (7, 43)], 13, 120, [.int .i64 0, .int .u8 0, .int .i64 0, .slice none 0 0, .int .i64 0, .int .i64 0, .int .i64 0, .int .i64 0, .bool false, .int .i64 0, .int .i64 0, .int .i64 0, .int .i64 0], false⟩ (.node (.node (.node (.node (.node (.node (.node (.leaf) 71 ⟨.struct [(0, 3), (1, 33), (5, 3), (6, 3), (7, 43)], 13, 120, [.int .i64 0, .int .u8 0, .int .i64 0, .slice none 0 0, .int .i64 0, .int .i64 0, .int .i64 0, .int .i64 0, .bool false, .int .i64 0, .int .i64 0, .int .i64 0, .int .i64 0], false⟩ (.leaf)) 72 ⟨.func, 1, 8, [.nilFunc], false⟩ (.leaf)) 73 ⟨.func, 1, 8, [.nilFunc], false⟩ (.node (.leaf) 74 ⟨.func, 1, 8, [.nilFunc], false⟩ (.leaf))) 75 ⟨.func, 1, 8, [.nilFunc], false⟩ (.node (.node (.leaf) 76 ⟨.slice 3, 1, 24, [.slice none 0 0], false⟩ (.leaf)) 78 ⟨.func, 1, 8, [.nilFunc], false⟩ (.node (.leaf) 79 ti79 (.leaf)))) 80 ti80 (.node (.node (.node (.leaf) 81 ti81 (.leaf)) 82 ti82 (.node (.leaf) 83 ⟨.func, 1, 8, [.nilFunc], false⟩ (.leaf))) 84 ⟨.ptr 128, 1, 8, [.pointer none], false⟩ (.node (.node (.leaf) 86 ⟨.func, 1, 8, [.nilFunc], false⟩ (.leaf)) 87 ⟨.func, 1, 8, [.nilFunc], false⟩ (.node (.leaf) 88 ⟨.func, 1, 8, [.nilFunc], false⟩ (.leaf))))) 89 ⟨.func, 1, 8, [.nilFunc], false⟩ (.node (.node (.node (.node (.leaf) 90 ⟨.func, 1, 8, [.nilFunc], false⟩ (.leaf)) 92 ⟨.func, 1, 8, [.nilFunc], false⟩ (.node (.leaf) 93 ⟨.func, 1, 8, [.nilFunc], false⟩ (.leaf))) 94 ⟨.func, 1, 8, [.nilFunc], false⟩ (.node (.node (.leaf) 95 ⟨.func, 1, 8, [.nilFunc], false⟩ (.leaf)) 96 ⟨.int .u64, 1, 8, [.int .u64 0], false⟩ (.node (.leaf) 97 ⟨.ptr 147, 1, 8, [.pointer none], false⟩ (.leaf)))) 98 ⟨.func, 1, 8, [.nilFunc], false⟩ (.node (.node (.node (.leaf) 99 ⟨.func, 1, 8, [.nilFunc], false⟩ (.leaf)) 100 ⟨.func, 1, 8, [.nilFunc], false⟩ (.node (.leaf) 101 ⟨.func, 1, 8, [.nilFunc], false⟩ (.leaf))) 102 ⟨.array 64 101, 64, 512, (.replicate 64 (.nilFunc)), false⟩ (.node (.node (.leaf) 103 ⟨.array 64 101, 64, 512, (.replicate 64 (.nilFunc)), false⟩ (.leaf)) 104 ⟨.struct [(0, 28), (1, 96), (2, 97), (3, 103)], 67, 552, [.slice none 0 0, .int .u64 0, .pointer none, .nilFunc, .nilFunc, .nilFunc, .nilFunc, .nilFunc, .nilFunc, .nilFunc, .nilFunc, .nilFunc, .nilFunc, .nilFunc, .nilFunc, .nilFunc, .nilFunc, .nilFunc, .nilFunc, .nilFunc, .nilFunc, .nilFunc, .nilFunc, .nilFunc, .nilFunc, .nilFunc, .nilFunc, .nilFunc, .nilFunc, .nilFunc, .nilFunc, .nilFunc, .nilFunc, .nilFunc, .nilFunc, .nilFunc, .nilFunc, .nilFunc, .nilFunc, .nilFunc, .nilFunc, .nilFunc, .nilFunc, .nilFunc, .nilFunc, .nilFunc, .nilFunc, .nilFunc, .nilFunc, .nilFunc, .nilFunc, .nilFunc, .nilFunc, .nilFunc, .nilFunc, .nilFunc, .nilFunc, .nilFunc, .nilFunc, .nilFunc, .nilFunc, .nilFunc, .nilFunc, .nilFunc, .nilFunc, .nilFunc, .nilFunc], false⟩ (.node (.leaf) 105 ⟨.struct [(0, 28), (1, 96), (2, 97), (3, 103)], 67, 552, [.slice none 0 0, .int .u64 0, .pointer none, .nilFunc, .nilFunc, .nilFunc, .nilFunc, .nilFunc, .nilFunc, .nilFunc, .nilFunc, .nilFunc, .nilFunc, .nilFunc, .nilFunc, .nilFunc, .nilFunc, .nilFunc, .nilFunc, .nilFunc, .nilFunc, .nilFunc, .nilFunc, .nilFunc, .nilFunc, .nilFunc, .nilFunc, .nilFunc, .nilFunc, .nilFunc, .nilFunc, .nilFunc, .nilFunc, .nilFunc, .nilFunc, .nilFunc, .nilFunc, .nilFunc, .nilFunc, .nilFunc, .nilFunc, .nilFunc, .nilFunc, .nilFunc, .nilFunc, .nilFunc, .nilFunc, .nilFunc, .nilFunc, .nilFunc, .nilFunc, .nilFunc, .nilFunc, .nilFunc, .nilFunc, .nilFunc, .nilFunc, .nilFunc, .nilFunc, .nilFunc, .nilFunc, .nilFunc, .nilFunc, .nilFunc, .nilFunc, .nilFunc, .nilFunc], false⟩ (.leaf)))))) 106 ⟨.int .u64, 1, 8, [.int .u64 0], false⟩ (.node (.node (.node (.node (.node (.node (.leaf) 107 ⟨.func, 1, 8, [.nilFunc], false⟩ (.leaf)) 108 ⟨.func, 1, 8, [.nilFunc], false⟩ (.leaf)) 109 ⟨.func, 1, 8, [.nilFunc], false⟩ (.node (.leaf) 110 ⟨.func, 1, 8, [.nilFunc], false⟩ (.leaf))) 111 ⟨.struct [(0, 3), (1, 31), (2, 2), (3, 35)], 4, 64, [.int .i64 0, .slice none 0 0, .int .i64 0, .slice none 0 0], false⟩ (.node (.node (.leaf) 112 ⟨.struct [(0, 3), (1, 31), (2, 2), (3, 35)], 4, 64, [.int .i64 0, .slice none 0 0, .int .i64 0, .slice none 0 0], false⟩ (.leaf)) 113 ⟨.func, 1, 8, [.nilFunc], false⟩ (.node (.leaf) 114 ⟨.ptr 117, 1, 8, [.pointer none], false⟩ (.leaf)))) 115 ⟨.slice 119, 1, 24, [.slice none 0 0], false⟩ (.node (.node (.node (.leaf) 116 ⟨.struct [(0, 24), (1, 115), (2, 61)], 8, 112, [.pointer none, .slice none 0 0, .slice none 0 0, .slice none 0 0, .int .i64 0, .int .i64 0, .int .i64 0, .int .i64 0], false⟩ (.leaf)) 117 ⟨.struct [(0, 24), (1, 115), (2, 61)], 8, 112, [.pointer none, .slice none 0 0, .slice none 0 0, .slice none 0 0, .int .i64 0, .int .i64 0, .int .i64 0, .int .i64 0], false⟩ (.node (.leaf) 118 ⟨.struct [(0, 55), (1, 33), (5, 3)], 6, 80, [.slice none 0 0, .int .u8 0, .int .i64 0, .slice none 0 0, .int .i64 0, .int .i64 0], false⟩ (.leaf))) 119 ⟨.struct [(0, 55), (1, 33), (5, 3)], 6, 80, [.slice none 0 0, .int .u8 0, .int .i64 0, .slice none 0 0, .int .i64 0, .int .i64 0], false⟩ (.node (.node (.leaf) 120 ⟨.func, 1, 8, [.nilFunc], false⟩ (.leaf)) 121 ti121 (.node (.leaf) 122 ⟨.func, 1, 8, [.nilFunc], false⟩ (.leaf))))) 123 ⟨.func, 1, 8, [.nilFunc], false⟩ (.node (.node (.node (.node (.leaf) 124 ⟨.func, 1, 8, [.nilFunc], false⟩ (.leaf)) 125 ⟨.func, 1, 8, [.nilFunc], false⟩ (.node (.leaf) 126 ⟨.func, 1, 8, [.nilFunc], false⟩ (.leaf))) 127 ⟨.struct [(0, 28), (1, 3), (2, 59)], 3, 56, [.slice none 0 0, .int .i64 0, .slice none 0 0], false⟩ (.node (.node (.leaf) 128 ⟨.struct [(0, 28), (1, 3), (2, 59)], 3, 56, [.slice none 0 0, .int .i64 0, .slice none 0 0], false⟩ (.leaf)) 129 ⟨.func, 1, 8, [.nilFunc], false⟩ (.node (.leaf) 130 ⟨.func, 1, 8, [.nilFunc], false⟩ (.leaf)))) 131 ⟨.func, 1, 8, [.nilFunc], false⟩ (.node (.node (.node (.leaf) 132 ⟨.func, 1, 8, [.nilFunc], false⟩ (.leaf)) 134 ⟨.func, 1, 8, [.nilFunc], false⟩ (.node (.leaf) 135 ⟨.func, 1, 8, [.nilFunc], false⟩ (.leaf))) 137 ⟨.func, 1, 8, [.nilFunc], false⟩ (.node (.node (.leaf) 138 ⟨.func, 1, 8, [.nilFunc], false⟩ (.leaf)) 139 ⟨.func, 1, 8, [.nilFunc], false⟩ (.node (.leaf) 140 ⟨.func, 1, 8, [.nilFunc], false⟩ (.leaf)))))))) 141 ⟨.ptr 189, 1, 8, [.pointer none], false⟩ (.node (.node (.node (.node (.node (.node (.node (.node (.leaf) 142 ⟨.slice 59, 1, 24, [.slice none 0 0], false⟩ (.leaf)) 143 ⟨.struct [(0, 141), (1, 142)], 2, 32, [.pointer none, .slice none 0 0], false⟩ (.leaf)) 144 ⟨.struct [(0, 141), (1, 142)], 2, 32, [.pointer none, .slice none 0 0], false⟩ (.node (.leaf) 145 ⟨.ptr 144, 1, 8, [.pointer none], false⟩ (.leaf))) 146 ⟨.struct [(0, 145), (1, 99)], 2, 16, [.pointer none, .nilFunc], false⟩ (.node (.node (.leaf) 147 ⟨.struct [(0, 145), (1, 99)], 2, 16, [.pointer none, .nilFunc], false⟩ (.leaf)) 149 ⟨.func, 1, 8, [.nilFunc], false⟩ (.node (.leaf) 150 ⟨.func, 1, 8, [.nilFunc], false⟩ (.leaf)))) 151 ⟨.func, 1, 8, [.nilFunc], false⟩ (.node (.node (.node (.leaf) 152 ⟨.func, 1, 8, [.nilFunc], false⟩ (.leaf)) 154 ⟨.func, 1, 8, [.nilFunc], false⟩ (.node (.leaf) 156 ⟨.func, 1, 8, [.nilFunc], false⟩ (.leaf))) 157 ⟨.func, 1, 8, [.nilFunc], false⟩ (.node (.node (.leaf) 158 ⟨.slice 96, 1, 24, [.slice none 0 0], false⟩ (.leaf)) 159 ⟨.func, 1, 8, [.nilFunc], false⟩ (.node (.leaf) 160 ⟨.func, 1, 8, [.nilFunc], false⟩ (.leaf))))) 161 ⟨.func, 1, 8, [.nilFunc], false⟩ (.node (.node (.node (.node (.leaf) 162 ⟨.ptr 165, 1, 8, [.pointer none], false⟩ (.leaf)) 163 ⟨.func, 1, 8, [.nilFunc], false⟩ (.node (.leaf) 164 ⟨.struct [(0, 33), (4, 24), (5, 3), (6, 96), (7, 4), (8, 2)], 9, 88, [.int .u8 0, .int .i64 0, .slice none 0 0, .int .i64 0, .pointer none, .int .i64 0, .int .u64 0, .bool false, .int .i64 0], false⟩ (.leaf))) 165 ⟨.struct [(0, 33), (4, 24), (5, 3), (6, 96), (7, 4), (8, 2)], 9, 88, [.int .u8 0, .int .i64 0, .slice none 0 0, .int .i64 0, .pointer none, .int .i64 0, .int .u64 0, .bool false, .int .i64 0], false⟩ (.node (.node (.leaf) 166 ⟨.func, 1, 8, [.nilFunc], false⟩ (.leaf)) 167 ⟨.func, 1, 8, [.nilFunc], false⟩ (.node (.leaf) 168 ⟨.func, 1, 8, [.nilFunc], false⟩ (.leaf)))) 169 ⟨.func, 1, 8, [.nilFunc], false⟩ (.node (.node (.node (.leaf) 170 ⟨.func, 1, 8, [.nilFunc], false⟩ (.leaf)) 171 ⟨.ptr 119, 1, 8, [.pointer none], false⟩ (.node (.leaf) 172 ⟨.func, 1, 8, [.nilFunc], false⟩ (.leaf))) 173 ⟨.func, 1, 8, [.nilFunc], false⟩ (.node (.node (.leaf) 174 ⟨.func, 1, 8, [.nilFunc], false⟩ (.leaf)) 175 ⟨.func, 1, 8, [.nilFunc], false⟩ (.node (.leaf) 176 ⟨.func, 1, 8, [.nilFunc], false⟩ (.leaf)))))) 177 ti177 (.node (.node (.node (.node (.node (.node (.leaf) 178 ti178 (.leaf)) 180 ⟨.func, 1, 8, [.nilFunc], false⟩ (.leaf)) 181 ⟨.struct [(0, 3), (1, 35)], 2, 32, [.int .i64 0, .slice none 0 0], false⟩ (.node (.leaf) 182 ⟨.struct [(0, 3), (1, 35)], 2, 32, [.int .i64 0, .slice none 0 0], false⟩ (.leaf))) 184 ⟨.func, 1, 8, [.nilFunc], false⟩ (.node (.node (.leaf) 185 ⟨.func, 1, 8, [.nilFunc], false⟩ (.leaf)) 186 ⟨.func, 1, 8, [.nilFunc], false⟩ (.node (.leaf) 187 ⟨.slice 223, 1, 24, [.slice none 0 0], false⟩ (.leaf)))) 189 ⟨.struct [(0, 158), (1, 2), (2, 3), (3, 187)], 4, 64, [.slice none 0 0, .int .i64 0, .int .i64 0, .slice none 0 0], false⟩ (.node (.node (.node (.leaf) 191 ⟨.func, 1, 8, [.nilFunc], false⟩ (.leaf)) 193 ⟨.func, 1, 8, [.nilFunc], false⟩ (.node (.leaf) 195 ⟨.func, 1, 8, [.nilFunc], false⟩ (.leaf))) 196 ⟨.func, 1, 8, [.nilFunc], false⟩ (.node (.node (.leaf) 198 ⟨.func, 1, 8, [.nilFunc], false⟩ (.leaf)) 199 ⟨.func, 1, 8, [.nilFunc], false⟩ (.node (.leaf) 200 ⟨.ptr 103, 1, 8, [.pointer none], false⟩ (.leaf))))) 202 ⟨.func, 1, 8, [.nilFunc], false⟩ (.node (.node (.node (.node (.leaf) 203 ⟨.func, 1, 8, [.nilFunc], false⟩ (.leaf)) 204 ⟨.func, 1, 8, [.nilFunc], false⟩ (.node (.leaf) 205 ⟨.func, 1, 8, [.nilFunc], false⟩ (.leaf))) 206 ⟨.func, 1, 8, [.nilFunc], false⟩ (.node (.node (.leaf) 207 ⟨.func, 1, 8, [.nilFunc], false⟩ (.leaf)) 208 ⟨.func, 1, 8, [.nilFunc], false⟩ (.node (.leaf) 209 ⟨.func, 1, 8, [.nilFunc], false⟩ (.leaf)))) 210 ⟨.func, 1, 8, [.nilFunc], false⟩ (.node (.node (.node (.leaf) 211 ⟨.func, 1, 8, [.nilFunc], false⟩ (.leaf)) 212 ⟨.func, 1, 8, [.nilFunc], false⟩ (.node (.leaf) 213 ⟨.func, 1, 8, [.nilFunc], false⟩ (.leaf))) 214 ⟨.func, 1, 8, [.nilFunc], false⟩ (.node (.node (.leaf) 215 ⟨.func, 1, 8, [.nilFunc], false⟩ (.leaf)) 216 ⟨.func, 1, 8, [.nilFunc], false⟩ (.node (.leaf) 217 ⟨.func, 1, 8, [.nilFunc], false⟩ (.leaf))))))) 218 ⟨.func, 1, 8, [.nilFunc], false⟩ (.node (.node (.node (.node (.node (.node (.node (.leaf) 219 ⟨.func, 1, 8, [.nilFunc], false⟩ (.leaf)) 220 ⟨.func, 1, 8, [.nilFunc], false⟩ (.leaf)) 221 ⟨.func, 1, 8, [.nilFunc], false⟩ (.node (.leaf) 222 ti222 (.leaf))) 223 ti223 (.node (.node (.leaf) 224 ⟨.func, 1, 8, [.nilFunc], false⟩ (.leaf)) 225 ⟨.func, 1, 8, [.nilFunc], false⟩ (.node (.leaf) 226 ⟨.func, 1, 8, [.nilFunc], false⟩ (.leaf)))) 227 ⟨.func, 1, 8, [.nilFunc], false⟩ (.node (.node (.node (.leaf) 228 ⟨.func, 1, 8, [.nilFunc], false⟩ (.leaf)) 229 ⟨.func, 1, 8, [.nilFunc], false⟩ (.node (.leaf) 230 ⟨.func, 1, 8, [.nilFunc], false⟩ (.leaf))) 231 ⟨.func, 1, 8, [.nilFunc], false⟩ (.node (.node (.leaf) 232 ⟨.struct [(0, 3), (1, 96), (2, 59)], 3, 40, [.int .i64 0, .int .u64 0, .slice none 0 0], false⟩ (.leaf)) 233 ⟨.struct [(0, 3), (1, 96), (2, 59)], 3, 40, [.int .i64 0, .int .u64 0, .slice none 0 0], false⟩ (.node (.leaf) 234 ⟨.func, 1, 8, [.nilFunc], false⟩ (.leaf))))) 235 ⟨.func, 1, 8, [.nilFunc], false⟩ (.node (.node (.node (.node (.leaf) 236 ⟨.func, 1, 8, [.nilFunc], false⟩ (.leaf)) 237 ⟨.func, 1, 8, [.nilFunc], false⟩ (.node (.leaf) 238 ⟨.int .i64, 1, 8, [.int .i64 0], false⟩ (.leaf))) 240 ⟨.func, 1, 8, [.nilFunc], false⟩ (.node (.node (.leaf) 241 ⟨.func, 1, 8, [.nilFunc], false⟩ (.leaf)) 242 ⟨.func, 1, 8, [.nilFunc], false⟩ (.node (.leaf) 243 ⟨.func, 1, 8, [.nilFunc], false⟩ (.leaf)))) 244 ⟨.func, 1, 8, [.nilFunc], false⟩ (.node (.node (.node (.leaf) 245 ⟨.int .u32, 1, 4, [.int .u32 0], false⟩ (.leaf)) 246 ⟨.func, 1, 8, [.nilFunc], false⟩ (.node (.leaf) 247 ⟨.func, 1, 8, [.nilFunc], false⟩ (.leaf))) 248 ⟨.func, 1, 8, [.nilFunc], false⟩ (.node (.node (.leaf) 249 ⟨.func, 1, 8, [.nilFunc], false⟩ (.leaf)) 250 ⟨.func, 1, 8, [.nilFunc], false⟩ (.node (.leaf) 251 ⟨.func, 1, 8, [.nilFunc], false⟩ (.leaf)))))) 252 ⟨.func, 1, 8, [.nilFunc], false⟩ (.node (.node (.node (.node (.node (.leaf) 253 ⟨.func, 1, 8, [.nilFunc], false⟩ (.leaf)) 254 ⟨.func, 1, 8, [.nilFunc], false⟩ (.node (.leaf) 255 ⟨.func, 1, 8, [.nilFunc], false⟩ (.leaf))) 256 ⟨.func, 1, 8, [.nilFunc], false⟩ (.node (.node (.leaf) 257 ⟨.func, 1, 8, [.nilFunc], false⟩ (.leaf)) 258 ⟨.func, 1, 8, [.nilFunc], false⟩ (.node (.leaf) 259 ⟨.func, 1, 8, [.nilFunc], false⟩ (.leaf)))) 260 ⟨.func, 1, 8, [.nilFunc], false⟩ (.node (.node (.node (.leaf) 261 ⟨.int .u64, 1, 8, [.int .u64 0], false⟩ (.leaf)) 262 ⟨.func, 1, 8, [.nilFunc], false⟩ (.node (.leaf) 263 ⟨.func, 1, 8, [.nilFunc], false⟩ (.leaf))) 264 ⟨.func, 1, 8, [.nilFunc], false⟩ (.node (.node (.leaf) 265 ⟨.ptr 3, 1, 8, [.pointer none], false⟩ (.leaf)) 268 ⟨.func, 1, 8, [.nilFunc], false⟩ (.node (.leaf) 269 ⟨.func, 1, 8, [.nilFunc], false⟩ (.leaf))))) 270 ⟨.ptr 45, 1, 8, [.pointer none], false⟩ (.node (.node (.node (.node (.leaf) 271 ⟨.func, 1, 8, [.nilFunc], false⟩ (.leaf)) 274 ⟨.func, 1, 8, [.nilFunc], false⟩ (.node (.leaf) 276 ⟨.func, 1, 8, [.nilFunc], false⟩ (.leaf))) 277 ⟨.func, 1, 8, [.nilFunc], false⟩ (.node (.node (.leaf) 278 ⟨.func, 1, 8, [.nilFunc], false⟩ (.leaf)) 280 ⟨.struct [(0, 17), (1, 17), (2, 17), (3, 9)], 4, 40, [.pointer none, .pointer none, .pointer none, .string ⟨#[]⟩], false⟩ (.node (.leaf) 281 ⟨.array 0 16, 0, 0, [], false⟩ (.leaf)))) 283 ⟨.struct [(0, 281)], 0, 0, [], false⟩ (.node (.node (.node (.leaf) 284 ⟨.int .u8, 1, 1, [.int .u8 0], false⟩ (.leaf)) 285 ⟨.int .u8, 1, 1, [.int .u8 0], false⟩ (.node (.leaf) 286 ⟨.func, 1, 8, [.nilFunc], false⟩ (.leaf))) 287 ⟨.ptr 5, 1, 8, [.pointer none], false⟩ (.node (.node (.leaf) 288 ⟨.int .i32, 1, 4, [.int .i32 0], false⟩ (.leaf)) 289 ⟨.int .i32, 1, 4, [.int .i32 0], false⟩ (.node (.leaf) 291 ⟨.struct [(0, 12), (1, 12), (2, 245), (3, 284), (4, 5), (5, 5), (6, 285), (7, 286), (8, 287), (9, 288), (10, 289)], 11, 48, [.int .u64 0, .int .u64 0, .int .u32 0, .int .u8 0, .int .u8 0, .int .u8 0, .int .u8 0, .nilFunc, .pointer none, .int .i32 0, .int .i32 0], false⟩ (.leaf))))))))
theorem qC : vH.allP (eD Tryz.prog) := ⟨⟨⟨⟨⟨⟨⟨⟨⟨trivial, zT, trivial⟩, zT, trivial⟩, zT, ⟨trivial, zT, trivial⟩⟩, zT, ⟨⟨trivial, zT, trivial⟩, zT, ⟨trivial, zT, trivial⟩⟩⟩, zT, ⟨⟨⟨trivial, zT, trivial⟩, zT, ⟨trivial, zT, trivial⟩⟩, zT, ⟨⟨trivial, zT, trivial⟩, zT, ⟨trivial, zT, trivial⟩⟩⟩⟩, zT, ⟨⟨⟨⟨trivial, zT, trivial⟩, zT, ⟨trivial, zT, trivial⟩⟩, zT, ⟨⟨trivial, zT, trivial⟩, zT, ⟨trivial, zT, trivial⟩⟩⟩, zT, ⟨⟨⟨trivial, zT, trivial⟩, zT, ⟨trivial, zT, trivial⟩⟩, zT, ⟨⟨trivial, zT, trivial⟩, zT, ⟨trivial, zT, trivial⟩⟩⟩⟩⟩, zT, ⟨⟨⟨⟨⟨⟨trivial, zT, trivial⟩, zT, trivial⟩, zT, ⟨trivial, zT, trivial⟩⟩, zT, ⟨⟨trivial, zT, trivial⟩, zT, ⟨trivial, ti42_ok, trivial⟩⟩⟩, ti43_ok, ⟨⟨⟨trivial, ti44_ok, trivial⟩, ti45_ok, ⟨trivial, zT, trivial⟩⟩, zT, ⟨⟨trivial, zT, trivial⟩, zT, ⟨trivial, zT, trivial⟩⟩⟩⟩, zT, ⟨⟨⟨⟨trivial, zT, trivial⟩, zT, ⟨trivial, ti56_ok, trivial⟩⟩, ti57_ok, ⟨⟨trivial, zT, trivial⟩, zT, ⟨trivial, zT, trivial⟩⟩⟩, zT, ⟨⟨⟨trivial, zT, trivial⟩, zT, ⟨trivial, zT, trivial⟩⟩, zT, ⟨⟨trivial, zT, trivial⟩, zT, ⟨trivial, zT, trivial⟩⟩⟩⟩⟩⟩, zT, ⟨⟨⟨⟨⟨⟨⟨trivial, zT, trivial⟩, zT, trivial⟩, zT, ⟨trivial, zT, trivial⟩⟩, zT, ⟨⟨trivial, zT, trivial⟩, zT, ⟨trivial, ti79_ok, trivial⟩⟩⟩, ti80_ok, ⟨⟨⟨trivial, ti81_ok, trivial⟩, ti82_ok, ⟨trivial, zT, trivial⟩⟩, zT, ⟨⟨trivial, zT, trivial⟩, zT, ⟨trivial, zT, trivial⟩⟩⟩⟩, zT, ⟨⟨⟨⟨trivial, zT, trivial⟩, zT, ⟨trivial, zT, trivial⟩⟩, zT, ⟨⟨trivial, zT, trivial⟩, zT, ⟨trivial, zT, trivial⟩⟩⟩, zT, ⟨⟨⟨trivial, zT, trivial⟩, zT, ⟨trivial, zT, trivial⟩⟩, zT, ⟨⟨trivial, zT, trivial⟩, zT, ⟨trivial, zT, trivial⟩⟩⟩⟩⟩, zT, ⟨⟨⟨⟨⟨⟨trivial, zT, trivial⟩, zT, trivial⟩, zT, ⟨trivial, zT, trivial⟩⟩, zT, ⟨⟨trivial, zT, trivial⟩, zT, ⟨trivial, zT, trivial⟩⟩⟩, zT, ⟨⟨⟨trivial, zT, trivial⟩, zT, ⟨trivial, zT, trivial⟩⟩, zT, ⟨⟨trivial, zT, trivial⟩, ue, ⟨trivial, zT, trivial⟩⟩⟩⟩, zT, ⟨⟨⟨⟨trivial, zT, trivial⟩, zT, ⟨trivial, zT, trivial⟩⟩, zT, ⟨⟨trivial, zT, trivial⟩, zT, ⟨trivial, zT, trivial⟩⟩⟩, zT, ⟨⟨⟨trivial, zT, trivial⟩, zT, ⟨trivial, zT, trivial⟩⟩, zT, ⟨⟨trivial, zT, trivial⟩, zT, ⟨trivial, zT, trivial⟩⟩⟩⟩⟩⟩⟩, zT, ⟨⟨⟨⟨⟨⟨⟨⟨trivial, zT, trivial⟩, zT, trivial⟩, zT, ⟨trivial, zT, trivial⟩⟩, zT, ⟨⟨trivial, zT, trivial⟩, zT, ⟨trivial, zT, trivial⟩⟩⟩, zT, ⟨⟨⟨trivial, zT, trivial⟩, zT, ⟨trivial, zT, trivial⟩⟩, zT, ⟨⟨trivial, zT, trivial⟩, zT, ⟨trivial, zT, trivial⟩⟩⟩⟩, zT, ⟨⟨⟨⟨trivial, zT, trivial⟩, zT, ⟨trivial, zT, trivial⟩⟩, zT, ⟨⟨trivial, zT, trivial⟩, zT, ⟨trivial, zT, trivial⟩⟩⟩, zT, ⟨⟨⟨trivial, zT, trivial⟩, zT, ⟨trivial, zT, trivial⟩⟩, zT, ⟨⟨trivial, zT, trivial⟩, zT, ⟨trivial, zT, trivial⟩⟩⟩⟩⟩, ud, ⟨⟨⟨⟨⟨⟨trivial, uc, trivial⟩, zT, trivial⟩, zT, ⟨trivial, zT, trivial⟩⟩, zT, ⟨⟨trivial, zT, trivial⟩, zT, ⟨trivial, zT, trivial⟩⟩⟩, zT, ⟨⟨⟨trivial, zT, trivial⟩, zT, ⟨trivial, zT, trivial⟩⟩, zT, ⟨⟨trivial, zT, trivial⟩, zT, ⟨trivial, zT, trivial⟩⟩⟩⟩, zT, ⟨⟨⟨⟨trivial, zT, trivial⟩, zT, ⟨trivial, zT, trivial⟩⟩, zT, ⟨⟨trivial, zT, trivial⟩, zT, ⟨trivial, zT, trivial⟩⟩⟩, zT, ⟨⟨⟨trivial, zT, trivial⟩, zT, ⟨trivial, zT, trivial⟩⟩, zT, ⟨⟨trivial, zT, trivial⟩, zT, ⟨trivial, zT, trivial⟩⟩⟩⟩⟩⟩, zT, ⟨⟨⟨⟨⟨⟨⟨trivial, zT, trivial⟩, zT, trivial⟩, zT, ⟨trivial, ub, trivial⟩⟩, ua, ⟨⟨trivial, zT, trivial⟩, zT, ⟨trivial, zT, trivial⟩⟩⟩, zT, ⟨⟨⟨trivial, zT, trivial⟩, zT, ⟨trivial, zT, trivial⟩⟩, zT, ⟨⟨trivial, zT, trivial⟩, zT, ⟨trivial, zT, trivial⟩⟩⟩⟩, zT, ⟨⟨⟨⟨trivial, zT, trivial⟩, zT, ⟨trivial, zT, trivial⟩⟩, zT, ⟨⟨trivial, zT, trivial⟩, zT, ⟨trivial, zT, trivial⟩⟩⟩, zT, ⟨⟨⟨trivial, zT, trivial⟩, zT, ⟨trivial, zT, trivial⟩⟩, zT, ⟨⟨trivial, zT, trivial⟩, zT, ⟨trivial, zT, trivial⟩⟩⟩⟩⟩, zT, ⟨⟨⟨⟨⟨trivial, zT, trivial⟩, zT, ⟨trivial, zT, trivial⟩⟩, zT, ⟨⟨trivial, zT, trivial⟩, zT, ⟨trivial, zT, trivial⟩⟩⟩, zT, ⟨⟨⟨trivial, zT, trivial⟩, zT, ⟨trivial, zT, trivial⟩⟩, zT, ⟨⟨trivial, zT, trivial⟩, zT, ⟨trivial, zT, trivial⟩⟩⟩⟩, zT, ⟨⟨⟨⟨trivial, zT, trivial⟩, zT, ⟨trivial, zT, trivial⟩⟩, zT, ⟨⟨trivial, zT, trivial⟩, zT, ⟨trivial, zT, trivial⟩⟩⟩, zT, ⟨⟨⟨trivial, zT, trivial⟩, zT, ⟨trivial, zT, trivial⟩⟩, zT, ⟨⟨trivial, zT, trivial⟩, zT, ⟨trivial, zT, trivial⟩⟩⟩⟩⟩⟩⟩⟩
noncomputable def TC : Cx := ⟨Tryz.prog, vH.look, cx.look_ok qC⟩
theorem ac : TC.P.follows .mixedOrders = true := by kernel_rfl
section
open Go.RowKit Go.Shelf
theorem Pure.val {C : Cx} {g : Nat} {xs : List Value} {r : Value} (ent : el C.P g) (hr : r.oneCell' = true) (h : ∀ w, Calls C.P g xs.toArray w fun e w' => e = .returned r ∧ w' = w) : Pure C g (xs.map fun v => .d (.val v)) (.d (.val r)) := by
 refine ⟨ent, fun E w vs hIm hsz hargs => ?_⟩
 have : vs = xs.toArray := by
  apply Array.ext (by simpa using hsz)
  intro i h1 h2
  have h3 := hargs i (by simpa using h2)
  rw [List.getElem_map] at h3
  have := h3.val_inv
  simpa [Array.getD, h1] using this
 subst this
 refine (h w).mono ?_
 rintro e w' ⟨rfl, rfl⟩
 exact ⟨r, rfl, Kp.refl _, .d _ _ (.val _ hr)⟩
theorem Pure.val2 {C : Cx} {g : Nat} {xs : List Value} {r s : Value} (ent : el C.P g) (hr : r.oneCell' = true) (hs : s.oneCell' = true) (h : ∀ w, Calls C.P g xs.toArray w fun e w' => e = .returned (.tuple #[r, s]) ∧ w' = w) : Pure C g (xs.map fun v => .d (.val v)) (.tup [.d (.val r), .d (.val s)]) := by
 refine ⟨ent, fun E w vs hIm hsz hargs => ?_⟩
 have : vs = xs.toArray := by
  apply Array.ext (by simpa using hsz)
  intro i h1 h2
  have h3 := hargs i (by simpa using h2)
  rw [List.getElem_map] at h3
  have := h3.val_inv
  simpa [Array.getD, h1] using this
 subst this
 refine (h w).mono ?_
 rintro e w' ⟨rfl, rfl⟩
 refine ⟨_, rfl, Kp.refl _, .tup _ _ rfl fun j hj => ?_⟩
 have : j = 0 ∨ j = 1 := by simp at hj; omega
 rcases this with rfl | rfl
 ·exact .d _ _ (.val _ hr)
 ·exact .d _ _ (.val _ hs)
def mulRen : Go.Shelf.Ren := ⟨fun | 264 => 204 | n => n, fun | 53 => 96 | 46 => 106 | n => n, fun | n => n⟩
theorem mulLays : Go.Proofs.Lays.n264 Tryz.prog mulRen := {
 mixed := by kernel_rfl
 f264 := Tryz.func204.trans (congrArg some (by kernel_rfl))
 t46 := Tryz.underlying106
 a46 := Tryz.isAgg106
 z46 := Tryz.sizeOf106
 v46 := Tryz.zeroValue106
 t53 := Tryz.underlying96
 a53 := Tryz.isAgg96
 z53 := Tryz.sizeOf96
 v53 := Tryz.zeroValue96 }
def hiI (x : Int) : Int := x / 18446744073709551616
def loI (x : Int) : Int := x % 18446744073709551616
theorem bits_Mul64 (x y : Int) (hx : 0 ≤ x) (hx2 : x < 18446744073709551616) (hy : 0 ≤ y) (hy2 : y < 18446744073709551616) : Pure TC 204 [.i .u64 x, .i .u64 y] (.tup [.i .u64 (hiI (x * y)), .i .u64 (loI (x * y))]) := by
 obtain ⟨n, rfl⟩ := Int.eq_ofNat_of_zero_le hx
 obtain ⟨m, rfl⟩ := Int.eq_ofNat_of_zero_le hy
 refine Pure.val2 (xs := [.int .u64 n, .int .u64 m]) (.mk Tryz.func204 rfl rfl) rfl rfl fun w => ?_
 refine (Any.bits_Mul64 mulLays n m (by omega) (by omega) w).mono ?_
 rintro e w' ⟨rfl, rfl⟩
 refine ⟨?_, rfl⟩
 simp [hiI, loI]
end
def am {α : Type} [Inhabited α] (esz : Nat) (enc : α → List D) (xs : List α) : D := .sl esz xs.length fun i => enc (xs.getD i default)
def aF (k : IntKind) (n : Int) : List D := [.val (.int k n)]
def bI (n : Int) : Bool := decide (0 ≤ n) && decide (n ≤ 4611686018427387903)
theorem cI (n : Int) : bI n = true ↔ 0 ≤ n ∧ n ≤ 4611686018427387903 := by simp [bI]
theorem t9 (n : Int) : bI n = false ↔ n < 0 ∨ 4611686018427387903 < n := by simp [bI]; omega
def uK (T tau : Int) : Int := if bI T = true ∧ 1 ≤ T ∧ bI tau = true then 0 else 1
theorem bH (n : Int) : Pure TC 46 [.i .i64 n] (.b (bI n)) := by
 refine Pure.mk' Tryz.func46 rfl rfl zN ?_
 (repeat' (first | ((first | refine Wp.any ac rfl ?_ | (with_reducible first | refine Go.mk ?_ | apply ah.of)); conv => whnf) | ((refine aq (fun hc => ?_) (fun hc => ?_)) <;> (try simp only [wz9] at hc) <;> (try (exfalso; omega)) <;> (conv => whnf))))
 all_goals exact .b (by simp [bI]; omega)
theorem dL (T tau : Int) : Pure TC 45 [.agg [.i .i64 T, .i .i64 tau]] (.i .i64 (uK T tau)) := by
 refine Pure.mk' Tryz.func45 rfl rfl zN ?_
 (repeat' (first | ((first | refine Wp.any ac rfl ?_ | (with_reducible first | refine Go.mk ?_ | apply ah.of | refine ab.pure (bH _) rfl rfl ?_)); conv => whnf) | ((refine aq (fun hc => ?_) (fun hc => ?_)) <;> (try simp only [wz9] at hc) <;> (try (exfalso; omega)) <;> (conv => whnf))))
 all_goals exact .i (by simp [uK, *]; try omega)
structure Pol where
 kind : Int
 T : Int
 tau : Int
 permits : Int
 deriving Inhabited
def Pol.D (p : Pol) : List D := [.val (.int .u8 p.kind), .val (.int .i64 p.T), .val (.int .i64 p.tau), .val (.int .i64 p.permits)]
def nB (k T tau m : Int) : Bool := if k = 1 then uK T tau == 0 else if k = 2 then decide (1 ≤ m) && decide (m ≤ 64) else false
theorem tj (k T tau m : Int) : Pure TC 78 [.agg [.i .u8 k, .i .i64 T, .i .i64 tau, .i .i64 m]] (.b (nB k T tau m)) := by
 refine Pure.mk' Tryz.func78 rfl rfl zN ?_
 (repeat' (first | ((first | refine Wp.any ac rfl ?_ | (with_reducible first | refine Go.mk ?_ | apply ah.of | refine ab.pure (dL _ _) rfl rfl ?_)); conv => whnf) | ((refine aq (fun hc => ?_) (fun hc => ?_)) <;> (try simp only [wz9] at hc) <;> (try (exfalso; omega)) <;> (conv => whnf))))
 all_goals exact .b (by simp [nB, *])
def cU (ps : List Pol) : Int := if 32 < ps.length then 2 else if ps.all (fun p => nB p.kind p.T p.tau p.permits) then 0 else 3
theorem lU {ps : List Pol} (h : ¬ 32 < ps.length) : cU ps = if ps.all (fun p => nB p.kind p.T p.tau p.permits) then 0 else 3 := by simp [cU, h]
theorem fo {α : Type} [Inhabited α] {f : α → Bool} {xs : List α} {k : Nat} (hk : k < xs.length) (h : (xs.take k).all f = true) (h2 : f (xs.getD k default) = true) : (xs.take (k + 1)).all f = true := by
 rw [List.take_succ_eq_append_getElem hk, List.all_append, h]
 simp only [List.getD, Q0 hk, Option.getD_some] at h2
 simp [h2]
theorem rK {α : Type} [Inhabited α] {f : α → Bool} {xs : List α} {k : Nat} (hk : k < xs.length) (h2 : f (xs.getD k default) = false) : xs.all f = false := by
 simp only [List.getD, Q0 hk, Option.getD_some] at h2
 rw [List.all_eq_false]
 exact ⟨_, Q14 hk, by simp [h2]⟩
theorem dk (ps : List Pol) : Pure TC 47 [.d (am 4 Pol.D ps)] (.i .i64 (cU ps)) := by
 refine Pure.mk' Tryz.func47 rfl rfl zN ?_
 (repeat' (first | ((first | refine Wp.any ac rfl ?_ | (with_reducible first | refine Go.mk ?_ | apply ah.of)); conv => whnf) | ((refine aq (fun hc => ?_) (fun hc => ?_)) <;> (try simp only [wz9] at hc) <;> (try (exfalso; omega)) <;> (conv => whnf))))
 ·exact .i (by simp [cU]; omega)
 ·refine Wp.loopP (fun k => k ≤ ps.length ∧ (ps.take k).all (fun p => nB p.kind p.T p.tau p.permits) = true) (fun k => ⟨⟨Tryz.f47.ntmps, 0⟩, 0, [(8, .d (am 4 Pol.D ps)), (9, .i .i64 ps.length), (10, .i .i64 k)], []⟩) (fun k => ps.length - k) 0 ⟨by simp, by simp⟩ ?_ ?_
  ·(refine Le.by [] rfl rfl rfl rfl ?_ ?_ <;> (conv => whnf) <;> (repeat' (first | exact trivial | exact ae.rfl rfl | ((with_reducible refine And.intro ?_ ?_) <;> (conv => whnf)))))
  ·rintro k ⟨hk, hall⟩
   (repeat' (first | ((first | refine Wp.any ac rfl ?_ | (with_reducible first | refine Go.mk ?_ | apply ah.of | refine Ov.ok zO ?_ | refine And.intro zC ?_ | refine ab.pure (tj _ _ _ _) rfl rfl ?_)); conv => whnf) | ((refine aq (fun hc => ?_) (fun hc => ?_)) <;> (try simp only [wz9] at hc) <;> (try (exfalso; omega)) <;> (conv => whnf))))
   ·exact .i (by rw [lU (by omega), rK (k := k) (by omega) (by simpa using hc)]; rfl)
   ·refine ⟨k + 1, ⟨by omega, fo (by omega) hall (by simpa using hc)⟩, by dsimp only; omega, ?_⟩
    (refine Le.by [] rfl rfl rfl rfl ?_ ?_ <;> (conv => whnf) <;> (repeat' (first | exact trivial | exact ae.rfl rfl | ((with_reducible refine And.intro ?_ ?_) <;> (conv => whnf)))))
   ·rw [Q21 (by omega)] at hall
    exact .i (by rw [lU (by omega), hall]; rfl)
def nm (op : Int) : Int := if op = 1 then 1 else if op = 2 ∨ op = 3 then 2 else 0
theorem ti (op : Int) : Pure TC 96 [.i .u8 op] (.i .u8 (nm op)) := by
 refine Pure.mk' Tryz.func96 rfl rfl zN ?_
 (repeat' (first | ((first | refine Wp.any ac rfl ?_ | (with_reducible first | refine Go.mk ?_ | apply ah.of)); conv => whnf) | ((refine aq (fun hc => ?_) (fun hc => ?_)) <;> (try simp only [wz9] at hc) <;> (try (exfalso; omega)) <;> (conv => whnf))))
 all_goals exact .i (by simp [nm, *])
def bsF (lt : Nat → Bool) : Nat → Nat → Nat → Nat
 | 0, i, _ => i
 | n + 1, i, j => if i < j then (if lt ((i + j) / 2) then bsF lt n ((i + j) / 2 + 1) j else bsF lt n i ((i + j) / 2)) else i
def bs (lt : Nat → Bool) (n : Nat) : Nat := bsF lt (n + 1) 0 n
theorem th {lt : Nat → Bool} {q i j : Nat} (h : ¬ i < j) : bsF lt q i j = i := by cases q <;> simp [bsF, h]
def lg (ps : List Pol) (op pol : Int) (key : List Int) (n : Int) : Int :=
 if op < 1 ∨ 6 < op ∨ (op = 1 ∧ bI n = false) then 1
 else if op ≤ 4 ∧ 255 < key.length then 2
 else if cU ps ≠ 0 then cU ps
 else if op ≤ 4 ∧ (pol < 0 ∨ ps.length ≤ pol ∨ (nm op ≠ 0 ∧ (ps.getD pol.toNat default).kind ≠ nm op)) then 6 else 0
theorem aT (ps : List Pol) (op pol : Int) (key : List Int) (n : Int) : Pure TC 70 [.d (am 4 Pol.D ps), .agg [.i .u8 op, .i .i64 pol, .d (am 1 (aF .u8) key), .i .i64 n]] (.i .i64 (lg ps op pol key n)) := by
 refine Pure.mk' Tryz.func70 rfl rfl zN ?_
 (repeat' (first | ((first | refine Wp.any ac rfl ?_ | (with_reducible first | refine Go.mk ?_ | apply ah.of)); conv => whnf) | with_reducible exact rfl | ((first | refine zV ?_ | with_reducible refine And.intro zC ?_); conv => whnf) | (with_reducible refine Or.inl ?_) | ((with_reducible first | refine ab.pure (bH _) rfl rfl ?_ | refine ab.pure (dk _) rfl rfl ?_ | refine ag.pure (ti _) rfl rfl ?_); conv => whnf) | ((refine aq (fun hc => ?_) (fun hc => ?_)) <;> (try simp only [wz9] at hc) <;> (try (exfalso; omega)) <;> (conv => whnf))))
 all_goals exact .i (by
  unfold lg
  repeat' split
  all_goals first | rfl | omega | (exfalso; simp_all; try omega) | simp_all)
def lq (a b : Int) : Int := if bI a && bI b then 0 else 1
theorem lp (a b : Int) : lq a b = 0 ↔ (0 ≤ a ∧ a ≤ 4611686018427387903) ∧ 0 ≤ b ∧ b ≤ 4611686018427387903 := by simp [lq, bI]; omega
theorem iq (T tau : Int) : uK T tau = 0 ↔ (1 ≤ T ∧ T ≤ 4611686018427387903) ∧ 0 ≤ tau ∧ tau ≤ 4611686018427387903 := by simp [uK, bI]; omega
theorem lE (a b : Int) : Pure TC 110 [.i .i64 a, .i .i64 b] (.i .i64 (lq a b)) := by
 refine Pure.mk' Tryz.func110 rfl rfl zN ?_
 (repeat' (first | ((first | refine Wp.any ac rfl ?_ | (with_reducible first | refine Go.mk ?_ | apply ah.of | refine ab.pure (bH _) rfl rfl ?_)); conv => whnf) | ((refine aq (fun hc => ?_) (fun hc => ?_)) <;> (try simp only [wz9] at hc) <;> (try (exfalso; omega)) <;> (conv => whnf))))
 all_goals exact .i (by simp [lq, *])
def cm (n : Int) : Int := min (max n 0) 4611686018427387903
theorem jc (n : Int) : Pure TC 111 [.i .i64 n] (.i .i64 (cm n)) := by
 refine Pure.mk' Tryz.func111 rfl rfl zN ?_
 (repeat' (first | ((first | refine Wp.any ac rfl ?_ | (with_reducible first | refine Go.mk ?_ | apply ah.of)); conv => whnf)))
 all_goals exact .i (by unfold cm; omega)
def t6 (a b : Int) : Int := if lq a b = 0 then max (a - b) 0 else 0
theorem t7 (a b : Int) : Pure TC 82 [.i .i64 a, .i .i64 b] (.tup [.i .i64 (t6 a b), .i .i64 (lq a b)]) := by
 refine Pure.mk' Tryz.func82 rfl rfl zN ?_
 (repeat' (first | ((first | refine Wp.any ac rfl ?_ | (with_reducible first | refine Go.mk ?_ | apply ah.of | refine Ov.ok zO ?_ | refine ab.pure (lE _ _) rfl rfl ?_ | refine ab.pure (jc _) rfl rfl ?_)); conv => whnf) | ((refine aq (fun hc => ?_) (fun hc => ?_)) <;> (try simp only [wz9, lp] at hc) <;> (try (exfalso; omega)) <;> (conv => whnf))))
 ·exact .of_eq (by rw [t6, if_neg (by rw [lp]; omega)])
 ·exact .of_eq (by rw [t6, if_pos (by rw [lp]; omega), show lq a b = 0 by rw [lp]; omega, show cm (a - b) = max (a - b) 0 by unfold cm; omega])
theorem jr (a T : Int) (ha : 0 ≤ a) (hT : 1 ≤ T) : 0 ≤ a / T ∧ a / T ≤ a := ⟨Int.ediv_nonneg ha (by omega), Int.ediv_le_self _ ha⟩
def cJ (T tau tat now : Int) : Int := if tau < max tat now - now then 0 else min ((tau - (max tat now - now)) / T + 1) ((4611686018427387903 - max tat now) / T)
theorem me (T tau tat now : Int) (hT : 1 ≤ T) (hT2 : T ≤ 4611686018427387903) (h1 : 0 ≤ tau) (h2 : tau ≤ 4611686018427387903) (h3 : 0 ≤ tat) (h4 : tat ≤ 4611686018427387903) (h5 : 0 ≤ now) (h6 : now ≤ 4611686018427387903) :
  Pure TC 109 [.agg [.i .i64 T, .i .i64 tau], .i .i64 tat, .i .i64 now] (.i .i64 (cJ T tau tat now)) := by
 have q1 : ¬ (if now > tat then now else tat) - now > tau → _ := fun h => jr (tau - ((if now > tat then now else tat) - now)) T (by omega) hT
 have q2 := jr (4611686018427387903 - (if now > tat then now else tat)) T (by omega) hT
 refine Pure.mk' Tryz.func109 rfl rfl zN ?_
 (repeat' (first | ((first | refine Wp.any ac rfl ?_ | (with_reducible first | refine Go.mk ?_ | apply ah.of)); conv => whnf) | with_reducible exact rfl | ((first | (with_reducible first | refine Ov.ok zO ?_ | refine Ov.quo (by omega) (by omega) (by omega) (fun _ _ => ?_)) | refine zV ?_ | with_reducible refine And.intro zC ?_); conv => whnf) | (with_reducible refine Or.inl ?_) | ((refine aq (fun hc => ?_) (fun hc => ?_)) <;> (try simp only [wz9] at hc) <;> (try (exfalso; omega)) <;> (conv => whnf))))
 ·exact .i (by unfold cJ; omega)
 ·refine .i ?_
  have e : max tat now = if now > tat then now else tat := by omega
  rw [cJ, e, if_neg (show ¬ tau < (if now > tat then now else tat) - now by omega)]
  omega
theorem vO {x y : Int} (hx : 0 ≤ x) (hx2 : x ≤ 4611686018427387903) (hy : 0 ≤ y) (hy2 : y ≤ 4611686018427387903) : 0 ≤ x * y ∧ x * y ≤ 4611686018427387903 * 4611686018427387903 :=
 ⟨Int.mul_nonneg hx hy, Int.mul_le_mul hx2 hy2 hy (by omega)⟩
def iU (T n : Int) : Int := IntKind.i64.wrap (loI ((n - 1) * T))
theorem hi_0 {p : Int} (h : 0 ≤ p) : (hiI p = 0 → loI p = p) ∧ (hiI p ≠ 0 → 18446744073709551616 ≤ p) := by unfold hiI loI; omega
theorem pM (T tau n : Int) (hT : 1 ≤ T) (hT2 : T ≤ 4611686018427387903) (h1 : 0 ≤ tau) (h2 : tau ≤ 4611686018427387903) (h3 : 1 ≤ n) (h4 : n ≤ 4611686018427387903) :
  Pure TC 190 [.agg [.i .i64 T, .i .i64 tau], .i .i64 n] (.tup [.i .i64 (iU T n), .b (decide ((n - 1) * T ≤ tau))]) := by
 obtain ⟨m1, m2⟩ := vO (x := n - 1) (y := T) (by omega) (by omega) (by omega) hT2
 refine Pure.mk' Tryz.func190 rfl rfl zN ?_
 (repeat' (first | ((first | refine Wp.any ac rfl ?_ | (with_reducible first | refine Go.mk ?_ | apply ah.of)); conv => whnf) | with_reducible exact rfl | ((first | with_reducible refine Ov.ok zO ?_ | refine zV ?_); conv => whnf) | (with_reducible refine Or.inl ?_) | ((with_reducible first | refine ab.pure (bits_Mul64 _ _ (by omega) (by omega) (by omega) (by omega)) rfl rfl ?_ | refine Ov.mk ?_); conv => whnf) | ((refine aq (fun hc => ?_) (fun hc => ?_)) <;> (try simp only [wz9] at hc) <;> (try (exfalso; omega)) <;> (conv => whnf))))
 ·rw [(hi_0 m1).1 hc]
  exact .of_eq (by unfold iU; rw [(hi_0 m1).1 hc])
 ·have := (hi_0 m1).2 hc
  exact .of_eq (by rw [show decide ((n - 1) * T ≤ tau) = false by simp; omega]; rfl)
def qA (T tau tat now n : Int) : Int :=
 if (n - 1) * T ≤ tau ∧ n ≤ (4611686018427387903 - max tat now) / T then tat - now - (tau - (n - 1) * T) else 4611686018427387903
theorem vB {T tau n : Int} (h0 : 0 ≤ (n - 1) * T) (h : (n - 1) * T ≤ tau) (ht : tau ≤ 4611686018427387903) : iU T n = (n - 1) * T := by
 unfold iU loI
 generalize (n - 1) * T = p at *
 rw [show p % 18446744073709551616 = p by omega, IntWalk.i64_in _ (by omega)]
theorem sk (T tau tat now n : Int) (hT : 1 ≤ T) (hT2 : T ≤ 4611686018427387903) (h1 : 0 ≤ tau) (h2 : tau ≤ 4611686018427387903) (h3 : 0 ≤ tat) (h4 : tat ≤ 4611686018427387903) (h5 : 0 ≤ now) (h6 : now ≤ 4611686018427387903) (h7 : 1 ≤ n) (h8 : n ≤ 4611686018427387903) :
  Pure TC 154 [.agg [.i .i64 T, .i .i64 tau], .i .i64 tat, .i .i64 now, .i .i64 n] (.i .i64 (qA T tau tat now n)) := by
 obtain ⟨m1, m2⟩ := vO (x := n - 1) (y := T) (by omega) (by omega) (by omega) hT2
 have q2 := jr (4611686018427387903 - (if now > tat then now else tat)) T (by omega) hT
 have q3 : (n - 1) * T ≤ tau → iU T n = (n - 1) * T := fun h => vB m1 h h2
 refine Pure.mk' Tryz.func154 rfl rfl zN ?_
 have e : max tat now = if now > tat then now else tat := by omega
 (repeat' (first | ((first | refine Wp.any ac rfl ?_ | (with_reducible first | refine Go.mk ?_ | apply ah.of | refine Ov.ok zO ?_ | refine Ov.quo (by omega) (by omega) (by omega) (fun _ _ => ?_) | refine And.intro zC ?_ | refine ab.pure (pM T tau n hT hT2 h1 h2 h7 h8) rfl rfl ?_)); conv => whnf) | ((refine aq (fun hc => ?_) (fun hc => ?_)) <;> (try simp only [wz9] at hc) <;> (try (exfalso; omega)) <;> (conv => whnf))))
 ·exact .i (by rw [qA, if_neg (by omega)])
 ·exact .i (by rw [qA, e, if_neg (show ¬ ((n - 1) * T ≤ tau ∧ n ≤ (4611686018427387903 - (if now > tat then now else tat)) / T) by omega)])
 ·exact .i (by rw [qA, e, if_pos (show (n - 1) * T ≤ tau ∧ n ≤ (4611686018427387903 - (if now > tat then now else tat)) / T by omega), q3 (by omega)])
structure Ans where
 g : Bool
 tat : Int
 wait : Int
 left : Int
def Ans.S (a : Ans) : SV := .agg [.b a.g, .i .i64 a.tat, .i .i64 a.wait, .i .i64 a.left]
def tatI (T tau tat now n : Int) : Int := if n ≤ cJ T tau tat now ∧ 0 < n then max tat now + n * T else tat
def decI (T tau tat now n : Int) : Ans :=
 {g := decide (n ≤ cJ T tau tat now), tat := tatI T tau tat now n
  wait := if n ≤ cJ T tau tat now then 0 else qA T tau tat now n, left := cJ T tau (tatI T tau tat now n) now }
theorem uN {T tau tat now : Int} (hT : 1 ≤ T) (h3 : 0 ≤ tat) (h4 : tat ≤ 4611686018427387903) (h5 : 0 ≤ now) (h6 : now ≤ 4611686018427387903) {n : Int} (hn : n ≤ cJ T tau tat now) (h0 : 0 < n) :
  0 ≤ n * T ∧ max tat now + n * T ≤ 4611686018427387903 := by
 unfold cJ at hn
 split at hn
 ·omega
 ·have h : n ≤ (4611686018427387903 - max tat now) / T := by omega
  rw [Int.le_ediv_iff_mul_le (by omega)] at h
  exact ⟨Int.mul_nonneg (by omega) (by omega), by omega⟩
theorem l4 {T tau tat now : Int} (hT : 1 ≤ T) (h3 : 0 ≤ tat) (h4 : tat ≤ 4611686018427387903) (h5 : 0 ≤ now) (h6 : now ≤ 4611686018427387903) : 0 ≤ cJ T tau tat now ∧ cJ T tau tat now ≤ 4611686018427387903 := by
 unfold cJ
 split
 ·omega
 ·have h1 := jr (tau - (max tat now - now)) T (by omega) hT
  have h2 := jr (4611686018427387903 - max tat now) T (by omega) hT
  omega
theorem nu (T tau tat now n : Int) (hT : 1 ≤ T) (hT2 : T ≤ 4611686018427387903) (h1 : 0 ≤ tau) (h2 : tau ≤ 4611686018427387903) (h3 : 0 ≤ tat) (h4 : tat ≤ 4611686018427387903) (h5 : 0 ≤ now) (h6 : now ≤ 4611686018427387903) (h7 : 0 ≤ n) (h8 : n ≤ 4611686018427387903) :
  Pure TC 112 [.agg [.i .i64 T, .i .i64 tau], .i .i64 tat, .i .i64 now, .i .i64 n] (decI T tau tat now n).S := by
 have hl0 := l4 (tau := tau) hT h3 h4 h5 h6
 have hl1 : n ≤ cJ T tau tat now → 0 < n → _ := uN (n := n) (tau := tau) hT h3 h4 h5 h6
 have e : max tat now = if now > tat then now else tat := by omega
 refine Pure.mk' Tryz.func112 rfl rfl zN ?_
 (repeat' (first | ((first | refine Wp.any ac rfl ?_ | (with_reducible first | refine Go.mk ?_ | apply ah.of | refine Ov.ok zO ?_ | refine ab.pure (me _ _ _ _ hT hT2 h1 h2 (by omega) (by omega) h5 h6) rfl rfl ?_ | refine ab.pure (sk _ _ _ _ _ hT hT2 h1 h2 (by omega) (by omega) h5 h6 (by omega) (by omega)) rfl rfl ?_)); conv => whnf) | ((refine aq (fun hc => ?_) (fun hc => ?_)) <;> (try simp only [wz9] at hc) <;> (try (exfalso; omega)) <;> (conv => whnf))))
 all_goals refine .of_eq ?_
 ·simp [Ans.S, decI, tatI, hc]
 ·have h9 : n ≤ cJ T tau tat now ∧ 0 < n := by omega
  simp [Ans.S, decI, tatI, h9, e]
 ·have h9 : ¬ (n ≤ cJ T tau tat now ∧ 0 < n) := by omega
  have h8 : n ≤ cJ T tau tat now := by omega
  simp only [Ans.S, decI, tatI, if_neg h9, if_pos h8]
def qu (T tau : Int) (xs : List Int) : Int := if xs.all bI then uK T tau else 1
theorem jC (T tau : Int) (xs : List Int) : Pure TC 108 [.agg [.i .i64 T, .i .i64 tau], .d (am 1 (aF .i64) xs)] (.i .i64 (qu T tau xs)) := by
 refine Pure.lens (.mk Tryz.func108 rfl rfl) fun hlen => ?_
 have hlen := hlen xs.length (by simp [ec, am])
 refine Pure.mk' Tryz.func108 rfl rfl zN ?_
 (repeat' (first | ((first | refine Wp.any ac rfl ?_ | (with_reducible first | refine Go.mk ?_ | apply ah.of)); conv => whnf)))
 refine Wp.loopP (fun k => k ≤ xs.length ∧ (xs.take k).all bI = true) (fun k => ⟨⟨Tryz.f108.ntmps, 0⟩, 1, [(2, .ptr 0 0), (7, .d (am 1 (aF .i64) xs)), (8, .i .i64 xs.length), (9, .i .i64 k)], [(0, some (.cells [.i .i64 T, .i .i64 tau]))]⟩) (fun k => xs.length - k) 0 ⟨by simp, by simp⟩ ?_ ?_
 ·(refine Le.by [0] rfl rfl rfl rfl ?_ ?_ <;> (conv => whnf) <;> (repeat' (first | exact trivial | exact ae.rfl rfl | exact ae.ptr rfl | ((with_reducible refine And.intro ?_ ?_) <;> (conv => whnf)))))
 ·rintro k ⟨hk, hall⟩
  (repeat' (first | ((first | refine Wp.any ac rfl ?_ | (with_reducible first | refine Go.mk ?_ | apply ah.of | refine Ov.ok zO ?_ | refine And.intro zC ?_ | refine ab.pure (bH _) rfl rfl ?_ | refine ab.pure (dL _ _) rfl rfl ?_)); conv => whnf) | ((refine aq (fun hc => ?_) (fun hc => ?_)) <;> (try simp only [wz9] at hc) <;> (try (exfalso; omega)) <;> (conv => whnf))))
  ·exact .i (by rw [qu, rK (k := k) (by omega) (by simpa using hc)]; rfl)
  ·refine ⟨k + 1, ⟨by omega, fo (by omega) hall (by simpa using hc)⟩, by dsimp only; omega, ?_⟩
   (refine Le.by [0] rfl rfl rfl rfl ?_ ?_ <;> (conv => whnf) <;> (repeat' (first | exact trivial | exact ae.rfl rfl | exact ae.ptr rfl | ((with_reducible refine And.intro ?_ ?_) <;> (conv => whnf)))))
  ·rw [Q21 (by omega)] at hall
   exact .i (by rw [qu, hall]; rfl)
theorem mG (T tau a b c : Int) : qu T tau [a, b, c] = 0 ↔ ((1 ≤ T ∧ T ≤ 4611686018427387903) ∧ 0 ≤ tau ∧ tau ≤ 4611686018427387903) ∧ (0 ≤ a ∧ a ≤ 4611686018427387903) ∧ (0 ≤ b ∧ b ≤ 4611686018427387903) ∧ 0 ≤ c ∧ c ≤ 4611686018427387903 := by
 rw [← iq]; unfold qu
 simp only [List.all_cons, List.all_nil, Bool.and_true, Q5, cI]
 split <;> omega
theorem o7 (T tau a b : Int) : qu T tau [a, b] = 0 ↔ ((1 ≤ T ∧ T ≤ 4611686018427387903) ∧ 0 ≤ tau ∧ tau ≤ 4611686018427387903) ∧ (0 ≤ a ∧ a ≤ 4611686018427387903) ∧ 0 ≤ b ∧ b ≤ 4611686018427387903 := by
 rw [← iq]; unfold qu
 simp only [List.all_cons, List.all_nil, Bool.and_true, Q5, cI]
 split <;> omega
def v5 (T tau tat now n : Int) : Ans := if qu T tau [tat, now, n] = 0 then decI T tau tat now n else ⟨false, 0, 0, 0⟩
theorem nv (T tau tat now n : Int) : Pure TC 83 [.agg [.i .i64 T, .i .i64 tau], .i .i64 tat, .i .i64 now, .i .i64 n] (.tup [(v5 T tau tat now n).S, .i .i64 (qu T tau [tat, now, n])]) := by
 refine Pure.mk' Tryz.func83 rfl rfl zN ?_
 (repeat' (first | ((first | refine Wp.any ac rfl ?_ | (with_reducible first | refine Go.mk ?_ | apply ah.of)); conv => whnf) | ((with_reducible refine ab.pureI (jC T tau [tat, now, n]) rfl ?_); (conv => whnf); (repeat' ((with_reducible refine And.intro (by omega) ?_); (conv => whnf))); (refine And.intro (by (repeat' (first | exact zA9 | with_reducible refine Les.cons ?_ ?_))) ?_); (conv => whnf)) | ((with_reducible refine ab.pure (nu T tau tat now n (by omega) (by omega) (by omega) (by omega) (by omega) (by omega) (by omega) (by omega) (by omega) (by omega)) rfl rfl ?_); conv => whnf) | ((refine aq (fun hc => ?_) (fun hc => ?_)) <;> (try simp only [wz9, mG] at hc) <;> (try (exfalso; omega)) <;> (conv => whnf))))
 ·exact .of_eq (by rw [v5, if_neg (by rw [mG]; exact hc)]; rfl)
 ·exact .of_eq (by rw [v5, if_pos (by rw [mG]; exact hc), (mG ..).2 hc]; rfl)
theorem sn (T tau tat now : Int) : Pure TC 81 [.agg [.i .i64 T, .i .i64 tau], .i .i64 tat, .i .i64 now] (.tup [.i .i64 (if qu T tau [tat, now] = 0 then cJ T tau tat now else 0), .i .i64 (qu T tau [tat, now])]) := by
 refine Pure.mk' Tryz.func81 rfl rfl zN ?_
 (repeat' (first | ((first | refine Wp.any ac rfl ?_ | (with_reducible first | refine Go.mk ?_ | apply ah.of)); conv => whnf) | ((with_reducible refine ab.pureI (jC T tau [tat, now]) rfl ?_); (conv => whnf); (repeat' ((with_reducible refine And.intro (by omega) ?_); (conv => whnf))); (refine And.intro (by (repeat' (first | exact zA9 | with_reducible refine Les.cons ?_ ?_))) ?_); (conv => whnf)) | ((with_reducible refine ab.pure (me T tau tat now (by omega) (by omega) (by omega) (by omega) (by omega) (by omega) (by omega) (by omega)) rfl rfl ?_); conv => whnf) | ((refine aq (fun hc => ?_) (fun hc => ?_)) <;> (try simp only [wz9, o7] at hc) <;> (try (exfalso; omega)) <;> (conv => whnf))))
 ·exact .of_eq (by rw [if_neg (by rw [o7]; exact hc)])
 ·exact .of_eq (by rw [if_pos (by rw [o7]; exact hc), (o7 ..).2 hc])
def mP (T tau span : Int) : Int := if uK T tau = 0 ∧ bI span = true then (span + tau) / T + 1 else 0
def mQ (T tau span : Int) : Int := if uK T tau = 0 ∧ bI span = true then 0 else 1
theorem m5 (T tau span : Int) : Pure TC 23 [.agg [.i .i64 T, .i .i64 tau], .i .i64 span] (.tup [.i .i64 (mP T tau span), .i .i64 (mQ T tau span)]) := by
 have q : uK T tau = 0 → bI span = true → _ := fun h k => jr (span + tau) T (by rw [iq] at h; rw [cI] at k; omega) (by rw [iq] at h; omega)
 rw [iq, cI] at q
 refine Pure.mk' Tryz.func23 rfl rfl zN ?_
 (repeat' (first | ((first | refine Wp.any ac rfl ?_ | (with_reducible first | refine Go.mk ?_ | apply ah.of)); conv => whnf) | with_reducible exact rfl | ((with_reducible refine Ov.ok zO ?_); conv => whnf) | (with_reducible refine Ov.sh1 (by with_unfolding_all exact rfl) ?_) | ((first | with_reducible refine Ov.quo (by omega) (by omega) (by omega) (fun _ _ => ?_) | refine zV ?_ | with_reducible refine And.intro zC ?_); conv => whnf) | ((with_reducible refine And.intro ?hb ?_); (case hb => exact zz6); (conv => whnf)) | ((refine gR.a rfl rfl rfl rfl rfl rfl ?hb ?_); (case hb => exact zB); (conv => whnf)) | ((refine gR.b rfl rfl rfl rfl rfl rfl rfl rfl ?hb ?ho ?_); (case hb => exact zB); (case ho => omega); (conv => whnf)) | ((refine gR.c rfl rfl rfl rfl rfl ?hb ?_); (case hb => exact zB); (conv => whnf)) | ((refine gR.d rfl rfl rfl rfl rfl rfl ?hb ?ho ?_); (case hb => exact zB); (case ho => omega); (conv => whnf)) | (with_reducible refine Or.inl ?_) | ((with_reducible refine rL (by omega) ?_); (conv => whnf)) | ((with_reducible refine fF ?_ (fun hn0 => ?_)) <;> (conv => whnf)) | ((with_reducible first | refine ab.pure (dL _ _) rfl rfl ?_ | refine ag.pure (dL _ _) rfl rfl ?_ | refine ab.pure (bH _) rfl rfl ?_ | refine ag.pure (bH _) rfl rfl ?_); conv => whnf) | ((refine aq (fun hc => ?_) (fun hc => ?_)) <;> (try simp only [wz9, iq, cI, t9] at hc) <;> (try (exfalso; omega)) <;> (conv => whnf))))
 all_goals exact .of_eq (by simp only [mP, mQ, iq, cI]; first | rw [if_neg (by omega), if_neg (by omega)] | rw [if_pos (by omega), if_pos (by omega)])
theorem s7 (n : Int) : Pure TC 191 [.i .i64 n] (.b false) := by
 refine Pure.mk' Tryz.func191 rfl rfl zN ?_
 (repeat' (first | ((first | refine Wp.any ac rfl ?_ | (with_reducible first | refine Go.mk ?_ | apply ah.of)); conv => whnf)))
 all_goals exact .b (by simp)
theorem lN (n : Int) : Pure TC 156 [.i .i64 n] (.b false) := by
 refine Pure.mk' Tryz.func156 rfl rfl zN ?_
 (repeat' (first | ((first | refine Wp.any ac rfl ?_ | (with_reducible first | refine Go.mk ?_ | apply ah.of)); conv => whnf)))
 all_goals exact .b (by simp)
theorem ve (a b : Int) : Pure TC 155 [.i .i64 a, .i .i64 b] (.b (decide (a < b))) := by
 refine Pure.mk' Tryz.func155 rfl rfl zN ?_
 (repeat' (first | ((first | refine Wp.any ac rfl ?_ | (with_reducible first | refine Go.mk ?_ | apply ah.of | refine ab.pure (s7 _) rfl rfl ?_)); conv => whnf)))
 all_goals exact .b (by simp; try omega)
def tK (xs : List Int) (t : Int) : Nat := bs (fun k => decide (xs.getD k default < t)) xs.length
def qs (xs : List Int) (t : Int) : Bool := decide (tK xs t < xs.length) && decide (xs.getD (tK xs t) default = t)
theorem jl (xs : List Int) (t : Int) (hlen : xs.length ≤ 4611686018427387903) : Pure TC 115 [.d (am 1 (aF .i64) xs), .i .i64 t] (.tup [.i .i64 (tK xs t), .b (qs xs t)]) := by
 refine Pure.mk' Tryz.func115 rfl rfl zN ?_
 (repeat' (first | ((first | refine Wp.any ac rfl ?_ | (with_reducible first | refine Go.mk ?_ | apply ah.of)); conv => whnf)))
 refine Wp.loopP (ι := Nat × Nat × Nat) (fun k => k.1 ≤ k.2.1 ∧ k.2.1 ≤ xs.length ∧ k.2.1 - k.1 < k.2.2 ∧ bsF (fun k => decide (xs.getD k default < t)) k.2.2 k.1 k.2.1 = tK xs t) (fun k => ⟨⟨Tryz.f115.ntmps, 0⟩, 0, [(0, .d (am 1 (aF .i64) xs)), (1, .i .i64 t), (6, .i .i64 xs.length), (7, .i .i64 k.1), (8, .i .i64 k.2.1)], []⟩) (fun k => k.2.1 - k.1) (0, xs.length, xs.length + 1) ⟨by simp, by simp, by simp, rfl⟩ ?_ ?_
 ·(refine Le.by [] rfl rfl rfl rfl ?_ ?_ <;> (conv => whnf) <;> (repeat' (first | exact trivial | exact ae.rfl rfl | ((with_reducible refine And.intro ?_ ?_) <;> (conv => whnf)))))
 ·rintro ⟨i, j, q⟩ ⟨h1, h2, h3, h4⟩
  dsimp only at h1 h2 h3 h4 ⊢
  (repeat' (first | ((first | refine Wp.any ac rfl ?_ | (with_reducible first | refine Go.mk ?_ | apply ah.of | refine Ov.ok zO ?_)); conv => whnf) | (with_reducible refine Ov.sh1 (by with_unfolding_all exact rfl) ?_) | ((with_reducible first | refine And.intro zC ?_ | refine ab.pure (ve _ _) rfl rfl ?_ | refine ab.pure (lN _) rfl rfl ?_); conv => whnf) | ((refine aq (fun hc => ?_) (fun hc => ?_)) <;> (try simp only [wz9] at hc) <;> (try (exfalso; omega)) <;> (conv => whnf))))
  ·rw [show (((i : Int) + j) / 2).toNat = (i + j) / 2 by omega] at hc
   have hh : decide (xs.getD ((i + j) / 2) default < t) = true := by simpa using hc
   refine ⟨((i + j) / 2 + 1, j, q - 1), ⟨by dsimp only; omega, h2, by dsimp only; omega, ?_⟩, by dsimp only; omega, ?_⟩
   ·rw [← h4]
    obtain ⟨q, rfl⟩ : ∃ r, q = r + 1 := ⟨q - 1, by omega⟩
    rw [bsF, if_pos (by omega), if_pos hh]; rfl
   ·(refine Le.by [] rfl rfl rfl rfl ?_ ?_ <;> (conv => whnf) <;> (repeat' (first | exact trivial | exact ae.rfl rfl | ((with_reducible refine And.intro ?_ ?_) <;> (conv => whnf)))))
  ·rw [show (((i : Int) + j) / 2).toNat = (i + j) / 2 by omega] at hc
   have hh : ¬ decide (xs.getD ((i + j) / 2) default < t) = true := by simpa using hc
   refine ⟨(i, (i + j) / 2, q - 1), ⟨by dsimp only; omega, by dsimp only; omega, by dsimp only; omega, ?_⟩, by dsimp only; omega, ?_⟩
   ·rw [← h4]
    obtain ⟨q, rfl⟩ : ∃ r, q = r + 1 := ⟨q - 1, by omega⟩
    rw [bsF, if_pos (by omega), if_neg hh]; rfl
   ·(refine Le.by [] rfl rfl rfl rfl ?_ ?_ <;> (conv => whnf) <;> (repeat' (first | exact trivial | exact ae.rfl rfl | ((with_reducible refine And.intro ?_ ?_) <;> (conv => whnf)))))
  all_goals rw [th (by omega)] at h4
  all_goals subst h4
  ·exact .of_eq (by simp [qs]; simp_all)
  ·exact .of_eq (by simp [qs]; simp_all)
  ·exact .of_eq (by simp [qs]; intros; omega)
def serB (n : Int) : Bool := decide (1 ≤ n) && decide (n ≤ 4611686018427387903)
theorem ij (n : Int) : Pure TC 113 [.i .i64 n] (.b (serB n)) := by
 refine Pure.mk' Tryz.func113 rfl rfl zN ?_
 (repeat' (first | ((first | refine Wp.any ac rfl ?_ | (with_reducible first | refine Go.mk ?_ | apply ah.of)); conv => whnf) | ((refine aq (fun hc => ?_) (fun hc => ?_)) <;> (try simp only [wz9] at hc) <;> (try (exfalso; omega)) <;> (conv => whnf))))
 all_goals exact .b (by simp [serB]; try omega)
def lR : Int → List Int → Bool
 | _, [] => true
 | l, x :: r => serB x && decide (l < x) && lR x r
def iW (p : Int) (xs : List Int) : Int := if 1 ≤ p ∧ p ≤ 64 ∧ (xs.length : Int) ≤ p ∧ lR 0 xs = true then 0 else 3
theorem fh {α : Type} [Inhabited α] {xs : List α} {k : Nat} (h : k < xs.length) : xs.drop k = xs.getD k default :: xs.drop (k + 1) := by
 rw [List.drop_eq_getElem_cons h]; simp [List.getD, Q0 h]
theorem ju (p : Int) (xs : List Int) : Pure TC 114 [.agg [.i .i64 p, .d (am 1 (aF .i64) xs)]] (.i .i64 (iW p xs)) := by
 refine Pure.mk' Tryz.func114 rfl rfl zN ?_
 (repeat' (first | ((first | refine Wp.any ac rfl ?_ | (with_reducible first | refine Go.mk ?_ | apply ah.of)); conv => whnf) | ((refine aq (fun hc => ?_) (fun hc => ?_)) <;> (try simp only [wz9] at hc) <;> (try (exfalso; omega)) <;> (conv => whnf))))
 ·exact .i (by rw [iW, if_neg (by omega)])
 ·exact .i (by rw [iW, if_neg (by omega)])
 ·exact .i (by rw [iW, if_neg (by omega)])
 refine Wp.loopP (ι := Nat × Int) (fun k => k.1 ≤ xs.length ∧ lR k.2 (xs.drop k.1) = lR 0 xs) (fun k => ⟨⟨Tryz.f114.ntmps, 0⟩, 0, [(3, .i .i64 k.2), (23, .d (am 1 (aF .i64) xs)), (24, .i .i64 xs.length), (25, .i .i64 k.1)], []⟩) (fun k => xs.length - k.1) (0, 0) ⟨by simp, by simp⟩ ?_ ?_
 ·(refine Le.by [] rfl rfl rfl rfl ?_ ?_ <;> (conv => whnf) <;> (repeat' (first | exact trivial | exact ae.rfl rfl | ((with_reducible refine And.intro ?_ ?_) <;> (conv => whnf)))))
 ·rintro ⟨k, l⟩ ⟨h1, h2⟩
  dsimp only at h1 h2 ⊢
  (repeat' (first | ((first | refine Wp.any ac rfl ?_ | (with_reducible first | refine Go.mk ?_ | apply ah.of | refine Ov.ok zO ?_ | refine And.intro zC ?_ | refine ab.pure (ij _) rfl rfl ?_)); conv => whnf) | ((refine aq (fun hc => ?_) (fun hc => ?_)) <;> (try simp only [wz9] at hc) <;> (try (exfalso; omega)) <;> (conv => whnf))))
  all_goals try simp only [Q13] at *
  ·rw [fh (by omega), lR, hc] at h2
   exact .i (by rw [iW, if_neg (by rw [← h2]; simp)])
  ·rw [fh (by omega), lR, decide_eq_false (by omega)] at h2
   exact .i (by rw [iW, if_neg (by rw [← h2]; simp)])
  ·rename_i hs
   rw [fh (by omega), lR, hs, decide_eq_true (by omega)] at h2
   refine ⟨(k + 1, xs.getD k default), ⟨by dsimp only; omega, by simpa using h2⟩, by dsimp only; omega, ?_⟩
   (refine Le.by [] rfl rfl rfl rfl ?_ ?_ <;> (conv => whnf) <;> (repeat' (first | exact trivial | exact ae.rfl rfl | ((with_reducible refine And.intro ?_ ?_) <;> (conv => whnf)))))
  ·rw [List.drop_eq_nil_of_le (by omega), lR] at h2
   exact .i (by rw [iW, if_pos ⟨by omega, by omega, by omega, h2.symm⟩])
structure Cel where
 pol : Int
 key : List Int
 tat : Int
 held : List Int
 deriving Inhabited
def Cel.D (c : Cel) : List D := [.val (.int .i64 c.pol), am 1 (aF .u8) c.key, .val (.int .i64 c.tat), am 1 (aF .i64) c.held]
theorem mc (xs : List Int) (hn : xs.length ≤ 16777216) : Fun TC 88 0 [.d (am 1 (aF .i64) xs)] [] 1 (.sl 0 1 0 xs.length) [(0, some (aE 2 1 (aF .i64) xs))] := by
 refine Fun.mk' Tryz.func88 rfl rfl zN (by decide) ?_
 (repeat' (first | ((first | refine Wp.any ac rfl ?_ | (with_reducible first | refine Go.mk ?_ | apply ah.of | refine And.intro zC ?_)); conv => whnf) | ((with_reducible refine And.intro ?hb ?_); (case hb => exact zz6); (conv => whnf)) | ((with_reducible refine fF ?_ (fun hn0 => ?_)) <;> (conv => whnf))))
 ·refine af.of [1] rfl (by simp) rfl ?_ ?_
  ·exact .of_eq (congrArg (SV.sl _ _ _) (Q19 _))
  ·refine ⟨⟨⟨rfl, rfl, Q19 _⟩, fun i hi => ?_⟩, trivial⟩
   simp [bG]
 ·obtain rfl := List.eq_nil_of_length_eq_zero hn0
  refine af.virt 2 1 (fun i => (aF .i64) (([] : List Int).getD i default)) (by decide) (by decide) ?_
  refine af.of [0] rfl (by simp) rfl ?_ ?_
  ·exact .of_eq rfl
  ·exact ⟨⟨⟨rfl, rfl, rfl⟩, fun i hi => rfl⟩, trivial⟩
theorem iP (xs : List Cel) (hn : xs.length ≤ 16777216) : Fun TC 86 0 [.d (am 4 Cel.D xs)] [] 1 (.sl 0 4 0 xs.length) [(0, some (aE 112 4 Cel.D xs))] := by
 refine Fun.mk' Tryz.func86 rfl rfl zN (by decide) ?_
 (repeat' (first | ((first | refine Wp.any ac rfl ?_ | (with_reducible first | refine Go.mk ?_ | apply ah.of | refine And.intro zC ?_)); conv => whnf) | ((with_reducible refine And.intro ?hb ?_); (case hb => exact zz6); (conv => whnf)) | ((with_reducible refine fF ?_ (fun hn0 => ?_)) <;> (conv => whnf))))
 ·refine af.of [1] rfl (by simp) rfl ?_ ?_
  ·exact .of_eq (congrArg (SV.sl _ _ _) (Q19 _))
  ·refine ⟨⟨⟨rfl, rfl, Q19 _⟩, fun i hi => ?_⟩, trivial⟩
   simp [bG]
 ·obtain rfl := List.eq_nil_of_length_eq_zero hn0
  refine af.virt 112 4 (fun i => Cel.D (([] : List Cel).getD i default)) (by decide) (by decide) ?_
  refine af.of [0] rfl (by simp) rfl ?_ ?_
  ·exact .of_eq rfl
  ·exact ⟨⟨⟨rfl, rfl, rfl⟩, fun i hi => rfl⟩, trivial⟩
def cM (p : Int) (key : List Int) : Int := if p < 0 ∨ 32 ≤ p then 1 else if 255 < key.length then 2 else 0
def bN (p : Int) (key : List Int) : List Int := if cM p key = 0 then p :: key else []
theorem fL (p : Int) (key : List Int) : Pure TC 65 [.i .i64 p, .d (am 1 (aF .u8) key)] (.tup [.d (am 1 (aF .u8) (bN p key)), .i .i64 (cM p key)]) := by
 refine Pure.mk' Tryz.func65 rfl rfl zN ?_
 (repeat' (first | ((first | refine Wp.any ac rfl ?_ | (with_reducible first | refine Go.mk ?_ | apply ah.of | refine Ov.ok zO ?_ | refine And.intro zC ?_)); conv => whnf) | ((with_reducible refine And.intro ?hb ?_); (case hb => exact zz6); (conv => whnf)) | ((refine aq (fun hc => ?_) (fun hc => ?_)) <;> (try simp only [wz9] at hc) <;> (try (exfalso; omega)) <;> (conv => whnf))))
 ·have hE : cM p key = 1 := by rw [cM, if_pos (by omega)]
  rw [bN, hE]; exact .tup (.cons .nil (.cons (.rfl _) .nil))
 ·have hE : cM p key = 1 := by rw [cM, if_pos (by omega)]
  rw [bN, hE]; exact .tup (.cons .nil (.cons (.rfl _) .nil))
 ·have hE : cM p key = 2 := by rw [cM, if_neg (by omega), if_pos (by omega)]
  rw [bN, hE]; exact .tup (.cons .nil (.cons (.rfl _) .nil))
 ·have hE : cM p key = 0 := by rw [cM, if_neg (by omega), if_neg (by omega)]
  rw [bN, hE, Nat.add_comm 1]
  refine .tup (.cons (SV.Le.sl fun i hi => ?_) (.cons (.rfl _) .nil))
  rcases i with _ | i
  ·rfl
  ·simp [bG]
def bM (ps : List Pol) (c : Cel) (now : Int) : Bool := if (ps.getD c.pol.toNat default).kind = 2 then (c.held.length : Int) == 0 else decide (c.tat ≤ now)
@[reducible] def Cel.S (c : Cel) : SV := .agg [.i .i64 c.pol, .d (am 1 (aF .u8) c.key), .i .i64 c.tat, .d (am 1 (aF .i64) c.held)]
theorem tk (ps : List Pol) (c : Cel) (now : Int) (h0 : 0 ≤ c.pol) (h1 : c.pol < ps.length) : Pure TC 51 [.d (am 4 Pol.D ps), c.S, .i .i64 now] (.b (bM ps c now)) := by
 refine Pure.mk' Tryz.func51 rfl rfl zN ?_
 (repeat' (first | ((first | refine Wp.any ac rfl ?_ | (with_reducible first | refine Go.mk ?_ | apply ah.of | refine And.intro zC ?_)); conv => whnf) | ((refine aq (fun hc => ?_) (fun hc => ?_)) <;> (try simp only [wz9] at hc) <;> (try (exfalso; omega)) <;> (conv => whnf))))
 ·exact .b (by rw [bM, if_pos hc])
 ·exact .b (by rw [bM, if_neg hc])
structure Rpl where
 e : Int
 g : Bool
 left : Int
 wait : Int
 serial : Int
 now : Int
 deriving Inhabited
@[reducible] def Rpl.S (r : Rpl) : SV := .agg [.i .i64 r.e, .b r.g, .i .i64 r.left, .i .i64 r.wait, .i .i64 r.serial, .i .i64 r.now]
@[reducible] def Pol.S (p : Pol) : SV := .agg [.i .u8 p.kind, .i .i64 p.T, .i .i64 p.tau, .i .i64 p.permits]
def jW (p : Pol) (c : Cel) (now n : Int) : Rpl := let a := v5 p.T p.tau c.tat now n; ⟨0, a.g, a.left, a.wait, 0, now⟩
def mJ (p : Pol) (c : Cel) (now n : Int) : Cel := ⟨c.pol, c.key, (v5 p.T p.tau c.tat now n).tat, c.held⟩
theorem qh (p : Pol) (c : Cel) (now n : Int) : Pure TC 54 [p.S, c.S, .i .i64 now, .i .i64 n] (.tup [(jW p c now n).S, (mJ p c now n).S]) := by
 refine Pure.mk' Tryz.func54 rfl rfl zN ?_
 (repeat' (first | ((first | refine Wp.any ac rfl ?_ | (with_reducible first | refine Go.mk ?_ | apply ah.of)); conv => whnf) | with_reducible exact rfl | ((refine zV ?_); conv => whnf) | (with_reducible refine Or.inl ?_) | ((with_reducible refine ab.pure (nv _ _ _ _ _) rfl rfl ?_); conv => whnf)))
 exact .of_eq rfl
def lY (p : Pol) (c : Cel) (now : Int) : Rpl := if p.kind = 2 then ⟨0, false, p.permits - c.held.length, 0, 0, 0⟩ else ⟨0, false, if qu p.T p.tau [c.tat, now] = 0 then cJ p.T p.tau c.tat now else 0, t6 c.tat now, 0, now⟩
theorem mI (p : Pol) (c : Cel) (now : Int) (h1 : p.kind = 2 → -4611686018427387904 ≤ p.permits ∧ p.permits ≤ 4611686018427387903) (h3 : c.held.length ≤ 4611686018427387903) : Pure TC 53 [p.S, c.S, .i .i64 now] (lY p c now).S := by
 refine Pure.mk' Tryz.func53 rfl rfl zN ?_
 (repeat' (first | ((first | refine Wp.any ac rfl ?_ | (with_reducible first | refine Go.mk ?_ | apply ah.of | refine Ov.ok zO ?_ | refine ab.pure (sn _ _ _ _) rfl rfl ?_ | refine ab.pure (t7 _ _) rfl rfl ?_)); conv => whnf) | ((refine aq (fun hc => ?_) (fun hc => ?_)) <;> (try simp only [wz9] at hc) <;> (try (exfalso; omega)) <;> (conv => whnf))))
 ·exact .of_eq (by rw [lY, if_pos hc])
 ·exact .of_eq (by rw [lY, if_neg hc])
end Go.Proofs.YtpdhdnhkhidmpaaGreat
