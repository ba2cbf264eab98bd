/- Parts of the proof, one behind the other: P0, P1, Sx1, Sx2, Sx3, Sx3b, Sx4. Lemmas and contracts of functions; no condition of its own. -/
import Derived.WalkKit
import Derived.WalkSpells
import Derived.WalkLawsBesides
import Derived.Lib.Hide
import Derived.Laws.CopyRow
import Derived.Laws.CopyOwn
import Derived.Laws.AppendOwn
import Derived.Lib.AppendZerosOnto
import Derived.Lib.Overlaps
import Derived.Deep.RegionLaw
import Derived.Deep.MidRow
import Derived.Laws.BytesString
import Derived.Laws.Cells
set_option linter.unusedVariables false
set_option linter.unusedSimpArgs false
namespace Go.Proofs.YteallmlkkcjblaaGreatDoor
open Go.RowKit
def Kp (w w' : World) : Prop := Below w.heap.size w w'
structure Kq (S : Nat → Prop) (w w' : World) : Prop where
  os : w'.os = w.os
  tape : w'.tape = w.tape
  output : w'.output = w.output
  size : w.heap.size ≤ w'.heap.size
  block : ∀ k, k < w.heap.size → ¬ S k → w'.heap[k]? = w.heap[k]?
theorem Kp.refl (w : World) : Kp w w := Below.refl _ _
theorem Kp.size {w w' : World} (h : Kp w w') : w.heap.size ≤ w'.heap.size := Below.size h
theorem Kp.trans {a b c : World} (h : Kp a b) (k : Kp b c) : Kp a c := Below.trans h (Below.mono k h.size)
theorem Kp.alloc {a w : World} (h : Kp a w) (o : Obj) : Kp a (w.alloc o) := Below.alloc h h.size o
theorem Kp.setCell {a w : World} (h : Kp a w) {p : Addr} (hp : a.heap.size ≤ p.block) (u : Value) : Kp a (w.setCell p u) := Below.setCell h hp u
theorem Kp.block {w w' : World} (h : Kp w w') (k : Nat) (hk : k < w.heap.size) : w'.heap[k]? = w.heap[k]? := Below.block h k hk
theorem Kp.cell {w w' : World} (h : Kp w w') {p : Addr} (hp : p.block < w.heap.size) : w'.cell? p = w.cell? p := Below.cell h hp
theorem Kp.frozen {w w' : World} (h : Kp w w') {p : Addr} (hp : p.block < w.heap.size) : w'.frozen? p = w.frozen? p := Below.frozen h hp
theorem Kp.cellB {w w' : World} (h : Kp w w') (b : Nat) (hb : b < w.heap.size) : ∀ o, w'.cell? ⟨b, o, none⟩ = w.cell? ⟨b, o, none⟩ := fun _ => h.cell hb
theorem Kp.frozenB {w w' : World} (h : Kp w w') (b : Nat) (hb : b < w.heap.size) : ∀ o, w'.frozen? ⟨b, o, none⟩ = w.frozen? ⟨b, o, none⟩ := fun _ => h.frozen hb
theorem Kp.kq {w w' : World} (h : Kp w w') (S : Nat → Prop) : Kq S w w' := ⟨h.os, h.tape, h.output, Below.size h, fun k hk _ => Below.block h k hk⟩
theorem Kp.of {w w' : World} (h : Below w.heap.size w w') : Kp w w' := h
theorem Kq.refl (S : Nat → Prop) (w : World) : Kq S w w := ⟨rfl, rfl, rfl, Nat.le_refl _, fun _ _ _ => rfl⟩
theorem Kq.trans {S : Nat → Prop} {a b c : World} (h : Kq S a b) (k : Kq S b c) : Kq S a c :=
  ⟨k.os.trans h.os, k.tape.trans h.tape, k.output.trans h.output, Nat.le_trans h.size k.size, fun i hi hs => (k.block i (Nat.lt_of_lt_of_le hi h.size) hs).trans (h.block i hi hs)⟩
theorem Kq.trans' {S T : Nat → Prop} {a b c : World} (h : Kq S a b) (k : Kq T b c) (hT : ∀ i, T i → i < a.heap.size → S i) : Kq S a c :=
  ⟨k.os.trans h.os, k.tape.trans h.tape, k.output.trans h.output, Nat.le_trans h.size k.size, fun i hi hs => (k.block i (Nat.lt_of_lt_of_le hi h.size) (fun t => hs (hT i t hi))).trans (h.block i hi hs)⟩
theorem Kq.kp {S : Nat → Prop} {w w' : World} (h : Kq S w w') (hS : ∀ i, S i → w.heap.size ≤ i) : Kp w w' :=
  ⟨h.os, h.tape, h.output, h.size, fun k hk => h.block k hk (fun s => by have := hS k s; omega)⟩
def Agree (D : Nat → Prop) (w w' : World) : Prop := w.heap.size ≤ w'.heap.size ∧ ∀ k, D k → k < w.heap.size → w'.heap[k]? = w.heap[k]?
theorem Agree.refl (D : Nat → Prop) (w : World) : Agree D w w := ⟨Nat.le_refl _, fun _ _ _ => rfl⟩
abbrev Rep (α : Type) := (Nat → Prop) → World → List Value → α → Prop
structure Rep.Good {α : Type} (R : Rep α) : Prop where
  mono : ∀ {D D' : Nat → Prop} {w vs x}, (∀ k, D k → D' k) → R D w vs x → R D' w vs x
  agree : ∀ {D : Nat → Prop} {w w' vs x}, Agree D w w' → R D w vs x → R D w' vs x
  one : ∀ {D : Nat → Prop} {w vs x}, R D w vs x → ∀ u ∈ vs, u.oneCell' = true
  bound : ∀ {D : Nat → Prop} {w vs x}, R D w vs x → R (fun k => D k ∧ k < w.heap.size) w vs x
def Flat {α : Type} (cs : α → List Value) : Rep α := fun _ _ vs x => vs = cs x
theorem Flat.good {α : Type} (cs : α → List Value) (h1 : ∀ x, ∀ u ∈ cs x, u.oneCell' = true) : Rep.Good (Flat cs) := ⟨fun _ h => h, fun _ h => h, fun h => by unfold Flat at h; rw [h]; exact h1 _, fun h => h⟩
def chunk (F : List Value) (sz k : Nat) : List Value := (F.drop (k * sz)).take sz
def Arr {α : Type} (sz : Nat) (R : Rep α) (D : Nat → Prop) (w : World) (v : Value) (xs : List α) : Prop :=
  ∃ a cap F, v = .slice a xs.length cap ∧ xs.length ≤ cap ∧ cap ≤ maxLen ∧ F.length = xs.length * sz ∧
    (∀ j (h : j < F.length), ∃ b o, a = some ⟨b, o, none⟩ ∧ D b ∧ w.cell? ⟨b, o + j, none⟩ = some F[j]) ∧
    ∀ k (h : k < xs.length), R D w (chunk F sz k) xs[k]
theorem Arr.mono {α : Type} {sz : Nat} {R : Rep α} (hR : R.Good) {D D' : Nat → Prop} {w : World} {v : Value} {xs : List α} (hd : ∀ k, D k → D' k) (h : Arr sz R D w v xs) : Arr sz R D' w v xs := by
  obtain ⟨a, cap, F, h1, h2, h3, h4, h5, h6⟩ := h
  exact ⟨a, cap, F, h1, h2, h3, h4, fun j hj => let ⟨b, o, e, hb, hc⟩ := h5 j hj; ⟨b, o, e, hd _ hb, hc⟩, fun k hk => hR.mono hd (h6 k hk)⟩
theorem chunk_length {F : List Value} {sz k n : Nat} (hF : F.length = n * sz) (hk : k < n) : (chunk F sz k).length = sz := by
  have : (k + 1) * sz ≤ n * sz := Nat.mul_le_mul_right _ hk
  rw [Nat.add_mul] at this
  simp only [chunk, List.length_take, List.length_drop]; omega
theorem Arr.at {α : Type} {sz : Nat} {R : Rep α} {D : Nat → Prop} {w : World} {a : Option Addr} {n cap : Nat} {xs : List α} (h : Arr sz R D w (.slice a n cap) xs) {k : Nat} (hk : k < xs.length) (hs : 0 < sz) :
    ∃ b o vs, a = some ⟨b, o, none⟩ ∧ D b ∧ b < w.heap.size ∧ vs.length = sz ∧ R D w vs xs[k] ∧ ∀ j, j < sz → w.cell? ⟨b, o + k * sz + j, none⟩ = vs[j]? := by
  obtain ⟨a', cap', F, h1, h2, h3, h4, h5, h6⟩ := h
  cases h1
  have hl : (k + 1) * sz ≤ xs.length * sz := Nat.mul_le_mul_right _ hk
  rw [Nat.add_mul, Nat.one_mul] at hl
  obtain ⟨b, o, rfl, hb, hc0⟩ := h5 (k * sz) (by omega)
  refine ⟨b, o, chunk F sz k, rfl, hb, World.block_lt_of_cell? w _ hc0, chunk_length h4 hk, h6 k hk, fun j hj => ?_⟩
  obtain ⟨b', o', e, _, hc⟩ := h5 (k * sz + j) (by omega)
  cases e
  rw [Nat.add_assoc, hc]
  simp only [chunk, List.getElem?_take, hj, if_true, List.getElem?_drop]
  rw [List.getElem?_eq_getElem]
theorem Arr.val {α : Type} {sz : Nat} {R : Rep α} {D : Nat → Prop} {w : World} {v : Value} {xs : List α} (h : Arr sz R D w v xs) :
    ∃ a cap, v = .slice a xs.length cap ∧ xs.length ≤ cap ∧ cap ≤ maxLen := by
  obtain ⟨a, cap, F, h1, h2, h3, _⟩ := h
  exact ⟨a, cap, h1, h2, h3⟩
theorem Arr.nil {α : Type} {sz : Nat} {R : Rep α} {D : Nat → Prop} {w : World} (a : Option Addr) (cap : Nat) (hc : cap ≤ maxLen) : Arr sz R D w (.slice a 0 cap) ([] : List α) :=
  ⟨a, cap, [], rfl, Nat.zero_le _, hc, by simp, fun j h => absurd h (by simp), fun k h => absurd h (by simp)⟩
def Ints (q : IntKind) : (Nat → Prop) → World → Value → List Int → Prop := Arr 1 (Flat fun n : Int => [.int q n])
theorem ints_one (q : IntKind) : ∀ x : Int, ∀ u ∈ [Value.int q x], u.oneCell' = true := by intro x u hu; simp at hu; subst hu; rfl
theorem Ints.mono {q : IntKind} {D D' : Nat → Prop} {w : World} {v : Value} {xs : List Int} (hd : ∀ k, D k → D' k) (h : Ints q D w v xs) : Ints q D' w v xs := Arr.mono (Flat.good _ (ints_one q)) hd h
theorem Ints.at {q : IntKind} {D : Nat → Prop} {w : World} {a : Option Addr} {n cap : Nat} {xs : List Int} (h : Ints q D w (.slice a n cap) xs) {k : Nat} (hk : k < xs.length) :
    ∃ b o, a = some ⟨b, o, none⟩ ∧ D b ∧ b < w.heap.size ∧ w.cell? ⟨b, o + k, none⟩ = some (.int q xs[k]) := by
  obtain ⟨b, o, vs, rfl, hb, hlt, hl, hr, hc⟩ := Arr.at h hk (by omega)
  have := hc 0 (by omega)
  rw [hr] at this
  exact ⟨b, o, rfl, hb, hlt, by simpa using this⟩
theorem Ints.val {q : IntKind} {D : Nat → Prop} {w : World} {v : Value} {xs : List Int} (h : Ints q D w v xs) : ∃ a cap, v = .slice a xs.length cap ∧ xs.length ≤ cap ∧ cap ≤ maxLen := Arr.val h
end Go.Proofs.YteallmlkkcjblaaGreatDoor

namespace Go.Proofs.YteallmlkkcjblaaGreatDoor
open Go.RowKit
section
variable {P : Program}
theorem run_clearZ (w : World) (t ty e : TypeId) (i : TypeInfo) (z : Value) (g o n cap : Nat) (cur : Array Value) (et : TypeId)
    (hu : P.underlying t = some (.slice e)) (hi : P.info? e = some i) (hz : i.zero = some z) (hs : z.cells.size = i.size) (h1 : ∀ u ∈ z.cells.toList, u.oneCell' = true)
    (hg : w.heap[g]? = some (.cells cur et (0, 0))) (hfit : o + n * i.size ≤ cur.size) :
    (Builtin.clear_ #[t] ty #[.slice (some ⟨g, o, none⟩) n cap]).run P w =
      .ok (.tuple #[]) (w.setRow g (cur.toList.take o ++ (Builtin.zeroCells z.cells n).toList ++ cur.toList.drop (o + n * i.size)).toArray) := by
  have hl : (Builtin.zeroCells z.cells n).toList.length = n * i.size := by simp [Builtin.zeroCells, hs]
  by_cases hn : n = 0
  · subst hn
    have he : (Builtin.zeroCells z.cells 0).toList = [] := List.eq_nil_of_length_eq_zero (by simpa using hl)
    simp [Builtin.clear_, run_underlying hu, he, setRow_self w g cur et (0, 0) hg]
  · have hst := run_storeCells_at P g o et (Builtin.zeroCells z.cells n).toList 0 cur w hg (by rw [hl]; simpa using hfit) (by
      intro u hu'
      simp [Builtin.zeroCells] at hu'
      obtain ⟨j, hj, rfl⟩ := hu'
      have hp : 0 < z.cells.size := by
        rcases Nat.eq_zero_or_pos z.cells.size with h | h
        · rw [h] at hj; simp at hj
        · exact h
      have hlt : j % z.cells.size < z.cells.size := Nat.mod_lt _ hp
      refine h1 _ ?_
      rw [getElem!_pos z.cells _ hlt]
      exact Array.getElem_mem_toList hlt)
    rw [hl] at hst
    cases n with
    | zero => exact absurd rfl hn
    | succ n =>
      simp only [Nat.add_zero, List.append_assoc] at hst
      simp [Builtin.clear_, run_underlying hu, zeroValue, typeInfo, hi, hz, hst, Result.andThen]
end
structure Src (w : World) (v : Value) (n sz : Nat) (F : List Value) : Prop where
  ex : ∃ a cap, v = .slice a n cap ∧ n ≤ cap ∧ ∀ j (h : j < F.length), ∃ b o, a = some ⟨b, o, none⟩ ∧ w.cell? ⟨b, o + j, none⟩ = some F[j]
  len : F.length = n * sz
  one : ∀ u ∈ F, u.oneCell' = true
section
variable {P : Program}
end
def Reps {α : Type} (R : Rep α) (D : Nat → Prop) (w : World) (sz : Nat) (F : List Value) (xs : List α) : Prop :=
  F.length = xs.length * sz ∧ ∀ k (hk : k < xs.length), R D w (chunk F sz k) xs[k]
theorem Reps.nil {α : Type} {R : Rep α} {D : Nat → Prop} {w : World} {sz : Nat} : Reps R D w sz [] ([] : List α) := ⟨by simp, fun k hk => by simp at hk⟩
theorem Reps.mono {α : Type} {sz : Nat} {R : Rep α} (hR : R.Good) {D D' : Nat → Prop} {w : World} {F : List Value} {xs : List α} (hd : ∀ k, D k → D' k) (h : Reps R D w sz F xs) : Reps R D' w sz F xs := ⟨h.1, fun k hk => hR.mono hd (h.2 k hk)⟩
def Own {α : Type} (sz : Nat) (e : TypeId) (R : Rep α) (D : Nat → Prop) (base : Nat) (w : World) (v : Value) (xs : List α) : Prop :=
  ∃ F, w.ownsRow base e sz v xs.length F ∧ Reps R (fun b => D b ∧ v.ownBlock ≠ some b) w sz F xs
end Go.Proofs.YteallmlkkcjblaaGreatDoor

namespace Go.Proofs.YteallmlkkcjblaaGreatDoor
open Go.RowKit
inductive D where
  | val (v : Value)
  | sl (esz n : Nat) (f : Nat → List D)
  | ref (cs : List D) (off : Nat)
  | fn (f : Fn) (caps : List D)
  | slx (esz n : Nat) (f : Nat → List D)
  | fsl (lo e esz n : Nat) (f : Nat → List D)
  | low (b : Nat) (x : D)
  | eq (v : Value) (x : D)
inductive SV where
  | any
  | d (x : D)
  | ptr (l off : Nat)
  | rp (l esz i off : Nat)
  | sl (l esz off len : Nat)
  | agg (vs : List SV)
  | tup (vs : List SV)
  | fn (f : Fn) (caps : List SV)
  | iref (cs : List SV) (off : Nat)
inductive Blk where
  | cells (cs : List SV)
  | row (e : TypeId) (esz n : Nat) (f : Nat → List D)
  | cf (m n : Nat) (g : Nat → SV)
  | obj (b m n : Nat) (p : Obj → (Nat → Value) → Prop) (g : Nat → SV)
inductive SV.Lt (m : Nat) : SV → Prop
  | any : SV.Lt m .any
  | d (x : D) : SV.Lt m (.d x)
  | ptr (l off : Nat) (h : l < m) : SV.Lt m (.ptr l off)
  | rp (l esz i off : Nat) (h : l < m) : SV.Lt m (.rp l esz i off)
  | sl (l esz off len : Nat) (h : l < m) : SV.Lt m (.sl l esz off len)
  | agg (vs : List SV) (h : ∀ x ∈ vs, SV.Lt m x) : SV.Lt m (.agg vs)
  | tup (vs : List SV) (h : ∀ x ∈ vs, SV.Lt m x) : SV.Lt m (.tup vs)
  | fn (f : Fn) (cs : List SV) (h : ∀ x ∈ cs, SV.Lt m x) : SV.Lt m (.fn f cs)
  | iref (cs : List SV) (off : Nat) (h : ∀ x ∈ cs, SV.Lt m x) : SV.Lt m (.iref cs off)
mutual
def SV.ltB (m : Nat) : SV → Bool
  | .any => true
  | .d _ => true
  | .ptr l _ => Nat.blt l m
  | .rp l _ _ _ => Nat.blt l m
  | .sl l _ _ _ => Nat.blt l m
  | .agg vs => SV.ltL m vs
  | .tup vs => SV.ltL m vs
  | .fn _ cs => SV.ltL m cs
  | .iref cs _ => SV.ltL m cs
def SV.ltL (m : Nat) : List SV → Bool
  | [] => true
  | x :: r => SV.ltB m x && SV.ltL m r
end
mutual
theorem SV.Lt.of {m : Nat} : ∀ {x : SV}, SV.ltB m x = true → SV.Lt m x
  | .any, _ => .any
  | .d _, _ => .d _
  | .ptr _ _, h => .ptr _ _ (by simpa [SV.ltB] using h)
  | .rp _ _ _ _, h => .rp _ _ _ _ (by simpa [SV.ltB] using h)
  | .sl _ _ _ _, h => .sl _ _ _ _ (by simpa [SV.ltB] using h)
  | .agg _, h => .agg _ (SV.Lt.ofL (by simpa [SV.ltB] using h))
  | .tup _, h => .tup _ (SV.Lt.ofL (by simpa [SV.ltB] using h))
  | .fn _ _, h => .fn _ _ (SV.Lt.ofL (by simpa [SV.ltB] using h))
  | .iref _ _, h => .iref _ _ (SV.Lt.ofL (by simpa [SV.ltB] using h))
theorem SV.Lt.ofL {m : Nat} : ∀ {xs : List SV}, SV.ltL m xs = true → ∀ x ∈ xs, SV.Lt m x
  | [], _, x, hx => by simp at hx
  | y :: r, h, x, hx => by
    simp only [SV.ltL, Bool.and_eq_true] at h
    have h1 : SV.Lt m y := SV.Lt.of h.1
    have h2 : ∀ x ∈ r, SV.Lt m x := SV.Lt.ofL h.2
    rcases List.mem_cons.1 hx with e | hx
    · rw [e]; exact h1
    · exact h2 x hx
end


structure NT where
  n : Nat
  m : Nat
structure St where
  nt : NT
  nx : Nat
  fr : List (Nat × SV)
  hp : List (Nat × Option Blk)
structure Env where
  ρ : Nat → Nat
  κ : Nat → Nat
  Im : Nat → Prop
def lk : List (Nat × SV) → Nat → SV
  | [], _ => .any
  | (n, v) :: r, k => bif Nat.beq n k then v else lk r k
def lkh : List (Nat × Option Blk) → Nat → Option Blk
  | [], _ => none
  | (n, b) :: r, k => bif Nat.beq n k then b else lkh r k
theorem lk_cons (n : Nat) (v : SV) (r : List (Nat × SV)) (k : Nat) : lk ((n, v) :: r) k = if n = k then v else lk r k := by
  show (bif Nat.beq n k then v else lk r k) = _
  by_cases h : n = k
  · subst h; simp
  · have : Nat.beq n k = false := by cases hb : Nat.beq n k with | true => exact absurd (Nat.eq_of_beq_eq_true hb) h | false => rfl
    simp [this, h]
theorem lkh_cons (n : Nat) (v : Option Blk) (r : List (Nat × Option Blk)) (k : Nat) : lkh ((n, v) :: r) k = if n = k then v else lkh r k := by
  show (bif Nat.beq n k then v else lkh r k) = _
  by_cases h : n = k
  · subst h; simp
  · have : Nat.beq n k = false := by cases hb : Nat.beq n k with | true => exact absurd (Nat.eq_of_beq_eq_true hb) h | false => rfl
    simp [this, h]
inductive RD (w : World) (Im : Nat → Prop) : D → Value → Prop
  | val (v : Value) (h : v.oneCell' = true) : RD w Im (.val v) v
  | sl (esz n : Nat) (f : Nat → List D) (a : Option Addr) (cap : Nat) (g : Nat → Nat → Value)
      (hc : n ≤ cap) (hm : cap ≤ maxLen) (hl : ∀ i, i < n → (f i).length = esz)
      (ha : 0 < n * esz → ∃ b o, a = some ⟨b, o, none⟩ ∧ Im b ∧ ∀ i j, i < n → j < esz → w.cell? ⟨b, o + i * esz + j, none⟩ = some (g i j))
      (hg : ∀ i j (_ : i < n) (hj : j < (f i).length), RD w Im ((f i)[j]) (g i j)) : RD w Im (.sl esz n f) (.slice a n cap)
  | fsl (lo e esz n : Nat) (f : Nat → List D) (a : Option Addr) (cap : Nat) (g : Nat → Nat → Value)
      (hc : n ≤ cap) (hm : cap ≤ maxLen) (hl : ∀ i, i < n → (f i).length = esz)
      (ha : 0 < n * esz → ∃ b us, a = some ⟨b, 0, none⟩ ∧ (Im b ∧ lo ≤ b) ∧ w.heap[b]? = some (.cells us e (0, 0)) ∧ n * esz ≤ us.size ∧ ∀ i j, i < n → j < esz → us.getD (i * esz + j) undef = g i j)
      (hg : ∀ i j (_ : i < n) (hj : j < (f i).length), RD w Im ((f i)[j]) (g i j)) : RD w Im (.fsl lo e esz n f) (.slice a n cap)
  | low (b : Nat) (x : D) (v : Value) (hb : Im b) (h : RD w Im x v) : RD w Im (.low b x) v
  | eq (v : Value) (x : D) (h : RD w Im x v) : RD w Im (.eq v x) v
  | ref (cs : List D) (off b o : Nat) (g : Nat → Value) (hb : Im b)
      (hcell : ∀ j, j < cs.length → w.cell? ⟨b, o + j, none⟩ = some (g j))
      (hg : ∀ j (hj : j < cs.length), RD w Im cs[j] (g j)) : RD w Im (.ref cs off) (.pointer (some ⟨b, o + off, none⟩))
  | fn (f : Fn) (caps : List D) (vs : Array Value) (hs : vs.size = caps.length) (hg : ∀ j (hj : j < caps.length), RD w Im caps[j] (vs.getD j undef)) :
      RD w Im (.fn f caps) (.func f #[] vs)
  | slx (esz n : Nat) (f : Nat → List D) (a : Option Addr) (h : RD w Im (.sl esz n f) (.slice a n n)) : RD w Im (.slx esz n f) (.slice a n n)
theorem RD.mono {w w' : World} {Im Im' : Nat → Prop} {d : D} {v : Value} (hI : ∀ b, Im b → Im' b) (hw : ∀ b, Im b → w'.heap[b]? = w.heap[b]?) (h : RD w Im d v) : RD w' Im' d v := by
  induction h with
  | val v h => exact .val v h
  | sl esz n f a cap g hc hm hl ha hg ih =>
    exact .sl esz n f a cap g hc hm hl (fun h0 => let ⟨b, o, e, hb, hcell⟩ := ha h0; ⟨b, o, e, hI _ hb, fun i j hi hj => by rw [World.cell?_of_block (hw b hb)]; exact hcell i j hi hj⟩) ih
  | fsl lo e esz n f a cap g hc hm hl ha hg ih =>
    exact .fsl lo e esz n f a cap g hc hm hl (fun h0 => let ⟨b, us, e1, hb, h1, h2⟩ := ha h0; ⟨b, us, e1, ⟨hI _ hb.1, hb.2⟩, (hw b hb.1).trans h1, h2⟩) ih
  | low b x v hb h ih => exact .low b x v (hI _ hb) ih
  | eq v x h ih => exact .eq v x ih
  | ref cs off b o g hb hcell hg ih =>
    exact .ref cs off b o g (hI _ hb) (fun j hj => by rw [World.cell?_of_block (hw b hb)]; exact hcell j hj) ih
  | fn f caps vs hs hg ih => exact .fn f caps vs hs ih
  | slx esz n f a h ih => exact .slx esz n f a ih
theorem RD.one {w : World} {Im : Nat → Prop} {d : D} {v : Value} (h : RD w Im d v) : v.oneCell' = true := by
  induction h with
  | val v h => exact h
  | low b x v hb h ih => exact ih
  | eq v x h ih => exact ih
  | _ => rfl
inductive RS (E : Env) (nx : Nat) (w : World) : SV → Value → Prop
  | any (v : Value) : RS E nx w .any v
  | d (x : D) (v : Value) (h : RD w E.Im x v) : RS E nx w (.d x) v
  | ptr (l off : Nat) (hl : l < nx) : RS E nx w (.ptr l off) (.pointer (some ⟨E.ρ l, off, none⟩))
  | rp (l esz i off : Nat) (hl : l < nx) : RS E nx w (.rp l esz i off) (.pointer (some ⟨E.ρ l, i * esz + off, none⟩))
  | sl (l esz off len : Nat) (a : Option Addr) (cap : Nat) (hl : l < nx) (hc : len ≤ cap) (hm : cap ≤ maxLen)
      (ha : 0 < len → a = some ⟨E.ρ l, off * esz, none⟩)
      (h0 : off = 0 → cap = E.κ l ∧ (0 < cap → a = some ⟨E.ρ l, 0, none⟩)) : RS E nx w (.sl l esz off len) (.slice a len cap)
  | agg (vs : List SV) (us : Array Value) (hs : us.size = vs.length) (h1 : ∀ j, j < us.size → (us.getD j undef).oneCell' = true)
      (h : ∀ j (hj : j < vs.length), RS E nx w vs[j] (us.getD j undef)) : RS E nx w (.agg vs) (.agg us)
  | tup (vs : List SV) (us : Array Value) (hs : us.size = vs.length)
      (h : ∀ j (hj : j < vs.length), RS E nx w vs[j] (us.getD j undef)) : RS E nx w (.tup vs) (.tuple us)
  | fn (f : Fn) (caps : List SV) (us : Array Value) (hs : us.size = caps.length)
      (h : ∀ j (hj : j < caps.length), RS E nx w caps[j] (us.getD j undef)) : RS E nx w (.fn f caps) (.func f #[] us)
  | iref (cs : List SV) (off b o : Nat) (g : Nat → Value) (hb : E.Im b) (hcell : ∀ j, j < cs.length → w.cell? ⟨b, o + j, none⟩ = some (g j)) (h1 : ∀ j, j < cs.length → (g j).oneCell' = true)
      (h : ∀ j (hj : j < cs.length), RS E nx w cs[j] (g j)) : RS E nx w (.iref cs off) (.pointer (some ⟨b, o + off, none⟩))
theorem RS.mono {E E' : Env} {nx nx' : Nat} {w w' : World} {x : SV} {v : Value} (hρ : ∀ l, l < nx → E'.ρ l = E.ρ l ∧ E'.κ l = E.κ l) (hn : nx ≤ nx')
    (hI : ∀ b, E.Im b → E'.Im b) (hw : ∀ b, E.Im b → w'.heap[b]? = w.heap[b]?) (h : RS E nx w x v) : RS E' nx' w' x v := by
  induction h with
  | any v => exact .any v
  | d x v h => exact .d x v (h.mono hI hw)
  | ptr l off hl => rw [← (hρ l hl).1]; exact .ptr l off (by omega)
  | rp l esz i off hl => rw [← (hρ l hl).1]; exact .rp l esz i off (by omega)
  | sl l esz off len a cap hl hc hm ha h0 =>
    exact .sl l esz off len a cap (by omega) hc hm (by rw [(hρ l hl).1]; exact ha) (by rw [(hρ l hl).1, (hρ l hl).2]; exact h0)
  | agg vs us hs h1 h ih => exact .agg vs us hs h1 ih
  | tup vs us hs h ih => exact .tup vs us hs ih
  | fn f caps us hs h ih => exact .fn f caps us hs ih
  | iref cs off b o g hb hcell h1 h ih => exact .iref cs off b o g (hI _ hb) (fun j hj => by rw [World.cell?_of_block (hw b hb)]; exact hcell j hj) h1 ih
def SV.one : SV → Bool
  | .d _ | .ptr .. | .rp .. | .sl .. | .fn .. | .iref .. => true
  | _ => false
theorem RS.one {E : Env} {nx : Nat} {w : World} {x : SV} {v : Value} (h : RS E nx w x v) (h1 : x.one = true) : v.oneCell' = true := by
  cases h with
  | d x v h => exact h.one
  | any | agg | tup => simp [SV.one] at h1
  | _ => rfl
def Blk.real (κ : Nat) : Blk → Prop
  | .cells _ => True
  | .cf _ n _ => 0 < n
  | .obj .. => True
  | .row .. => 0 < κ
def BS (E : Env) (nx : Nat) (w : World) (l : Nat) : Blk → Prop
  | .cells cs => ∃ vs T, w.heap[E.ρ l]? = some (.cells vs T (0, 0)) ∧ vs.size = cs.length ∧ ∀ j (hj : j < cs.length), RS E nx w cs[j] (vs.getD j undef) ∧ (vs.getD j undef).oneCell' = true
  | .row e esz n f => n ≤ E.κ l ∧ E.κ l ≤ maxLen ∧ 0 < esz ∧ (∀ i, i < n → (f i).length = esz) ∧
      (0 < E.κ l → ∃ vs, w.heap[E.ρ l]? = some (.cells vs e (0, 0)) ∧ vs.size = E.κ l * esz ∧ (∀ j, j < n * esz → (vs.getD j undef).oneCell' = true) ∧
        ∀ i j (_ : i < n) (hj : j < (f i).length), RD w E.Im ((f i)[j]) (vs.getD (i * esz + j) undef))
  | .cf m n g => m ≤ nx ∧ (0 < n → ∃ vs T, w.heap[E.ρ l]? = some (.cells vs T (0, 0)) ∧ n ≤ vs.size ∧ ∀ j, j < n → SV.Lt m (g j) ∧ RS E nx w (g j) (vs.getD j undef) ∧ (vs.getD j undef).oneCell' = true)
  | .obj b m n p g => E.ρ l = b ∧ m ≤ nx ∧ ∃ o u, w.heap[E.ρ l]? = some o ∧ p o u ∧ ∀ j, j < n → SV.Lt m (g j) ∧ RS E nx w (g j) (u j) ∧ (u j).oneCell' = true
theorem BS.mono {E E' : Env} {nx nx' : Nat} {w w' : World} {l : Nat} {b : Blk} (hl : l < nx) (hρ : ∀ l, l < nx → E'.ρ l = E.ρ l ∧ E'.κ l = E.κ l) (hn : nx ≤ nx')
    (hI : ∀ b, E.Im b → E'.Im b) (hw : ∀ b, E.Im b → w'.heap[b]? = w.heap[b]?) (hb : b.real (E.κ l) → w'.heap[E.ρ l]? = w.heap[E.ρ l]?) (h : BS E nx w l b) : BS E' nx' w' l b := by
  cases b with
  | cells cs =>
    obtain ⟨vs, T, h1, h2, h3⟩ := h
    exact ⟨vs, T, by rw [(hρ l hl).1, hb trivial, h1], h2, fun j hj => ⟨(h3 j hj).1.mono hρ hn hI hw, (h3 j hj).2⟩⟩
  | row e esz n f =>
    obtain ⟨h1, h2, h3, h4, h5⟩ := h
    refine ⟨by rw [(hρ l hl).2]; exact h1, by rw [(hρ l hl).2]; exact h2, h3, h4, ?_⟩
    rw [(hρ l hl).1, (hρ l hl).2]
    intro hk
    obtain ⟨vs, g1, g2, g3, g4⟩ := h5 hk
    exact ⟨vs, by rw [hb hk, g1], g2, g3, fun i j hi hj => (g4 i j hi hj).mono hI hw⟩
  | cf m n g =>
    obtain ⟨h0, hh⟩ := h
    refine ⟨by omega, fun hp => ?_⟩
    obtain ⟨vs, T, h1, h2, h3⟩ := hh hp
    exact ⟨vs, T, by rw [(hρ l hl).1, hb hp, h1], h2, fun j hj => ⟨(h3 j hj).1, (h3 j hj).2.1.mono hρ hn hI hw, (h3 j hj).2.2⟩⟩
  | obj c m n p g =>
    obtain ⟨e0, h0, o, u, h1, h2, h3⟩ := h
    exact ⟨by rw [(hρ l hl).1]; exact e0, by omega, o, u, by rw [(hρ l hl).1, hb trivial, h1], h2, fun j hj => ⟨(h3 j hj).1, (h3 j hj).2.1.mono hρ hn hI hw, (h3 j hj).2.2⟩⟩
theorem RS.congr {E E' : Env} {nx nx' m : Nat} {w : World} {x : SV} {v : Value} (hρ : ∀ l, l < m → E'.ρ l = E.ρ l ∧ E'.κ l = E.κ l) (hn : m ≤ nx')
    (hI : ∀ b, E.Im b → E'.Im b) (hm : SV.Lt m x) (h : RS E nx w x v) : RS E' nx' w x v := by
  induction h with
  | any v => exact .any v
  | d x v h => exact .d x v (h.mono hI fun _ _ => rfl)
  | ptr l off hl => cases hm with | ptr _ _ hm => rw [← (hρ l hm).1]; exact .ptr l off (by omega)
  | rp l esz i off hl => cases hm with | rp _ _ _ _ hm => rw [← (hρ l hm).1]; exact .rp l esz i off (by omega)
  | sl l esz off len a cap hl hc hm' ha h0 =>
    cases hm with | sl _ _ _ _ hm => exact .sl l esz off len a cap (by omega) hc hm' (by rw [(hρ l hm).1]; exact ha) (by rw [(hρ l hm).1, (hρ l hm).2]; exact h0)
  | agg vs us hs h1 h ih => cases hm with | agg _ hm => exact .agg vs us hs h1 fun j hj => ih j hj (hm _ (List.getElem_mem hj))
  | tup vs us hs h ih => cases hm with | tup _ hm => exact .tup vs us hs fun j hj => ih j hj (hm _ (List.getElem_mem hj))
  | fn f caps us hs h ih => cases hm with | fn _ _ hm => exact .fn f caps us hs fun j hj => ih j hj (hm _ (List.getElem_mem hj))
  | iref cs off b o g hb hcell h1 h ih => cases hm with | iref _ _ hm => exact .iref cs off b o g (hI _ hb) hcell h1 fun j hj => ih j hj (hm _ (List.getElem_mem hj))
structure Org where
  w0 : World
  M : Nat → Prop
  Im0 : Nat → Prop
  nl : Nat
  ρ0 : Nat → Nat
  κ0 : Nat → Nat
  df : List Deferred
structure Sat (O : Org) (E : Env) (S : St) (a : Act) (w : World) : Prop where
  fr : ∀ n, RS E S.nx w (lk S.fr n) (a.tmps.getD n undef)
  nt : a.tmps.size = S.nt.n ∧ O.nl = S.nt.m
  df : a.defers = O.df
  hp : ∀ l b, lkh S.hp l = some b → BS E S.nx w l b
  nx : ∀ l b, lkh S.hp l = some b → l < S.nx
  inj : ∀ l l' b b', lkh S.hp l = some b → lkh S.hp l' = some b' → b.real (E.κ l) → b'.real (E.κ l') → l ≠ l' → E.ρ l ≠ E.ρ l'
  im : ∀ b, E.Im b → b < w.heap.size ∧ (O.w0.heap.size ≤ b ∨ O.Im0 b ∨ O.M b) ∧ ∀ l x, lkh S.hp l = some x → x.real (E.κ l) → E.ρ l ≠ b
  own : ∀ l b, lkh S.hp l = some b → b.real (E.κ l) → (O.M (E.ρ l) ∨ O.w0.heap.size ≤ E.ρ l)
  kq : Kq O.M O.w0 w
  lab : ∀ l, l < O.nl → E.ρ l = O.ρ0 l ∧ E.κ l = O.κ0 l
  nl : O.nl ≤ S.nx
  imo : ∀ b, O.Im0 b → E.Im b
theorem BS.lt {E : Env} {nx : Nat} {w : World} {l : Nat} {b : Blk} (h : BS E nx w l b) (hr : b.real (E.κ l)) : E.ρ l < w.heap.size := by
  cases b with
  | cells cs => obtain ⟨vs, T, h1, _⟩ := h; exact (Array.getElem?_eq_some_iff.1 h1).1
  | row e esz n f => obtain ⟨_, _, _, _, h5⟩ := h; obtain ⟨vs, g1, _⟩ := h5 hr; exact (Array.getElem?_eq_some_iff.1 g1).1
  | cf m n g => obtain ⟨_, h⟩ := h; obtain ⟨vs, T, h1, _⟩ := h hr; exact (Array.getElem?_eq_some_iff.1 h1).1
  | obj c m n p g => obtain ⟨_, _, o, u, h1, _⟩ := h; exact (Array.getElem?_eq_some_iff.1 h1).1
theorem put_tmps (a : Act) (n m : Nat) (v : Value) (hn : n < a.tmps.size) : (a.put (some n) v).tmps.getD m undef = if n = m then v else a.tmps.getD m undef := by
  simp only [Act.put, Array.getD_eq_getD_getElem?, Array.getElem?_setIfInBounds]
  by_cases h : n = m
  · subst h; simp [hn]
  · simp [h]
def St.set (S : St) (n : Nat) (v : SV) : St := match S with | ⟨nt, nx, fr, hp⟩ => ⟨nt, nx, (n, v) :: fr, hp⟩
theorem Sat.put {O : Org} {E : Env} {S : St} {a : Act} {w : World} (h : Sat O E S a w) {n : Nat} {x : SV} {v : Value} (hn : n < S.nt.n) (hv : RS E S.nx w x v) : Sat O E (S.set n x) (a.put (some n) v) w := by
  refine ⟨fun m => ?_, ⟨by simp [Act.put, St.set, h.nt.1], h.nt.2⟩, h.df, h.hp, h.nx, h.inj, h.im, h.own, h.kq, h.lab, h.nl, h.imo⟩
  rw [put_tmps a n m v (by rw [h.nt.1]; exact hn)]
  simp only [St.set, lk_cons]
  by_cases e : n = m
  · simp only [e, if_true]; exact hv
  · simp only [e, if_false]; exact h.fr m
theorem Sat.drew {O : Org} {E : Env} {S : St} {a : Act} {w : World} (h : Sat O E S a w) (k : Nat) : Sat O E S a { w with drawn := k } := by
  have hr : ∀ x v, RS E S.nx w x v → RS E S.nx { w with drawn := k } x v := fun x v hv => RS.mono (w := w) (fun _ _ => ⟨rfl, rfl⟩) (Nat.le_refl _) (fun _ hb => hb) (fun _ _ => rfl) hv
  exact ⟨fun m => hr _ _ (h.fr m), h.nt, h.df, fun l b hb => BS.mono (w := w) (h.nx l b hb) (fun _ _ => ⟨rfl, rfl⟩) (Nat.le_refl _) (fun _ hb => hb) (fun _ _ => rfl) (fun _ => rfl) (h.hp l b hb), h.nx, h.inj, h.im, h.own,
    ⟨h.kq.os, h.kq.tape, h.kq.output, h.kq.size, h.kq.block⟩, h.lab, h.nl, h.imo⟩
def St.new (S : St) (cs : List SV) : St := match S with | ⟨nt, nx, fr, hp⟩ => ⟨nt, nx + 1, fr, (nx, some (.cells cs)) :: hp⟩
def Env.new (E : Env) (l b : Nat) : Env := ⟨fun k => if k = l then b else E.ρ k, E.κ, E.Im⟩
def St.newrow (S : St) (e esz n : Nat) (f : Nat → List D) : St := match S with | ⟨nt, nx, fr, hp⟩ => ⟨nt, nx + 1, fr, (nx, some (.row e esz n f)) :: hp⟩
def Env.newrow (E : Env) (l b c : Nat) : Env := ⟨fun k => if k = l then b else E.ρ k, fun k => if k = l then c else E.κ k, E.Im⟩
theorem Sat.alloc_gen {O : Org} {E E' : Env} {S : St} {a : Act} {w : World} (h : Sat O E S a w) (o : Obj) (b : Blk) (hE : ∀ l, l < S.nx → E'.ρ l = E.ρ l ∧ E'.κ l = E.κ l) (hIm : E'.Im = E.Im)
    (hρ : E'.ρ S.nx = w.heap.size) (hb : BS E' (S.nx + 1) (w.alloc o) S.nx b) : Sat O E' ⟨S.nt, S.nx + 1, S.fr, (S.nx, some b) :: S.hp⟩ a (w.alloc o) := by
  have hwk : ∀ k, k < w.heap.size → (w.alloc o).heap[k]? = w.heap[k]? := fun k hk => Below.heap_alloc _ _ _ hk
  have hI : ∀ b, E.Im b → E'.Im b := fun b hb => by rw [hIm]; exact hb
  have hwi : ∀ b, E.Im b → (w.alloc o).heap[b]? = w.heap[b]? := fun b hb => hwk b (h.im b hb).1
  have hlive : ∀ l x, lkh ((S.nx, some b) :: S.hp) l = some x → (l = S.nx ∧ x = b) ∨ (l ≠ S.nx ∧ lkh S.hp l = some x ∧ l < S.nx) := by
    intro l x hl
    rw [lkh_cons] at hl
    by_cases e : S.nx = l
    · rw [if_pos e] at hl; cases hl; exact Or.inl ⟨e.symm, rfl⟩
    · rw [if_neg e] at hl; exact Or.inr ⟨fun k => e k.symm, hl, h.nx l x hl⟩
  have hlt : ∀ l x, lkh S.hp l = some x → x.real (E.κ l) → E.ρ l < w.heap.size := fun l x hl hr => (h.hp l x hl).lt hr
  refine ⟨fun m => (h.fr m).mono hE (by simp) hI hwi, h.nt, h.df, ?_, ?_, ?_, ?_, ?_, ?_, ?_, by have := h.nl; simp only; omega, fun b hb => by rw [hIm]; exact h.imo b hb⟩
  · intro l x hl
    rcases hlive l x hl with ⟨rfl, rfl⟩ | ⟨hn, hl', hlx⟩
    · exact hb
    · exact (h.hp l x hl').mono hlx hE (by simp) hI hwi (fun hr => hwk _ (hlt l x hl' hr))
  · intro l x hl
    rcases hlive l x hl with ⟨rfl, rfl⟩ | ⟨hn, hl', hlx⟩ <;> simp only <;> omega
  · intro l l' x x' hl hl' hr hr' hne
    rcases hlive l x hl with ⟨rfl, rfl⟩ | ⟨hn, hl1, hlx⟩ <;> rcases hlive l' x' hl' with ⟨rfl, rfl⟩ | ⟨hn', hl1', hlx'⟩
    · exact absurd rfl hne
    · rw [hρ, (hE l' hlx').1]; rw [(hE l' hlx').2] at hr'; have := hlt l' x' hl1' hr'; omega
    · rw [hρ, (hE l hlx).1]; rw [(hE l hlx).2] at hr; have := hlt l x hl1 hr; omega
    · rw [(hE l hlx).1, (hE l' hlx').1]; rw [(hE l hlx).2] at hr; rw [(hE l' hlx').2] at hr'; exact h.inj l l' x x' hl1 hl1' hr hr' hne
  · intro k hk
    rw [hIm] at hk
    obtain ⟨h1, h2, h3⟩ := h.im k hk
    refine ⟨by simp only [World.size_alloc]; omega, h2, fun l x hl hr => ?_⟩
    rcases hlive l x hl with ⟨rfl, rfl⟩ | ⟨hn, hl', hlx⟩
    · rw [hρ]; omega
    · rw [(hE l hlx).1]; rw [(hE l hlx).2] at hr; exact h3 l x hl' hr
  · intro l x hl hr
    rcases hlive l x hl with ⟨rfl, rfl⟩ | ⟨hn, hl', hlx⟩
    · rw [hρ]; exact Or.inr h.kq.size
    · rw [(hE l hlx).1]; rw [(hE l hlx).2] at hr; exact h.own l x hl' hr
  · exact h.kq.trans ((Kp.refl w).alloc o |>.kq _)
  · intro l hl
    have := h.nl
    obtain ⟨h1, h2⟩ := hE l (by omega)
    rw [h1, h2]; exact h.lab l hl
theorem heap_alloc_new (w : World) (o : Obj) : (w.alloc o).heap[w.heap.size]? = some o := by
  show (w.heap.push o)[w.heap.size]? = some o
  simp
theorem Sat.alloc {O : Org} {E : Env} {S : St} {a : Act} {w : World} (h : Sat O E S a w) {cs : List SV} {vs : Array Value} (T : TypeId) (hs : vs.size = cs.length)
    (hv : ∀ j (hj : j < cs.length), RS E S.nx w cs[j] (vs.getD j undef) ∧ (vs.getD j undef).oneCell' = true) :
    Sat O (E.new S.nx w.heap.size) (S.new cs) a (w.alloc (.cells vs T)) ∧ RS (E.new S.nx w.heap.size) (S.nx + 1) (w.alloc (.cells vs T)) (.ptr S.nx 0) (.pointer (some ⟨w.heap.size, 0, none⟩)) := by
  have hE : ∀ l, l < S.nx → (E.new S.nx w.heap.size).ρ l = E.ρ l ∧ (E.new S.nx w.heap.size).κ l = E.κ l := fun l hl => ⟨by simp only [Env.new]; rw [if_neg (by omega)], rfl⟩
  have hr : (E.new S.nx w.heap.size).ρ S.nx = w.heap.size := by simp [Env.new]
  refine ⟨h.alloc_gen _ _ hE rfl hr ?_, ?_⟩
  · refine ⟨vs, T, by rw [hr]; exact heap_alloc_new w _, hs, fun j hj => ⟨?_, (hv j hj).2⟩⟩
    exact (hv j hj).1.mono hE (by omega) (fun _ hb => hb) (fun b hb => Below.heap_alloc _ _ _ (h.im b hb).1)
  · have := RS.ptr (E := E.new S.nx w.heap.size) (w := w.alloc (.cells vs T)) (nx := S.nx + 1) S.nx 0 (by omega)
    rwa [hr] at this
end Go.Proofs.YteallmlkkcjblaaGreatDoor

namespace Go.Proofs.YteallmlkkcjblaaGreatDoor
open Go.RowKit
inductive TK where
  | slice (e : Nat)
  | struct (fs : List (Nat × Nat))
  | array (n e : Nat)
  | ptr (e : Nat)
  | str
  | int (k : IntKind)
  | bool
  | func
  | other
def descK : TypeDesc → TK
  | .slice e => .slice e
  | .struct fs => .struct (fs.toList.map fun f => (f.offset, f.type))
  | .array n e => .array n e
  | .pointer e => .ptr e
  | .string => .str
  | .int k => .int k
  | .bool => .bool
  | .func .. => .func
  | _ => .other
structure TI where
  k : TK
  size : Nat
  bytes : Nat
  zero : List Value
  eq : Bool := false
def TIok (P : Program) (t : Nat) (i : TI) : Prop :=
  (P.info? t).map (fun j => (j.zero.map (fun z => z.cells.toList), j.size, j.bytes)) = some (some i.zero, i.size, i.bytes) ∧ (P.underlying t).map descK = some i.k ∧
    (i.eq = true → P.stoodInHeld t = false ∧ P.eqGuardType P.depth t = false ∧ (P.fieldsOf t).toList.all (fun f => f.name != "_") = true)
theorem TIok.eq {P : Program} {t : Nat} {i : TI} (h : TIok P t i) (he : i.eq = true) : P.stoodInHeld t = false ∧ P.eqGuardType P.depth t = false ∧ (P.fieldsOf t).toList.all (fun f => f.name != "_") = true := h.2.2 he
structure Cx where
  P : Program
  tt : Nat → Option TI
  ok : ∀ t i, tt t = some i → TIok P t i
theorem TIok.info {P : Program} {t : Nat} {i : TI} (h : TIok P t i) : ∃ j z, P.info? t = some j ∧ j.zero = some z ∧ z.cells.toList = i.zero ∧ j.size = i.size ∧ j.bytes = i.bytes := by
  obtain ⟨h1, -⟩ := h
  cases hj : P.info? t with
  | none => simp [hj] at h1
  | some j =>
    simp only [hj, Option.map_some, Option.some.injEq, Prod.mk.injEq] at h1
    obtain ⟨h2, h3, h4⟩ := h1
    cases hz : j.zero with
    | none => simp [hz] at h2
    | some z => simp [hz] at h2; exact ⟨j, z, rfl, hz, h2, h3, h4⟩
theorem TIok.desc {P : Program} {t : Nat} {i : TI} (h : TIok P t i) : ∃ d, P.underlying t = some d ∧ descK d = i.k := by
  obtain ⟨-, h2, -⟩ := h
  cases hd : P.underlying t with
  | none => simp [hd] at h2
  | some d => simp [hd] at h2; exact ⟨d, rfl, h2⟩
theorem TIok.slice {P : Program} {t e : Nat} {i : TI} (h : TIok P t i) (hk : i.k = .slice e) : P.underlying t = some (.slice e) := by
  obtain ⟨d, h1, h2⟩ := h.desc
  rw [hk] at h2
  cases d <;> simp [descK] at h2
  subst h2; exact h1
theorem TIok.struct {P : Program} {t : Nat} {fs : List (Nat × Nat)} {i : TI} (h : TIok P t i) (hk : i.k = .struct fs) :
    ∃ Fs, P.underlying t = some (.struct Fs) ∧ Fs.toList.map (fun f => (f.offset, f.type)) = fs := by
  obtain ⟨d, h1, h2⟩ := h.desc
  rw [hk] at h2
  cases d <;> simp [descK] at h2
  exact ⟨_, h1, h2⟩
theorem TIok.array {P : Program} {t n e : Nat} {i : TI} (h : TIok P t i) (hk : i.k = .array n e) : P.underlying t = some (.array n e) := by
  obtain ⟨d, h1, h2⟩ := h.desc
  rw [hk] at h2
  cases d <;> simp [descK] at h2
  obtain ⟨rfl, rfl⟩ := h2; exact h1
theorem TIok.int {P : Program} {t : Nat} {k : IntKind} {i : TI} (h : TIok P t i) (hk : i.k = .int k) : P.underlying t = some (.int k) := by
  obtain ⟨d, h1, h2⟩ := h.desc
  rw [hk] at h2
  cases d <;> simp [descK] at h2
  subst h2; exact h1
theorem TIok.str {P : Program} {t : Nat} {i : TI} (h : TIok P t i) (hk : i.k = .str) : P.underlying t = some .string := by
  obtain ⟨d, h1, h2⟩ := h.desc
  rw [hk] at h2
  cases d <;> simp [descK] at h2
  exact h1
def TK.agg : TK → Bool
  | .struct _ | .array .. => true
  | _ => false
theorem TIok.isAgg {P : Program} {t : Nat} {i : TI} (h : TIok P t i) (w : World) : (isAgg t).run P w = .ok i.k.agg w := by
  obtain ⟨d, h1, h2⟩ := h.desc
  rw [← h2]
  cases d <;> simp [Go.isAgg, run_underlying h1, descK, TK.agg]
theorem TIok.sizeOf {P : Program} {t : Nat} {i : TI} (h : TIok P t i) (w : World) : (sizeOf t).run P w = .ok i.size w := by
  obtain ⟨j, z, h1, _, _, h4, _⟩ := h.info
  simp [Go.sizeOf, typeInfo, h1, h4]
def svOf : Value → SV
  | .agg c => bif c.toList.all Value.oneCell' then .agg (c.toList.map fun v => .d (.val v)) else .any
  | .tuple _ => .any
  | v => .d (.val v)
def stripE : SV → SV
  | .d (.eq _ x) => .d x
  | y => y
theorem stripE_ok {E : Env} {nx : Nat} {w : World} {x : SV} {v : Value} (h : RS E nx w x v) : RS E nx w (stripE x) v := by
  unfold stripE
  split
  · cases h with | d _ _ h => cases h with | eq _ _ h => exact .d _ _ h
  · exact h
def ev (S : St) : Operand → SV
  | .tmp t => stripE (lk S.fr t)
  | .const v => svOf v
  | .global _ => .any
  | .func f => .d (.fn (.func f) [])
theorem svOf_ok (E : Env) (nx : Nat) (w : World) (v : Value) : RS E nx w (svOf v) v := by
  cases v with
  | agg c =>
    cases h : c.toList.all Value.oneCell' with
    | false => simp only [svOf, h, cond_false]; exact .any _
    | true =>
      simp only [svOf, h, cond_true]
      rw [List.all_eq_true] at h
      have h' : ∀ j (hj : j < c.size), c[j].oneCell' = true := fun j hj => h _ (by simp)
      have hg : ∀ j (hj : j < c.size), c.getD j undef = c[j] := fun j hj => by simp [Array.getD, hj]
      refine .agg _ _ (by simp) (fun j hj => by rw [hg j hj]; exact h' j hj) (fun j hj => ?_)
      have hj' : j < c.size := by simpa using hj
      rw [hg j hj', List.getElem_map, Array.getElem_toList]
      exact .d _ _ (.val _ (h' j hj'))
  | tuple c => exact .any _
  | _ => exact .d _ _ (.val _ rfl)
theorem ev_ok {O : Org} {E : Env} {S : St} {a : Act} {w : World} (h : Sat O E S a w) (x : Operand) : RS E S.nx w (ev S x) (a.eval x) := by
  cases x with
  | tmp t => exact stripE_ok (h.fr t)
  | const v => exact svOf_ok _ _ _ v
  | global g => exact .any _
  | func f => exact .d _ _ (.fn _ _ _ (by simp) (fun j hj => by simp at hj))
structure Ov (k : IntKind) (s : Int) (c : Int → Prop) : Prop where
  out : c (k.wrap s)
theorem Ov.ok {k : IntKind} {s : Int} {c : Int → Prop} (h : k.wrap s = s) (hc : c s) : Ov k s c := ⟨by rw [h]; exact hc⟩
def takeK : List SV → Nat → Nat → (List SV → Prop) → Prop
  | _, 0, 0, k => k []
  | v :: r, 0, n + 1, k => takeK r 0 n fun vs => k (v :: vs)
  | _ :: r, o + 1, n, k => takeK r o n k
  | [], _, _, _ => False
def takeD : List D → Nat → Nat → (List SV → Prop) → Prop
  | _, 0, 0, k => k []
  | v :: r, 0, n + 1, k => takeD r 0 n fun vs => k (.d v :: vs)
  | _ :: r, o + 1, n, k => takeD r o n k
  | [], _, _, _ => False
def nthK : List SV → Nat → (SV → Prop) → Prop
  | v :: _, 0, k => k v
  | _ :: r, n + 1, k => nthK r n k
  | [], _, _ => False
def nthD : List D → Nat → (SV → Prop) → Prop
  | v :: _, 0, k => k (.d v)
  | _ :: r, n + 1, k => nthD r n k
  | [], _, _ => False
def setK : List SV → Nat → List SV → (List SV → Prop) → Prop
  | cs, 0, [], k => k cs
  | _ :: cs, 0, v :: vs, k => setK cs 0 vs fun r => k (v :: r)
  | c :: cs, n + 1, vs, k => setK cs n vs fun r => k (c :: r)
  | [], _, _, _ => False
theorem takeK_ok : ∀ (cs : List SV) (o n : Nat) (k : List SV → Prop), takeK cs o n k → o + n ≤ cs.length ∧ k ((cs.drop o).take n)
  | [], 0, 0, k, h => ⟨by simp, by simpa [takeK] using h⟩
  | _ :: _, 0, 0, k, h => ⟨by simp, by simpa [takeK] using h⟩
  | v :: r, 0, n + 1, k, h => by
    obtain ⟨h1, h2⟩ := takeK_ok r 0 n _ (by simpa [takeK] using h)
    exact ⟨by simp; omega, by simpa using h2⟩
  | c :: r, o + 1, n, k, h => by
    obtain ⟨h1, h2⟩ := takeK_ok r o n k (by cases n <;> simpa [takeK] using h)
    exact ⟨by simp; omega, by simpa using h2⟩
  | [], 0, n + 1, k, h => by simp [takeK] at h
  | [], o + 1, n, k, h => by cases n <;> simp [takeK] at h
theorem takeD_ok : ∀ (cs : List D) (o n : Nat) (k : List SV → Prop), takeD cs o n k → o + n ≤ cs.length ∧ k (((cs.drop o).take n).map .d)
  | [], 0, 0, k, h => ⟨by simp, by simpa [takeD] using h⟩
  | _ :: _, 0, 0, k, h => ⟨by simp, by simpa [takeD] using h⟩
  | v :: r, 0, n + 1, k, h => by
    obtain ⟨h1, h2⟩ := takeD_ok r 0 n _ (by simpa [takeD] using h)
    exact ⟨by simp; omega, by simpa using h2⟩
  | c :: r, o + 1, n, k, h => by
    obtain ⟨h1, h2⟩ := takeD_ok r o n k (by cases n <;> simpa [takeD] using h)
    exact ⟨by simp; omega, by simpa using h2⟩
  | [], 0, n + 1, k, h => by simp [takeD] at h
  | [], o + 1, n, k, h => by cases n <;> simp [takeD] at h
theorem nthK_ok : ∀ (cs : List SV) (o : Nat) (k : SV → Prop), nthK cs o k → ∃ h : o < cs.length, k cs[o]
  | v :: _, 0, k, h => ⟨by simp, by simpa [nthK] using h⟩
  | _ :: r, n + 1, k, h => by obtain ⟨h1, h2⟩ := nthK_ok r n k (by simpa [nthK] using h); exact ⟨by simp; omega, by simpa using h2⟩
  | [], n, k, h => by cases n <;> simp [nthK] at h
theorem nthD_ok : ∀ (cs : List D) (o : Nat) (k : SV → Prop), nthD cs o k → ∃ h : o < cs.length, k (.d cs[o])
  | v :: _, 0, k, h => ⟨by simp, by simpa [nthD] using h⟩
  | _ :: r, n + 1, k, h => by obtain ⟨h1, h2⟩ := nthD_ok r n k (by simpa [nthD] using h); exact ⟨by simp; omega, by simpa using h2⟩
  | [], n, k, h => by cases n <;> simp [nthD] at h
theorem setK_ok : ∀ (cs : List SV) (o : Nat) (vs : List SV) (k : List SV → Prop), setK cs o vs k → o + vs.length ≤ cs.length ∧ k (cs.take o ++ vs ++ cs.drop (o + vs.length))
  | [], 0, [], k, h => ⟨by simp, by simpa [setK] using h⟩
  | _ :: _, 0, [], k, h => ⟨by simp, by simpa [setK] using h⟩
  | c :: cs, 0, v :: vs, k, h => by
    obtain ⟨h1, h2⟩ := setK_ok cs 0 vs _ (by simpa [setK] using h)
    exact ⟨by simp at h1 ⊢; omega, by simpa using h2⟩
  | c :: cs, n + 1, vs, k, h => by
    obtain ⟨h1, h2⟩ := setK_ok cs n vs _ (by cases vs <;> simpa [setK] using h)
    exact ⟨by simp; omega, by simpa [Nat.add_right_comm] using h2⟩
  | [], 0, v :: vs, k, h => by simp [setK] at h
  | [], n + 1, vs, k, h => by cases vs <;> simp [setK] at h
def cellsK : SV → (List SV → Prop) → Prop
  | .agg vs, k => k vs
  | .d x, k => k [.d x]
  | .ptr l o, k => k [.ptr l o]
  | .rp l e i o, k => k [.rp l e i o]
  | .sl l e o n, k => k [.sl l e o n]
  | .fn f c, k => k [.fn f c]
  | .iref c o, k => k [.iref c o]
  | _, _ => False
theorem cellsK_ok {E : Env} {nx : Nat} {w : World} {x : SV} {v : Value} {k : List SV → Prop} (h : cellsK x k) (hv : RS E nx w x v) :
    ∃ cs : List SV, k cs ∧ v.cells.size = cs.length ∧ ∀ j (hj : j < cs.length), RS E nx w cs[j] (v.cells.getD j undef) ∧ (v.cells.getD j undef).oneCell' = true := by
  have one : ∀ {x : SV} {v : Value}, x.one = true → RS E nx w x v → k [x] → ∃ cs : List SV, k cs ∧ v.cells.size = cs.length ∧ ∀ j (hj : j < cs.length), RS E nx w cs[j] (v.cells.getD j undef) ∧ (v.cells.getD j undef).oneCell' = true := by
    intro x v h1 hv hk
    have ho := hv.one h1
    have hc : v.cells = #[v] := by cases v <;> first | rfl | simp [Value.oneCell'] at ho
    refine ⟨[x], hk, by rw [hc]; rfl, fun j hj => ?_⟩
    obtain rfl : j = 0 := by simpa using hj
    rw [hc]; exact ⟨by simpa using hv, by simpa using ho⟩
  cases x with
  | agg vs =>
    cases hv with
    | agg _ us hs h1 hh => exact ⟨vs, h, hs, fun j hj => ⟨hh j hj, h1 j (by omega)⟩⟩
  | any => exact h.elim
  | tup => exact h.elim
  | d x => exact one rfl hv h
  | ptr l o => exact one rfl hv h
  | rp l e i o => exact one rfl hv h
  | sl l e o n => exact one rfl hv h
  | fn f c => exact one rfl hv h
  | iref c o => exact one rfl hv h
end Go.Proofs.YteallmlkkcjblaaGreatDoor

namespace Go.Proofs.YteallmlkkcjblaaGreatDoor
open Go.RowKit
abbrev SV.i (k : IntKind) (n : Int) : SV := .d (.val (.int k n))
abbrev SV.b (b : Bool) : SV := .d (.val (.bool b))
def binI (op : BinOp) (kd : IntKind) (a b : Int) (k : SV → Prop) : Prop :=
  match op with
  | .add => Ov kd (a + b) fun z => k (.i kd z)
  | .sub => Ov kd (a - b) fun z => k (.i kd z)
  | .mul => Ov kd (a * b) fun z => k (.i kd z)
  | .quo => b ≠ 0 ∧ Ov kd (a.tdiv b) fun z => k (.i kd z)
  | .rem => b ≠ 0 ∧ k (.i kd (a.tmod b))
  | .and => k (.i kd (bits .and kd a b))
  | .or => k (.i kd (bits .or kd a b))
  | .xor => k (.i kd (bits .xor kd a b))
  | .andNot => k (.i kd (bits .andNot kd a b))
  | .shl => 0 ≤ b ∧ k (.i kd (kd.wrap (a * 2 ^ min b.toNat kd.bits)))
  | .shr => 0 ≤ b ∧ k (.i kd (a / 2 ^ min b.toNat kd.bits))
  | .eql => k (.b (a == b))
  | .neq => k (.b (a != b))
  | .lss => k (.b (decide (a < b)))
  | .leq => k (.b (decide (a ≤ b)))
  | .gtr => k (.b (decide (a > b)))
  | .geq => k (.b (decide (a ≥ b)))
def BinOp.isShift : BinOp → Bool
  | .shl | .shr => true
  | _ => false
def binB (op : BinOp) (a b : Bool) (k : SV → Prop) : Prop :=
  match op with
  | .eql => k (.b (a == b))
  | .neq => k (.b (!(a == b)))
  | _ => False
def binS (op : BinOp) (a b : ByteArray) (k : SV → Prop) : Prop :=
  match op with
  | .add => ((a.size + b.size : Nat) : Int) ≤ 9223372036854775807 ∧ k (.d (.val (.string (a ++ b))))
  | .eql => k (.b (a.toList == b.toList))
  | .neq => k (.b (!(a.toList == b.toList)))
  | .lss => k (.b (Op.bytesLess a.toList b.toList))
  | .leq => k (.b (Op.bytesLess a.toList b.toList || a.toList == b.toList))
  | .gtr => k (.b (!(Op.bytesLess a.toList b.toList || a.toList == b.toList)))
  | .geq => k (.b (!Op.bytesLess a.toList b.toList))
  | _ => False
def TK.isBool : TK → Bool
  | .bool => true
  | _ => false
def TK.isPtr : TK → Bool
  | .ptr _ => true
  | _ => false
def binP (op : BinOp) (c : Bool) (k : SV → Prop) : Prop :=
  match op with
  | .eql => k (.b c)
  | .neq => k (.b (!c))
  | _ => False
def binK (C : Cx) (op : BinOp) (t : Nat) : SV → SV → (SV → Prop) → Prop
  | .d (.val (.int kd a)), .d (.val (.int kd' b)), k => bif (BinOp.isShift op || decide (kd = kd')) then binI op kd a b k else False
  | .d (.val (.bool a)), .d (.val (.bool b)), k => match C.tt t with
    | some i => bif i.k.isBool then binB op a b k else False
    | none => False
  | .d (.val (.string a)), .d (.val (.string b)), k => binS op a b k
  | .d (.val (.pointer none)), .d (.val (.pointer none)), k => match C.tt t with
    | some i => bif i.k.isPtr then binP op true k else False
    | none => False
  | .d (.ref _ _), .d (.val (.pointer none)), k => match C.tt t with
    | some i => bif i.k.isPtr then binP op false k else False
    | none => False
  | .ptr _ _, .d (.val (.pointer none)), k => match C.tt t with
    | some i => bif i.k.isPtr then binP op false k else False
    | none => False
  | .rp _ _ _ _, .d (.val (.pointer none)), k => match C.tt t with
    | some i => bif i.k.isPtr then binP op false k else False
    | none => False
  | _, _, _ => False
def Yields (C : Cx) (E : Env) (nx : Nat) (w : World) (m : Sem Value) (k : SV → Prop) : Prop :=
  ∃ v x, m.run C.P w = .ok v w ∧ k x ∧ RS E nx w x v
theorem RS.int (E : Env) (nx : Nat) (w : World) (k : IntKind) (n : Int) : RS E nx w (.i k n) (.int k n) := .d _ _ (.val _ rfl)
theorem RS.bool (E : Env) (nx : Nat) (w : World) (b : Bool) : RS E nx w (.b b) (.bool b) := .d _ _ (.val _ rfl)
theorem RS.val_inv {E : Env} {nx : Nat} {w : World} {v u : Value} (h : RS E nx w (.d (.val v)) u) : u = v := by
  cases h with | d _ _ h => cases h with | val _ _ => rfl
theorem binI_ok {C : Cx} {E : Env} {nx : Nat} {w : World} {op : BinOp} {t : Nat} {x y : Operand} {kd kd' : IntKind} {a b : Int} {k : SV → Prop} (hk : (BinOp.isShift op || decide (kd = kd')) = true) (h : binI op kd a b k) :
    Yields C E nx w (do eqGuard op t x y (.int kd a) (.int kd' b); binOp op t (.int kd a) (.int kd' b)) k := by
  have hg : (eqGuard op t x y (.int kd a) (.int kd' b)).run C.P w = .ok () w := by cases op <;> simp [eqGuard]
  cases op
  case shl =>
    obtain ⟨h1, h2⟩ := h
    exact ⟨_, _, by simp [hg, binOp, shift_shl_any _ _ _ _ h1], h2, RS.int ..⟩
  case shr =>
    obtain ⟨h1, h2⟩ := h
    exact ⟨_, _, by simp [hg, binOp, shift_shr_any _ _ _ _ h1], h2, RS.int ..⟩
  all_goals (obtain rfl : kd = kd' := by simpa [BinOp.isShift] using hk)
  case add => exact ⟨_, _, by simp [hg, binOp, Op.intArith], h.out, RS.int ..⟩
  case sub => exact ⟨_, _, by simp [hg, binOp, Op.intArith], h.out, RS.int ..⟩
  case mul => exact ⟨_, _, by simp [hg, binOp, Op.intArith], h.out, RS.int ..⟩
  case quo => exact ⟨_, _, by simp [hg, binOp, Op.intDiv, h.1], h.2.out, RS.int ..⟩
  case rem => exact ⟨_, _, by simp [hg, binOp, Op.intDiv, h.1], h.2, RS.int ..⟩
  case and => exact ⟨_, _, by simp [hg, binOp, intBits_and], h, RS.int ..⟩
  case or => exact ⟨_, _, by simp [hg, binOp, intBits_or], h, RS.int ..⟩
  case xor => exact ⟨_, _, by simp [hg, binOp, intBits_xor], h, RS.int ..⟩
  case andNot => exact ⟨_, _, by simp [hg, binOp, intBits_andNot], h, RS.int ..⟩
  case eql => exact ⟨_, _, by simp [hg, binOp, Op.intCmp], h, RS.bool ..⟩
  case neq => exact ⟨_, _, by simp [hg, binOp, Op.intCmp], h, RS.bool ..⟩
  case lss => exact ⟨_, _, by simp [hg, binOp, Op.intCmp], h, RS.bool ..⟩
  case leq => exact ⟨_, _, by simp [hg, binOp, Op.intCmp], h, RS.bool ..⟩
  case gtr => exact ⟨_, _, by simp [hg, binOp, Op.intCmp], h, RS.bool ..⟩
  case geq => exact ⟨_, _, by simp [hg, binOp, Op.intCmp], h, RS.bool ..⟩
theorem TIok.bool {P : Program} {t : Nat} {i : TI} (h : TIok P t i) (hk : i.k.isBool = true) : P.underlying t = some .bool := by
  obtain ⟨d, h1, h2⟩ := h.desc
  rw [← h2] at hk
  cases d <;> simp [descK, TK.isBool] at hk
  exact h1
theorem TIok.ptr {P : Program} {t : Nat} {i : TI} (h : TIok P t i) (hk : i.k.isPtr = true) : P.underlying t = some (.pointer (P.pointee t)) := by
  obtain ⟨d, h1, h2⟩ := h.desc
  rw [← h2] at hk
  cases d <;> simp [descK, TK.isPtr] at hk
  rename_i e
  simp [Program.pointee, h1]
theorem binP_ok {C : Cx} {E : Env} {nx : Nat} {w : World} {op : BinOp} {t : Nat} {x y : Operand} {p : Option Addr} {i : TI} {k : SV → Prop} (hi : C.tt t = some i) (hk : i.k.isPtr = true) (h : binP op p.isNone k) :
    Yields C E nx w (do eqGuard op t x y (.pointer p) (.pointer none); binOp op t (.pointer p) (.pointer none)) k := by
  have ht := (C.ok t i hi).ptr hk
  cases op <;> try exact h.elim
  · exact ⟨_, _, by simp [eqGuard, run_eql_pointer_nil w t p ht], h, RS.bool ..⟩
  · exact ⟨_, _, by simp [eqGuard, run_neq_pointer_nil w t p ht], h, RS.bool ..⟩
theorem binK_ok {C : Cx} {E : Env} {nx : Nat} {w : World} {op : BinOp} {t : Nat} {x y : Operand} {sx sy : SV} {u v : Value} {k : SV → Prop} (hu : RS E nx w sx u) (hv : RS E nx w sy v) (h : binK C op t sx sy k) :
    Yields C E nx w (do eqGuard op t x y u v; binOp op t u v) k := by
  unfold binK at h
  split at h
  · rename_i kd a kd' b
    obtain rfl := hu.val_inv
    obtain rfl := hv.val_inv
    cases hk : (BinOp.isShift op || decide (kd = kd')) with
    | false => simp [hk] at h
    | true => simp only [hk, cond_true] at h; exact binI_ok hk h
  · rename_i a b
    obtain rfl := hu.val_inv
    obtain rfl := hv.val_inv
    split at h
    · rename_i i hi
      cases hb : i.k.isBool with
      | false => simp [hb] at h
      | true =>
        simp only [hb, cond_true] at h
        have ht := (C.ok t i hi).bool hb
        cases op <;> try exact h.elim
        · exact ⟨_, _, by simp [eqGuard, run_eql_bool w t a b ht], h, RS.bool ..⟩
        · exact ⟨_, _, by simp [eqGuard, run_neq_bool w t a b ht], h, RS.bool ..⟩
    · exact h.elim
  · rename_i a b
    obtain rfl := hu.val_inv
    obtain rfl := hv.val_inv
    cases op <;> try exact h.elim
    · exact ⟨_, _, by
        have h1 : (a.size : Int) + (b.size : Int) ≤ 9223372036854775807 := by have := h.1; omega
        have h2 : ¬ ((9223372036854775807 : Int) < (a.size : Int) + (b.size : Int)) := by omega
        simp [eqGuard, binOp, Op.stringOp, h2], h.2, .d _ _ (.val _ rfl)⟩
    all_goals exact ⟨_, _, by simp [eqGuard, binOp, Op.stringOp], h, RS.bool ..⟩
  · obtain rfl := hu.val_inv
    obtain rfl := hv.val_inv
    split at h
    · rename_i i hi
      cases hb : i.k.isPtr with
      | false => simp [hb] at h
      | true => simp only [hb, cond_true] at h; exact binP_ok (p := none) hi hb h
    · exact h.elim
  · obtain rfl := hv.val_inv
    split at h
    · rename_i i hi
      cases hb : i.k.isPtr with
      | false => simp [hb] at h
      | true =>
        simp only [hb, cond_true] at h
        cases hu with | d _ _ hu => cases hu with | ref => exact binP_ok (p := some _) hi hb h
    · exact h.elim
  · obtain rfl := hv.val_inv
    split at h
    · rename_i i hi
      cases hb : i.k.isPtr with
      | false => simp [hb] at h
      | true =>
        simp only [hb, cond_true] at h
        cases hu with | ptr => exact binP_ok (p := some _) hi hb h
    · exact h.elim
  · obtain rfl := hv.val_inv
    split at h
    · rename_i i hi
      cases hb : i.k.isPtr with
      | false => simp [hb] at h
      | true =>
        simp only [hb, cond_true] at h
        cases hu with | rp => exact binP_ok (p := some _) hi hb h
    · exact h.elim
  · exact h.elim
def unK (op : UnOp) : SV → (SV → Prop) → Prop
  | .d (.val (.int kd a)), k => match op with
    | .neg => Ov kd (0 - a) fun z => k (.i kd z)
    | .xor => k (.i kd (bits .xor kd (if kd.signed then -1 else kd.max) a))
    | _ => False
  | .d (.val (.bool b)), k => match op with
    | .not => k (.b (!b))
    | _ => False
  | _, _ => False
theorem unK_ok {C : Cx} {E : Env} {nx : Nat} {w : World} {op : UnOp} {sx : SV} {u : Value} {k : SV → Prop} (hu : RS E nx w sx u) (h : unK op sx k) : Yields C E nx w (Op.unary op u) k := by
  unfold unK at h
  split at h
  · obtain rfl := hu.val_inv
    cases op <;> try exact h.elim
    · exact ⟨_, _, by simp [Op.unary, Op.intArith], h.out, RS.int ..⟩
    · exact ⟨_, _, by simp [Op.unary, intBits_xor], h, RS.int ..⟩
  · obtain rfl := hu.val_inv
    cases op <;> try exact h.elim
    exact ⟨_, _, by simp [Op.unary], h, RS.bool ..⟩
  · exact h.elim
structure StrOf (n : Nat) (f : Nat → List D) (c : ByteArray → Prop) : Prop where
  out : ∃ xs : List Int, xs.length = n ∧ (∀ i, i < n → f i = [.val (.int .u8 (xs.getD i default))]) ∧ c ⟨(xs.map fun x => UInt8.ofNat x.toNat).toArray⟩
theorem push_bytes : ∀ (ns : List Int) (s : ByteArray), ns.foldl (fun r n => r.push (UInt8.ofNat n.toNat)) s = ⟨s.data ++ (ns.map fun x => UInt8.ofNat x.toNat).toArray⟩
  | [], s => by simp
  | n :: r, s => by
    rw [List.foldl_cons, push_bytes r]
    simp [ByteArray.push]
def convK (C : Cx) (src dst : Nat) : SV → (SV → Prop) → Prop
  | .d (.sl z n f), k => match C.tt src, C.tt dst with
    | some i, some j => match i.k, j.k with
      | .slice e, .str => match C.tt e with
        | some y => match y.k with
          | .int .u8 => bif Nat.beq z 1 then StrOf n f fun s => k (.d (.val (.string s))) else False
          | _ => False
        | none => False
      | _, _ => False
    | _, _ => False
  | .d (.val (.int _ a)), k => match C.tt src, C.tt dst with
    | some _, some j => match j.k with
      | .int kd => Ov kd a fun z => k (.i kd z)
      | _ => False
    | _, _ => False
  | .d (.val (.string s)), k => match C.tt src, C.tt dst with
    | some _, some j => match j.k with
      | .str => k (.d (.val (.string s)))
      | _ => False
    | _, _ => False
  | _, _ => False
theorem convK_ok {C : Cx} {E : Env} {nx : Nat} {w : World} {src dst : Nat} {sx : SV} {u : Value} {k : SV → Prop} (hu : RS E nx w sx u) (h : convK C src dst sx k) : Yields C E nx w (convert src dst u) k := by
  unfold convK at h
  split at h
  · rename_i z n f
    split at h
    · rename_i i j hi hj
      split at h
      · rename_i e hk hk2
        have ht := (C.ok _ _ hi).slice hk
        have hd := (C.ok _ _ hj).str hk2
        split at h
        · rename_i y hy
          split at h
          · rename_i hky
            have he := (C.ok _ _ hy).int hky
            cases hz : Nat.beq z 1 with
            | false => simp [hz] at h
            | true =>
              simp only [hz, cond_true] at h
              obtain rfl := Nat.eq_of_beq_eq_true hz
              obtain ⟨xs, h1, h2, h3⟩ := h.out
              cases hu with
              | d _ _ hu =>
                cases hu with
                | sl _ _ _ a cap g hc hm hl ha hg =>
                  have hcv : (convert src dst (.slice a n cap)).run C.P w = (Conv.bytesToString (.slice a n cap)).run C.P w := by
                    cases a <;> simp [convert, run_underlying ht, run_underlying hd, run_underlying he]
                  refine ⟨.string _, _, ?_, h3, .d _ _ (.val _ rfl)⟩
                  rw [hcv]
                  cases a with
                  | none =>
                    have : n = 0 := by
                      rcases Nat.eq_zero_or_pos n with h0 | h0
                      · exact h0
                      · obtain ⟨b, o, e, _⟩ := ha (by omega); cases e
                    subst this
                    obtain rfl := List.eq_nil_of_length_eq_zero h1
                    rfl
                  | some ad =>
                    have := run_bytesToString (P := C.P) w ad n cap xs (by
                      have hl2 := run_loadCells_list (P := C.P) (w := w) ad (xs.map (Value.int .u8)) (fun j v hv => by
                        rw [List.getElem?_map] at hv
                        obtain ⟨x, hx, rfl⟩ := Option.map_eq_some_iff.1 hv
                        have hjl := (List.getElem?_eq_some_iff.1 hx).1
                        obtain ⟨b, o, e, _, hcell⟩ := ha (by omega)
                        cases e
                        have g1 := hcell j 0 (by omega) (by omega)
                        have g2 := hg j 0 (by omega) (by rw [hl j (by omega)]; omega)
                        have g3 : (f j)[0]'(by rw [hl j (by omega)]; omega) = .val (.int .u8 x) := by
                          simp [h2 j (by omega), List.getD, hx]
                        rw [g3] at g2
                        have g4 : g j 0 = .int .u8 x := by generalize g j 0 = y at g2; cases g2; rfl
                        rw [g4] at g1
                        rw [Addr.add_lit]
                        simpa using g1)
                      rw [List.length_map, h1] at hl2
                      exact hl2)
                    rw [this, push_bytes]
                    simp
          · exact h.elim
        · exact h.elim
      · exact h.elim
    · exact h.elim
  · obtain rfl := hu.val_inv
    split at h
    · rename_i i j hi hj
      split at h
      · rename_i kd hk
        have hd := (C.ok _ _ hj).int hk
        obtain ⟨d, hs, _⟩ := (C.ok _ _ hi).desc
        exact ⟨_, _, by simp [convert, run_underlying hs, run_underlying hd, Conv.intToInt], h.out, RS.int ..⟩
      · exact h.elim
    · exact h.elim
  · obtain rfl := hu.val_inv
    split at h
    · rename_i i j hi hj
      split at h
      · rename_i hk
        have hd := (C.ok _ _ hj).str hk
        obtain ⟨d, hs, _⟩ := (C.ok _ _ hi).desc
        exact ⟨_, _, by cases d <;> simp [convert, run_underlying hs, run_underlying hd], h, .d _ _ (.val _ rfl)⟩
      · exact h.elim
    · exact h.elim
  · exact h.elim
def partK (i : TI) (vs : List SV) (off : Nat) (k : SV → Prop) : Prop :=
  bif i.k.agg then takeK vs off i.size fun r => k (.agg r) else nthK vs off k
def fieldK (C : Cx) (t f : Nat) : SV → (SV → Prop) → Prop
  | .agg vs, k => match C.tt t with
    | some i => match i.k with
      | .struct fs => match fs[f]? with
        | some (off, ft) => match C.tt ft with
          | some j => partK j vs off k
          | none => False
        | none => False
      | _ => False
    | none => False
  | _, _ => False
theorem partK_ok {C : Cx} {E : Env} {nx : Nat} {w : World} {t : Nat} {j : TI} (hj : C.tt t = some j) {vs : List SV} {us : Array Value} {off : Nat} {k : SV → Prop} (hs : us.size = vs.length) (h1 : ∀ j, j < us.size → (us.getD j undef).oneCell' = true)
    (hh : ∀ j (hj : j < vs.length), RS E nx w vs[j] (us.getD j undef)) (h : partK j vs off k) : Yields C E nx w (part t us off) k := by
  have ha := (C.ok t j hj).isAgg w
  have hz := (C.ok t j hj).sizeOf w
  unfold partK at h
  cases hb : j.k.agg with
  | true =>
    simp only [hb, cond_true] at h
    obtain ⟨h2, h3⟩ := takeK_ok _ _ _ _ h
    have hl : (us.extract off (off + j.size)).size = j.size := by simp; omega
    have hx : ∀ q, q < j.size → (us.extract off (off + j.size)).getD q undef = us.getD (off + q) undef := fun q hq => by
      have h5 : off + q < us.size := by omega
      simp [Array.getD, hl, hq, h5]
    refine ⟨.agg (us.extract off (off + j.size)), _, by simp [part, ha, hb, hz], h3, .agg _ _ (by rw [hl, List.length_take, List.length_drop]; omega) (fun q hq => ?_) (fun q hq => ?_)⟩
    · rw [hx q (by omega)]; exact h1 _ (by omega)
    · have hq' : q < j.size := by rw [List.length_take] at hq; omega
      rw [hx q hq', List.getElem_take, List.getElem_drop]; exact hh _ (by omega)
  | false =>
    simp only [hb, cond_false] at h
    obtain ⟨h2, h3⟩ := nthK_ok _ _ _ h
    have h4 : off < us.size := by omega
    refine ⟨us[off], _, by simp [part, ha, hb, h4], h3, ?_⟩
    have := hh off h2
    simpa [Array.getD, h4] using this
theorem fieldK_ok {C : Cx} {E : Env} {nx : Nat} {w : World} {t f : Nat} {sx : SV} {u : Value} {k : SV → Prop} (hu : RS E nx w sx u) (h : fieldK C t f sx k) : Yields C E nx w (Instr.field t u f) k := by
  unfold fieldK at h
  split at h
  · cases hu with
    | agg _ us hs h1 hh =>
      split at h
      · rename_i i hi
        split at h
        · rename_i fs hk
          obtain ⟨Fs, hF, hm⟩ := (C.ok _ _ hi).struct hk
          split at h
          · rename_i off ft hf
            split at h
            · rename_i j hj
              obtain ⟨v, x, e1, e2, e3⟩ := partK_ok (C := C) (E := E) (nx := nx) (w := w) hj hs h1 hh h
              rw [← hm, List.getElem?_map] at hf
              obtain ⟨F, hF1, hF2⟩ := Option.map_eq_some_iff.1 hf
              have hF3 : Fs[f]? = some F := by simpa using hF1
              injection hF2 with g1 g2
              subst g1 g2
              exact ⟨v, x, by simp [Instr.field, run_underlying hF, hF3, asAgg, e1], e2, e3⟩
            · exact h.elim
          · exact h.elim
        · exact h.elim
      · exact h.elim
  · exact h.elim
def indexK (C : Cx) (t : Nat) : SV → SV → (SV → Prop) → Prop
  | .d (.val (.string s)), .d (.val (.int _ i)), k => match C.tt t with
    | some j => match j.k with
      | .str => (0 ≤ i ∧ i < s.size) ∧ k (.i .u8 (s.data.getD i.toNat 0).toNat)
      | _ => False
    | none => False
  | _, _, _ => False
theorem indexK_ok {C : Cx} {E : Env} {nx : Nat} {w : World} {t : Nat} {sx sy : SV} {u v : Value} {k : SV → Prop} (hu : RS E nx w sx u) (hv : RS E nx w sy v) (h : indexK C t sx sy k) : Yields C E nx w (Instr.index t u v) k := by
  unfold indexK at h
  split at h
  · rename_i s kk i
    obtain rfl := hu.val_inv
    obtain rfl := hv.val_inv
    split at h
    · rename_i j hj
      split at h
      · rename_i hk
        have ht := (C.ok _ _ hj).str hk
        have h1 := h.1
        refine ⟨_, _, by rw [run_index_string w t s kk i ht, dif_pos h1], h.2, ?_⟩
        have hlt : i.toNat < s.size := by omega
        have e : s.data.getD i.toNat 0 = s[i.toNat]'hlt := by
          show (if h : i.toNat < s.data.size then s.data[i.toNat] else 0) = _
          rw [dif_pos (show i.toNat < s.data.size from hlt)]; rfl
        rw [e]; exact RS.int ..
      · exact h.elim
    · exact h.elim
  · exact h.elim
def extractK (i : Nat) : SV → (SV → Prop) → Prop
  | .tup vs, k => nthK vs i k
  | _, _ => False
theorem extractK_ok {C : Cx} {E : Env} {nx : Nat} {w : World} {i : Nat} {sx : SV} {u : Value} {k : SV → Prop} (hu : RS E nx w sx u) (h : extractK i sx k) : Yields C E nx w (Instr.extract u i) k := by
  unfold extractK at h
  split at h
  · cases hu with
    | tup vs us hs hh =>
      obtain ⟨h2, h3⟩ := nthK_ok _ _ _ h
      have h4 : i < us.size := by omega
      refine ⟨us[i], _, by simp [Instr.extract, h4], h3, ?_⟩
      have := hh i h2
      simpa [Array.getD, h4] using this
  · exact h.elim
def lenK (C : Cx) (t : Nat) : SV → (SV → Prop) → Prop
  | .d (.sl _ n _), k => match C.tt t with
    | some j => match j.k with
      | .slice _ => k (.i .i64 n)
      | _ => False
    | none => False
  | .sl _ _ _ n, k => match C.tt t with
    | some j => match j.k with
      | .slice _ => k (.i .i64 n)
      | _ => False
    | none => False
  | .d (.val (.slice _ n _)), k => match C.tt t with
    | some j => match j.k with
      | .slice _ => k (.i .i64 n)
      | _ => False
    | none => False
  | .d (.val (.string s)), k => match C.tt t with
    | some j => match j.k with
      | .str => k (.i .i64 s.size)
      | _ => False
    | none => False
  | _, _ => False
theorem lenK_ok {C : Cx} {E : Env} {nx : Nat} {w : World} {t ty : Nat} {sx : SV} {u : Value} {k : SV → Prop} (hu : RS E nx w sx u) (h : lenK C t sx k) : Yields C E nx w (Builtin.len_ #[t] ty #[u]) k := by
  unfold lenK at h
  split at h
  · split at h
    · rename_i j hj
      split at h
      · rename_i hk
        have ht := (C.ok _ _ hj).slice hk
        cases hu with | d _ _ hu => cases hu with | sl => exact ⟨_, _, by simp [Builtin.len_, run_underlying ht, goInt], h, RS.int ..⟩
      · exact h.elim
    · exact h.elim
  · split at h
    · rename_i j hj
      split at h
      · rename_i hk
        have ht := (C.ok _ _ hj).slice hk
        cases hu with | sl => exact ⟨_, _, by simp [Builtin.len_, run_underlying ht, goInt], h, RS.int ..⟩
      · exact h.elim
    · exact h.elim
  · split at h
    · rename_i j hj
      split at h
      · rename_i hk
        have ht := (C.ok _ _ hj).slice hk
        obtain rfl := hu.val_inv
        exact ⟨_, _, by simp [Builtin.len_, run_underlying ht, goInt], h, RS.int ..⟩
      · exact h.elim
    · exact h.elim
  · split at h
    · rename_i j hj
      split at h
      · rename_i hk
        have ht := (C.ok _ _ hj).str hk
        obtain rfl := hu.val_inv
        exact ⟨_, _, by simp [Builtin.len_, run_underlying ht, goInt], h, RS.int ..⟩
      · exact h.elim
    · exact h.elim
  · exact h.elim
def minK : SV → SV → (SV → Prop) → Prop
  | .d (.val (.int kd x)), .d (.val (.int _ y)), k => k (.i kd (if y < x then y else x))
  | _, _, _ => False
def maxK : SV → SV → (SV → Prop) → Prop
  | .d (.val (.int kd x)), .d (.val (.int _ y)), k => k (.i kd (if y > x then y else x))
  | _, _, _ => False
theorem minK_ok {C : Cx} {E : Env} {nx : Nat} {w : World} {ts : Array TypeId} {t : Nat} {sx sy : SV} {u v : Value} {k : SV → Prop} (hu : RS E nx w sx u) (hv : RS E nx w sy v) (h : minK sx sy k) : Yields C E nx w (Builtin.min_ ts t #[u, v]) k := by
  unfold minK at h
  split at h
  · obtain rfl := hu.val_inv
    obtain rfl := hv.val_inv
    exact ⟨_, _, by rw [run_min_int2], h, RS.int ..⟩
  · exact h.elim
theorem maxK_ok {C : Cx} {E : Env} {nx : Nat} {w : World} {ts : Array TypeId} {t : Nat} {sx sy : SV} {u v : Value} {k : SV → Prop} (hu : RS E nx w sx u) (hv : RS E nx w sy v) (h : maxK sx sy k) : Yields C E nx w (Builtin.max_ ts t #[u, v]) k := by
  unfold maxK at h
  split at h
  · obtain rfl := hu.val_inv
    obtain rfl := hv.val_inv
    exact ⟨_, _, by rw [run_max_int2], h, RS.int ..⟩
  · exact h.elim
end Go.Proofs.YteallmlkkcjblaaGreatDoor

namespace Go.Proofs.YteallmlkkcjblaaGreatDoor
open Go.RowKit
def eqFsG (C : Cx) (r : Nat → SV → SV → (Bool → Prop) → Prop) (xs ys : List SV) : List (Nat × Nat) → (Bool → Prop) → Prop
  | [], k => k true
  | [(off, ft)], k => match C.tt ft with
    | some j => partK j xs off fun a => partK j ys off fun b => r ft a b k
    | none => False
  | (off, ft) :: rs, k => match C.tt ft with
    | some j => partK j xs off fun a => partK j ys off fun b => r ft a b fun c => eqFsG C r xs ys rs fun c' => k (c && c')
    | none => False
def eqT (C : Cx) : Nat → Nat → SV → SV → (Bool → Prop) → Prop
  | 0, _, _, _, _ => False
  | d + 1, t, x, y, k => match C.tt t with
    | some i => match i.k, x, y with
      | .int _, .d (.val (.int ka a)), .d (.val (.int kb b)) => bif decide (ka = kb) then k (a == b) else False
      | .bool, .d (.val (.bool a)), .d (.val (.bool b)) => k (a == b)
      | .str, .d (.val (.string a)), .d (.val (.string b)) => k (a.toList == b.toList)
      | .struct fs, .agg xs, .agg ys => bif i.eq then eqFsG C (eqT C d) xs ys fs k else False
      | _, _, _ => False
    | none => False
theorem eqFs_ok {C : Cx} {E : Env} {nx : Nat} {w : World} (d D : Nat) (H : ∀ (t : Nat) (x y : SV) (u v : Value) (k : Bool → Prop), RS E nx w x u → RS E nx w y v → eqT C d t x y k → ∃ c, (Op.equalIn D t u v).run C.P w = .ok c w ∧ k c)
    {xs ys : List SV} {us vs : Array Value} (hs1 : us.size = xs.length) (h11 : ∀ j, j < us.size → (us.getD j undef).oneCell' = true) (hh1 : ∀ j (hj : j < xs.length), RS E nx w xs[j] (us.getD j undef))
    (hs2 : vs.size = ys.length) (h12 : ∀ j, j < vs.size → (vs.getD j undef).oneCell' = true) (hh2 : ∀ j (hj : j < ys.length), RS E nx w ys[j] (vs.getD j undef)) :
    ∀ (Fs : List Field) (k : Bool → Prop), (∀ f ∈ Fs, f.name ≠ "_") → eqFsG C (eqT C d) xs ys (Fs.map fun f => (f.offset, f.type)) k → ∃ c, (Op.eqFields D us vs Fs).run C.P w = .ok c w ∧ k c
  | [], k, hn, h => ⟨true, by simp [Op.eqFields], by simpa [eqFsG] using h⟩
  | F :: Fr, k, hn, h => by
    have hname := hn F (by simp)
    have step : ∀ (k' : Bool → Prop) (j : TI), C.tt F.type = some j → (partK j xs F.offset fun a => partK j ys F.offset fun b => eqT C d F.type a b k') →
        ∃ a b c, (part F.type us F.offset).run C.P w = .ok a w ∧ (part F.type vs F.offset).run C.P w = .ok b w ∧ (Op.equalIn D F.type a b).run C.P w = .ok c w ∧ k' c := by
      intro k' j hj h
      obtain ⟨a, x, g1, g2, g3⟩ := partK_ok (C := C) (E := E) (nx := nx) (w := w) hj hs1 h11 hh1 h
      obtain ⟨b, y, g4, g5, g6⟩ := partK_ok (C := C) (E := E) (nx := nx) (w := w) hj hs2 h12 hh2 g2
      obtain ⟨c, g7, g8⟩ := H F.type x y a b k' g3 g6 g5
      exact ⟨a, b, c, g1, g4, g7, g8⟩
    cases Fr with
    | nil =>
      simp only [List.map_cons, List.map_nil] at h
      unfold eqFsG at h
      split at h
      · rename_i j hj
        obtain ⟨a, b, c, g1, g2, g3, g4⟩ := step k j hj h
        refine ⟨c, ?_, g4⟩
        cases c <;> simp [Op.eqFields, hname, g1, g2, g3]
      · exact h.elim
    | cons G Gr =>
      simp only [List.map_cons] at h
      unfold eqFsG at h
      split at h
      · rename_i j hj
        obtain ⟨a, b, c, g1, g2, g3, g4⟩ := step _ j hj h
        obtain ⟨c', g5, g6⟩ := eqFs_ok d D H hs1 h11 hh1 hs2 h12 hh2 (G :: Gr) _ (fun f hf => hn f (by simp [hf])) g4
        refine ⟨c && c', ?_, g6⟩
        rw [Op.eqFields]
        cases c <;> simp [hname, g1, g2, g3, g5]
      · exact h.elim
theorem eqT_ok {C : Cx} {E : Env} {nx : Nat} {w : World} : ∀ (d : Nat) (t : Nat) (x y : SV) (u v : Value) (k : Bool → Prop) (D : Nat), RS E nx w x u → RS E nx w y v → eqT C d t x y k → d ≤ D →
    ∃ c, (Op.equalIn D t u v).run C.P w = .ok c w ∧ k c := by
  intro d
  induction d with
  | zero => intro t x y u v k D hu hv h; simp [eqT] at h
  | succ d ih =>
    intro t x y u v k D hu hv h hd
    obtain ⟨D, rfl⟩ : ∃ D', D = D' + 1 := ⟨D - 1, by omega⟩
    unfold eqT at h
    split at h
    · rename_i i hi
      split at h
      · rename_i kk ka a kb b hk
        obtain rfl := hu.val_inv
        obtain rfl := hv.val_inv
        cases hb : decide (ka = kb) with
        | false => simp [hb] at h
        | true =>
          simp only [hb, cond_true] at h
          obtain rfl := of_decide_eq_true hb
          exact ⟨_, run_equalIn_int w D t ka kk a b ((C.ok _ _ hi).int hk), h⟩
      · rename_i a b hk
        obtain rfl := hu.val_inv
        obtain rfl := hv.val_inv
        exact ⟨_, run_equalIn_bool' w D t a b ((C.ok _ _ hi).bool (by rw [hk]; rfl)), h⟩
      · rename_i a b hk
        obtain rfl := hu.val_inv
        obtain rfl := hv.val_inv
        exact ⟨_, run_equalIn_string w D t a b ((C.ok _ _ hi).str hk), h⟩
      · rename_i fs xs ys hk
        cases he : i.eq with
        | false => simp [he] at h
        | true =>
          simp only [he, cond_true] at h
          obtain ⟨e1, e2, e3⟩ := (C.ok _ _ hi).eq he
          obtain ⟨Fs, hF, hm⟩ := (C.ok _ _ hi).struct hk
          have hfo : C.P.fieldsOf t = Fs := by simp [Program.fieldsOf, hF]
          cases hu with
          | agg _ us hs1 h11 hh1 =>
            cases hv with
            | agg _ vs hs2 h12 hh2 =>
              rw [run_equalIn_struct w D t us vs (by rw [hfo]; exact hF) e1, hfo]
              rw [hfo, List.all_eq_true] at e3
              rw [← hm] at h
              exact eqFs_ok d D (fun t x y u v k hu hv h => ih t x y u v k D hu hv h (by omega)) hs1 h11 hh1 hs2 h12 hh2 Fs.toList k (fun f hf => by simpa using e3 f hf) h
      · exact h.elim
    · exact h.elim
def TK.isFunc : TK → Bool
  | .func => true
  | _ => false
def nilSl (C : Cx) (op : BinOp) (t n : Nat) (k : SV → Prop) : Prop :=
  match C.tt t with
  | some i => match i.k with
    | .slice _ => ∀ c : Bool, (0 < n → c = false) → binP op c k
    | _ => False
  | none => False
structure BinStop (C : Cx) (op : BinOp) (t : Nat) (x y : SV) (k : SV → Prop) : Prop where
  out : ∀ E nx w (x' y' : Operand) u v, RS E nx w x u → RS E nx w y v → Yields C E nx w (do eqGuard op t x' y' u v; binOp op t u v) k
def binX (C : Cx) (op : BinOp) (t : Nat) (x y : SV) (k : SV → Prop) : Prop :=
  match x, y with
  | .agg xs, .agg ys => match C.tt t with
    | some i => bif i.eq then eqT C 8 t (.agg xs) (.agg ys) (fun c => binP op c k) else False
    | none => False
  | .d (.sl z n _), .d (.val (.slice none 0 0)) => bif Nat.beq z 0 then False else nilSl C op t n k
  | .sl _ z _ n, .d (.val (.slice none 0 0)) => bif Nat.beq z 0 then False else nilSl C op t n k
  | .d (.val (.slice none 0 0)), .d (.val (.slice none 0 0)) => match C.tt t with
    | some i => match i.k with
      | .slice _ => binP op true k
      | _ => False
    | none => False
  | .d (.fn _ _), .d (.val .nilFunc) => match C.tt t with
    | some i => bif i.k.isFunc then binP op false k else False
    | none => False
  | .fn _ _, .d (.val .nilFunc) => match C.tt t with
    | some i => bif i.k.isFunc then binP op false k else False
    | none => False
  | .d (.val .nilFunc), .d (.val .nilFunc) => match C.tt t with
    | some i => bif i.k.isFunc then binP op true k else False
    | none => False
  | .d (.val (.iface a b)), .d (.val .nilIface) => BinStop C op t (.d (.val (.iface a b))) (.d (.val .nilIface)) k
  | .d (.val .nilIface), .d (.val .nilIface) => BinStop C op t (.d (.val .nilIface)) (.d (.val .nilIface)) k
  | _, _ => binK C op t x y k
theorem TIok.func {P : Program} {t : Nat} {i : TI} (h : TIok P t i) (hk : i.k.isFunc = true) : ∃ p r v, P.underlying t = some (.func p r v) := by
  obtain ⟨d, h1, h2⟩ := h.desc
  rw [← h2] at hk
  cases d <;> simp [descK, TK.isFunc] at hk
  exact ⟨_, _, _, h1⟩
theorem binP_of {C : Cx} {E : Env} {nx : Nat} {w : World} {op : BinOp} {t : Nat} {x y : Operand} {u v : Value} {c : Bool} {k : SV → Prop} (hg : (eqGuard op t x y u v).run C.P w = .ok () w)
    (h1 : (binOp .eql t u v).run C.P w = .ok (.bool c) w) (h2 : (binOp .neq t u v).run C.P w = .ok (.bool (!c)) w) (h : binP op c k) :
    Yields C E nx w (do eqGuard op t x y u v; binOp op t u v) k := by
  cases op <;> try exact h.elim
  · exact ⟨_, _, by simp [hg, h1], h, RS.bool ..⟩
  · exact ⟨_, _, by simp [hg, h2], h, RS.bool ..⟩
theorem nilSl_ok {C : Cx} {E : Env} {nx : Nat} {w : World} {op : BinOp} {t n cap : Nat} {x y : Operand} {a : Option Addr} {k : SV → Prop} (ha : 0 < n → a ≠ none) (h : nilSl C op t n k) :
    Yields C E nx w (do eqGuard op t x y (.slice a n cap) (.slice none 0 0); binOp op t (.slice a n cap) (.slice none 0 0)) k := by
  unfold nilSl at h
  split at h
  · rename_i i hi
    split at h
    · rename_i e hk
      have ht := (C.ok _ _ hi).slice hk
      refine binP_of (c := a.isNone) (by cases op <;> simp [eqGuard]) (Lib.run_eql_slice_nil w t e a n cap 0 0 ht) (run_neq_slice_nil_any w t e a n cap 0 0 ht) (h _ fun hn => ?_)
      cases a with
      | none => exact absurd rfl (ha hn)
      | some _ => rfl
    · exact h.elim
  · exact h.elim
theorem run_func_nil {P : Program} (w : World) {t : Nat} {p r : Array TypeId} {vv : Bool} (ht : P.underlying t = some (.func p r vv)) (f : Fn) (a b : Array Value) :
    (binOp .eql t (.func f a b) .nilFunc).run P w = .ok (.bool false) w ∧ (binOp .neq t (.func f a b) .nilFunc).run P w = .ok (.bool (!false)) w := by
  have h : ∀ d, (Op.equalIn (d + 1) t (.func f a b) .nilFunc).run P w = .ok false w := fun d => by simp [Op.equalIn, run_underlying ht]
  constructor <;> (simp only [binOp]; simp [Op.equal, Op.maxDepth, h 9999])
theorem run_nil_nil {P : Program} (w : World) {t : Nat} {p r : Array TypeId} {vv : Bool} (ht : P.underlying t = some (.func p r vv)) :
    (binOp .eql t .nilFunc .nilFunc).run P w = .ok (.bool true) w ∧ (binOp .neq t .nilFunc .nilFunc).run P w = .ok (.bool (!true)) w := by
  have h : ∀ d, (Op.equalIn (d + 1) t .nilFunc .nilFunc).run P w = .ok true w := fun d => by simp [Op.equalIn, run_underlying ht]
  constructor <;> (simp only [binOp]; simp [Op.equal, Op.maxDepth, h 9999])
theorem binX_ok {C : Cx} {E : Env} {nx : Nat} {w : World} {op : BinOp} {t : Nat} {x y : Operand} {sx sy : SV} {u v : Value} {k : SV → Prop} (hu : RS E nx w sx u) (hv : RS E nx w sy v) (h : binX C op t sx sy k) :
    Yields C E nx w (do eqGuard op t x y u v; binOp op t u v) k := by
  unfold binX at h
  split at h
  · split at h
    · rename_i xs ys _ i hi
      cases he : i.eq with
      | false => simp [he] at h
      | true =>
        simp only [he, cond_true] at h
        obtain ⟨e1, e2, e3⟩ := (C.ok _ _ hi).eq he
        obtain ⟨c, h1, h2⟩ := eqT_ok 8 t _ _ u v _ 10000 hu hv h (by omega)
        cases hu with
        | agg _ us _ _ _ =>
          cases hv with
          | agg _ vs _ _ _ =>
            exact binP_of (run_eqGuard_agg w op t x y us vs e2) (by rw [run_eql_struct, h1]; rfl) (by rw [run_neq_struct, h1]; rfl) h2
    · exact h.elim
  · rename_i z n f
    obtain rfl := hv.val_inv
    cases hz : Nat.beq z 0 with
    | true => simp [hz] at h
    | false =>
      simp only [hz, cond_false] at h
      have hz' : z ≠ 0 := fun e => by rw [e] at hz; exact absurd hz (by decide)
      cases hu with
      | d _ _ hu =>
        cases hu with
        | sl _ _ _ a cap g hc hm hl ha hg => exact nilSl_ok (fun hn => by obtain ⟨b, o, e, _⟩ := ha (Nat.mul_pos hn (by omega)); rw [e]; simp) h
  · rename_i l z off n
    obtain rfl := hv.val_inv
    cases hz : Nat.beq z 0 with
    | true => simp [hz] at h
    | false =>
      simp only [hz, cond_false] at h
      cases hu with
      | sl _ _ _ _ a cap hlx hc hm ha h0 => exact nilSl_ok (fun hn => by rw [ha hn]; simp) h
  · obtain rfl := hu.val_inv
    obtain rfl := hv.val_inv
    split at h
    · rename_i i hi
      split at h
      · rename_i e hk
        have ht := (C.ok _ _ hi).slice hk
        exact binP_of (c := true) (by cases op <;> simp [eqGuard]) (Lib.run_eql_slice_nil w t e none 0 0 0 0 ht) (run_neq_slice_nil_any w t e none 0 0 0 0 ht) h
      · exact h.elim
    · exact h.elim
  · obtain rfl := hv.val_inv
    split at h
    · rename_i i hi
      cases hk : i.k.isFunc with
      | false => simp [hk] at h
      | true =>
        simp only [hk, cond_true] at h
        obtain ⟨p, r, vv, ht⟩ := (C.ok _ _ hi).func hk
        cases hu with
        | d _ _ hu =>
          cases hu with
          | fn => exact binP_of (c := false) (by cases op <;> simp [eqGuard]) (run_func_nil w ht _ _ _).1 (run_func_nil w ht _ _ _).2 h
    · exact h.elim
  · obtain rfl := hv.val_inv
    split at h
    · rename_i i hi
      cases hk : i.k.isFunc with
      | false => simp [hk] at h
      | true =>
        simp only [hk, cond_true] at h
        obtain ⟨p, r, vv, ht⟩ := (C.ok _ _ hi).func hk
        cases hu with
        | fn => exact binP_of (c := false) (by cases op <;> simp [eqGuard]) (run_func_nil w ht _ _ _).1 (run_func_nil w ht _ _ _).2 h
    · exact h.elim
  · obtain rfl := hu.val_inv
    obtain rfl := hv.val_inv
    split at h
    · rename_i i hi
      cases hk : i.k.isFunc with
      | false => simp [hk] at h
      | true =>
        simp only [hk, cond_true] at h
        obtain ⟨p, r, vv, ht⟩ := (C.ok _ _ hi).func hk
        exact binP_of (c := true) (by cases op <;> simp [eqGuard]) (run_nil_nil w ht).1 (run_nil_nil w ht).2 h
    · exact h.elim
  · exact h.out E nx w x y u v hu hv
  · exact h.out E nx w x y u v hu hv
  · exact binK_ok hu hv h
theorem BinStop.ifNil {C : Cx} {op : BinOp} {t : Nat} {ms : Array (String × TypeId)} {a : TypeId} {b : Value} {k : SV → Prop} (ht : C.P.underlying t = some (.interface ms)) (h : binP op false k) : BinStop C op t (.d (.val (.iface a b))) (.d (.val .nilIface)) k :=
  ⟨fun E nx w x' y' u v hu hv => by
    obtain rfl := hu.val_inv
    obtain rfl := hv.val_inv
    have h1 : ∀ d, (Op.equalIn (d + 1) t (.iface a b) .nilIface).run C.P w = .ok false w := fun d => by simp [Op.equalIn, run_underlying ht]
    exact binP_of (c := false) (by cases op <;> simp [eqGuard]) (by simp only [binOp]; simp [Op.equal, Op.maxDepth, h1 9999]) (by simp only [binOp]; simp [Op.equal, Op.maxDepth, h1 9999]) h⟩
end Go.Proofs.YteallmlkkcjblaaGreatDoor

namespace Go.Proofs.YteallmlkkcjblaaGreatDoor
open Go.RowKit
def St.seth (S : St) (l : Nat) (b : Option Blk) : St := match S with | ⟨nt, nx, fr, hp⟩ => ⟨nt, nx, fr, (l, b) :: hp⟩
theorem Sat.seth_gen {O : Org} {E : Env} {S : St} {a : Act} {w w' : World} (h : Sat O E S a w) {l : Nat} {b b' : Blk} (hl : lkh S.hp l = some b) (hr : b.real (E.κ l)) (hw : ∀ k, k ≠ E.ρ l → w'.heap[k]? = w.heap[k]?)
    (hsz : w'.heap.size = w.heap.size) (hos : w'.os = w.os ∧ w'.tape = w.tape ∧ w'.output = w.output) (hb : BS E S.nx w' l b') : Sat O E (S.seth l (some b')) a w' := by
  have hne : ∀ k, E.Im k → k ≠ E.ρ l := fun k hk e => (h.im k hk).2.2 l b hl hr e.symm
  have hwi : ∀ k, E.Im k → w'.heap[k]? = w.heap[k]? := fun k hk => hw k (hne k hk)
  have hlive : ∀ m x, lkh ((l, some b') :: S.hp) m = some x → (m = l ∧ x = b') ∨ (m ≠ l ∧ lkh S.hp m = some x) := by
    intro m x hm
    rw [lkh_cons] at hm
    by_cases e : l = m
    · rw [if_pos e] at hm; cases hm; exact Or.inl ⟨e.symm, rfl⟩
    · rw [if_neg e] at hm; exact Or.inr ⟨fun k => e k.symm, hm⟩
  have hlx := h.nx l b hl
  refine ⟨fun m => (h.fr m).mono (fun _ _ => ⟨rfl, rfl⟩) (Nat.le_refl _) (fun _ hb => hb) hwi, h.nt, h.df, ?_, ?_, ?_, ?_, ?_, ?_, h.lab, h.nl, h.imo⟩
  · intro m x hm
    rcases hlive m x hm with ⟨rfl, rfl⟩ | ⟨hn, hm'⟩
    · exact hb
    · refine (h.hp m x hm').mono (h.nx m x hm') (fun _ _ => ⟨rfl, rfl⟩) (Nat.le_refl _) (fun _ hb => hb) hwi (fun hxr => hw _ (h.inj m l x b hm' hl hxr hr hn))
  · intro m x hm
    rcases hlive m x hm with ⟨rfl, rfl⟩ | ⟨hn, hm'⟩
    · exact hlx
    · exact h.nx m x hm'
  · intro m m' x x' hm hm' hxr hxr' hne'
    rcases hlive m x hm with ⟨rfl, rfl⟩ | ⟨hn, hm1⟩ <;> rcases hlive m' x' hm' with ⟨rfl, rfl⟩ | ⟨hn', hm1'⟩
    · exact absurd rfl hne'
    · exact h.inj _ _ _ _ hl hm1' hr hxr' hne'
    · exact h.inj _ _ _ _ hm1 hl hxr hr hne'
    · exact h.inj _ _ _ _ hm1 hm1' hxr hxr' hne'
  · intro k hk
    obtain ⟨h1, h2, h3⟩ := h.im k hk
    refine ⟨by omega, h2, fun m x hm hxr => ?_⟩
    rcases hlive m x hm with ⟨rfl, rfl⟩ | ⟨hn, hm'⟩
    · exact h3 _ b hl hr
    · exact h3 m x hm' hxr
  · intro m x hm hxr
    rcases hlive m x hm with ⟨rfl, rfl⟩ | ⟨hn, hm'⟩
    · exact h.own _ b hl hr
    · exact h.own m x hm' hxr
  · have hk := h.kq
    refine ⟨hos.1.trans hk.os, hos.2.1.trans hk.tape, hos.2.2.trans hk.output, by have := hk.size; omega, fun k hk1 hk2 => ?_⟩
    rw [hw k (fun e => by rcases h.own l b hl hr with h9 | h9; exact hk2 (e ▸ h9); omega)]
    exact hk.block k hk1 hk2
theorem Sat.setRow {O : Org} {E : Env} {S : St} {a : Act} {w : World} (h : Sat O E S a w) {l : Nat} {b b' : Blk} {vs vs' : Array Value} {T : TypeId} (hl : lkh S.hp l = some b) (hr : b.real (E.κ l)) (hg : w.heap[E.ρ l]? = some (.cells vs T (0, 0)))
    (hb : BS E S.nx (w.setRow (E.ρ l) vs') l b') : Sat O E (S.seth l (some b')) a (w.setRow (E.ρ l) vs') :=
  h.seth_gen hl hr (fun k hk => setRow_other w _ _ _ hk) (setRow_size _ _ _) ⟨rfl, rfl, rfl⟩ hb
theorem partK_spec {i : TI} {vs : List SV} {off : Nat} {k : SV → Prop} (h : partK i vs off k) :
    (i.k.agg = true → off + i.size ≤ vs.length ∧ k (.agg ((vs.drop off).take i.size))) ∧ (i.k.agg = false → ∃ h : off < vs.length, k vs[off]) := by
  unfold partK at h
  cases hb : i.k.agg with
  | true => simp only [hb, cond_true] at h; exact ⟨fun _ => takeK_ok _ _ _ _ h, fun e => by simp at e⟩
  | false => simp only [hb, cond_false] at h; exact ⟨fun e => by simp at e, fun _ => nthK_ok _ _ _ h⟩
def partD (i : TI) (ds : List D) (off : Nat) (k : SV → Prop) : Prop :=
  bif i.k.agg then takeD ds off i.size fun r => k (.agg r) else nthD ds off k
theorem partD_spec {i : TI} {ds : List D} {off : Nat} {k : SV → Prop} (h : partD i ds off k) :
    (i.k.agg = true → off + i.size ≤ (ds.map SV.d).length ∧ k (.agg (((ds.map SV.d).drop off).take i.size))) ∧ (i.k.agg = false → ∃ h : off < (ds.map SV.d).length, k (ds.map SV.d)[off]) := by
  unfold partD at h
  cases hb : i.k.agg with
  | true =>
    simp only [hb, cond_true] at h
    obtain ⟨h1, h2⟩ := takeD_ok _ _ _ _ h
    exact ⟨fun _ => ⟨by simpa using h1, by rw [← List.map_drop, ← List.map_take]; exact h2⟩, fun e => by simp at e⟩
  | false =>
    simp only [hb, cond_false] at h
    obtain ⟨h1, h2⟩ := nthD_ok _ _ _ h
    exact ⟨fun e => by simp at e, fun _ => ⟨by simpa using h1, by simpa using h2⟩⟩
theorem load_ok {C : Cx} {E : Env} {nx : Nat} {w : World} {t : Nat} {i : TI} (hi : C.tt t = some i) {vs : List SV} {b o off : Nat} {k : SV → Prop} (g : Nat → Value)
    (hc : ∀ q (hq : q < vs.length), w.cell? ⟨b, o + q, none⟩ = some (g q) ∧ RS E nx w vs[q] (g q) ∧ (g q).oneCell' = true)
    (h : (i.k.agg = true → off + i.size ≤ vs.length ∧ k (.agg ((vs.drop off).take i.size))) ∧ (i.k.agg = false → ∃ h : off < vs.length, k vs[off])) :
    Yields C E nx w (Instr.loadAt t (.pointer (some ⟨b, o + off, none⟩))) k := by
  have ha := (C.ok t i hi).isAgg w
  have hz := (C.ok t i hi).sizeOf w
  cases hb : i.k.agg with
  | true =>
    obtain ⟨h1, h2⟩ := h.1 hb
    have hl : (loadCells ⟨b, o + off, none⟩ i.size).run C.P w = .ok ((List.range i.size).map fun q => g (off + q)).toArray w :=
      run_loadCells (P := C.P) w _ _ _ (fun j hj => by rw [Addr.add_mid, Nat.add_assoc]; exact (hc (off + j) (by omega)).1)
    have hx : ∀ q, q < i.size → (((List.range i.size).map fun q => g (off + q)).toArray).getD q undef = g (off + q) := fun q hq => by simp [Array.getD, hq]
    refine ⟨.agg ((List.range i.size).map fun q => g (off + q)).toArray, _, ?_, h2, .agg _ _ (by simp; omega) (fun q hq => ?_) (fun q hq => ?_)⟩
    · simp only [Instr.loadAt, Instr.sureAddr, loadVar]
      simp [ha, hb, hz, hl]
    · have hq' : q < i.size := by simpa using hq
      rw [hx q hq']; exact (hc (off + q) (by omega)).2.2
    · have hq' : q < i.size := by rw [List.length_take] at hq; omega
      rw [hx q hq', List.getElem_take, List.getElem_drop]; exact (hc (off + q) (by omega)).2.1
  | false =>
    obtain ⟨h1, h2⟩ := h.2 hb
    refine ⟨g off, _, ?_, h2, (hc off h1).2.1⟩
    simp only [Instr.loadAt, Instr.sureAddr, loadVar]
    simp [ha, hb, (hc off h1).1]
structure At (o : Nat) (c : Nat → Prop) : Prop where
  out : c o
structure CfA (o z n : Nat) (g : Nat → SV) (k : List SV → Prop) : Prop where
  out : o + z ≤ n ∧ ∃ cs : List SV, cs.length = z ∧ (∀ j (h : j < cs.length), cs[j] = g (o + j)) ∧ k cs
structure CfV (p n : Nat) (g : Nat → SV) (k : SV → Prop) : Prop where
  out : p < n ∧ k (g p)
structure IxA (l off i z : Nat) (k : SV → Prop) : Prop where
  out : k (.ptr l (off + i * z)) ∨ k (.rp l z i off)
def loadK (C : Cx) (S : St) (t : Nat) : SV → (SV → Prop) → Prop
  | .ptr l off, k => match C.tt t, lkh S.hp l with
    | some i, some (.cells cs) => partK i cs off k
    | some i, some (.cf _ n g) => bif i.k.agg then CfA off i.size n g fun cs => k (.agg cs) else At off fun o => o < n ∧ k (g o)
    | _, _ => False
  | .rp l esz i off, k => match C.tt t, lkh S.hp l with
    | some j, some (.row _ z n f) => bif Nat.beq esz z then i < n ∧ partD j (f i) off k else False
    | some j, some (.cf _ n g) => bif j.k.agg then CfA (i * esz + off) j.size n g fun cs => k (.agg cs) else CfV (i * esz + off) n g k
    | _, _ => False
  | .d (.ref cs off), k => match C.tt t with
    | some i => partD i cs off k
    | _ => False
  | .iref cs off, k => match C.tt t with
    | some i => partK i cs off k
    | _ => False
  | _, _ => False
theorem cf_load {C : Cx} {O : Org} {E : Env} {S : St} {a : Act} {w : World} (hs : Sat O E S a w) {t l p m n : Nat} {g : Nat → SV} {i : TI} {k : SV → Prop} (hi : C.tt t = some i) (hl : lkh S.hp l = some (.cf m n g))
    (h : bif i.k.agg then CfA p i.size n g (fun cs => k (.agg cs)) else At p fun o => o < n ∧ k (g o)) : Yields C E S.nx w (Instr.loadAt t (.pointer (some ⟨E.ρ l, p, none⟩))) k := by
  obtain ⟨h0, hh⟩ := hs.hp l _ hl
  cases hb : i.k.agg with
  | true =>
    simp only [hb, cond_true] at h
    obtain ⟨h5, cs, e1, e2, h6⟩ := h.out
    by_cases hz : n = 0
    · have hcs : cs = [] := List.eq_nil_of_length_eq_zero (by omega)
      subst hcs
      have := load_ok (C := C) (E := E) (nx := S.nx) (w := w) hi (vs := []) (b := E.ρ l) (o := p) (off := 0) (k := k) (fun _ => undef) (fun q hq => by simp at hq) ⟨fun _ => ⟨by simp at e1; simp; omega, by simpa using h6⟩, fun e => by rw [hb] at e; cases e⟩
      simpa using this
    · obtain ⟨vs, T, h1, h2, h3⟩ := hh (by omega)
      have := load_ok (C := C) (E := E) (nx := S.nx) (w := w) hi (vs := cs) (b := E.ρ l) (o := p) (off := 0) (k := k) (fun q => vs.getD (p + q) undef) (fun q hq => by
        have hq' : p + q < vs.size := by omega
        refine ⟨by simp [World.cell?, h1, Array.getD, hq'], ?_, (h3 (p + q) (by omega)).2.2⟩
        rw [e2 q hq]; exact (h3 (p + q) (by omega)).2.1) ⟨fun _ => ⟨by omega, by rw [List.drop_zero, ← e1, List.take_length]; exact h6⟩, fun e => by rw [hb] at e; cases e⟩
      simpa using this
  | false =>
    simp only [hb, cond_false] at h
    obtain ⟨h5, h6⟩ := h.out
    obtain ⟨vs, T, h1, h2, h3⟩ := hh (by omega)
    have ha := (C.ok t i hi).isAgg w
    have hq' : p < vs.size := by omega
    refine ⟨vs.getD p undef, _, ?_, h6, (h3 p h5).2.1⟩
    simp only [Instr.loadAt, Instr.sureAddr, loadVar]
    simp [ha, hb, World.cell?, h1, Array.getD, hq']
theorem loadK_ok {C : Cx} {O : Org} {E : Env} {S : St} {a : Act} {w : World} (hs : Sat O E S a w) {t : Nat} {sx : SV} {u : Value} {k : SV → Prop} (hu : RS E S.nx w sx u) (h : loadK C S t sx k) : Yields C E S.nx w (Instr.loadAt t u) k := by
  unfold loadK at h
  split at h
  · rename_i l off
    split at h
    · rename_i i cs hi hl
      cases hu with
      | ptr =>
        obtain ⟨vs, T, h1, h2, h3⟩ := hs.hp l _ hl
        have := load_ok (C := C) (E := E) (nx := S.nx) (w := w) hi (vs := cs) (b := E.ρ l) (o := 0) (off := off) (fun q => vs.getD q undef) (fun q hq => ?_) (partK_spec h)
        · simpa using this
        · have hq' : q < vs.size := by omega
          exact ⟨by simp [World.cell?, h1, Array.getD, hq'], h3 q hq⟩
    · rename_i i m n g hi hl
      cases hu with
      | ptr => exact cf_load hs hi hl h
    · exact h.elim
  · rename_i l esz i off
    split at h
    · rename_i j e z n f hj hl
      cases hz : Nat.beq esz z with
      | false => simp [hz] at h
      | true =>
        simp only [hz, cond_true] at h
        obtain rfl := Nat.eq_of_beq_eq_true hz
        obtain ⟨hin, h⟩ := h
        cases hu with
        | rp =>
          obtain ⟨h1, h2, h3, h4, h5⟩ := hs.hp l _ hl
          obtain ⟨vs, g1, g2, g3, g4⟩ := h5 (by omega)
          have hm : i * esz + esz ≤ n * esz := by have : (i + 1) * esz ≤ n * esz := Nat.mul_le_mul_right _ hin; rw [Nat.add_mul] at this; omega
          have hm2 : n * esz ≤ E.κ l * esz := Nat.mul_le_mul_right _ h1
          refine load_ok (C := C) (E := E) (nx := S.nx) (w := w) hj (vs := (f i).map SV.d) (b := E.ρ l) (o := i * esz) (off := off) (fun q => vs.getD (i * esz + q) undef) (fun q hq => ?_) (partD_spec h)
          have hq1 : q < (f i).length := by simpa using hq
          have hq2 : q < esz := by rw [← h4 i hin]; exact hq1
          have hq3 : i * esz + q < vs.size := by omega
          refine ⟨by simp [World.cell?, g1, Array.getD, hq3], by rw [List.getElem_map]; exact .d _ _ (g4 i q hin hq1), g3 _ (by omega)⟩
    · rename_i j m n g hj hl
      cases hu with
      | rp =>
        refine cf_load hs hj hl ?_
        cases hb : j.k.agg with
        | true => simp only [hb, cond_true] at h ⊢; exact h
        | false => simp only [hb, cond_false] at h ⊢; exact ⟨h.out⟩
    · exact h.elim
  · rename_i cs off
    split at h
    · rename_i i hi
      cases hu with
      | d _ _ hu =>
        cases hu with
        | ref _ _ b o g hb hcell hg =>
          refine load_ok (C := C) (E := E) (nx := S.nx) (w := w) hi (vs := cs.map SV.d) (b := b) (o := o) (off := off) g (fun q hq => ?_) (partD_spec h)
          have hq1 : q < cs.length := by simpa using hq
          exact ⟨hcell q hq1, by rw [List.getElem_map]; exact .d _ _ (hg q hq1), (hg q hq1).one⟩
    · exact h.elim
  · rename_i cs off
    split at h
    · rename_i i hi
      cases hu with
      | iref _ _ b o g hb hcell h1 hg =>
        exact load_ok (C := C) (E := E) (nx := S.nx) (w := w) hi (vs := cs) (b := b) (o := o) (off := off) g (fun q hq => ⟨hcell q hq, hg q hq, h1 q hq⟩) (partK_spec h)
    · exact h.elim
  · exact h.elim
def fieldOff (C : Cx) (t f : Nat) (k : Nat → Prop) : Prop :=
  match C.tt t with
  | some i => match i.k with
    | .struct fs => match fs[f]? with
      | some (o, ft) => match C.tt ft with
        | some j => bif Nat.beq j.size 0 then False else k o
        | none => False
      | none => False
    | _ => False
  | none => False
def fieldAddrK (C : Cx) (t f : Nat) : SV → (SV → Prop) → Prop
  | .ptr l off, k => fieldOff C t f fun o => k (.ptr l (off + o))
  | .rp l z i off, k => fieldOff C t f fun o => k (.rp l z i (off + o))
  | .d (.ref cs off), k => fieldOff C t f fun o => k (.d (.ref cs (off + o)))
  | .iref cs off, k => fieldOff C t f fun o => k (.iref cs (off + o))
  | _, _ => False
theorem fieldOff_ok {C : Cx} {w : World} {t f : Nat} {k : Nat → Prop} (h : fieldOff C t f k) : ∃ o, k o ∧ ∀ b p, (Instr.fieldAt t (.pointer (some ⟨b, p, none⟩)) f).run C.P w = .ok (.pointer (some ⟨b, p + o, none⟩)) w := by
  unfold fieldOff at h
  split at h
  · rename_i i hi
    split at h
    · rename_i fs hk
      obtain ⟨Fs, hF, hm⟩ := (C.ok _ _ hi).struct hk
      split at h
      · rename_i off ft hf
        split at h
        · rename_i j hj
          cases hz : Nat.beq j.size 0 with
          | true => simp [hz] at h
          | false =>
            simp only [hz, cond_false] at h
            have hz' : j.size ≠ 0 := fun e => by rw [e] at hz; exact absurd hz (by decide)
            have hsz := (C.ok _ _ hj).sizeOf w
            rw [← hm, List.getElem?_map] at hf
            obtain ⟨F, hF1, hF2⟩ := Option.map_eq_some_iff.1 hf
            have hF3 : Fs[f]? = some F := by simpa using hF1
            injection hF2 with g1 g2
            subst g1 g2
            refine ⟨F.offset, h, fun b p => ?_⟩
            simp [Instr.fieldAt, run_underlying hF, hF3, Instr.sureAddr, fieldPlace, hsz, hz', Addr.add_mid]
        · exact h.elim
      · exact h.elim
    · exact h.elim
  · exact h.elim
theorem fieldAddrK_ok {C : Cx} {E : Env} {nx : Nat} {w : World} {t f : Nat} {sx : SV} {u : Value} {k : SV → Prop} (hu : RS E nx w sx u) (h : fieldAddrK C t f sx k) : Yields C E nx w (Instr.fieldAt t u f) k := by
  unfold fieldAddrK at h
  split at h
  · obtain ⟨o, h1, h2⟩ := fieldOff_ok (w := w) h
    cases hu with
    | ptr l off hl => exact ⟨_, _, h2 _ _, h1, .ptr _ _ hl⟩
  · obtain ⟨o, h1, h2⟩ := fieldOff_ok (w := w) h
    cases hu with
    | rp l z i off hl => exact ⟨_, _, h2 _ _, h1, by rw [Nat.add_assoc]; exact .rp _ _ _ _ hl⟩
  · obtain ⟨o, h1, h2⟩ := fieldOff_ok (w := w) h
    cases hu with
    | d _ _ hu =>
      cases hu with
      | ref _ _ b p g hb hcell hg => exact ⟨_, _, h2 _ _, h1, by rw [Nat.add_assoc]; exact .d _ _ (.ref _ _ b p g hb hcell hg)⟩
  · obtain ⟨o, h1, h2⟩ := fieldOff_ok (w := w) h
    cases hu with
    | iref _ _ b p g hb hcell h3 hg => exact ⟨_, _, h2 _ _, h1, by rw [Nat.add_assoc]; exact .iref _ _ b p g hb hcell h3 hg⟩
  · exact h.elim
def elemSz (C : Cx) (t : Nat) (esz : Nat) (k : Prop) : Prop :=
  match C.tt t with
  | some i => match i.k with
    | .slice e => match C.tt e with
      | some j => bif Nat.beq j.size esz then (bif Nat.beq esz 0 then False else k) else False
      | none => False
    | _ => False
  | none => False
theorem elemSz_ok {C : Cx} {t esz : Nat} {k : Prop} (h : elemSz C t esz k) : ∃ e, C.P.underlying t = some (.slice e) ∧ (∀ w, (sizeOf e).run C.P w = .ok esz w) ∧ esz ≠ 0 ∧ k := by
  unfold elemSz at h
  split at h
  · rename_i i hi
    split at h
    · rename_i e hk
      split at h
      · rename_i j hj
        cases hz : Nat.beq j.size esz with
        | false => simp [hz] at h
        | true =>
          cases hz0 : Nat.beq esz 0 with
          | true => simp [hz, hz0] at h
          | false =>
            simp only [hz, hz0, cond_true, cond_false] at h
            obtain rfl := Nat.eq_of_beq_eq_true hz
            exact ⟨e, (C.ok _ _ hi).slice hk, fun w => (C.ok _ _ hj).sizeOf w, fun e => by rw [e] at hz0; exact absurd hz0 (by decide), h⟩
      · exact h.elim
    · exact h.elim
  · exact h.elim
def indexAddrK (C : Cx) (t : Nat) : SV → SV → (SV → Prop) → Prop
  | .d (.sl esz n f), .d (.val (.int _ i)), k => elemSz C t esz ((0 ≤ i ∧ i < n) ∧ k (.d (.ref (f i.toNat) 0)))
  | .sl l esz off len, .d (.val (.int _ i)), k => elemSz C t esz ((0 ≤ i ∧ i < len) ∧ k (.rp l esz (off + i.toNat) 0))
  | .ptr l off, .d (.val (.int _ i)), k => match C.tt t with
    | some j => match j.k with
      | .array n e => match C.tt e with
        | some je => (0 ≤ i ∧ i < n) ∧ IxA l off i.toNat je.size k
        | none => False
      | _ => False
    | none => False
  | _, _, _ => False
theorem indexAddrK_ok {C : Cx} {E : Env} {nx : Nat} {w : World} {t : Nat} {sx sy : SV} {u v : Value} {k : SV → Prop} (hu : RS E nx w sx u) (hv : RS E nx w sy v) (h : indexAddrK C t sx sy k) : Yields C E nx w (Instr.indexAt t u v) k := by
  unfold indexAddrK at h
  split at h
  · rename_i esz n f kk i
    obtain ⟨e, ht, hz, hz0, ⟨h1, h2⟩, h3⟩ := elemSz_ok h
    obtain rfl := hv.val_inv
    cases hu with
    | d _ _ hu =>
      cases hu with
      | sl _ _ _ a cap g hc hm hl ha hg =>
        have hin : i.toNat < n := by omega
        obtain ⟨b, o, rfl, hb, hcell⟩ := ha (Nat.mul_pos (by omega) (by omega))
        have hr := RD.ref (w := w) (Im := E.Im) (f i.toNat) 0 b (o + i.toNat * esz) (fun q => g i.toNat q) hb (fun j hj => hcell i.toNat j hin (by rw [← hl _ hin]; exact hj)) (fun j hj => hg i.toNat j hin hj)
        refine ⟨_, _, ?_, h3, .d _ _ hr⟩
        simp [Instr.indexAt, run_underlying ht, asIntOf, h1, h2, hz w, Addr.add_mid]
  · rename_i l esz off len kk i
    obtain ⟨e, ht, hz, hz0, ⟨h1, h2⟩, h3⟩ := elemSz_ok h
    obtain rfl := hv.val_inv
    cases hu with
    | sl _ _ _ _ a cap hl hc hm ha h0 =>
      obtain rfl := ha (by omega)
      have hr := RS.rp (E := E) (nx := nx) (w := w) l esz (off + i.toNat) 0 hl
      refine ⟨_, _, ?_, h3, hr⟩
      simp [Instr.indexAt, run_underlying ht, asIntOf, h1, h2, hz w, Addr.add_mid, Nat.add_mul]
  · rename_i l off kk i
    obtain rfl := hv.val_inv
    split at h
    · rename_i j hj
      split at h
      · rename_i n e hk
        have ht := (C.ok _ _ hj).array hk
        split at h
        · rename_i je hje
          obtain ⟨⟨h1, h2⟩, h3⟩ := h
          have hz := (C.ok _ _ hje).sizeOf w
          cases hu with
          | ptr _ _ hl =>
            rcases h3.out with h3 | h3
            · refine ⟨_, _, ?_, h3, .ptr _ _ hl⟩
              simp [Instr.indexAt, run_underlying ht, asIntOf, h1, h2, hz, Addr.add_mid, Instr.sureAddr]
            · refine ⟨_, _, ?_, h3, .rp _ _ _ _ hl⟩
              simp [Instr.indexAt, run_underlying ht, asIntOf, h1, h2, hz, Addr.add_mid, Instr.sureAddr, Nat.add_comm]
        · exact h.elim
      · exact h.elim
    · exact h.elim
  · exact h.elim
end Go.Proofs.YteallmlkkcjblaaGreatDoor
