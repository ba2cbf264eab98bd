/- Parts of the proof, one behind the other: Sx5, Sx6, Sx6b, Sx6c, Sx6d, Sx6e, Sx6f, Sx6g, Sx6h, Sx6m. Lemmas and contracts of functions; no condition of its own. -/
import Derived.Test.YteallmlkkcjblaaGreatDoorMR0
import Derived.Lib.SlBytesConst
import Derived.Lib.ConvBytes
import Derived.MapKept
set_option linter.unusedVariables false
set_option linter.unusedSimpArgs false
namespace Go.Proofs.YteallmlkkcjblaaGreatDoor
open Go.RowKit
theorem splice_get {α : Type} (A B : List α) (o : Nat) (h : o + B.length ≤ A.length) (j : Nat) : (A.take o ++ B ++ A.drop (o + B.length))[j]? = if o ≤ j ∧ j < o + B.length then B[j - o]? else A[j]? := by
  have h1 : (A.take o).length = o := by rw [List.length_take]; omega
  by_cases h2 : j < o
  · rw [if_neg (by omega), List.append_assoc, List.getElem?_append_left (by omega), List.getElem?_take, if_pos h2]
  · by_cases h3 : j < o + B.length
    · rw [if_pos ⟨by omega, h3⟩, List.append_assoc, List.getElem?_append_right (by omega), h1, List.getElem?_append_left (by omega)]
    · rw [if_neg (by omega), List.getElem?_append_right (by simp; omega), List.getElem?_drop]
      congr 1
      simp; omega
theorem splice_len {α : Type} (A B : List α) (o : Nat) (h : o + B.length ≤ A.length) : (A.take o ++ B ++ A.drop (o + B.length)).length = A.length := by
  simp; omega
theorem getD_list (l : List Value) (j : Nat) : l.toArray.getD j undef = (l[j]?).getD undef := by simp [Array.getD_eq_getD_getElem?]
theorem getD_toList (a : Array Value) (j : Nat) : a.getD j undef = (a.toList[j]?).getD undef := by simp [Array.getD_eq_getD_getElem?]
def Tells (E : Env) (nx : Nat) (w : World) (cs : List SV) (vs : List Value) : Prop :=
  vs.length = cs.length ∧ ∀ (j : Nat) (x : SV), cs[j]? = some x → ∃ v : Value, vs[j]? = some v ∧ RS E nx w x v ∧ v.oneCell' = true
theorem Tells.splice {E : Env} {nx : Nat} {w : World} {A B : List SV} {As Bs : List Value} (hA : Tells E nx w A As) (hB : Tells E nx w B Bs) (o : Nat) (h : o + B.length ≤ A.length) :
    Tells E nx w (A.take o ++ B ++ A.drop (o + B.length)) (As.take o ++ Bs ++ As.drop (o + Bs.length)) := by
  have hb := hB.1
  have ha := hA.1
  refine ⟨by rw [splice_len _ _ _ h, splice_len _ _ _ (by omega), ha], fun j x hj => ?_⟩
  rw [splice_get _ _ _ h] at hj
  rw [splice_get _ _ _ (by omega), hb]
  by_cases hc : o ≤ j ∧ j < o + B.length
  · rw [if_pos hc] at hj ⊢; exact hB.2 _ x hj
  · rw [if_neg hc] at hj ⊢; exact hA.2 _ x hj
theorem Tells.of {E : Env} {nx : Nat} {w : World} {cs : List SV} {vs : Array Value} (hs : vs.size = cs.length) (h : ∀ j (hj : j < cs.length), RS E nx w cs[j] (vs.getD j undef) ∧ (vs.getD j undef).oneCell' = true) : Tells E nx w cs vs.toList := by
  refine ⟨by simpa using hs, fun j x hj => ?_⟩
  obtain ⟨h1, h2⟩ := List.getElem?_eq_some_iff.1 hj
  subst h2
  have h3 : j < vs.size := by omega
  obtain ⟨h4, h5⟩ := h j h1
  have h6 : vs.getD j undef = vs[j] := by simp [Array.getD, h3]
  rw [h6] at h4 h5
  exact ⟨vs[j], by simp [h3], h4, h5⟩
theorem Tells.to {E : Env} {nx : Nat} {w : World} {cs : List SV} {vs : List Value} (h : Tells E nx w cs vs) : vs.toArray.size = cs.length ∧ ∀ j (hj : j < cs.length), RS E nx w cs[j] (vs.toArray.getD j undef) ∧ (vs.toArray.getD j undef).oneCell' = true := by
  refine ⟨by simpa using h.1, fun j hj => ?_⟩
  obtain ⟨v, h1, h2, h3⟩ := h.2 j _ (List.getElem?_eq_getElem hj)
  rw [getD_list, h1]; exact ⟨h2, h3⟩
theorem Tells.one {E : Env} {nx : Nat} {w : World} {cs : List SV} {vs : List Value} (h : Tells E nx w cs vs) : ∀ v ∈ vs, v.oneCell' = true := by
  intro v hv
  obtain ⟨j, hj, rfl⟩ := List.getElem_of_mem hv
  obtain ⟨u, h1, h2, h3⟩ := h.2 j _ (List.getElem?_eq_getElem (by have := h.1; omega))
  rw [List.getElem?_eq_getElem hj] at h1
  cases h1; exact h3
theorem Tells.mono {E E' : Env} {nx nx' : Nat} {w w' : World} {cs : List SV} {vs : List Value} (hρ : ∀ l, l < nx → E'.ρ l = E.ρ l ∧ E'.κ l = E.κ l) (hn : nx ≤ nx')
    (hI : ∀ b, E.Im b → E'.Im b) (hw : ∀ b, E.Im b → w'.heap[b]? = w.heap[b]?) (h : Tells E nx w cs vs) : Tells E' nx' w' cs vs :=
  ⟨h.1, fun j x hj => let ⟨v, h1, h2, h3⟩ := h.2 j x hj; ⟨v, h1, h2.mono hρ hn hI hw, h3⟩⟩
theorem cellsK_tells {E : Env} {nx : Nat} {w : World} {x : SV} {v : Value} {k : List SV → Prop} (h : cellsK x k) (hv : RS E nx w x v) : ∃ cs : List SV, k cs ∧ Tells E nx w cs v.cells.toList := by
  obtain ⟨cs, h1, h2, h3⟩ := cellsK_ok h hv
  exact ⟨cs, h1, Tells.of h2 h3⟩
def allD : List SV → (List D → Prop) → Prop
  | [], k => k []
  | .d x :: r, k => allD r fun ds => k (x :: ds)
  | _, _ => False
theorem allD_ok : ∀ (vs : List SV) (k : List D → Prop), allD vs k → ∃ ds : List D, vs = ds.map SV.d ∧ k ds
  | [], k, h => ⟨[], rfl, by simpa [allD] using h⟩
  | .d x :: r, k, h => by
    obtain ⟨ds, h1, h2⟩ := allD_ok r _ (by simpa [allD] using h)
    exact ⟨x :: ds, by rw [h1]; rfl, h2⟩
  | .any :: r, k, h => by simp [allD] at h
  | .ptr _ _ :: r, k, h => by simp [allD] at h
  | .rp _ _ _ _ :: r, k, h => by simp [allD] at h
  | .sl _ _ _ _ :: r, k, h => by simp [allD] at h
  | .agg _ :: r, k, h => by simp [allD] at h
  | .tup _ :: r, k, h => by simp [allD] at h
  | .fn _ _ :: r, k, h => by simp [allD] at h
  | .iref _ _ :: r, k, h => by simp [allD] at h
def setDK : List D → Nat → List D → (List D → Prop) → Prop
  | cs, 0, [], k => k cs
  | _ :: cs, 0, v :: vs, k => setDK cs 0 vs fun r => k (v :: r)
  | c :: cs, n + 1, vs, k => setDK cs n vs fun r => k (c :: r)
  | [], _, _, _ => False
theorem setDK_ok : ∀ (cs : List D) (o : Nat) (vs : List D) (k : List D → Prop), setDK cs o vs k → o + vs.length ≤ cs.length ∧ k (cs.take o ++ vs ++ cs.drop (o + vs.length))
  | [], 0, [], k, h => ⟨by simp, by simpa [setDK] using h⟩
  | _ :: _, 0, [], k, h => ⟨by simp, by simpa [setDK] using h⟩
  | c :: cs, 0, v :: vs, k, h => by
    obtain ⟨h1, h2⟩ := setDK_ok cs 0 vs _ (by simpa [setDK] using h)
    exact ⟨by simp at h1 ⊢; omega, by simpa using h2⟩
  | c :: cs, n + 1, vs, k, h => by
    obtain ⟨h1, h2⟩ := setDK_ok cs n vs _ (by cases vs <;> simpa [setDK] using h)
    exact ⟨by simp; omega, by simpa [Nat.add_right_comm] using h2⟩
  | [], 0, v :: vs, k, h => by simp [setDK] at h
  | [], n + 1, vs, k, h => by cases vs <;> simp [setDK] at h
structure CfS (p : Nat) (vs : List SV) (m n : Nat) (g : Nat → SV) (k : (Nat → SV) → Prop) : Prop where
  out : (p + vs.length ≤ n ∧ 0 < n ∧ ∀ v ∈ vs, SV.Lt m v) ∧ ∃ g' : Nat → SV, (∀ j, j < n → g' j = if p ≤ j ∧ j < p + vs.length then vs.getD (j - p) .any else g j) ∧ k g'
theorem CfS.imp {p : Nat} {vs : List SV} {m n : Nat} {g : Nat → SV} {k k' : (Nat → SV) → Prop} (h : ∀ g, k g → k' g) (hk : CfS p vs m n g k) : CfS p vs m n g k' := by
  obtain ⟨h1, g', h2, h3⟩ := hk.out
  exact ⟨h1, g', h2, h _ h3⟩
def storeK (C : Cx) (S : St) (t : Nat) : SV → SV → (St → Prop) → Prop
  | .ptr l off, x, k => match C.tt t, lkh S.hp l with
    | some i, some (.cells cs) => cellsK x fun vs => bif Nat.beq vs.length i.size then setK cs off vs fun cs' => k (S.seth l (some (.cells cs'))) else False
    | some i, some (.cf m n g) => bif Nat.beq i.size 1 then cellsK x (fun vs => match vs with
      | [v] => (SV.Lt m v ∧ At off fun o => o < n ∧ k (S.seth l (some (.cf m n fun j => bif Nat.beq j o then v else g j)))) ∨ CfS off [v] m n g fun g' => k (S.seth l (some (.cf m n g')))
      | _ => False) else cellsK x (fun vs => bif Nat.beq vs.length i.size then CfS off vs m n g fun g' => k (S.seth l (some (.cf m n g'))) else False)
    | _, _ => False
  | .rp l esz q off, x, k => match C.tt t, lkh S.hp l with
    | some i, some (.row e z n f) => bif Nat.beq esz z then q < n ∧ cellsK x (fun vs => bif Nat.beq vs.length i.size then allD vs (fun ds => setDK (f q) off ds fun cs' => k (S.seth l (some (.row e z n fun j => if j = q then cs' else f j)))) else False) else False
    | some i, some (.cf m n g) => cellsK x (fun vs => bif Nat.beq vs.length i.size then (CfS (q * esz + off) vs m n g fun g' => k (S.seth l (some (.cf m n g')))) ∨ (CfS (q * esz + off) vs S.nx n g fun g' => k (S.seth l (some (.cf S.nx n g')))) else False)
    | _, _ => False
  | _, _, _ => False
theorem run_storeAt_row {C : Cx} {w : World} {t : Nat} {i : TI} (hi : C.tt t = some i) {v : Value} {b o : Nat} {cur : Array Value} {T : TypeId} (hg : w.heap[b]? = some (.cells cur T (0, 0))) (hv : v.cells.size = i.size) (h1 : ∀ u ∈ v.cells.toList, u.oneCell' = true) (hl : o + v.cells.size ≤ cur.size) :
    (Instr.storeAt t (.pointer (some ⟨b, o, none⟩)) v).run C.P w = .ok () (w.setRow b (cur.toList.take o ++ v.cells.toList ++ cur.toList.drop (o + v.cells.toList.length)).toArray) := by
  have hz := (C.ok t i hi).sizeOf w
  have := run_storeCells_at C.P b o T v.cells.toList 0 cur w hg (by simpa using hl) h1
  simp only [Instr.storeAt, Instr.sureAddr, storeVar]
  simp [hz, hv]
  simpa [hv] using this
theorem SV.Lt.mono5 {m n : Nat} (hmn : m ≤ n) {x : SV} (h : SV.Lt m x) : SV.Lt n x := by
  induction h with
  | any => exact .any
  | d x => exact .d x
  | ptr l o h => exact .ptr l o (by omega)
  | rp l z i o h => exact .rp l z i o (by omega)
  | sl l z o n h => exact .sl l z o n (by omega)
  | agg vs h ih => exact .agg vs ih
  | tup vs h ih => exact .tup vs ih
  | fn f vs h ih => exact .fn f vs ih
  | iref vs o h ih => exact .iref vs o ih
theorem cf_store1 {C : Cx} {O : Org} {E : Env} {S : St} {a : Act} {w : World} (hs : Sat O E S a w) {t l p m m0 n : Nat} {g : Nat → SV} {i : TI} {ns : List SV} {v : Value} {k : St → Prop} (hi : C.tt t = some i) (hz : ns.length = i.size) (hl : lkh S.hp l = some (.cf m0 n g)) (hm0 : m0 ≤ m) (hm1 : m0 ≤ S.nx → m ≤ S.nx) (ht : Tells E S.nx w ns v.cells.toList)
    (h : CfS p ns m n g fun g' => k (S.seth l (some (.cf m n g')))) :
    ∃ w' S', (Instr.storeAt t (.pointer (some ⟨E.ρ l, p, none⟩)) v).run C.P w = .ok () w' ∧ k S' ∧ Sat O E S' a w' := by
  obtain ⟨⟨h1, hn, hlt⟩, g', h2, h3⟩ := h.out
  obtain ⟨g0, gg⟩ := hs.hp l _ hl
  have hvl : v.cells.toList.length = ns.length := ht.1
  have hvl2 : v.cells.size = ns.length := by simpa using hvl
  obtain ⟨vs, T, g1, g2, g3⟩ := gg (by omega)
  have hrun := run_storeAt_row (C := C) hi (o := p) g1 (by omega) ht.one (by omega)
  refine ⟨_, _, hrun, h3, hs.setRow hl hn g1 ?_⟩
  have hne : ∀ b, E.Im b → (w.setRow (E.ρ l) (vs.toList.take p ++ v.cells.toList ++ vs.toList.drop (p + v.cells.toList.length)).toArray).heap[b]? = w.heap[b]? := fun b hb => setRow_other w _ _ _ (fun e => (hs.im b hb).2.2 l _ hl hn e.symm)
  refine ⟨hm1 g0, fun _ => ⟨_, T, setRow_heap w _ vs _ T _ g1, ?_, fun j hj => ?_⟩⟩
  · rw [List.size_toArray, splice_len _ _ _ (by simp; omega)]; simpa using g2
  · have hget : (vs.toList.take p ++ v.cells.toList ++ vs.toList.drop (p + v.cells.toList.length)).toArray.getD j undef = if p ≤ j ∧ j < p + ns.length then (v.cells.toList[j - p]?).getD undef else vs.getD j undef := by
      rw [getD_list, splice_get _ _ _ (by simp; omega), hvl]
      by_cases e : p ≤ j ∧ j < p + ns.length
      · rw [if_pos e, if_pos e]
      · rw [if_neg e, if_neg e, ← getD_toList]
    rw [hget, h2 j hj]
    by_cases e : p ≤ j ∧ j < p + ns.length
    · rw [if_pos e, if_pos e]
      have hjp : j - p < ns.length := by omega
      obtain ⟨u', e1, e2, e3⟩ := ht.2 (j - p) ns[j - p] (List.getElem?_eq_getElem hjp)
      have e4 : ns.getD (j - p) .any = ns[j - p] := by rw [List.getD_eq_getElem?_getD, List.getElem?_eq_getElem hjp]; rfl
      rw [e1, e4]
      exact ⟨hlt _ (List.getElem_mem hjp), e2.mono (fun _ _ => ⟨rfl, rfl⟩) (Nat.le_refl _) (fun _ hb => hb) hne, e3⟩
    · rw [if_neg e, if_neg e]
      obtain ⟨q1, q2, q3⟩ := g3 j hj
      exact ⟨q1.mono5 hm0, q2.mono (fun _ _ => ⟨rfl, rfl⟩) (Nat.le_refl _) (fun _ hb => hb) hne, q3⟩
theorem cf_store {C : Cx} {O : Org} {E : Env} {S : St} {a : Act} {w : World} (hs : Sat O E S a w) {t l p m n : Nat} {g : Nat → SV} {i : TI} {sy : SV} {v : Value} {k : St → Prop} (hi : C.tt t = some i) (hl : lkh S.hp l = some (.cf m n g)) (hv : RS E S.nx w sy v)
    (h : cellsK sy (fun vs => bif Nat.beq vs.length i.size then CfS p vs m n g fun g' => k (S.seth l (some (.cf m n g'))) else False)) :
    ∃ w' S', (Instr.storeAt t (.pointer (some ⟨E.ρ l, p, none⟩)) v).run C.P w = .ok () w' ∧ k S' ∧ Sat O E S' a w' := by
  obtain ⟨ns, h, ht⟩ := cellsK_tells h hv
  cases hz : Nat.beq ns.length i.size with
  | false => simp [hz] at h
  | true =>
    simp only [hz, cond_true] at h
    have hz := Nat.eq_of_beq_eq_true hz
    exact cf_store1 hs hi hz hl (Nat.le_refl _) (fun h => h) ht h
theorem storeK_ok {C : Cx} {O : Org} {E : Env} {S : St} {a : Act} {w : World} (hs : Sat O E S a w) {t : Nat} {sx sy : SV} {u v : Value} {k : St → Prop} (hu : RS E S.nx w sx u) (hv : RS E S.nx w sy v) (h : storeK C S t sx sy k) :
    ∃ w' S', (Instr.storeAt t u v).run C.P w = .ok () w' ∧ k S' ∧ Sat O E S' a w' := by
  unfold storeK at h
  split at h
  · rename_i l off
    split at h
    · rename_i i cs hi hl
      obtain ⟨ns, h, ht⟩ := cellsK_tells h hv
      cases hz : Nat.beq ns.length i.size with
      | false => simp [hz] at h
      | true =>
        simp only [hz, cond_true] at h
        have hz := Nat.eq_of_beq_eq_true hz
        obtain ⟨h1, h2⟩ := setK_ok _ _ _ _ h
        cases hu with
        | ptr =>
          obtain ⟨vs, T, g1, g2, g3⟩ := hs.hp l _ hl
          have hvl := ht.1
          have hvl2 : v.cells.size = ns.length := by simpa using hvl
          have hrun := run_storeAt_row (C := C) hi (o := off) g1 (by omega) ht.one (by omega)
          refine ⟨_, _, hrun, h2, hs.setRow hl trivial g1 ?_⟩
          have hTA := Tells.of g2 g3
          have hT := hTA.splice ht off h1
          have hne : ∀ b, E.Im b → (w.setRow (E.ρ l) (vs.toList.take off ++ v.cells.toList ++ vs.toList.drop (off + v.cells.toList.length)).toArray).heap[b]? = w.heap[b]? := fun b hb => setRow_other w _ _ _ (fun e => (hs.im b hb).2.2 l _ hl trivial e.symm)
          have hT2 := (hT.mono (E' := E) (w' := w.setRow (E.ρ l) (vs.toList.take off ++ v.cells.toList ++ vs.toList.drop (off + v.cells.toList.length)).toArray) (fun _ _ => ⟨rfl, rfl⟩) (Nat.le_refl _) (fun _ hb => hb) hne).to
          exact ⟨_, T, setRow_heap w _ vs _ T _ g1, hT2.1, hT2.2⟩
    · rename_i i m n g hi hl
      cases hz : Nat.beq i.size 1 with
      | false =>
        simp only [hz, cond_false] at h
        cases hu with
        | ptr => exact cf_store hs hi hl hv h
      | true =>
        simp only [hz, cond_true] at h
        have hz := Nat.eq_of_beq_eq_true hz
        obtain ⟨ns, h, ht⟩ := cellsK_tells h hv
        split at h
        · rename_i x
          by_cases hor : CfS off [x] m n g fun g' => k (S.seth l (some (.cf m n g')))
          · cases hu with
            | ptr => exact cf_store1 hs hi (by simpa using hz.symm) hl (Nat.le_refl _) (fun h => h) ht hor
          replace h := h.resolve_right hor
          obtain ⟨hlt, ⟨h1, h2⟩⟩ := h
          cases hu with
          | ptr =>
            obtain ⟨g0, gg⟩ := hs.hp l _ hl
            have hpos : 0 < n := by omega
            obtain ⟨vs, T, g1, g2, g3⟩ := gg hpos
            have hvl : v.cells.toList.length = 1 := ht.1
            have hvl2 : v.cells.size = 1 := by simpa using hvl
            have hrun := run_storeAt_row (C := C) hi (o := off) g1 (by omega) ht.one (by omega)
            refine ⟨_, _, hrun, h2, hs.setRow hl hpos g1 ?_⟩
            have hne : ∀ b, E.Im b → (w.setRow (E.ρ l) (vs.toList.take off ++ v.cells.toList ++ vs.toList.drop (off + v.cells.toList.length)).toArray).heap[b]? = w.heap[b]? := fun b hb => setRow_other w _ _ _ (fun e => (hs.im b hb).2.2 l _ hl hpos e.symm)
            refine ⟨g0, fun _ => ⟨_, T, setRow_heap w _ vs _ T _ g1, ?_, fun j hj => ?_⟩⟩
            · rw [List.size_toArray, splice_len _ _ _ (by simp; omega)]; simpa using g2
            · have hget : (vs.toList.take off ++ v.cells.toList ++ vs.toList.drop (off + v.cells.toList.length)).toArray.getD j undef = if j = off then (v.cells.toList[0]?).getD undef else vs.getD j undef := by
                rw [getD_list, splice_get _ _ _ (by simp; omega), hvl]
                by_cases e : j = off
                · subst e; rw [if_pos (by omega), if_pos rfl, Nat.sub_self]
                · rw [if_neg (by omega), if_neg e, ← getD_toList]
              rw [hget]
              by_cases e : j = off
              · subst e
                rw [if_pos rfl]
                obtain ⟨u', e1, e2, e3⟩ := ht.2 0 x rfl
                simp only [e1, Option.getD_some, Nat.beq_refl, cond_true]
                exact ⟨hlt, e2.mono (fun _ _ => ⟨rfl, rfl⟩) (Nat.le_refl _) (fun _ hb => hb) hne, e3⟩
              · have hb : Nat.beq j off = false := by cases hb : Nat.beq j off with | true => exact absurd (Nat.eq_of_beq_eq_true hb) e | false => rfl
                rw [if_neg e]
                simp only [hb, cond_false]
                obtain ⟨q1, q2, q3⟩ := g3 j hj
                exact ⟨q1, q2.mono (fun _ _ => ⟨rfl, rfl⟩) (Nat.le_refl _) (fun _ hb => hb) hne, q3⟩
        · exact h.elim
    · exact h.elim
  · rename_i l esz q off
    split at h
    · rename_i i e z n f hi hl
      cases hz : Nat.beq esz z with
      | false => simp [hz] at h
      | true =>
        simp only [hz, cond_true] at h
        obtain rfl := Nat.eq_of_beq_eq_true hz
        obtain ⟨hqn, h⟩ := h
        obtain ⟨ns, h, ht⟩ := cellsK_tells h hv
        cases hz : Nat.beq ns.length i.size with
        | false => simp [hz] at h
        | true =>
          simp only [hz, cond_true] at h
          have hz := Nat.eq_of_beq_eq_true hz
          obtain ⟨ds, hds, h9⟩ := allD_ok _ _ h
          clear h
          subst hds
          obtain ⟨h1, h2⟩ := setDK_ok _ _ _ _ h9
          cases hu with
          | rp =>
            obtain ⟨k1, k2, k3, k4, k5⟩ := hs.hp l _ hl
            obtain ⟨vs, g1, g2, g3, g4⟩ := k5 (by omega)
            have hfq := k4 q hqn
            have hm : q * esz + esz ≤ n * esz := by have : (q + 1) * esz ≤ n * esz := Nat.mul_le_mul_right _ hqn; rw [Nat.add_mul] at this; omega
            have hm2 : n * esz ≤ E.κ l * esz := Nat.mul_le_mul_right _ k1
            have hvl : v.cells.toList.length = ds.length := by simpa using ht.1
            have hvl2 : v.cells.size = ds.length := by simpa using hvl
            have hdl : ds.length = i.size := by simpa using hz
            have hrun := run_storeAt_row (C := C) hi (o := q * esz + off) g1 (by omega) ht.one (by omega)
            refine ⟨_, _, hrun, h2, hs.setRow hl (show 0 < E.κ l by omega) g1 ?_⟩
            have hne : ∀ b, E.Im b → (w.setRow (E.ρ l) (vs.toList.take (q * esz + off) ++ v.cells.toList ++ vs.toList.drop (q * esz + off + v.cells.toList.length)).toArray).heap[b]? = w.heap[b]? := fun b hb => setRow_other w _ _ _ (fun e => (hs.im b hb).2.2 l _ hl (show 0 < E.κ l by omega) e.symm)
            have hfl : ∀ j, j < n → (if j = q then (f q).take off ++ ds ++ (f q).drop (off + ds.length) else f j).length = esz := fun j hj => by
              split
              · rw [splice_len _ _ _ h1, hfq]
              · exact k4 j hj
            refine ⟨k1, k2, k3, hfl, fun _ => ⟨_, setRow_heap w _ vs _ e _ g1, ?_, fun j hj => ?_, fun j p hj hp => ?_⟩⟩
            · rw [List.size_toArray, splice_len _ _ _ (by simp; omega)]; simpa using g2
            · rw [getD_list, splice_get _ _ _ (by simp; omega)]
              by_cases hc : q * esz + off ≤ j ∧ j < q * esz + off + v.cells.toList.length
              · rw [if_pos hc]
                have hb1 : j - (q * esz + off) < v.cells.toList.length := by omega
                rw [List.getElem?_eq_getElem hb1]
                exact ht.one _ (List.getElem_mem hb1)
              · rw [if_neg hc, ← getD_toList]; exact g3 j hj
            · have hpe : p < esz := by rw [← hfl j hj]; exact hp
              have key : ∀ d, (if j = q then (f q).take off ++ ds ++ (f q).drop (off + ds.length) else f j)[p]? = some d →
                  RD (w.setRow (E.ρ l) (vs.toList.take (q * esz + off) ++ v.cells.toList ++ vs.toList.drop (q * esz + off + v.cells.toList.length)).toArray) E.Im d
                    ((vs.toList.take (q * esz + off) ++ v.cells.toList ++ vs.toList.drop (q * esz + off + v.cells.toList.length)).toArray.getD (j * esz + p) undef) := by
                intro d hd
                rw [getD_list, splice_get _ _ _ (by simp; omega)]
                by_cases hjq : j = q
                · subst hjq
                  rw [if_pos rfl, splice_get _ _ _ h1] at hd
                  by_cases hc : off ≤ p ∧ p < off + ds.length
                  · rw [if_pos hc] at hd
                    rw [if_pos (by omega)]
                    obtain ⟨u', e1, e2, _⟩ := ht.2 (p - off) (.d d) (by rw [List.getElem?_map, hd]; rfl)
                    rw [show j * esz + p - (j * esz + off) = p - off by omega, e1]
                    cases e2 with | d _ _ e2 => exact e2.mono (fun _ hb => hb) hne
                  · rw [if_neg hc] at hd
                    rw [if_neg (by omega), ← getD_toList]
                    obtain ⟨hx1, hx2⟩ := List.getElem?_eq_some_iff.1 hd
                    subst hx2
                    exact (g4 j p hj hx1).mono (fun _ hb => hb) hne
                · rw [if_neg hjq] at hd
                  obtain ⟨hx1, hx2⟩ := List.getElem?_eq_some_iff.1 hd
                  subst hx2
                  have hfar : ¬ (q * esz + off ≤ j * esz + p ∧ j * esz + p < q * esz + off + v.cells.toList.length) := by
                    rcases Nat.lt_or_gt_of_ne hjq with hlt | hgt
                    · have : (j + 1) * esz ≤ q * esz := Nat.mul_le_mul_right _ hlt
                      rw [Nat.add_mul] at this; omega
                    · have : (q + 1) * esz ≤ j * esz := Nat.mul_le_mul_right _ hgt
                      rw [Nat.add_mul] at this; omega
                  rw [if_neg hfar, ← getD_toList]
                  exact (g4 j p hj hx1).mono (fun _ hb => hb) hne
              exact key _ (List.getElem?_eq_getElem hp)
    · rename_i i m n g hi hl
      cases hu with
      | rp =>
        obtain ⟨ns, h, ht⟩ := cellsK_tells h hv
        cases hz : Nat.beq ns.length i.size with
        | false => simp [hz] at h
        | true =>
          simp only [hz, cond_true] at h
          have hz := Nat.eq_of_beq_eq_true hz
          rcases h with h | h
          · exact cf_store1 hs hi hz hl (Nat.le_refl _) (fun h => h) ht h
          · exact cf_store1 hs hi hz hl (hs.hp l _ hl).1 (fun _ => Nat.le_refl _) ht h
    · exact h.elim
  · exact h.elim
end Go.Proofs.YteallmlkkcjblaaGreatDoor

namespace Go.Proofs.YteallmlkkcjblaaGreatDoor
open Go.RowKit
def YieldsS (C : Cx) (O : Org) (a : Act) (w : World) (m : Sem Value) (k : St → SV → Prop) : Prop :=
  ∃ v w' E' S' x, m.run C.P w = .ok v w' ∧ k S' x ∧ Sat O E' S' a w' ∧ RS E' S'.nx w' x v
theorem Yields.s {C : Cx} {O : Org} {E : Env} {S : St} {a : Act} {w : World} {m : Sem Value} {k : SV → Prop} {k' : St → SV → Prop} (h : Yields C E S.nx w m k) (hs : Sat O E S a w) (hk : ∀ x, k x → k' S x) : YieldsS C O a w m k' := by
  obtain ⟨v, x, h1, h2, h3⟩ := h
  exact ⟨v, w, E, S, x, h1, hk x h2, hs, h3⟩
def valsK : List Value → (List SV → Prop) → Prop
  | [], k => k []
  | v :: r, k => bif v.oneCell' then valsK r fun vs => k (.d (.val v) :: vs) else False
theorem valsK_ok (E : Env) (nx : Nat) (w : World) : ∀ (vs : List Value) (k : List SV → Prop), valsK vs k → ∃ cs : List SV, k cs ∧ Tells E nx w cs vs
  | [], k, h => ⟨[], by simpa [valsK] using h, rfl, fun j x hj => by simp at hj⟩
  | v :: r, k, h => by
    unfold valsK at h
    cases hv : v.oneCell' with
    | false => simp [hv] at h
    | true =>
      simp only [hv, cond_true] at h
      obtain ⟨cs, h1, h2, h3⟩ := valsK_ok E nx w r _ h
      refine ⟨_, h1, by simp [h2], fun j x hj => ?_⟩
      cases j with
      | zero => simp at hj; subst hj; exact ⟨v, by simp, .d _ _ (.val _ hv), hv⟩
      | succ j => simp at hj; obtain ⟨u, g1, g2⟩ := h3 j x hj; exact ⟨u, by simpa using g1, g2⟩
theorem Sat.new {O : Org} {E : Env} {S : St} {a : Act} {w : World} (h : Sat O E S a w) {cs : List SV} {vs : Array Value} (T : TypeId) (ht : Tells E S.nx w cs vs.toList) :
    Sat O (E.new S.nx w.heap.size) (S.new cs) a (w.alloc (.cells vs T)) ∧ RS (E.new S.nx w.heap.size) (S.new cs).nx (w.alloc (.cells vs T)) (.ptr S.nx 0) (.pointer (some ⟨w.heap.size, 0, none⟩)) := by
  have := ht.to
  simp only [Array.toArray_toList] at this
  exact h.alloc T this.1 this.2
def allocK (C : Cx) (S : St) (t : Nat) (k : St → SV → Prop) : Prop :=
  match C.tt t with
  | some i => valsK i.zero fun cs => match S with | ⟨nt, nx, fr, hp⟩ => k ⟨nt, nx + 1, fr, (nx, some (.cells cs)) :: hp⟩ (.ptr nx 0)
  | none => False
theorem allocK_ok {C : Cx} {O : Org} {E : Env} {S : St} {a : Act} {w : World} (hs : Sat O E S a w) {t : Nat} {k : St → SV → Prop} (h : allocK C S t k) : YieldsS C O a w (Instr.alloc t true (.tuple #[])) k := by
  unfold allocK at h
  split at h
  · rename_i i hi
    obtain ⟨j, z, h1, h2, h3, h4, _⟩ := (C.ok _ _ hi).info
    obtain ⟨cs, g1, g2⟩ := valsK_ok E S.nx w _ _ h
    rw [← h3] at g2
    obtain ⟨e1, e2⟩ := hs.new t g2
    refine ⟨_, _, _, _, _, ?_, g1, e1, e2⟩
    simp [Instr.alloc, zeroValue, typeInfo, h1, h2, newVar, newRow]
  · exact h.elim
def boxK (S : St) (x : SV) (k : St → SV → Prop) : Prop := cellsK x fun cs => match S with | ⟨nt, nx, fr, hp⟩ => k ⟨nt, nx + 1, fr, (nx, some (.cells cs)) :: hp⟩ (.ptr nx 0)
theorem boxK_ok {C : Cx} {O : Org} {E : Env} {S : St} {a : Act} {w : World} (hs : Sat O E S a w) {t : Nat} {sx : SV} {u : Value} {k : St → SV → Prop} (hu : RS E S.nx w sx u) (h : boxK S sx k) : YieldsS C O a w (Instr.box t u) k := by
  obtain ⟨cs, g1, g2⟩ := cellsK_tells h hu
  obtain ⟨e1, e2⟩ := hs.new t g2
  refine ⟨_, _, _, _, _, ?_, g1, e1, e2⟩
  simp [Instr.box, newVar, newRow]
def boundsK (n : Nat) : Option SV → Option SV → (Nat → Nat → Prop) → Prop
  | none, none, k => k 0 n
  | some (.d (.val (.int _ a))), none, k => (0 ≤ a ∧ a ≤ n) ∧ k a.toNat n
  | none, some (.d (.val (.int _ b))), k => (0 ≤ b ∧ b ≤ n) ∧ k 0 b.toNat
  | some (.d (.val (.int _ a))), some (.d (.val (.int _ b))), k => (0 ≤ a ∧ a ≤ b ∧ b ≤ n) ∧ k a.toNat b.toNat
  | _, _, _ => False
theorem boundsK_ok {P : Program} {E : Env} {nx : Nat} {w : World} {isS : Bool} {n cap : Nat} (hn : n ≤ cap) {lo hi : Option SV} {l h : Option Value} {k : Nat → Nat → Prop}
    (hl : ∀ x, lo = some x → ∃ v, l = some v ∧ RS E nx w x v) (hl0 : lo = none → l = none) (hh : ∀ x, hi = some x → ∃ v, h = some v ∧ RS E nx w x v) (hh0 : hi = none → h = none) (hb : boundsK n lo hi k) :
    ∃ p q, (Instr.sliceBounds isS n cap l h none).run P w = .ok (p, q, cap) w ∧ p ≤ q ∧ q ≤ n ∧ k p q := by
  unfold boundsK at hb
  split at hb
  · rw [hl0 rfl, hh0 rfl]
    exact ⟨0, n, by simp [Instr.sliceBounds], by omega, by omega, hb⟩
  · rename_i kk a
    obtain ⟨v, rfl, hv⟩ := hl _ rfl
    obtain rfl := hv.val_inv
    rw [hh0 rfl]
    obtain ⟨⟨h1, h2⟩, h3⟩ := hb
    exact ⟨a.toNat, n, by simp [Instr.sliceBounds, Instr.sliceBound, asIntOf, h1, h2], by omega, by omega, h3⟩
  · rename_i kk b
    obtain ⟨v, rfl, hv⟩ := hh _ rfl
    obtain rfl := hv.val_inv
    rw [hl0 rfl]
    obtain ⟨⟨h1, h2⟩, h3⟩ := hb
    have h4 : b ≤ cap := by omega
    exact ⟨0, b.toNat, by simp [Instr.sliceBounds, Instr.sliceBound, asIntOf, h1, h4], by omega, by omega, h3⟩
  · rename_i k1 a k2 b
    obtain ⟨v, rfl, hv⟩ := hl _ rfl
    obtain rfl := hv.val_inv
    obtain ⟨u, rfl, hu⟩ := hh _ rfl
    obtain rfl := hu.val_inv
    obtain ⟨⟨h1, h2, h3⟩, h4⟩ := hb
    have h5 : b ≤ cap := by omega
    have h6 : 0 ≤ b := by omega
    have h7 : max b 0 = b := by omega
    exact ⟨a.toNat, b.toNat, by simp [Instr.sliceBounds, Instr.sliceBound, asIntOf, h1, h2, h5, h6, h7], by omega, by omega, h4⟩
  · exact hb.elim
def sliceK (C : Cx) (t : Nat) : SV → Option SV → Option SV → (SV → Prop) → Prop
  | .d (.sl esz n f), lo, hi, k => elemSz C t esz (boundsK n lo hi fun l h => k (.d (.sl esz (h - l) fun i => f (l + i))))
  | .sl m esz off len, lo, hi, k => elemSz C t esz (boundsK len lo hi fun l h => k (.sl m esz (off + l) (h - l)))
  | .d (.val (.string s)), lo, hi, k => match C.tt t with
    | some j => match j.k with
      | .str => boundsK s.size lo hi fun l h => k (.d (.val (.string (s.extract l h))))
      | _ => False
    | none => False
  | _, _, _, _ => False
theorem addrMap {a : Option Addr} {b o q : Nat} (h : a = some ⟨b, o, none⟩) : a.map (·.add q) = some ⟨b, o + q, none⟩ := by subst h; simp [Addr.add_mid]
theorem sliceK_ok {C : Cx} {E : Env} {nx : Nat} {w : World} {t : Nat} {sx : SV} {u : Value} {lo hi : Option SV} {l h : Option Value} {k : SV → Prop} (hu : RS E nx w sx u)
    (hl : ∀ x, lo = some x → ∃ v, l = some v ∧ RS E nx w x v) (hl0 : lo = none → l = none) (hh : ∀ x, hi = some x → ∃ v, h = some v ∧ RS E nx w x v) (hh0 : hi = none → h = none) (hk : sliceK C t sx lo hi k) :
    Yields C E nx w (Instr.sliceAt t u l h none) k := by
  unfold sliceK at hk
  split at hk
  · rename_i esz n f
    obtain ⟨e, ht, hz, hz0, hb⟩ := elemSz_ok hk
    cases hu with
    | d _ _ hu =>
      cases hu with
      | sl _ _ _ a cap g hc hm hlen ha hg =>
        obtain ⟨p, q, hr, h1, h2, h3⟩ := boundsK_ok (P := C.P) (isS := true) hc hl hl0 hh hh0 hb
        refine ⟨.slice (if cap = p then a else a.map (·.add (p * esz))) (q - p) (cap - p), _, ?_, h3, ?_⟩
        · simp [Instr.sliceAt, run_underlying ht, Instr.slice, hr, hz w]
        · refine .d _ _ (.sl esz (q - p) _ _ _ (fun i j => g (p + i) j) (by omega) (by omega) (fun i hi => hlen _ (by omega)) (fun h0 => ?_) (fun i j hi hj => hg _ _ (by omega) hj))
          have hq : 0 < q - p := Nat.pos_of_mul_pos_right h0
          obtain ⟨b, o, e1, hb, hcell⟩ := ha (Nat.mul_pos (by omega) (by omega))
          refine ⟨b, o + p * esz, ?_, hb, fun i j hi hj => ?_⟩
          · rw [if_neg (by omega)]; exact addrMap e1
          · have := hcell (p + i) j (by omega) hj
            rw [Nat.add_mul] at this
            rw [← this]; congr 2; omega
  · rename_i m esz off len
    obtain ⟨e, ht, hz, hz0, hb⟩ := elemSz_ok hk
    cases hu with
    | sl _ _ _ _ a cap hlx hc hm ha h0 =>
      obtain ⟨p, q, hr, h1, h2, h3⟩ := boundsK_ok (P := C.P) (isS := true) hc hl hl0 hh hh0 hb
      refine ⟨.slice (if cap = p then a else a.map (·.add (p * esz))) (q - p) (cap - p), _, ?_, h3, ?_⟩
      · simp [Instr.sliceAt, run_underlying ht, Instr.slice, hr, hz w]
      · refine .sl m esz (off + p) (q - p) _ _ hlx (by omega) (by omega) (fun hq => ?_) (fun e0 => ?_)
        · rw [if_neg (by omega), addrMap (ha (by omega)), Nat.add_mul]
        · have e1 : off = 0 := by omega
          have e2 : p = 0 := by omega
          subst e1 e2
          obtain ⟨g1, g2⟩ := h0 rfl
          refine ⟨by omega, fun hc0 => ?_⟩
          rw [if_neg (by omega), Nat.zero_mul]
          have := g2 (by omega)
          rw [this]; simp [Addr.add]
  · rename_i s
    obtain rfl := hu.val_inv
    split at hk
    · rename_i j hj
      split at hk
      · rename_i hkk
        have ht := (C.ok _ _ hj).str hkk
        obtain ⟨p, q, hr, h1, h2, h3⟩ := boundsK_ok (P := C.P) (isS := false) (Nat.le_refl s.size) hl hl0 hh hh0 hk
        refine ⟨_, _, ?_, h3, .d _ _ (.val _ rfl)⟩
        simp [Instr.sliceAt, run_underlying ht, Instr.slice, hr]
      · exact hk.elim
    · exact hk.elim
  · exact hk.elim
def nilCheckK : SV → (SV → Prop) → Prop
  | .ptr l o, k => k (.ptr l o)
  | .rp l z i o, k => k (.rp l z i o)
  | .d (.ref cs o), k => k (.d (.ref cs o))
  | .d (.fn (.func f) c), k => k (.d (.fn (.func f) c))
  | .fn (.func f) c, k => k (.fn (.func f) c)
  | .iref cs o, k => k (.iref cs o)
  | _, _ => False
end Go.Proofs.YteallmlkkcjblaaGreatDoor

namespace Go.Proofs.YteallmlkkcjblaaGreatDoor
open Go.RowKit
theorem run_mapM_ok {α β : Type} {P : Program} {w : World} (f : α → Sem β) (g : α → β) : ∀ (l : List α), (∀ x ∈ l, (f x).run P w = .ok (g x) w) → (l.mapM f).run P w = .ok (l.map g) w
  | [], _ => by simp
  | x :: r, h => by
    have ih := run_mapM_ok f g r fun y hy => h y (by simp [hy])
    rw [List.mapM_cons]
    simp [h x (by simp), ih]
theorem fold_set (vs : List Value) : ∀ (s off : Nat) (cs : Array Value), off + s + vs.length ≤ cs.size →
    (((vs.zipIdx s).foldl (fun cs (p : Value × Nat) => cs.setIfInBounds (off + p.2) p.1) cs).toList = cs.toList.take (off + s) ++ vs ++ cs.toList.drop (off + s + vs.length)) := by
  induction vs with
  | nil => intro s off cs h; simp
  | cons v r ih =>
    intro s off cs h
    simp only [List.zipIdx_cons, List.foldl_cons]
    rw [ih (s + 1) off _ (by simp at h ⊢; omega)]
    have e := list_seg_step cs.toList (off + s) v r (by simp at h ⊢; omega)
    simpa [Array.toList_setIfInBounds, Nat.add_assoc] using e
theorem fold_set' (v : Array Value) (off : Nat) (cs : Array Value) (h : off + v.size ≤ cs.size) :
    (v.zipIdx.foldl (fun cs (x : Value × Nat) => match x with | (c, j) => cs.setIfInBounds (off + j) c) cs).toList = cs.toList.take off ++ v.toList ++ cs.toList.drop (off + v.toList.length) := by
  have := fold_set v.toList 0 off cs (by simpa using h)
  rw [← Array.foldl_toList]
  simpa using this
def fillK (C : Cx) (S : St) (fs : List (Nat × Nat)) : List (Nat × Operand) → List SV → (List SV → Prop) → Prop
  | [], cs, k => k cs
  | (i, x) :: r, cs, k => match fs[i]? with
    | some (off, ft) => match C.tt ft with
      | some j => cellsK (ev S x) fun vs => bif Nat.beq vs.length j.size then setK cs off vs fun cs' => fillK C S fs r cs' k else False
      | none => False
    | none => False
theorem fillK_ok {C : Cx} {O : Org} {E : Env} {S : St} {a : Act} {w : World} (hs : Sat O E S a w) {fs : List (Nat × Nat)} {place : Nat → Option (Nat × Nat)} (hp : ∀ i off ft j, fs[i]? = some (off, ft) → C.tt ft = some j → place i = some (off, j.size)) :
    ∀ (parts : List (Nat × Operand)) (cs : List SV) (us : Array Value) (k : List SV → Prop), Tells E S.nx w cs us.toList → fillK C S fs parts cs k →
      ∃ (cs' : List SV) (us' : Array Value), Instr.fill place us (parts.map fun p => (p.1, a.eval p.2)) = some us' ∧ Tells E S.nx w cs' us'.toList ∧ k cs'
  | [], cs, us, k, ht, h => ⟨cs, us, rfl, ht, h⟩
  | (i, x) :: r, cs, us, k, ht, h => by
    unfold fillK at h
    split at h
    · rename_i off ft hf
      split at h
      · rename_i j hj
        obtain ⟨vs, h, hv⟩ := cellsK_tells h (ev_ok hs x)
        cases hz : Nat.beq vs.length j.size with
        | false => simp [hz] at h
        | true =>
          simp only [hz, cond_true] at h
          have hz := Nat.eq_of_beq_eq_true hz
          obtain ⟨h1, h2⟩ := setK_ok _ _ _ _ h
          have e1 := ht.1
          have e2 := hv.1
          have e3 : us.size = cs.length := by simpa using e1
          have e4 : (a.eval x).cells.size = vs.length := by simpa using e2
          have hT := ht.splice hv off h1
          have hfold := fold_set' (a.eval x).cells off us (by omega)
          rw [← hfold] at hT
          obtain ⟨cs', us', g1, g2, g3⟩ := fillK_ok hs hp r _ _ k hT h2
          refine ⟨cs', us', ?_, g2, g3⟩
          simp only [List.map_cons, Instr.fill, hp i off ft j hf hj]
          rw [if_neg (by simp; omega)]
          exact g1
      · exact h.elim
    · exact h.elim
def buildK (C : Cx) (S : St) (t : Nat) (parts : List (Nat × Operand)) (k : SV → Prop) : Prop :=
  match C.tt t with
  | some i => match i.k with
    | .struct fs => bif fs.all (fun p => (C.tt p.2).isSome) then valsK i.zero (fun cs => fillK C S fs parts cs fun cs' => k (.agg cs')) else False
    | _ => False
  | none => False
theorem buildK_ok {C : Cx} {O : Org} {E : Env} {S : St} {a : Act} {w : World} (hs : Sat O E S a w) {t : Nat} {parts : Array (Nat × Operand)} {k : SV → Prop} (h : buildK C S t parts.toList k) :
    Yields C E S.nx w (Instr.build t (parts.map fun (i, x) => (i, a.eval x))) k := by
  unfold buildK at h
  split at h
  · rename_i i hi
    split at h
    · rename_i fs hk
      obtain ⟨Fs, hF, hm⟩ := (C.ok _ _ hi).struct hk
      obtain ⟨j, z, h1, h2, h3, h4, _⟩ := (C.ok _ _ hi).info
      cases hall : fs.all (fun p => (C.tt p.2).isSome) with
      | false => simp [hall] at h
      | true =>
        simp only [hall, cond_true] at h
        rw [List.all_eq_true] at hall
        obtain ⟨cs, g1, g2⟩ := valsK_ok E S.nx w _ _ h
        rw [← h3] at g2
        let g : Field → Nat × Nat := fun F => (F.offset, ((C.tt F.type).map (·.size)).getD 0)
        have hmap : (Fs.toList.mapM fun (f : Field) => Prod.mk f.offset <$> sizeOf f.type).run C.P w = .ok (Fs.toList.map g) w := by
          refine run_mapM_ok _ _ _ fun F hF' => ?_
          have hmem : (F.offset, F.type) ∈ fs := by rw [← hm]; exact List.mem_map.2 ⟨F, hF', rfl⟩
          have hsome := hall _ hmem
          obtain ⟨q, hq⟩ := Option.isSome_iff_exists.1 hsome
          have hz := (C.ok _ _ hq).sizeOf w
          simp only at hq
          simp [hz, g, hq]
        obtain ⟨cs', us', e1, e2, e3⟩ := fillK_ok hs (fs := fs) (place := fun q => (Fs.toList.map g).toArray[q]?) (fun q off ft jj hq hj => by
          rw [← hm, List.getElem?_map] at hq
          obtain ⟨F, hF1, hF2⟩ := Option.map_eq_some_iff.1 hq
          injection hF2 with g1 g2
          subst g1 g2
          have hF3 : Fs[q]? = some F := by simpa using hF1
          have hj' : C.tt F.type = some jj := hj
          simp [List.getElem?_map, hF3, g, hj']) parts.toList cs z.cells _ g2 g1
        refine ⟨.agg us', _, ?_, e3, .agg _ _ ?_ ?_ ?_⟩
        · simp only [Instr.build]
          simp [zeroValue, typeInfo, h1, h2, run_underlying hF]
          rw [show Fs.mapM (fun (f : Field) => Prod.mk f.offset <$> sizeOf f.type) = (List.toArray <$> Fs.toList.mapM fun (f : Field) => Prod.mk f.offset <$> sizeOf f.type) by rw [← List.mapM_toArray]]
          simp [hmap]
          simp at e1
          simp [e1]
        · simpa using e2.1
        · intro q hq
          exact e2.one _ (by
            have : us'.getD q undef = us'[q] := by simp [Array.getD, hq]
            rw [this]; simp)
        · intro q hq
          obtain ⟨v, k1, k2, _⟩ := e2.2 q _ (List.getElem?_eq_getElem hq)
          rw [getD_toList, k1]; exact k2
    · exact h.elim
  · exact h.elim
end Go.Proofs.YteallmlkkcjblaaGreatDoor

namespace Go.Proofs.YteallmlkkcjblaaGreatDoor
open Go.RowKit
def fillSK (S : St) (esz : Nat) : List (Nat × Operand) → List SV → (List SV → Prop) → Prop
  | [], cs, k => k cs
  | (i, x) :: r, cs, k => cellsK (ev S x) fun vs => bif Nat.beq vs.length esz then setK cs (i * esz) vs (fun cs' => fillSK S esz r cs' k) else False
theorem fillSK_ok {O : Org} {E : Env} {S : St} {a : Act} {w : World} (hs : Sat O E S a w) {esz : Nat} :
    ∀ (parts : List (Nat × Operand)) (cs : List SV) (us : Array Value) (k : List SV → Prop), Tells E S.nx w cs us.toList → fillSK S esz parts cs k →
      ∃ (cs' : List SV) (us' : Array Value), Instr.fill (fun i => some (i * esz, esz)) us (parts.map fun p => (p.1, a.eval p.2)) = some us' ∧ Tells E S.nx w cs' us'.toList ∧ k cs' ∧ us'.size = us.size
  | [], cs, us, k, ht, h => ⟨cs, us, rfl, ht, h, rfl⟩
  | (i, x) :: r, cs, us, k, ht, h => by
    unfold fillSK at h
    obtain ⟨vs, h, hv⟩ := cellsK_tells h (ev_ok hs x)
    cases hz : Nat.beq vs.length esz with
    | false => simp [hz] at h
    | true =>
      simp only [hz, cond_true] at h
      have hz := Nat.eq_of_beq_eq_true hz
      obtain ⟨h1, h2⟩ := setK_ok _ _ _ _ h
      have e1 := ht.1
      have e2 := hv.1
      have e3 : us.size = cs.length := by simpa using e1
      have e4 : (a.eval x).cells.size = vs.length := by simpa using e2
      have hT := ht.splice hv (i * esz) h1
      have hfold := fold_set' (a.eval x).cells (i * esz) us (by omega)
      rw [← hfold] at hT
      obtain ⟨cs', us', g1, g2, g3, g4⟩ := fillSK_ok hs r _ _ k hT h2
      refine ⟨cs', us', ?_, g2, g3, ?_⟩
      · simp only [List.map_cons, Instr.fill]
        rw [if_neg (by simp; omega)]
        exact g1
      · rw [g4]
        have := congrArg List.length hfold
        rw [splice_len _ _ _ (by simp; omega)] at this
        simpa using this
def chunkD (F : List D) (esz i : Nat) : List D := (F.drop (i * esz)).take esz
def buildSliceF (C : Cx) (S : St) (t len : Nat) (parts : List (Nat × Operand)) (k : TypeId → Nat → (Nat → List D) → Prop) : Prop :=
  match C.tt t with
  | some i => match i.k with
    | .slice e => match C.tt e with
      | some j => bif j.zero.all Value.oneCell' && Nat.ble (len * j.size) 1048576 && Nat.blt 0 j.size && Nat.beq j.zero.length j.size then
          fillSK S j.size parts (List.replicate (len * j.size) .any) (fun cs => allD cs fun ds => k e j.size (chunkD ds j.size)) else False
      | none => False
    | _ => False
  | none => False
def buildSliceK (C : Cx) (S : St) (t len : Nat) (parts : List (Nat × Operand)) (k : St → SV → Prop) : Prop :=
  buildSliceF C S t len parts fun e z f => match S with
    | ⟨nt, nx, fr, hp⟩ => k ⟨nt, nx + 1, fr, (nx, some (.row e z len f)) :: hp⟩ (.sl nx z 0 len)
theorem Sat.newrow {O : Org} {E : Env} {S : St} {a : Act} {w : World} (h : Sat O E S a w) {e esz n cap : Nat} {f : Nat → List D} {vs : Array Value} (h1 : n ≤ cap) (h2 : cap ≤ maxLen) (h3 : 0 < esz) (h4 : ∀ i, i < n → (f i).length = esz)
    (h5 : vs.size = cap * esz) (h6 : ∀ j, j < n * esz → (vs.getD j undef).oneCell' = true) (h7 : ∀ i j (_ : i < n) (hj : j < (f i).length), RD w E.Im ((f i)[j]) (vs.getD (i * esz + j) undef)) :
    Sat O (E.newrow S.nx w.heap.size cap) ⟨S.nt, S.nx + 1, S.fr, (S.nx, some (.row e esz n f)) :: S.hp⟩ a (w.alloc (.cells vs e)) ∧
      RS (E.newrow S.nx w.heap.size cap) (S.nx + 1) (w.alloc (.cells vs e)) (.sl S.nx esz 0 n) (.slice (some ⟨w.heap.size, 0, none⟩) n cap) := by
  have hE : ∀ l, l < S.nx → (E.newrow S.nx w.heap.size cap).ρ l = E.ρ l ∧ (E.newrow S.nx w.heap.size cap).κ l = E.κ l := fun l hl => ⟨by simp only [Env.newrow]; rw [if_neg (by omega)], by simp only [Env.newrow]; rw [if_neg (by omega)]⟩
  have hr : (E.newrow S.nx w.heap.size cap).ρ S.nx = w.heap.size := by simp [Env.newrow]
  have hk : (E.newrow S.nx w.heap.size cap).κ S.nx = cap := by simp [Env.newrow]
  refine ⟨h.alloc_gen _ _ hE rfl hr ?_, ?_⟩
  · refine ⟨by rw [hk]; exact h1, by rw [hk]; exact h2, h3, h4, fun _ => ⟨vs, by rw [hr]; exact heap_alloc_new w _, by rw [hk]; exact h5, h6, fun i j hi hj => ?_⟩⟩
    exact (h7 i j hi hj).mono (fun _ hb => hb) fun b hb => Below.heap_alloc _ _ _ (h.im b hb).1
  · refine .sl _ _ _ _ _ _ (by omega) h1 h2 (fun _ => by rw [hr, Nat.zero_mul]) (fun _ => ⟨hk.symm, fun _ => by rw [hr]⟩)
theorem buildSliceF_ok {C : Cx} {O : Org} {E : Env} {S : St} {a : Act} {w : World} (hs : Sat O E S a w) {t len : Nat} {parts : Array (Nat × Operand)} {k : TypeId → Nat → (Nat → List D) → Prop} (h : buildSliceF C S t len parts.toList k) :
    ∃ (e : TypeId) (z : Nat) (f : Nat → List D) (us' : Array Value), k e z f ∧ (Instr.buildSlice t len (parts.map fun (i, x) => (i, a.eval x))).run C.P w = .ok (.slice (some ⟨w.heap.size, 0, none⟩) len len) (w.alloc (.cells us' e)) ∧
      len ≤ maxLen ∧ 0 < z ∧ (∀ i, i < len → (f i).length = z) ∧ us'.size = len * z ∧ (∀ j, j < len * z → (us'.getD j undef).oneCell' = true) ∧ (∀ i j (_ : i < len) (hj : j < (f i).length), RD w E.Im ((f i)[j]) (us'.getD (i * z + j) undef)) := by
  unfold buildSliceF at h
  split at h
  · rename_i i hi
    split at h
    · rename_i e hk
      have ht := (C.ok _ _ hi).slice hk
      split at h
      · rename_i j hj
        obtain ⟨jj, z, q1, q2, q3, q4, _⟩ := (C.ok _ _ hj).info
        have hsz := (C.ok _ _ hj).sizeOf w
        cases hall : (j.zero.all Value.oneCell' && Nat.ble (len * j.size) 1048576 && Nat.blt 0 j.size && Nat.beq j.zero.length j.size) with
        | false => simp [hall] at h
        | true =>
          simp only [hall, cond_true] at h
          simp only [Bool.and_eq_true] at hall
          obtain ⟨⟨⟨a1, a2⟩, a3⟩, a4⟩ := hall
          have a2 : len * j.size ≤ 1048576 := Nat.le_of_ble_eq_true a2
          have a3 : 0 < j.size := by simpa using a3
          have a4 : j.zero.length = j.size := Nat.eq_of_beq_eq_true a4
          rw [List.all_eq_true] at a1
          have hzs : z.cells.size = j.size := by rw [← a4, ← q3]; simp
          let us0 : Array Value := (Array.range (len * j.size)).map (z.cells[· % z.cells.size]!)
          have hus0 : us0.size = len * j.size := by simp [us0]
          have hT0 : Tells E S.nx w (List.replicate (len * j.size) .any) us0.toList := by
            refine ⟨by simp [us0], fun q x hx => ?_⟩
            obtain ⟨hq1, hq2⟩ := List.getElem?_eq_some_iff.1 hx
            have hq : q < len * j.size := by simpa using hq1
            have hm : q % z.cells.size < z.cells.size := Nat.mod_lt _ (by omega)
            refine ⟨z.cells[q % z.cells.size], by simp [us0, hq, hm], by rw [← hq2]; simp; exact .any _, a1 _ (by rw [← q3]; simp)⟩
          obtain ⟨cs', us', g1, g2, g3, g4⟩ := fillSK_ok hs (esz := j.size) parts.toList _ us0 _ hT0 h
          obtain ⟨ds, hds, g5⟩ := allD_ok _ _ g3
          subst hds
          have hlen : ds.length = len * j.size := by
            have e := g2.1
            rw [List.length_map] at e
            rw [← e, Array.length_toList, g4, hus0]
          have hne : ∀ p, p < len → (chunkD ds j.size p).length = j.size := fun p hp => by
            have : (p + 1) * j.size ≤ len * j.size := Nat.mul_le_mul_right _ hp
            rw [Nat.add_mul] at this
            simp only [chunkD, List.length_take, List.length_drop]; omega
          have hlm : len ≤ 1048576 := Nat.le_trans (Nat.le_mul_of_pos_right _ a3) a2
          refine ⟨e, j.size, _, us', g5, ?_, by unfold maxLen; omega, a3, hne, g4.trans hus0, (fun q hq => by
              have hq' : q < us'.size := by rw [g4, hus0]; exact hq
              have : us'.getD q undef = us'[q] := by simp [Array.getD, hq']
              rw [this]; exact g2.one _ (by simp)), (fun p q hp hq => by
              have hq1 : q < j.size := by rw [← hne p hp]; exact hq
              have hm : (p + 1) * j.size ≤ len * j.size := Nat.mul_le_mul_right _ hp
              rw [Nat.add_mul] at hm
              have hget : (chunkD ds j.size p)[q] = ds[p * j.size + q]'(by omega) := by simp [chunkD]
              obtain ⟨v, k1, k2, _⟩ := g2.2 (p * j.size + q) (.d (ds[p * j.size + q]'(by omega))) (by
                rw [List.getElem?_map, List.getElem?_eq_getElem (by omega)]; rfl)
              rw [hget, getD_toList, k1]
              cases k2 with | d _ _ k2 => exact k2)⟩
          have hbig : ¬ (16777216 < len * j.size) := by omega
          simp only [Instr.buildSlice]
          by_cases hl0 : len * j.size = 0
          · have hu0 : us0 = #[] := by apply Array.eq_empty_of_size_eq_zero; omega
            rw [hu0] at g1
            have hl1 : len = 0 := by rcases Nat.mul_eq_zero.1 hl0 with h9 | h9 <;> omega
            subst hl1
            simp [run_underlying ht, hsz]
            rw [show (Array.map (fun _ => default) (Array.range 0) : Array Value) = #[] by simp [Array.range_zero']]
            simp [g1, newRow]
          · have g1' : Instr.fill (fun i => some (i * j.size, j.size)) ((Array.range (len * j.size)).map (z.cells[· % z.cells.size]!)) (parts.toList.map fun p => (p.1, a.eval p.2)) = some us' := g1
            simp [run_underlying ht, hsz, hbig, hl0, zeroValue, typeInfo, q1, q2]
            simp [g1', newRow]
      · exact h.elim
    · exact h.elim
  · exact h.elim
theorem buildSliceK_ok {C : Cx} {O : Org} {E : Env} {S : St} {a : Act} {w : World} (hs : Sat O E S a w) {t len : Nat} {parts : Array (Nat × Operand)} {k : St → SV → Prop} (h : buildSliceK C S t len parts.toList k) :
    YieldsS C O a w (Instr.buildSlice t len (parts.map fun (i, x) => (i, a.eval x))) k := by
  obtain ⟨e, z, f, us', g5, hrun, h1, h2, h3, h4, h5, h6⟩ := buildSliceF_ok hs h
  obtain ⟨nt, nx, fr, hp⟩ := S
  obtain ⟨s1, s2⟩ := hs.newrow (e := e) (n := len) (cap := len) (f := f) (vs := us') (Nat.le_refl _) h1 h2 h3 h4 h5 h6
  exact ⟨_, _, _, _, _, hrun, g5, s1, s2⟩
end Go.Proofs.YteallmlkkcjblaaGreatDoor

namespace Go.Proofs.YteallmlkkcjblaaGreatDoor
open Go.RowKit
theorem lkh_dead {hp : List (Nat × Option Blk)} {l m : Nat} {x : Blk} (h : lkh ((l, none) :: hp) m = some x) : m ≠ l ∧ lkh hp m = some x := by
  rw [lkh_cons] at h
  by_cases e : l = m
  · rw [if_pos e] at h; simp at h
  · rw [if_neg e] at h; exact ⟨fun k => e k.symm, h⟩
theorem Sat.kill {O : Org} {E : Env} {S : St} {a : Act} {w : World} (h : Sat O E S a w) (l : Nat) : Sat O E ⟨S.nt, S.nx, S.fr, (l, none) :: S.hp⟩ a w :=
  ⟨h.fr, h.nt, h.df, fun m x hm => h.hp m x (lkh_dead hm).2, fun m x hm => h.nx m x (lkh_dead hm).2, fun m m' x x' hm hm' => h.inj m m' x x' (lkh_dead hm).2 (lkh_dead hm').2,
    fun b hb => let ⟨h1, h2, h3⟩ := h.im b hb; ⟨h1, h2, fun m x hm => h3 m x (lkh_dead hm).2⟩, fun m x hm => h.own m x (lkh_dead hm).2, h.kq, h.lab, h.nl, h.imo⟩
theorem Sat.rename {O : Org} {E : Env} {S : St} {a : Act} {w w' : World} (h : Sat O E S a w) {l : Nat} {b b' : Blk} (hl : lkh S.hp l = some b) (hr : b'.real (E.κ l) → b.real (E.κ l))
    (hw : ∀ k, k < w.heap.size → (b'.real (E.κ l) → k ≠ E.ρ l) → w'.heap[k]? = w.heap[k]?) (hsz : w'.heap.size = w.heap.size) (hos : w'.os = w.os ∧ w'.tape = w.tape ∧ w'.output = w.output)
    (hb : BS (E.newrow S.nx (E.ρ l) (E.κ l)) (S.nx + 1) w' S.nx b') : Sat O (E.newrow S.nx (E.ρ l) (E.κ l)) ⟨S.nt, S.nx + 1, S.fr, (S.nx, some b') :: (l, none) :: S.hp⟩ a w' := by
  have hE : ∀ m, m < S.nx → (E.newrow S.nx (E.ρ l) (E.κ l)).ρ m = E.ρ m ∧ (E.newrow S.nx (E.ρ l) (E.κ l)).κ m = E.κ m := fun m hm => ⟨by simp only [Env.newrow]; rw [if_neg (by omega)], by simp only [Env.newrow]; rw [if_neg (by omega)]⟩
  have hρ : (E.newrow S.nx (E.ρ l) (E.κ l)).ρ S.nx = E.ρ l := by simp [Env.newrow]
  have hκ : (E.newrow S.nx (E.ρ l) (E.κ l)).κ S.nx = E.κ l := by simp [Env.newrow]
  have hwi : ∀ k, E.Im k → w'.heap[k]? = w.heap[k]? := fun k hk => hw k (h.im k hk).1 (fun hx e => (h.im k hk).2.2 l b hl (hr hx) e.symm)
  have hlive : ∀ m x, lkh ((S.nx, some b') :: (l, none) :: S.hp) m = some x → (m = S.nx ∧ x = b') ∨ (m < S.nx ∧ m ≠ l ∧ lkh S.hp m = some x) := by
    intro m x hm
    rw [lkh_cons] at hm
    by_cases e : S.nx = m
    · rw [if_pos e] at hm; cases hm; exact Or.inl ⟨e.symm, rfl⟩
    · rw [if_neg e] at hm
      obtain ⟨h1, h2⟩ := lkh_dead hm
      exact Or.inr ⟨h.nx m x h2, h1, h2⟩
  refine ⟨fun m => (h.fr m).mono hE (by simp) (fun _ hb => hb) hwi, h.nt, h.df, ?_, ?_, ?_, ?_, ?_, ?_, ?_, by have := h.nl; simp only; omega, h.imo⟩
  · intro m x hm
    rcases hlive m x hm with ⟨rfl, rfl⟩ | ⟨hlt, hne, hm'⟩
    · exact hb
    · exact (h.hp m x hm').mono hlt hE (by simp) (fun _ hb => hb) hwi (fun hxr => hw _ ((h.hp m x hm').lt hxr) (fun hx => h.inj m l x b hm' hl hxr (hr hx) hne))
  · intro m x hm
    rcases hlive m x hm with ⟨rfl, rfl⟩ | ⟨hlt, hne, hm'⟩ <;> simp only <;> omega
  · intro m m' x x' hm hm' hxr hxr' hne'
    rcases hlive m x hm with ⟨rfl, rfl⟩ | ⟨hlt, hne, hm1⟩ <;> rcases hlive m' x' hm' with ⟨rfl, rfl⟩ | ⟨hlt', hne1, hm1'⟩
    · exact absurd rfl hne'
    · rw [hρ, (hE m' hlt').1]; rw [hκ] at hxr; rw [(hE m' hlt').2] at hxr'; exact h.inj _ _ _ _ hl hm1' (hr hxr) hxr' (fun e => hne1 e.symm)
    · rw [hρ, (hE m hlt).1]; rw [hκ] at hxr'; rw [(hE m hlt).2] at hxr; exact h.inj _ _ _ _ hm1 hl hxr (hr hxr') hne
    · rw [(hE m hlt).1, (hE m' hlt').1]; rw [(hE m hlt).2] at hxr; rw [(hE m' hlt').2] at hxr'; exact h.inj _ _ _ _ hm1 hm1' hxr hxr' hne'
  · intro k hk
    obtain ⟨h1, h2, h3⟩ := h.im k hk
    refine ⟨by omega, h2, fun m x hm hxr => ?_⟩
    rcases hlive m x hm with ⟨rfl, rfl⟩ | ⟨hlt, hne, hm'⟩
    · rw [hρ]; rw [hκ] at hxr; exact h3 l b hl (hr hxr)
    · rw [(hE m hlt).1]; rw [(hE m hlt).2] at hxr; exact h3 m x hm' hxr
  · intro m x hm hxr
    rcases hlive m x hm with ⟨rfl, rfl⟩ | ⟨hlt, hne, hm'⟩
    · rw [hρ]; rw [hκ] at hxr; exact h.own l b hl (hr hxr)
    · rw [(hE m hlt).1]; rw [(hE m hlt).2] at hxr; exact h.own m x hm' hxr
  · have hk := h.kq
    refine ⟨hos.1.trans hk.os, hos.2.1.trans hk.tape, hos.2.2.trans hk.output, by have := hk.size; omega, fun k hk1 hk2 => ?_⟩
    rw [hw k (by have := hk.size; omega) (fun hx e => by rcases h.own l b hl (hr hx) with h9 | h9; exact hk2 (e ▸ h9); omega)]
    exact hk.block k hk1 hk2
  · intro m hm
    have := h.nl
    obtain ⟨h1, h2⟩ := hE m (by omega)
    rw [h1, h2]; exact h.lab m hm
theorem Sat.virt {O : Org} {E : Env} {S : St} {a : Act} {w : World} (h : Sat O E S a w) {e esz : Nat} {f : Nat → List D} (hz : 0 < esz) :
    Sat O (E.newrow S.nx 0 0) ⟨S.nt, S.nx + 1, S.fr, (S.nx, some (.row e esz 0 f)) :: S.hp⟩ a w := by
  have hE : ∀ m, m < S.nx → (E.newrow S.nx 0 0).ρ m = E.ρ m ∧ (E.newrow S.nx 0 0).κ m = E.κ m := fun m hm => ⟨by simp only [Env.newrow]; rw [if_neg (by omega)], by simp only [Env.newrow]; rw [if_neg (by omega)]⟩
  have hκ : (E.newrow S.nx 0 0).κ S.nx = 0 := by simp [Env.newrow]
  have hlive : ∀ m x, lkh ((S.nx, some (.row e esz 0 f)) :: S.hp) m = some x → (m = S.nx ∧ x = .row e esz 0 f) ∨ (m < S.nx ∧ lkh S.hp m = some x) := by
    intro m x hm
    rw [lkh_cons] at hm
    by_cases e : S.nx = m
    · rw [if_pos e] at hm; cases hm; exact Or.inl ⟨e.symm, rfl⟩
    · rw [if_neg e] at hm; exact Or.inr ⟨h.nx m x hm, hm⟩
  refine ⟨fun m => (h.fr m).mono hE (by simp) (fun _ hb => hb) (fun _ _ => rfl), h.nt, h.df, ?_, ?_, ?_, ?_, ?_, h.kq, ?_, by have := h.nl; simp only; omega, h.imo⟩
  · intro m x hm
    rcases hlive m x hm with ⟨rfl, rfl⟩ | ⟨hlt, hm'⟩
    · exact ⟨by rw [hκ]; exact Nat.le_refl _, by rw [hκ]; exact Nat.zero_le _, hz, fun i hi => by omega, fun hk => by rw [hκ] at hk; omega⟩
    · exact (h.hp m x hm').mono hlt hE (by simp) (fun _ hb => hb) (fun _ _ => rfl) (fun _ => rfl)
  · intro m x hm
    rcases hlive m x hm with ⟨rfl, rfl⟩ | ⟨hlt, hm'⟩ <;> simp only <;> omega
  · intro m m' x x' hm hm' hxr hxr' hne'
    rcases hlive m x hm with ⟨rfl, rfl⟩ | ⟨hlt, hm1⟩ <;> rcases hlive m' x' hm' with ⟨rfl, rfl⟩ | ⟨hlt', hm1'⟩
    · exact absurd rfl hne'
    · rw [hκ] at hxr; exact absurd hxr (Nat.lt_irrefl 0)
    · rw [hκ] at hxr'; exact absurd hxr' (Nat.lt_irrefl 0)
    · rw [(hE m hlt).1, (hE m' hlt').1]; rw [(hE m hlt).2] at hxr; rw [(hE m' hlt').2] at hxr'; exact h.inj _ _ _ _ hm1 hm1' hxr hxr' hne'
  · intro k hk
    obtain ⟨h1, h2, h3⟩ := h.im k hk
    refine ⟨h1, h2, fun m x hm hxr => ?_⟩
    rcases hlive m x hm with ⟨rfl, rfl⟩ | ⟨hlt, hm'⟩
    · rw [hκ] at hxr; exact absurd hxr (Nat.lt_irrefl 0)
    · rw [(hE m hlt).1]; rw [(hE m hlt).2] at hxr; exact h3 m x hm' hxr
  · intro m x hm hxr
    rcases hlive m x hm with ⟨rfl, rfl⟩ | ⟨hlt, hm'⟩
    · rw [hκ] at hxr; exact absurd hxr (Nat.lt_irrefl 0)
    · rw [(hE m hlt).1]; rw [(hE m hlt).2] at hxr; exact h.own m x hm' hxr
  · intro m hm
    have := h.nl
    obtain ⟨h1, h2⟩ := hE m (by omega)
    rw [h1, h2]; exact h.lab m hm
end Go.Proofs.YteallmlkkcjblaaGreatDoor

namespace Go.Proofs.YteallmlkkcjblaaGreatDoor
open Go.RowKit
theorem divmod_lt {q m esz : Nat} (h : q < m * esz) : q / esz < m ∧ q % esz < esz ∧ q / esz * esz + q % esz = q := by
  have hz : 0 < esz := Nat.pos_of_mul_pos_left (Nat.lt_of_le_of_lt (Nat.zero_le _) h)
  exact ⟨(Nat.div_lt_iff_lt_mul hz).2 h, Nat.mod_lt _ hz, Nat.div_add_mod' q esz⟩
theorem divmod_of {i j esz : Nat} (h : j < esz) : (i * esz + j) / esz = i ∧ (i * esz + j) % esz = j := by
  have hz : 0 < esz := by omega
  refine ⟨?_, ?_⟩
  · rw [Nat.mul_comm, Nat.mul_add_div hz, Nat.div_eq_of_lt h, Nat.add_zero]
  · rw [Nat.mul_comm, Nat.mul_add_mod, Nat.mod_eq_of_lt h]
structure Lies (w : World) (Im : Nat → Prop) (esz m : Nat) (g : Nat → List D) (xs : List Value) : Prop where
  len : xs.length = m * esz
  ln : ∀ i, i < m → (g i).length = esz
  one : ∀ u ∈ xs, u.oneCell' = true
  rd : ∀ i j (_ : i < m) (hj : j < (g i).length), RD w Im ((g i)[j]) ((xs[i * esz + j]?).getD undef)
def catF (n : Nat) (f g : Nat → List D) (i : Nat) : List D := if i < n then f i else g (i - n)
theorem Lies.cat {w : World} {Im : Nat → Prop} {esz n m : Nat} {f g : Nat → List D} {xs ys : List Value} (h : Lies w Im esz n f xs) (k : Lies w Im esz m g ys) : Lies w Im esz (n + m) (catF n f g) (xs ++ ys) := by
  refine ⟨by rw [List.length_append, h.len, k.len, Nat.add_mul], fun i hi => ?_, fun u hu => ?_, fun i j hi hj => ?_⟩
  · unfold catF; split
    · exact h.ln i (by assumption)
    · exact k.ln _ (by omega)
  · rcases List.mem_append.1 hu with hu | hu
    · exact h.one u hu
    · exact k.one u hu
  · have key : ∀ (c : List D), c = catF n f g i → ∀ hj' : j < c.length, RD w Im (c[j]) (((xs ++ ys)[i * esz + j]?).getD undef) := by
      intro c hc hj'
      unfold catF at hc
      by_cases hlt : i < n
      · rw [if_pos hlt] at hc; subst hc
        have h1 := h.ln i hlt
        have : (i + 1) * esz ≤ n * esz := Nat.mul_le_mul_right _ hlt
        rw [Nat.add_mul] at this
        rw [List.getElem?_append_left (by rw [h.len]; omega)]
        exact h.rd i j hlt hj'
      · rw [if_neg hlt] at hc; subst hc
        have : n * esz ≤ i * esz := Nat.mul_le_mul_right _ (by omega)
        rw [List.getElem?_append_right (by rw [h.len]; omega), h.len, show i * esz + j - n * esz = (i - n) * esz + j by rw [Nat.sub_mul]; omega]
        exact k.rd (i - n) j (by omega) hj'
    exact key _ rfl hj
def viewK (S : St) (esz : Nat) : SV → (Nat → (Nat → List D) → Prop) → Prop
  | .d (.sl z m g), k => bif Nat.beq z esz then k m g else False
  | .sl l z o m, k => match lkh S.hp l with
    | some (.row _ z2 n2 f2) => bif (Nat.beq z esz && Nat.beq z2 esz) then o + m ≤ n2 ∧ k m (fun i => f2 (o + i)) else False
    | _ => False
  | .d (.val (.slice none 0 0)), k => k 0 fun _ => []
  | _, _ => False
theorem viewK_ok {O : Org} {E : Env} {S : St} {a : Act} {w : World} (hs : Sat O E S a w) {esz : Nat} (hz0 : 0 < esz) {y : SV} {u : Value} {k : Nat → (Nat → List D) → Prop} (hu : RS E S.nx w y u) (h : viewK S esz y k) :
    ∃ m g ad c xs, u = .slice ad m c ∧ k m g ∧ Lies w E.Im esz m g xs ∧ (0 < m → ∃ b o, ad = some ⟨b, o, none⟩ ∧ ∀ (j : Nat) (v : Value), xs[j]? = some v → w.cell? ⟨b, o + j, none⟩ = some v) := by
  have mk : ∀ (m : Nat) (g : Nat → List D) (val : Nat → Value), (∀ i, i < m → (g i).length = esz) → (∀ i j (_ : i < m) (hj : j < (g i).length), RD w E.Im ((g i)[j]) (val (i * esz + j))) →
      Lies w E.Im esz m g ((List.range (m * esz)).map val) := by
    intro m g val h1 h2
    refine ⟨by simp, h1, fun u hu => ?_, fun i j hi hj => ?_⟩
    · obtain ⟨q, hq, rfl⟩ := List.mem_map.1 hu
      obtain ⟨q1, q2, q3⟩ := divmod_lt (List.mem_range.1 hq)
      have := (h2 (q / esz) (q % esz) q1 (by rw [h1 _ q1]; exact q2)).one
      rwa [q3] at this
    · have hj' : j < esz := by rw [← h1 i hi]; exact hj
      have : (i + 1) * esz ≤ m * esz := Nat.mul_le_mul_right _ hi
      rw [Nat.add_mul] at this
      have hlt : i * esz + j < m * esz := by omega
      simp [hlt]
      exact h2 i j hi hj
  unfold viewK at h
  split at h
  · rename_i z m g
    cases hz : Nat.beq z esz with
    | false => simp [hz] at h
    | true =>
      simp only [hz, cond_true] at h
      obtain rfl := Nat.eq_of_beq_eq_true hz
      cases hu with
      | d _ _ hu =>
        cases hu with
        | sl _ _ _ ad cap gv hc hm hl ha hg =>
          refine ⟨m, g, ad, cap, _, rfl, h, mk m g (fun q => gv (q / z) (q % z)) hl (fun i j hi hj => ?_), fun hm0 => ?_⟩
          · have hj' : j < z := by rw [← hl i hi]; exact hj
            simp only [(divmod_of hj').1, (divmod_of hj').2]; exact hg i j hi hj
          · obtain ⟨b, o, e, hb, hcell⟩ := ha (Nat.mul_pos hm0 hz0)
            refine ⟨b, o, e, fun j v hv => ?_⟩
            obtain ⟨hj, hv'⟩ := List.getElem?_eq_some_iff.1 hv
            have hj' : j < m * z := by simpa using hj
            obtain ⟨q1, q2, q3⟩ := divmod_lt hj'
            have := hcell (j / z) (j % z) q1 q2
            rw [Nat.add_assoc, q3] at this
            rw [this, ← hv']; simp
  · rename_i l z o m
    split at h
    · rename_i e z2 n2 f2 hl
      cases hz : (Nat.beq z esz && Nat.beq z2 esz) with
      | false => simp [hz] at h
      | true =>
        simp only [hz, cond_true] at h
        rw [Bool.and_eq_true] at hz
        obtain rfl := Nat.eq_of_beq_eq_true hz.1
        obtain rfl := Nat.eq_of_beq_eq_true hz.2
        obtain ⟨hle, h⟩ := h
        cases hu with
        | sl _ _ _ _ ad cap hlx hc hm ha h0 =>
          obtain ⟨k1, k2, k3, k4, k5⟩ := hs.hp l _ hl
          by_cases hm0 : m = 0
          · subst hm0
            exact ⟨0, _, ad, cap, [], rfl, h, ⟨by simp, fun i hi => by omega, fun u hu => by simp at hu, fun i j hi => by omega⟩, fun h => by omega⟩
          · obtain ⟨vs, g1, g2, g3, g4⟩ := k5 (by omega)
            refine ⟨m, _, ad, cap, _, rfl, h, mk m (fun i => f2 (o + i)) (fun q => vs.getD (o * z2 + q) undef) (fun i hi => k4 _ (by omega)) (fun i j hi hj => ?_), fun _ => ⟨E.ρ l, o * z2, ha (by omega), fun j v hv => ?_⟩⟩
            · have := g4 (o + i) j (by omega) hj
              rw [Nat.add_mul, Nat.add_assoc] at this
              exact this
            · obtain ⟨hj, hv'⟩ := List.getElem?_eq_some_iff.1 hv
              have hj' : j < m * z2 := by simpa using hj
              have h8 : (o + m) * z2 ≤ E.κ l * z2 := Nat.mul_le_mul_right _ (by omega)
              rw [Nat.add_mul] at h8
              have h9 : o * z2 + j < vs.size := by omega
              rw [← hv']
              simp [World.cell?, g1, Array.getD, h9]
    · exact h.elim
  · obtain rfl := hu.val_inv
    exact ⟨0, _, none, 0, [], rfl, h, ⟨by simp, fun i hi => by omega, fun u hu => by simp at hu, fun i j hi => by omega⟩, fun h => by omega⟩
  · exact h.elim
def fromK (S : St) (e esz : Nat) : SV → (Nat → Nat → (Nat → List D) → Prop) → Prop
  | .sl l z off n, k => match lkh S.hp l with
    | some (.row e2 z2 m f) => bif (Nat.beq z esz && Nat.beq z2 esz && Nat.beq e2 e) then (off = 0 ∧ n = m) ∧ k l n f else False
    | _ => False
  | .d (.val (.slice none 0 0)), k => k S.nx 0 fun _ => []
  | _, _ => False
def appendK (C : Cx) (S : St) (t : Nat) (x y : SV) (k : St → SV → Prop) : Prop :=
  match C.tt t with
  | some i => match i.k with
    | .slice e => match C.tt e with
      | some j => bif Nat.blt 0 j.size && Nat.blt 0 j.bytes && Nat.beq j.zero.length j.size then
          fromK S e j.size x (fun l n f => viewK S j.size y fun m g => (n + m) * j.bytes ≤ 140737488355328 ∧ match S with
            | ⟨nt, nx, fr, hp⟩ => k ⟨nt, nx + 1, fr, (nx, some (.row e j.size (n + m) (catF n f g))) :: (l, none) :: hp⟩ (.sl nx j.size 0 (n + m))) else False
      | none => False
    | _ => False
  | none => False
theorem grownCap_bd (w : World) (need old : Nat) (e : TypeId) (h : need ≤ 140737488355328) : need ≤ grownCap w need old e ∧ grownCap w need old e ≤ maxLen := by
  unfold grownCap Question.cut maxLen
  simp only
  have : w.tape w.drawn (.appendCap need old e) % (2 ^ 63 - need) < 2 ^ 63 - need := Nat.mod_lt _ (by omega)
  omega
theorem Sat.fresh {O : Org} {E : Env} {S : St} {a : Act} {w : World} (h : Sat O E S a w) {e esz n cap : Nat} {f : Nat → List D} {xs : List Value} {zs : Array Value} (hl : Lies w E.Im esz n f xs) (hz : 0 < esz) (h1 : n ≤ cap) (h2 : cap ≤ maxLen)
    (hzs : zs.size = (cap - n) * esz) :
    Sat O (E.newrow S.nx w.drew.heap.size cap) ⟨S.nt, S.nx + 1, S.fr, (S.nx, some (.row e esz n f)) :: S.hp⟩ a (w.drew.alloc (.cells (xs.toArray ++ zs) e)) ∧
      RS (E.newrow S.nx w.drew.heap.size cap) (S.nx + 1) (w.drew.alloc (.cells (xs.toArray ++ zs) e)) (.sl S.nx esz 0 n) (.slice (some ⟨w.heap.size, 0, none⟩) n cap) := by
  have hg : ∀ j, j < n * esz → (xs.toArray ++ zs).getD j undef = (xs[j]?).getD undef := fun j hj => by
    have : j < xs.length := by rw [hl.len]; exact hj
    simp only [Array.getD_eq_getD_getElem?]
    rw [Array.getElem?_append_left (by simpa using this)]; simp
  refine (h.drew (w.drawn + 1)).newrow h1 h2 hz hl.ln ?_ (fun j hj => ?_) (fun i j hi hj => ?_)
  · have : n * esz + (cap - n) * esz = cap * esz := by rw [← Nat.add_mul]; congr 1; omega
    simp [hl.len, hzs]; exact this
  · rw [hg j hj]
    have hj' : j < xs.length := by rw [hl.len]; exact hj
    rw [List.getElem?_eq_getElem hj']
    exact hl.one _ (List.getElem_mem hj')
  · have hj' : j < esz := by rw [← hl.ln i hi]; exact hj
    have : (i + 1) * esz ≤ n * esz := Nat.mul_le_mul_right _ hi
    rw [Nat.add_mul] at this
    rw [hg _ (by omega)]
    exact (hl.rd i j hi hj).mono (w := w) (fun _ hb => hb) fun _ _ => rfl
theorem appendK_ok {C : Cx} {O : Org} {E : Env} {S : St} {a : Act} {w : World} (hs : Sat O E S a w) {t ty : Nat} {x y : SV} {u v : Value} {k : St → SV → Prop} (hu : RS E S.nx w x u) (hv : RS E S.nx w y v) (h : appendK C S t x y k) :
    YieldsS C O a w (Builtin.append_ #[t, t] ty #[u, v]) k := by
  unfold appendK at h
  split at h
  · rename_i i hi
    split at h
    · rename_i e hk
      have ht := (C.ok _ _ hi).slice hk
      split at h
      · rename_i j hj
        obtain ⟨jj, z, q1, q2, q3, q4, q5⟩ := (C.ok _ _ hj).info
        cases hall : (Nat.blt 0 j.size && Nat.blt 0 j.bytes && Nat.beq j.zero.length j.size) with
        | false => simp [hall] at h
        | true =>
          simp only [hall, cond_true] at h
          simp only [Bool.and_eq_true] at hall
          obtain ⟨⟨a3, a5⟩, a4⟩ := hall
          have a3 : 0 < j.size := by simpa using a3
          have a5 : 0 < j.bytes := by simpa using a5
          have a4 : j.zero.length = j.size := Nat.eq_of_beq_eq_true a4
          have hzs : z.cells.size = j.size := by rw [← a4, ← q3]; simp
          have hzc : ∀ p, (Builtin.zeroCells z.cells p).size = p * j.size := fun p => by simp [Builtin.zeroCells, hzs]
          have from' : ∃ l n f ad cap xs, u = .slice ad n cap ∧ Lies w E.Im j.size n f xs ∧ (viewK S j.size y fun m g => (n + m) * j.bytes ≤ 140737488355328 ∧ match S with
              | ⟨nt, nx, fr, hp⟩ => k ⟨nt, nx + 1, fr, (nx, some (.row e j.size (n + m) (catF n f g))) :: (l, none) :: hp⟩ (.sl nx j.size 0 (n + m))) ∧
              ((n = 0 ∧ cap = 0 ∧ lkh S.hp l = none ∨ ∃ f', lkh S.hp l = some (.row e j.size n f') ∧ f' = f ∧ n = 0 ∧ cap = 0 ∧ E.κ l = 0) ∨ (lkh S.hp l = some (.row e j.size n f) ∧ cap = E.κ l ∧ 0 < cap ∧ ad = some ⟨E.ρ l, 0, none⟩ ∧
                ∃ vs, w.heap[E.ρ l]? = some (.cells vs e (0, 0)) ∧ vs.size = cap * j.size ∧ n ≤ cap ∧ cap ≤ maxLen ∧ xs = vs.toList.take (n * j.size))) := by
            unfold fromK at h
            split at h
            · rename_i l z1 off n
              split at h
              · rename_i e2 z2 m f hl
                cases hz : (Nat.beq z1 j.size && Nat.beq z2 j.size && Nat.beq e2 e) with
                | false => simp [hz] at h
                | true =>
                  simp only [hz, cond_true] at h
                  simp only [Bool.and_eq_true] at hz
                  obtain ⟨⟨z1e, z2e⟩, e2e⟩ := hz
                  obtain rfl := Nat.eq_of_beq_eq_true z1e
                  obtain rfl := Nat.eq_of_beq_eq_true z2e
                  obtain rfl := Nat.eq_of_beq_eq_true e2e
                  obtain ⟨⟨rfl, rfl⟩, h⟩ := h
                  cases hu with
                  | sl _ _ _ _ ad cap hlx hc hm ha h0 =>
                    obtain ⟨p1, p2⟩ := h0 rfl
                    obtain ⟨k1, k2, k3, k4, k5⟩ := hs.hp l _ hl
                    by_cases hc0 : cap = 0
                    · have hn0 : n = 0 := by omega
                      subst hc0
                      exact ⟨l, n, f, ad, 0, [], rfl, ⟨by simp [hn0], fun i hi => by omega, fun u hu => by simp at hu, fun i j hi => by omega⟩, h, Or.inl (Or.inr ⟨f, hl, rfl, hn0, rfl, p1.symm⟩)⟩
                    · obtain ⟨vs, g1, g2, g3, g4⟩ := k5 (by omega)
                      have hnz : n * j.size ≤ vs.size := by rw [g2]; exact Nat.mul_le_mul_right _ k1
                      have hgt : ∀ q, q < n * j.size → ((vs.toList.take (n * j.size))[q]?).getD undef = vs.getD q undef := fun q hq => by
                        rw [List.getElem?_take, if_pos hq, getD_toList]
                      refine ⟨l, n, f, ad, cap, vs.toList.take (n * j.size), rfl, ⟨by simp; omega, k4, fun u hu => ?_, fun i q hi hq => ?_⟩, h, Or.inr ⟨hl, p1, by omega, p2 (by omega), vs, g1, by rw [g2, p1], hc, hm, rfl⟩⟩
                      · obtain ⟨q, hq, rfl⟩ := List.getElem_of_mem hu
                        have hq' : q < n * j.size := by simp at hq; omega
                        have := g3 q hq'
                        rw [getD_toList] at this
                        rw [List.getElem_take]
                        have hq2 : q < vs.toList.length := by simp; omega
                        rw [List.getElem?_eq_getElem hq2] at this
                        exact this
                      · have hq' : q < j.size := by rw [← k4 i hi]; exact hq
                        have : (i + 1) * j.size ≤ n * j.size := Nat.mul_le_mul_right _ hi
                        rw [Nat.add_mul] at this
                        rw [hgt _ (by omega)]; exact g4 i q hi hq
              · exact h.elim
            · obtain rfl := hu.val_inv
              refine ⟨S.nx, 0, _, none, 0, [], rfl, ⟨by simp, fun i hi => by omega, fun u hu => by simp at hu, fun i j hi => by omega⟩, h, Or.inl (Or.inl ⟨rfl, rfl, ?_⟩)⟩
              cases hq : lkh S.hp S.nx with
              | none => rfl
              | some b => have := hs.nx _ _ hq; omega
            · exact h.elim
          obtain ⟨l, n, f, ad, cap, xs, rfl, hxs, h, hcase⟩ := from'
          obtain ⟨m, g, bd, c, ys, rfl, ⟨hbytes, h⟩, hys, hcell⟩ := viewK_ok hs a3 hv h
          have hnm : n + m ≤ 140737488355328 := Nat.le_trans (Nat.le_mul_of_pos_right _ a5) hbytes
          have hcat := hxs.cat hys
          obtain ⟨nt, nx, fr, hp⟩ := S
          dsimp only at h hcase hs
          by_cases hm0 : m = 0
          · -- nothing is appended
            subst hm0
            have hrun : (Builtin.append_ #[t, t] ty #[.slice ad n cap, .slice bd 0 c]).run C.P w = .ok (.slice ad n cap) w := by
              have hle : n ≤ cap := by
                rcases hcase with (⟨e1, e2, _⟩ | ⟨_, _, _, e1, e2, _⟩) | ⟨_, _, _, _, vs, _, _, hle, _⟩
                · omega
                · omega
                · exact hle
              have hf0 : (Builtin.firstCells j.size 0 (.slice bd 0 c)).run C.P w = .ok #[] w := by
                cases bd with
                | none => simp [Builtin.firstCells]
                | some b => simp [Builtin.firstCells, loadCells, loadCellsFrom]
              cases ad with
              | none => simp [Builtin.append_, run_underlying ht, sizeOf, typeInfo, q1, q4, Builtin.lenOf, hle, hf0]
              | some b => simp [Builtin.append_, run_underlying ht, sizeOf, typeInfo, q1, q4, Builtin.lenOf, hle, hf0, storeCells]
            rcases hcase with (⟨rfl, rfl, hl⟩ | ⟨f', hl, hff, rfl, rfl, hκ⟩) | ⟨hl, hcap, hc0, had, vs, g1, g2, g3, g4, g5⟩
            · have := (hs.kill l).virt (e := e) (esz := j.size) (f := catF 0 f g) a3
              refine ⟨_, _, _, _, _, hrun, h, this, .sl _ _ _ _ _ _ (by simp) (Nat.le_refl _) (by unfold maxLen; omega) (fun h => by omega) (fun _ => ⟨by simp [Env.newrow], fun h => by omega⟩)⟩
            · have := (hs.kill l).virt (e := e) (esz := j.size) (f := catF 0 f g) a3
              refine ⟨_, _, _, _, _, hrun, h, this, .sl _ _ _ _ _ _ (by simp) (Nat.le_refl _) (by unfold maxLen; omega) (fun h => by omega) (fun _ => ⟨by simp [Env.newrow], fun h => by omega⟩)⟩
            · have hb := hs.hp l _ hl
              obtain ⟨k1, k2, k3, k4, k5⟩ := hb
              obtain ⟨vs', p1, p2, p3, p4⟩ := k5 (by omega)
              have := hs.rename (w' := w) (b' := .row e j.size (n + 0) (catF n f g)) hl (fun h => h) (fun _ _ _ => rfl) rfl ⟨rfl, rfl, rfl⟩ ?_
              · refine ⟨_, _, _, _, _, hrun, h, this, .sl _ _ _ _ _ _ (by simp) g3 g4 (fun _ => by rw [had]; simp [Env.newrow]) (fun _ => ⟨by simp [Env.newrow, hcap], fun _ => by rw [had]; simp [Env.newrow]⟩)⟩
              · have hκ : (E.newrow nx (E.ρ l) (E.κ l)).κ nx = E.κ l := by simp [Env.newrow]
                have hρ : (E.newrow nx (E.ρ l) (E.κ l)).ρ nx = E.ρ l := by simp [Env.newrow]
                refine ⟨by rw [hκ]; exact k1, by rw [hκ]; exact k2, k3, hcat.ln, fun _ => ⟨vs', by rw [hρ]; exact p1, by rw [hκ]; exact p2, p3, fun i q hi hq => ?_⟩⟩
                have key : ∀ cc : List D, cc = catF n f g i → ∀ hq' : q < cc.length, RD w E.Im cc[q] (vs'.getD (i * j.size + q) undef) := by
                  intro cc hcc hq'
                  unfold catF at hcc
                  rw [if_pos (by omega)] at hcc
                  subst hcc
                  exact p4 i q (by omega) hq'
                exact key _ rfl hq
          · obtain ⟨b, o, rfl, hcl⟩ := hcell (by omega)
            have hcl' : ∀ (q : Nat) (v : Value), ys[q]? = some v → w.cell? ((⟨b, o, none⟩ : Addr).add q) = some v := fun q v hq => by rw [Addr.add_mid]; exact hcl q v hq
            have hfresh : ∀ (ad : Option Addr) (cap : Nat), cap < n + m → (ad = none → n = 0 ∧ cap = 0) → (∀ ad', ad = some ad' → ∀ (q : Nat) (v : Value), xs[q]? = some v → w.cell? (ad'.add q) = some v) →
                YieldsS C O a w (Builtin.append_ #[t, t] ty #[.slice ad n cap, .slice (some ⟨b, o, none⟩) m c]) k := by
              intro ad cap hgt hnone hxc
              have hbd := grownCap_bd w (n + m) cap e hnm
              obtain ⟨s1, s2⟩ := (hs.kill l).fresh (e := e) (zs := Builtin.zeroCells z.cells (grownCap w (n + m) cap e - (n + m))) hcat a3 hbd.1 hbd.2 (hzc _)
              have hfit := growslice_fits (bytes := jj.bytes) hgt (by rw [q5]; exact hbytes)
              cases ad with
              | none =>
                obtain ⟨rfl, rfl⟩ := hnone rfl
                have hx0 : xs = [] := by have := hxs.len; simp at this; exact this
                subst hx0
                have hrun := run_append_nil (P := C.P) w t ty e jj z ht q1 q2 ⟨b, o, none⟩ m c ys (by rw [hys.len, q4]) hcl' (by omega) (by omega) (by rw [q5]; simp at hbytes; omega)
                rw [Nat.zero_add] at s1 s2 h
                exact ⟨_, _, _, _, _, hrun, h, s1, s2⟩
              | some ad' =>
                have hrun := run_append_grow (P := C.P) w t ty e jj z ht q1 q2 ad' n cap xs (by rw [hxs.len, q4]) (hxc ad' rfl) ⟨b, o, none⟩ m c ys (by rw [hys.len, q4]) hcl' hgt (by omega) hfit
                have e1 : xs.toArray ++ ys.toArray ++ Builtin.zeroCells z.cells (grownCap w (n + m) cap e - (n + m)) = (xs ++ ys).toArray ++ Builtin.zeroCells z.cells (grownCap w (n + m) cap e - (n + m)) := by simp
                rw [e1] at hrun
                exact ⟨_, _, _, _, _, hrun, h, s1, s2⟩
            rcases hcase with (⟨rfl, rfl, hl⟩ | ⟨f', hl, hff, rfl, rfl, hκ⟩) | ⟨hl, hcap, hc0, had, vs, g1, g2, g3, g4, g5⟩
            · have hx0 : xs = [] := by have := hxs.len; simp at this; exact this
              exact hfresh ad 0 (by omega) (fun _ => ⟨rfl, rfl⟩) (fun _ _ q v hq => by rw [hx0] at hq; simp at hq)
            · have hx0 : xs = [] := by have := hxs.len; simp at this; exact this
              exact hfresh ad 0 (by omega) (fun _ => ⟨rfl, rfl⟩) (fun _ _ q v hq => by rw [hx0] at hq; simp at hq)
            · by_cases hroom : n + m ≤ cap
              · -- in place
                subst had
                have hyl := hys.len
                have hm2 : (n + m) * j.size ≤ cap * j.size := Nat.mul_le_mul_right _ hroom
                rw [Nat.add_mul] at hm2
                have hfit : n * jj.size + ys.length ≤ vs.size := by rw [q4, hyl, g2]; exact hm2
                have hrun := run_append_room (P := C.P) w t ty e jj ht q1 (E.ρ l) n cap vs g1 ⟨b, o, none⟩ m c ys (by rw [hyl, q4]) hcl' hys.one hroom hfit
                rw [q4] at hrun hfit
                have hspl : ∀ q, q < (n + m) * j.size → ((vs.toList.take (n * j.size) ++ ys ++ vs.toList.drop (n * j.size + ys.length)).toArray).getD q undef = ((xs ++ ys)[q]?).getD undef := fun q hq => by
                  rw [getD_list, splice_get _ _ _ (by simp; omega), g5]
                  rw [Nat.add_mul] at hq
                  have htl : (vs.toList.take (n * j.size)).length = n * j.size := by simp; omega
                  by_cases hlt : q < n * j.size
                  · rw [if_neg (by omega), List.getElem?_append_left (by omega), List.getElem?_take, if_pos hlt]
                  · rw [if_pos (by omega), List.getElem?_append_right (by omega), htl]
                have := hs.rename (w' := w.setRow (E.ρ l) (vs.toList.take (n * j.size) ++ ys ++ vs.toList.drop (n * j.size + ys.length)).toArray) (b' := .row e j.size (n + m) (catF n f g)) hl (fun h => h)
                  (fun q _ hq => setRow_other w _ _ _ (hq (show 0 < E.κ l by omega))) (setRow_size _ _ _) ⟨rfl, rfl, rfl⟩ ?_
                · refine ⟨_, _, _, _, _, hrun, h, this, .sl _ _ _ _ _ _ (by simp) hroom g4 (fun _ => by simp [Env.newrow]) (fun _ => ⟨by simp [Env.newrow, hcap], fun _ => by simp [Env.newrow]⟩)⟩
                · have hκ : (E.newrow nx (E.ρ l) (E.κ l)).κ nx = E.κ l := by simp [Env.newrow]
                  have hρ : (E.newrow nx (E.ρ l) (E.κ l)).ρ nx = E.ρ l := by simp [Env.newrow]
                  refine ⟨by rw [hκ]; omega, by rw [hκ]; omega, a3, hcat.ln, fun _ => ⟨_, by rw [hρ]; exact setRow_heap w _ vs _ e _ g1, ?_, fun q hq => ?_, fun i q hi hq => ?_⟩⟩
                  · rw [hκ, List.size_toArray, splice_len _ _ _ (by simp; omega)]; simp [g2, hcap]
                  · rw [hspl q hq]
                    have hq' : q < (xs ++ ys).length := by rw [hcat.len]; exact hq
                    rw [List.getElem?_eq_getElem hq']
                    exact hcat.one _ (List.getElem_mem hq')
                  · have hq' : q < j.size := by rw [← hcat.ln i hi]; exact hq
                    have : (i + 1) * j.size ≤ (n + m) * j.size := Nat.mul_le_mul_right _ hi
                    rw [Nat.add_mul] at this
                    rw [hspl _ (by omega)]
                    exact (hcat.rd i q hi hq).mono (fun _ hb => hb) fun b hb => setRow_other w _ _ _ (fun e => (hs.im b hb).2.2 l _ hl (show 0 < E.κ l by omega) e.symm)
              · subst had
                refine hfresh _ cap (by omega) (fun e => by simp at e) (fun ad' e q v hq => ?_)
                cases e
                rw [Addr.add_mid, Nat.zero_add]
                rw [g5, List.getElem?_take] at hq
                split at hq
                · have : vs[q]? = some v := by simpa using hq
                  simp [World.cell?, g1, this]
                · simp at hq
      · exact h.elim
    · exact h.elim
  · exact h.elim
end Go.Proofs.YteallmlkkcjblaaGreatDoor

namespace Go.Proofs.YteallmlkkcjblaaGreatDoor
open Go.RowKit
theorem Sat.imm {O : Org} {E : Env} {S : St} {a : Act} {w w' : World} (h : Sat O E S a w) {l : Nat} {e : TypeId} {esz n : Nat} {f : Nat → List D} (hl : lkh S.hp l = some (.row e esz n f)) (hκ : 0 < E.κ l)
    (hw : ∀ k, k < w.heap.size → k ≠ E.ρ l → w'.heap[k]? = w.heap[k]?) (hsz : w'.heap.size = w.heap.size) (hos : w'.os = w.os ∧ w'.tape = w.tape ∧ w'.output = w.output)
    (hc : ∀ vs, w.heap[E.ρ l]? = some (.cells vs e (0, 0)) → ∃ fz, w'.heap[E.ρ l]? = some (.cells vs e fz)) :
    Sat O ⟨E.ρ, E.κ, fun b => E.Im b ∨ b = E.ρ l⟩ ⟨S.nt, S.nx, S.fr, (l, none) :: S.hp⟩ a w' ∧
      ∀ (off m : Nat) (v : Value), off + m ≤ n → RS E S.nx w (.sl l esz off m) v → RS ⟨E.ρ, E.κ, fun b => E.Im b ∨ b = E.ρ l⟩ S.nx w' (.d (.sl esz m fun i => f (off + i))) v := by
  have hr : Blk.real (E.κ l) (.row e esz n f) := hκ
  have hwi : ∀ b, E.Im b → w'.heap[b]? = w.heap[b]? := fun b hb => hw b (h.im b hb).1 fun e1 => (h.im b hb).2.2 l _ hl hr e1.symm
  have hρl := (h.hp l _ hl).lt hr
  refine ⟨⟨fun m => RS.mono (E := E) (fun _ _ => ⟨rfl, rfl⟩) (Nat.le_refl _) (fun _ hb => Or.inl hb) hwi (h.fr m), h.nt, h.df, fun m x hm => ?_, fun m x hm => h.nx m x (lkh_dead hm).2, fun m m' x x' hm hm' => h.inj m m' x x' (lkh_dead hm).2 (lkh_dead hm').2, ?_, fun m x hm => h.own m x (lkh_dead hm).2, ?_, h.lab, h.nl, fun b hb => Or.inl (h.imo b hb)⟩, ?_⟩
  · obtain ⟨h1, h2⟩ := lkh_dead hm
    exact BS.mono (E := E) (h.nx m x h2) (fun _ _ => ⟨rfl, rfl⟩) (Nat.le_refl _) (fun _ hb => Or.inl hb) hwi (fun hxr => hw _ ((h.hp m x h2).lt hxr) fun e1 => h.inj m l x _ h2 hl hxr hr h1 e1) (h.hp m x h2)
  · rintro b (hb | rfl)
    · obtain ⟨h1, h2, h3⟩ := h.im b hb
      exact ⟨by omega, h2, fun m x hm => h3 m x (lkh_dead hm).2⟩
    · refine ⟨by omega, ?_, fun m x hm hxr => h.inj m l x _ (lkh_dead hm).2 hl hxr hr (lkh_dead hm).1⟩
      rcases h.own l _ hl hr with h9 | h9
      · exact Or.inr (Or.inr h9)
      · exact Or.inl h9
  · have hk := h.kq
    refine ⟨hos.1.trans hk.os, hos.2.1.trans hk.tape, hos.2.2.trans hk.output, by have := hk.size; omega, fun k hk1 hk2 => ?_⟩
    rw [hw k (by have := hk.size; omega) (fun e1 => by subst e1; rcases h.own l _ hl hr with h9 | h9; exact hk2 h9; omega)]
    exact hk.block k hk1 hk2
  · intro off m v hb hv
    obtain ⟨k1, k2, k3, k4, k5⟩ := h.hp l _ hl
    obtain ⟨vs, g1, g2, g3, g4⟩ := k5 hκ
    obtain ⟨fz, g5⟩ := hc vs g1
    cases hv with
    | sl _ _ _ _ a' cap hlx hc' hm ha h0 =>
      refine .d _ _ (.sl esz m _ a' cap (fun i j => vs.getD ((off + i) * esz + j) undef) hc' hm (fun i hi => k4 _ (by omega)) (fun h0' => ?_) (fun i j hi hj => ?_))
      · have hm0 : 0 < m := Nat.pos_of_mul_pos_right h0'
        refine ⟨E.ρ l, off * esz, ha hm0, Or.inr rfl, fun i j hi hj => ?_⟩
        have h5 : (off + i + 1) * esz ≤ E.κ l * esz := Nat.mul_le_mul_right _ (by omega)
        rw [Nat.add_mul, Nat.one_mul, Nat.add_mul] at h5
        have h6 : off * esz + i * esz + j < vs.size := by omega
        have h7 : (off + i) * esz + j < vs.size := by rw [Nat.add_mul]; exact h6
        simp only [World.cell?, g5, Array.getD, h7, dif_pos]
        rw [← Nat.add_mul]
        simp [h7]
      · exact (g4 (off + i) j (by omega) hj).mono (fun b hb => Or.inl hb) hwi
def cvRowK (C : Cx) (S : St) (src dst l esz off n : Nat) (k : St → SV → Prop) : Prop :=
  match C.tt src with
  | some i => match i.k with
    | .slice e => match C.tt e with
      | some j => match j.k with
        | .int .u8 => match lkh S.hp l with
          | some (.row _ z m f) => bif Nat.beq src dst && Nat.beq z esz && Nat.blt 0 n && Nat.ble (off + n) m then match S with
            | ⟨nt, nx, fr, hp⟩ => k ⟨nt, nx, fr, (l, none) :: hp⟩ (.d (.sl esz n fun i => f (off + i))) else False
          | _ => False
        | _ => False
      | none => False
    | _ => False
  | none => False
theorem cvRowK_ok {C : Cx} {O : Org} {E : Env} {S : St} {a : Act} {w : World} (hs : Sat O E S a w) {src dst l esz off n : Nat} {u : Value} {k : St → SV → Prop} (hu : RS E S.nx w (.sl l esz off n) u) (h : cvRowK C S src dst l esz off n k) : YieldsS C O a w (convert src dst u) k := by
  unfold cvRowK at h
  split at h
  · rename_i i hi
    split at h
    · rename_i e hk
      have ht := (C.ok _ _ hi).slice hk
      split at h
      · rename_i j hj
        split at h
        · rename_i hkj
          have he := (C.ok _ _ hj).int hkj
          split at h
          · rename_i e' z m f hl
            cases hb : (Nat.beq src dst && Nat.beq z esz && Nat.blt 0 n && Nat.ble (off + n) m) with
            | false => simp [hb] at h
            | true =>
              simp only [hb, cond_true] at h
              simp only [Bool.and_eq_true] at hb
              obtain ⟨⟨⟨b1, b2⟩, b3⟩, b4⟩ := hb
              obtain rfl := Nat.eq_of_beq_eq_true b1
              obtain rfl := Nat.eq_of_beq_eq_true b2
              have b3 : 0 < n := by simpa using b3
              have b4 := Nat.le_of_ble_eq_true b4
              obtain ⟨k1, k2, k3, k4, k5⟩ := hs.hp l _ hl
              have hκ : 0 < E.κ l := by omega
              obtain ⟨vs, g1, g2, g3, g4⟩ := k5 hκ
              have hlt := (Array.getElem?_eq_some_iff.1 g1).1
              obtain ⟨nt, nx, fr, hp⟩ := S
              have hf1 : ∀ k, k ≠ E.ρ l → (w.freeze ⟨E.ρ l, vs.size, none⟩ 1).heap[k]? = w.heap[k]? := fun k hk => by
                unfold World.freeze; rw [if_neg (by decide)]
                simp only [Array.getElem?_modify]; rw [if_neg (fun e => hk e.symm)]
              have hf2 : (w.freeze ⟨E.ρ l, vs.size, none⟩ 1).heap[E.ρ l]? = some (.cells vs e' (vs.size, vs.size + 1)) := by
                unfold World.freeze; rw [if_neg (by decide)]
                simp only [Array.getElem?_modify]; simp [g1]
              have hf3 : (w.freeze ⟨E.ρ l, vs.size, none⟩ 1).heap.size = w.heap.size := by unfold World.freeze; rw [if_neg (by decide)]; simp
              obtain ⟨e1, e2⟩ := hs.imm (w' := w.freeze ⟨E.ρ l, vs.size, none⟩ 1) hl hκ (fun k hk hne => hf1 k hne) hf3 (by unfold World.freeze; rw [if_neg (by decide)]; exact ⟨rfl, rfl, rfl⟩) (fun vs' hvs' => by
                rw [g1] at hvs'; cases hvs'; exact ⟨_, hf2⟩)
              have e3 := e2 off n u b4 hu
              cases hu with
              | sl _ _ _ _ a' cap hlx hc' hm ha h0 =>
                obtain rfl := ha b3
                refine ⟨_, w.freeze ⟨E.ρ l, vs.size, none⟩ 1, _, _, _, ?_, h, e1, e3⟩
                have hsh : w.shape? (E.ρ l) = some (e', vs.size) := by unfold World.shape?; rw [g1]
                simp [convert, run_underlying ht, run_underlying he, markStringish, hsh]
          · exact h.elim
        · exact h.elim
      · exact h.elim
    · exact h.elim
  · exact h.elim
theorem Sat.newim {O : Org} {E : Env} {S : St} {a : Act} {w w' : World} (h : Sat O E S a w) (hw : ∀ k, k < w.heap.size → w'.heap[k]? = w.heap[k]?) (hsz : w.heap.size < w'.heap.size) (hos : w'.os = w.os ∧ w'.tape = w.tape ∧ w'.output = w.output) :
    Sat O ⟨E.ρ, E.κ, fun b => E.Im b ∨ b = w.heap.size⟩ S a w' := by
  have hwi : ∀ b, E.Im b → w'.heap[b]? = w.heap[b]? := fun b hb => hw b (h.im b hb).1
  refine ⟨fun m => RS.mono (E := E) (fun _ _ => ⟨rfl, rfl⟩) (Nat.le_refl _) (fun _ hb => Or.inl hb) hwi (h.fr m), h.nt, h.df, fun m x hm => ?_, h.nx, h.inj, ?_, h.own, ?_, h.lab, h.nl, fun b hb => Or.inl (h.imo b hb)⟩
  · exact BS.mono (E := E) (h.nx m x hm) (fun _ _ => ⟨rfl, rfl⟩) (Nat.le_refl _) (fun _ hb => Or.inl hb) hwi (fun hxr => hw _ ((h.hp m x hm).lt hxr)) (h.hp m x hm)
  · rintro b (hb | rfl)
    · obtain ⟨h1, h2, h3⟩ := h.im b hb
      exact ⟨by omega, h2, h3⟩
    · refine ⟨hsz, Or.inl h.kq.size, fun l x hl hr e => ?_⟩
      exact absurd e (Nat.ne_of_lt ((h.hp l x hl).lt hr))
  · have hk := h.kq
    refine ⟨hos.1.trans hk.os, hos.2.1.trans hk.tape, hos.2.2.trans hk.output, by have := hk.size; omega, fun k hk1 hk2 => ?_⟩
    rw [hw k (by have := hk.size; omega)]
    exact hk.block k hk1 hk2
def strL (s : ByteArray) : List Int := s.data.toList.map fun b => ((b.toNat : Nat) : Int)
def strK (C : Cx) (S : St) (src dst : Nat) (s : ByteArray) (k : St → SV → Prop) : Prop :=
  match C.tt src, C.tt dst with
  | some _, some i => match i.k with
    | .slice e => match C.tt e with
      | some j => match j.k with
        | .int .u8 => s.size ≤ 140737488355328 ∧ k S (.d (.sl 1 s.size fun i => [.val (.int .u8 ((strL s).getD i default))]))
        | _ => False
      | none => False
    | _ => False
  | _, _ => False
theorem strK_ok {C : Cx} {O : Org} {E : Env} {S : St} {a : Act} {w : World} (hs : Sat O E S a w) {src dst : Nat} {s : ByteArray} {k : St → SV → Prop} (h : strK C S src dst s k) : YieldsS C O a w (convert src dst (.string s)) k := by
  unfold strK at h
  split at h
  · rename_i i0 i hi0 hi
    split at h
    · rename_i e hk
      have ht := (C.ok _ _ hi).slice hk
      split at h
      · rename_i j hj
        split at h
        · rename_i hkj
          have he := (C.ok _ _ hj).int hkj
          obtain ⟨u, hu, _⟩ := (C.ok _ _ hi0).desc
          obtain ⟨h1, h⟩ := h
          have hg := grownCap_bd w s.size 0 e h1
          refine ⟨_, Lib.bytesWorld w e s, _, _, _, Lib.run_convert_string_bytes w src dst e s hu ht he, h, hs.newim (fun k hk => Lib.bytesWorld_at_old w e s k hk) (by rw [Lib.bytesWorld_size]; omega) ?_, ?_⟩
          · simp [Lib.bytesWorld, World.freeze, World.alloc, World.drew, -World.alloc_eq, -World.drew_eq]
          · refine .d _ _ (.sl 1 s.size _ (some ⟨w.heap.size, 0, none⟩) _ (fun i _ => .int .u8 (s.data.toList.getD i 0).toNat) hg.1 hg.2 (fun _ _ => rfl) (fun _ => ⟨_, 0, rfl, Or.inr rfl, fun i j hi hj => ?_⟩) (fun i j hi hj => ?_))
            · obtain rfl : j = 0 := by omega
              have := Lib.bytesWorld_cell w e s i hi
              rw [show 0 + i * 1 + 0 = i by omega]; exact this
            · have hj : j < 1 := hj
              obtain rfl : j = 0 := by omega
              have e1 : (strL s).getD i default = ((s.data.toList.getD i 0).toNat : Int) := by
                have hi2 : i < s.data.toList.length := by simpa using hi
                unfold strL
                rw [List.getD_eq_getElem?_getD, List.getElem?_map, List.getD_eq_getElem?_getD, List.getElem?_eq_getElem hi2]; rfl
              show RD _ _ (.val (.int .u8 ((strL s).getD i default))) _
              rw [e1]
              exact .val _ rfl
        · exact h.elim
      · exact h.elim
    · exact h.elim
  · exact h.elim
def cvK (C : Cx) (S : St) (s d : Nat) (x : SV) (k : St → SV → Prop) : Prop :=
  match x with
  | .sl l esz off n => cvRowK C S s d l esz off n k
  | .d (.val (.string b)) => match C.tt d with
    | some i => match i.k with
      | .slice _ => strK C S s d b k
      | _ => convK C s d (.d (.val (.string b))) (k S)
    | none => False
  | x => convK C s d x (k S)
theorem cvK_of {C : Cx} {S : St} {s d : Nat} {x : SV} {k : St → SV → Prop} (h : convK C s d x (k S)) : cvK C S s d x k := by
  unfold cvK
  split
  · exact (by unfold convK at h; exact h.elim)
  · rename_i b
    split
    · rename_i i hi
      split
      · rename_i e hk
        unfold convK at h
        rw [hi] at h
        simp only at h
        split at h
        · rename_i h1 h2; cases h2; rw [hk] at h; exact h.elim
        · exact h.elim
      · exact h
    · rename_i hi
      unfold convK at h
      rw [hi] at h
      simp only at h
      split at h
      · rename_i h2; cases h2
      · exact h.elim
  · exact h
theorem cvK_ok {C : Cx} {O : Org} {E : Env} {S : St} {a : Act} {w : World} (hs : Sat O E S a w) {src dst : Nat} {x : SV} {u : Value} {k : St → SV → Prop} (hu : RS E S.nx w x u) (h : cvK C S src dst x k) : YieldsS C O a w (convert src dst u) k := by
  unfold cvK at h
  split at h
  · exact cvRowK_ok hs hu h
  · split at h
    · split at h
      · obtain rfl := hu.val_inv
        exact strK_ok hs h
      · exact (convK_ok hu h).s hs fun _ hx => hx
    · exact h.elim
  · exact (convK_ok hu h).s hs fun _ hx => hx
end Go.Proofs.YteallmlkkcjblaaGreatDoor

namespace Go.Proofs.YteallmlkkcjblaaGreatDoor
open Go.RowKit
theorem Sat.congr' {O : Org} {E : Env} {nt : NT} {nx : Nat} {fr : List (Nat × SV)} {hp hp' : List (Nat × Option Blk)} {a : Act} {w : World} (h : Sat O E ⟨nt, nx, fr, hp⟩ a w) (e : ∀ l, lkh hp l = lkh hp' l) : Sat O E ⟨nt, nx, fr, hp'⟩ a w := by
  refine ⟨h.fr, h.nt, h.df, fun l b hb => h.hp l b ?_, fun l b hb => h.nx l b ?_, fun l l' b b' hb hb' => h.inj l l' b b' ?_ ?_, fun b hb => ⟨(h.im b hb).1, (h.im b hb).2.1, fun l x hl => (h.im b hb).2.2 l x ?_⟩, fun l b hb => h.own l b ?_, h.kq, h.lab, h.nl, h.imo⟩
  all_goals (simp only at *; rw [e]; assumption)
def clearK (C : Cx) (S : St) (t : Nat) (x : SV) (k : St → SV → Prop) : Prop :=
  match C.tt t with
  | some i => match i.k with
    | .slice e => match C.tt e with
      | some j => bif Nat.beq j.zero.length j.size && j.zero.all Value.oneCell' then match x, S with
        | .sl l z off n, ⟨nt, nx, fr, hp⟩ => match lkh hp l with
          | some (.row e2 z2 m f) => bif Nat.beq z j.size && Nat.beq z2 j.size then off + n = m ∧ k ⟨nt, nx, fr, (l, some (.row e2 z2 off f)) :: hp⟩ (.tup []) else False
          | _ => False
        | _, _ => False
        else False
      | none => False
    | _ => False
  | none => False
theorem clearK_ok {C : Cx} {O : Org} {E : Env} {S : St} {a : Act} {w : World} (hs : Sat O E S a w) {t ty : Nat} {x : SV} {u : Value} {k : St → SV → Prop} (hu : RS E S.nx w x u) (h : clearK C S t x k) :
    YieldsS C O a w (Builtin.clear_ #[t] ty #[u]) k := by
  unfold clearK at h
  split at h
  · rename_i i hi
    split at h
    · rename_i e hk
      have ht := (C.ok _ _ hi).slice hk
      split at h
      · rename_i j hj
        obtain ⟨jj, z, q1, q2, q3, q4, q5⟩ := (C.ok _ _ hj).info
        cases hall : (Nat.beq j.zero.length j.size && j.zero.all Value.oneCell') with
        | false => simp [hall] at h
        | true =>
          simp only [hall, cond_true] at h
          rw [Bool.and_eq_true, List.all_eq_true] at hall
          obtain ⟨a1, a2⟩ := hall
          have a1 := Nat.eq_of_beq_eq_true a1
          have hzs : z.cells.size = jj.size := by rw [q4, ← a1, ← q3]; simp
          have hz1 : ∀ u ∈ z.cells.toList, u.oneCell' = true := by rw [q3]; exact a2
          split at h
          · rename_i l z0 off n nt nx fr hp
            split at h
            · rename_i e2 z2 m f hl
              cases hz : (Nat.beq z0 j.size && Nat.beq z2 j.size) with
              | false => simp [hz] at h
              | true =>
                simp only [hz, cond_true] at h
                rw [Bool.and_eq_true] at hz
                obtain rfl := Nat.eq_of_beq_eq_true hz.1
                obtain rfl := Nat.eq_of_beq_eq_true hz.2
                obtain ⟨hm, h⟩ := h
                have hl' : lkh (St.mk nt nx fr hp).hp l = some (.row e2 j.size m f) := hl
                obtain ⟨k1, k2, k3, k4, k5⟩ := hs.hp l _ hl'
                cases hu with
                | sl _ _ _ _ ad cap hlx hc hmx ha h0 =>
                  by_cases hκ : 0 < E.κ l
                  · obtain ⟨cur, g1, g2, g3, g4⟩ := k5 hκ
                    have hmul : m * j.size ≤ E.κ l * j.size := Nat.mul_le_mul_right _ k1
                    have hmul2 : off * j.size + n * j.size = m * j.size := by rw [← Nat.add_mul, hm]
                    by_cases hn : n = 0
                    · subst hn
                      have hrun : (Builtin.clear_ #[t] ty #[.slice ad 0 cap]).run C.P w = .ok (.tuple #[]) w := by
                        cases ad with
                        | none => simp [Builtin.clear_, run_underlying ht, sizeOf, typeInfo, q1, q2]
                        | some p => simp [Builtin.clear_, run_underlying ht, sizeOf, typeInfo, q1, q2, Builtin.zeroCells, storeCells]
                      have hs2 : Sat O E ⟨nt, nx, fr, (l, some (.row e2 j.size off f)) :: hp⟩ a w := by
                        have hoff : off = m := by omega
                        subst hoff
                        have := hs
                        refine Sat.congr' this ?_
                        intro q
                        simp only [lkh_cons]
                        split
                        · rename_i e; subst e; exact hl
                        · rfl
                      exact ⟨_, _, _, _, _, hrun, h, hs2, .tup _ _ rfl fun j hj => by simp at hj⟩
                    · have had := ha (by omega)
                      subst had
                      have hfit : off * j.size + n * jj.size ≤ cur.size := by rw [q4, g2]; omega
                      have hrun := run_clearZ (P := C.P) w t ty e jj z (E.ρ l) (off * j.size) n cap cur e2 ht q1 q2 hzs hz1 g1 hfit
                      have hzl : (Builtin.zeroCells z.cells n).toList.length = n * jj.size := by simp [Builtin.zeroCells, hzs]
                      have hsp : ∀ q, q < off * j.size → ((cur.toList.take (off * j.size) ++ (Builtin.zeroCells z.cells n).toList ++ cur.toList.drop (off * j.size + n * jj.size)).toArray).getD q undef = cur.getD q undef := fun q hq => by
                        rw [getD_list, ← hzl, splice_get _ _ _ (by rw [hzl]; simpa using hfit), if_neg (by omega), ← getD_toList]
                      have hs2 := hs.setRow (b' := .row e2 j.size off f) (vs' := (cur.toList.take (off * j.size) ++ (Builtin.zeroCells z.cells n).toList ++ cur.toList.drop (off * j.size + n * jj.size)).toArray) hl' hκ g1 ?_
                      · exact ⟨_, _, _, _, _, hrun, h, hs2, .tup _ _ rfl fun j hj => by simp at hj⟩
                      · have hne : ∀ b, E.Im b → (w.setRow (E.ρ l) (cur.toList.take (off * j.size) ++ (Builtin.zeroCells z.cells n).toList ++ cur.toList.drop (off * j.size + n * jj.size)).toArray).heap[b]? = w.heap[b]? := fun b hb => setRow_other w _ _ _ (fun e => (hs.im b hb).2.2 l _ hl' hκ e.symm)
                        refine ⟨by omega, k2, k3, fun i hi => k4 i (by omega), fun _ => ⟨_, setRow_heap w _ cur _ e2 _ g1, ?_, fun q hq => ?_, fun i q hi hq => ?_⟩⟩
                        · rw [List.size_toArray, ← hzl, splice_len _ _ _ (by rw [hzl]; simpa using hfit)]; simpa using g2
                        · rw [hsp q hq]; exact g3 q (by omega)
                        · have hq' : q < j.size := by rw [← k4 i (by omega)]; exact hq
                          have : (i + 1) * j.size ≤ off * j.size := Nat.mul_le_mul_right _ hi
                          rw [Nat.add_mul] at this
                          rw [hsp _ (by omega)]
                          exact (g4 i q (by omega) hq).mono (fun _ hb => hb) hne
                  · have hn : n = 0 := by omega
                    have hoff : off = 0 := by omega
                    subst hn hoff
                    have hrun : (Builtin.clear_ #[t] ty #[.slice ad 0 cap]).run C.P w = .ok (.tuple #[]) w := by
                      cases ad with
                      | none => simp [Builtin.clear_, run_underlying ht, sizeOf, typeInfo, q1, q2]
                      | some p => simp [Builtin.clear_, run_underlying ht, sizeOf, typeInfo, q1, q2, Builtin.zeroCells, storeCells]
                    have hs2 : Sat O E ⟨nt, nx, fr, (l, some (.row e2 j.size 0 f)) :: hp⟩ a w := by
                      have hm0 : m = 0 := by omega
                      subst hm0
                      refine Sat.congr' hs ?_
                      intro q
                      simp only [lkh_cons]
                      split
                      · rename_i e; subst e; exact hl
                      · rfl
                    exact ⟨_, _, _, _, _, hrun, h, hs2, .tup _ _ rfl fun j hj => by simp at hj⟩
            · exact h.elim
          · exact h.elim
      · exact h.elim
    · exact h.elim
  · exact h.elim
end Go.Proofs.YteallmlkkcjblaaGreatDoor

namespace Go.Proofs.YteallmlkkcjblaaGreatDoor
open Go.RowKit
def makeSliceK (C : Cx) (S : St) (t : Nat) (x y : SV) (k : St → SV → Prop) : Prop :=
  match C.tt t with
  | some i => match i.k with
    | .slice e => match C.tt e with
      | some j => bif j.zero.all Value.oneCell' && Nat.ble j.bytes 1024 && Nat.blt 0 j.size && Nat.beq j.zero.length j.size then
          (match x, y with
          | .d (.val (.int .i64 n)), .d (.val (.int .i64 m)) => (0 ≤ n ∧ n ≤ 1048576 ∧ m = n) ∧ (match S with
              | ⟨nt, nx, fr, hp⟩ => k ⟨nt, nx + 1, fr, (nx, some (.row e j.size n.toNat fun _ => j.zero.map .val)) :: hp⟩ (.sl nx j.size 0 n.toNat))
          | _, _ => False) else False
      | none => False
    | _ => False
  | none => False
theorem makeSliceK_ok {C : Cx} {O : Org} {E : Env} {S : St} {a : Act} {w : World} (hs : Sat O E S a w) {t : Nat} {x y : SV} {u v : Value} (hu : RS E S.nx w x u) (hv : RS E S.nx w y v) {k : St → SV → Prop} (h : makeSliceK C S t x y k) :
    YieldsS C O a w (Instr.makeSlice t u v) k := by
  unfold makeSliceK at h
  split at h
  · rename_i i hi
    split at h
    · rename_i e hk
      have ht := (C.ok _ _ hi).slice hk
      split at h
      · rename_i j hj
        obtain ⟨jj, z, q1, q2, q3, q4, q5⟩ := (C.ok _ _ hj).info
        have hsz := (C.ok _ _ hj).sizeOf w
        cases hall : (j.zero.all Value.oneCell' && Nat.ble j.bytes 1024 && Nat.blt 0 j.size && Nat.beq j.zero.length j.size) with
        | false => simp [hall] at h
        | true =>
          simp only [hall, cond_true] at h
          simp only [Bool.and_eq_true] at hall
          obtain ⟨⟨⟨a1, a2⟩, a3⟩, a4⟩ := hall
          have a2 : j.bytes ≤ 1024 := Nat.le_of_ble_eq_true a2
          have a3 : 0 < j.size := by simpa using a3
          have a4 : j.zero.length = j.size := Nat.eq_of_beq_eq_true a4
          rw [List.all_eq_true] at a1
          split at h
          · rename_i n m
            obtain rfl := hu.val_inv
            obtain rfl := hv.val_inv
            obtain ⟨⟨n0, n1, rfl⟩, h⟩ := h
            obtain ⟨n, rfl⟩ := Int.eq_ofNat_of_zero_le n0
            rw [Int.toNat_natCast] at h
            have hzs : z.cells.size = j.size := by rw [← a4, ← q3]; simp
            let us : Array Value := (Array.range (n * j.size)).map (z.cells[· % z.cells.size]!)
            have hus : us.size = n * j.size := by simp [us]
            have hget : ∀ q, q < n * j.size → us.getD q undef = z.cells[q % z.cells.size]'(Nat.mod_lt _ (by omega)) := fun q hq => by
              have hm : q % z.cells.size < z.cells.size := Nat.mod_lt _ (by omega)
              simp [us, Array.getD, hq, hm]
            have hnm : n ≤ 1048576 := by omega
            obtain ⟨nt, nx, fr, hp⟩ := S
            obtain ⟨s1, s2⟩ := hs.newrow (e := e) (n := n) (cap := n) (esz := j.size) (f := fun _ => j.zero.map .val) (vs := us) (Nat.le_refl _) (by unfold maxLen; omega) a3 (fun i hi => by simp [a4]) hus
              (fun q hq => by rw [hget q hq]; exact a1 _ (by rw [← q3]; simp))
              (fun p q hp hq => by
                have hq1 : q < j.size := by simpa [a4] using hq
                have hlt : p * j.size + q < n * j.size := by
                  have : (p + 1) * j.size ≤ n * j.size := Nat.mul_le_mul_right _ hp
                  rw [Nat.add_mul] at this; omega
                have hmod : (p * j.size + q) % z.cells.size = q := by rw [hzs, Nat.mul_comm, Nat.mul_add_mod, Nat.mod_eq_of_lt hq1]
                have e1 : z.cells[(p * j.size + q) % z.cells.size]'(Nat.mod_lt _ (by omega)) = j.zero[q]'(by omega) := by
                  simp only [hmod, ← q3, Array.getElem_toList]
                have e2 : (j.zero.map D.val)[q]'(by simpa using hq) = .val (j.zero[q]'(by omega)) := by simp
                rw [hget _ hlt, e1]
                simp only [List.getElem_map]
                exact .val _ (a1 _ (by simp)))
            have hw : IntKind.i64.wrap (n : Int) = n := IntWalk.i64_in _ (by omega)
            refine ⟨_, _, _, _, _, ?_, h, s1, s2⟩
            have hb : ((j.bytes : Int) * (n : Int)) = ((j.bytes * n : Nat) : Int) := by simp
            have hbn : j.bytes * n ≤ 1024 * 1048576 := Nat.mul_le_mul a2 hnm
            have hbm : n * j.bytes ≤ 1024 * 1048576 := by rw [Nat.mul_comm]; exact hbn
            have hbig : ¬ (281474976710656 < (j.bytes : Int) * (n : Int)) := by rw [hb]; omega
            have hbig2 : ¬ (roomBytes < n * j.bytes) := by unfold roomBytes; omega
            simp only [Instr.makeSlice]
            by_cases hl0 : n * j.size = 0
            · have hu0 : us = #[] := by apply Array.eq_empty_of_size_eq_zero; omega
              have hl1 : n = 0 := by rcases Nat.mul_eq_zero.1 hl0 with h9 | h9 <;> omega
              subst hl1
              rw [hu0]
              have hw0 : IntKind.i64.wrap 0 = 0 := by decide
              simp [run_underlying ht, hsz, asInt, asIntOf, hw0, typeInfo, q1, q5, askRoom, newRow]
              rw [show (Array.map (fun _ => default) (Array.range 0) : Array Value) = #[] by simp [Array.range_zero']]
            · have hn0 : ¬ (n : Int) < 0 := by omega
              simp [run_underlying ht, hsz, asInt, asIntOf, hw, typeInfo, q1, q5, askRoom, hbig, hbig2, hl0, hn0, zeroValue, q2, newRow]
              try rfl
          · exact h.elim
      · exact h.elim
    · exact h.elim
  · exact h.elim
end Go.Proofs.YteallmlkkcjblaaGreatDoor

namespace Go.Proofs.YteallmlkkcjblaaGreatDoor
open Go.RowKit
def mpP (keys : List ByteArray) (o : Obj) (u : Nat → Value) : Prop :=
  ∃ es : Array MapEntry, o = .map es keys.length ∧ es.size = keys.length ∧ ∀ j (hj : j < es.size), es[j].key = .string (keys.getD j default) ∧ es[j].val = u j ∧ es[j].born = j
structure LookD (C : Cx) (t : Nat) (x i : SV) (hp : List (Nat × Option Blk)) (k : SV → Nat → Prop) : Prop where
  out : ∃ kt et b l mm keys g s v, C.P.underlying t = some (.map kt et) ∧ C.P.underlying kt = some .string ∧ (∀ w, (zeroValue et).run C.P w = .ok (.slice none 0 0) w) ∧ x = .d (.val (.map (some b))) ∧ i = .d (.val (.string s)) ∧
    lkh hp l = some (.obj b mm keys.length (mpP keys) g) ∧ ((∃ j, j < keys.length ∧ keys.getD j default = s ∧ (∀ j', j' < keys.length → keys.getD j' default = s → j' = j) ∧ v = g j) ∨ ((∀ j, j < keys.length → keys.getD j default ≠ s) ∧ v = .d (.val (.slice none 0 0)))) ∧ k v l
theorem mp_keys {keys : List ByteArray} {es : Array MapEntry} {u : Nat → Value} (hall : ∀ j (hj : j < es.size), es[j].key = .string (keys.getD j default) ∧ es[j].val = u j ∧ es[j].born = j) : ∀ x ∈ es.toList, MapKept.IsKey .string x.key := fun x hx => by
  obtain ⟨j, hj, rfl⟩ := List.getElem_of_mem hx
  have hj' : j < es.size := by simpa using hj
  have := (hall j hj').1
  rw [Array.getElem_toList, this]; exact trivial
theorem mp_find {keys : List ByteArray} {es : Array MapEntry} {u : Nat → Value} (hsz : es.size = keys.length) (hall : ∀ j (hj : j < es.size), es[j].key = .string (keys.getD j default) ∧ es[j].val = u j ∧ es[j].born = j) (s : ByteArray) :
    (Instr.findNow .string (.string s) es.toList 0 = some none ∧ ∀ j, j < keys.length → keys.getD j default ≠ s) ∨ ∃ j, Instr.findNow .string (.string s) es.toList 0 = some (some (j, u j)) ∧ j < keys.length ∧ keys.getD j default = s := by
  rcases MapKept.findNow_spec (d := .string) (k := .string s) trivial es.toList 0 (mp_keys hall) with ⟨h1, h2⟩ | ⟨j, e, h1, h2, h3⟩
  · refine .inl ⟨h1, fun j hj he => ?_⟩
    have hj' : j < es.size := by omega
    refine h2 es[j] (by simp) ?_
    rw [(hall j hj').1, he]
  · have hj : j < es.size := by have := (List.getElem?_eq_some_iff.1 h2).1; simpa using this
    have he : es[j] = e := by have := (List.getElem?_eq_some_iff.1 h2).2; simpa using this
    obtain ⟨k1, k2, k3⟩ := hall j hj
    rw [he] at k1 k2
    rw [h3] at k1
    refine .inr ⟨j, by rw [h1, k2, Nat.zero_add], by omega, ?_⟩
    injection k1 with k1
    exact k1.symm
theorem lookD_ok {C : Cx} {O : Org} {E : Env} {S : St} {a : Act} {w : World} (hs : Sat O E S a w) {t : Nat} {x i : SV} {u ui : Value} {k : SV → Nat → Prop} (hx : RS E S.nx w x u) (hi : RS E S.nx w i ui) (h : LookD C t x i S.hp k) :
    ∃ z v l, (Instr.lookup t u ui false).run C.P w = .ok z w ∧ k v l ∧ RS E S.nx w v z := by
  obtain ⟨kt, et, b, l, mm, keys, g, s, v, h1, h2, h3, rfl, rfl, hl, hv, hk⟩ := h.out
  obtain rfl := hx.val_inv
  obtain rfl := hi.val_inv
  obtain ⟨e0, hm, o, uu, ho, ⟨es, rfl, hsz, hall⟩, hg⟩ := hs.hp l _ hl
  rw [e0] at ho
  have hrun : ∀ r, Instr.findNow .string (.string s) es.toList 0 = some r → (Instr.lookup t (.map (some b)) (.string s) false).run C.P w = (match r with | some (_, v) => Result.ok v w | none => .ok (.slice none 0 0) w) := fun r hr => by
    have hkk := MapKept.run_checkKey (P := C.P) (w := w) (k := .string s) h2 trivial es.isEmpty 9999
    have hf := MapKept.run_findKey (P := C.P) (w := w) (l := es.toList) h2 hr
    unfold Instr.lookup
    simp only [Sem.run_bind, run_underlying h1, Result.andThen, MapKept.run_getObj_map ho, Sem.run_pure, hkk, hf]
    cases r with
    | none => simp [h3 w, Sem.run_bind, Result.andThen]
    | some p => obtain ⟨q, v⟩ := p; simp
  rcases mp_find hsz hall s with ⟨f1, f2⟩ | ⟨j, f1, f2, f3⟩
  · rcases hv with ⟨j, j1, j2, _, _⟩ | ⟨_, rfl⟩
    · exact absurd j2 (f2 j j1)
    · exact ⟨_, _, l, hrun _ f1, hk, .d _ _ (.val _ rfl)⟩
  · rcases hv with ⟨j', j1, j2, j3, rfl⟩ | ⟨n1, _⟩
    · obtain rfl := j3 j f2 f3
      exact ⟨_, _, l, hrun _ f1, hk, (hg j f2).2.1⟩
    · exact absurd f3 (n1 j f2)
end Go.Proofs.YteallmlkkcjblaaGreatDoor
