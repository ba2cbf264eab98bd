/- Parts of the proof, one behind the other: Pl4, Pl8, Sx23. Lemmas and contracts of functions; no condition of its own. -/
import Derived.Test.YtkdolemhhihidaaM11
set_option linter.unusedVariables false
set_option linter.unusedSimpArgs false
namespace Go.Proofs.Ytkdolemhhihidaa
open Go.RowKit

section
variable {ps : List Pol} {room : Int} {xs ys : List Cel}
/-- two calls on unlike identities, in either order -/
theorem swap_ok (h : BInv ps room xs) {o1 p1 n1 w1 s1 o2 p2 n2 w2 s2 : Int} {k1 k2 : List Int} (hk1 : IsB k1) (hk2 : IsB k2) (ho1 : o1 < 5) (ho2 : o2 < 5) (hne : p1 :: k1 ≠ p2 :: k2) (hr : (xs.length : Int) + 1 < room) :
    (doS ps room (doS ps room xs o2 p2 k2 n2 w2 s2).2 o1 p1 k1 n1 w1 s1).1 = (doS ps room xs o1 p1 k1 n1 w1 s1).1 ∧
    (doS ps room xs o2 p2 k2 n2 w2 s2).1 = (doS ps room (doS ps room xs o1 p1 k1 n1 w1 s1).2 o2 p2 k2 n2 w2 s2).1 ∧
    (doS ps room (doS ps room xs o2 p2 k2 n2 w2 s2).2 o1 p1 k1 n1 w1 s1).2 = (doS ps room (doS ps room xs o1 p1 k1 n1 w1 s1).2 o2 p2 k2 n2 w2 s2).2 := by
  obtain ⟨a1, a2, a3⟩ := do_step (op := o1) (pol := p1) (key := k1) (n := n1) (now := w1) (serial := s1) h ho1 (by omega)
  obtain ⟨b1, b2, b3⟩ := do_step (op := o2) (pol := p2) (key := k2) (n := n2) (now := w2) (serial := s2) h ho2 (by omega)
  have ha := do_inv (op := o1) (pol := p1) (key := k1) (n := n1) (now := w1) (serial := s1) h hk1
  have hb := do_inv (op := o2) (pol := p2) (key := k2) (n := n2) (now := w2) (serial := s2) h hk2
  obtain ⟨c1, c2, c3⟩ := do_step (op := o2) (pol := p2) (key := k2) (n := n2) (now := w2) (serial := s2) ha ho2 (by omega)
  obtain ⟨d1, d2, d3⟩ := do_step (op := o1) (pol := p1) (key := k1) (n := n1) (now := w1) (serial := s1) hb ho1 (by omega)
  have e1 : look (doS ps room xs o1 p1 k1 n1 w1 s1).2 (p2 :: k2) = look xs (p2 :: k2) := by rw [a2, if_neg (fun e => hne e.symm)]
  have e2 : look (doS ps room xs o2 p2 k2 n2 w2 s2).2 (p1 :: k1) = look xs (p1 :: k1) := by rw [b2, if_neg hne]
  rw [e1] at c1 c2
  rw [e2] at d1 d2
  refine ⟨d1.trans a1.symm, b1.trans c1.symm, ?_⟩
  have hab := do_inv (op := o2) (pol := p2) (key := k2) (n := n2) (now := w2) (serial := s2) ha hk2
  have hba := do_inv (op := o1) (pol := p1) (key := k1) (n := n1) (now := w1) (serial := s1) hb hk1
  refine srt_ext hba.srt hab.srt fun i => ?_
  rw [d2, c2, a2, b2]
  by_cases g1 : i = p1 :: k1
  · subst g1
    rw [if_pos rfl, if_neg hne, if_neg hne, if_pos rfl]
  · rw [if_neg g1, if_neg g1]

/-- a book that knows one identity alone -/
def Only (id : List Int) (xs ys : List Cel) : Prop := ∀ i, look ys i = if i = id then look xs i else none
theorem only_len {id : List Int} (hy : Srt ys) (h : Only id xs ys) : ys.length ≤ 1 := by
  match ys, hy, h with
  | [], _, _ => simp
  | [_], _, _ => simp
  | a :: b :: r, hy, h =>
    exfalso
    have key : ∀ c ∈ a :: b :: r, idn c = id := fun c hc => by
      have h1 := hy.look_of hc
      rw [h] at h1
      split at h1
      · assumption
      · cases h1
    have h1 := key a (by simp)
    have h2 := key b (by simp)
    have := (List.pairwise_cons.1 hy.lt).1 b (by simp)
    rw [h1, h2, cmpI_self] at this
    omega
/-- a call on that very identity -/
theorem only_same {id : List Int} (hx : BInv ps room xs) (hy : BInv ps room ys) (h : Only id xs ys) {op pol n now serial : Int} {key : List Int} (ho : op < 5) (hid : pol :: key = id) (hrx : (xs.length : Int) < room) (hry : (ys.length : Int) < room) :
    (doS ps room ys op pol key n now serial).1 = (doS ps room xs op pol key n now serial).1 ∧ Only id (doS ps room xs op pol key n now serial).2 (doS ps room ys op pol key n now serial).2 := by
  obtain ⟨a1, a2, _⟩ := do_step (op := op) (pol := pol) (key := key) (n := n) (now := now) (serial := serial) hx ho hrx
  obtain ⟨b1, b2, _⟩ := do_step (op := op) (pol := pol) (key := key) (n := n) (now := now) (serial := serial) hy ho hry
  have e : look ys (pol :: key) = look xs (pol :: key) := by rw [h, if_pos hid]
  rw [e] at b1 b2
  refine ⟨b1.trans a1.symm, fun i => ?_⟩
  rw [b2, a2, h]
  by_cases hi : i = id
  · subst hi; rw [if_pos hid.symm, if_pos hid.symm, if_pos rfl, if_pos rfl]
  · rw [if_neg hi, if_neg hi, if_neg (fun e => hi (e.trans hid))]
/-- a call on another one -/
theorem only_other {id : List Int} (hx : BInv ps room xs) (h : Only id xs ys) {op pol n now serial : Int} {key : List Int} (ho : op < 5) (hid : pol :: key ≠ id) (hrx : (xs.length : Int) < room) :
    Only id (doS ps room xs op pol key n now serial).2 ys := by
  obtain ⟨_, a2, _⟩ := do_step (op := op) (pol := pol) (key := key) (n := n) (now := now) (serial := serial) hx ho hrx
  intro i
  rw [h, a2]
  by_cases hi : i = id
  · rw [if_pos hi, if_pos hi, if_neg (fun e => hid (e.symm.trans hi))]
  · rw [if_neg hi, if_neg hi]
/-- evict, split -/
theorem only_both {id : List Int} (hx : BInv ps room xs) (hy : BInv ps room ys) (h : Only id xs ys) {op pol n now serial : Int} {key : List Int} (ho : 5 ≤ op) :
    Only id (doS ps room xs op pol key n now serial).2 (doS ps room ys op pol key n now serial).2 := by
  by_cases hE : bchkE ps op pol key n now serial = 0
  · by_cases h5 : op = 5
    · subst h5
      rw [do_evict hE, do_evict hE]
      intro i
      show look (stay ps now ys) i = if i = id then look (stay ps now xs) i else none
      rw [stay_look hy.srt, stay_look hx.srt, h]
      by_cases hi : i = id
      · rw [if_pos hi, if_pos hi]
      · rw [if_neg hi, if_neg hi]; rfl
    · have hb := (bchk_0 hE).2.2.1
      unfold doS
      rw [if_neg (fun h => h hE), if_neg h5, if_pos (by omega), if_neg (fun h => h hE), if_neg h5, if_pos (by omega)]
      exact h
  · unfold doS; rw [if_pos hE, if_pos hE]; exact h
/-- how much longer a call makes the cells -/
theorem do_len (h : BInv ps room xs) {op pol n now serial : Int} {key : List Int} : (doS ps room xs op pol key n now serial).2.length ≤ xs.length + 1 := by
  by_cases hE : bchkE ps op pol key n now serial = 0
  · by_cases hop : op < 5
    · rw [do_keyed h hE hop]
      obtain ⟨hid, _⟩ := id_of hE hop
      cases hc : (cellS (ps.getD pol.toNat default) (look xs (pol :: key)) op pol key n now serial).2 with
      | none => simp
      | some c =>
        simp only
        split
        · simp
        · exact withC_len (posC_le _ _)
    · have hb := (bchk_0 hE).2.2.1
      by_cases h5 : op = 5
      · subst h5
        rw [do_evict hE]
        have := List.length_filter_le (fun c => !idleB ps c now) xs
        simp only [stay]; omega
      · unfold doS; rw [if_neg (fun h => h hE), if_neg h5, if_pos (by omega)]; simp
  · unfold doS; rw [if_pos hE]; simp
end
end Go.Proofs.Ytkdolemhhihidaa

namespace Go.Proofs.Ytkdolemhhihidaa
open Go.RowKit

theorem rise_iff : ∀ {ys : List Int} {l : Int}, riseB l ys = true ↔ (∀ x ∈ ys, serB x = true ∧ l < x) ∧ ys.Pairwise (· < ·)
  | [], l => by simp [riseB]
  | x :: r, l => by
    have ih := rise_iff (ys := r) (l := x)
    simp only [riseB, Bool.and_eq_true, decide_eq_true_eq, ih, List.mem_cons, List.pairwise_cons]
    constructor
    · rintro ⟨⟨h1, h2⟩, h3, h4⟩
      refine ⟨fun y hy => ?_, fun y hy => (h3 y hy).2, h4⟩
      rcases hy with rfl | hy
      · exact ⟨h1, h2⟩
      · exact ⟨(h3 y hy).1, by have := (h3 y hy).2; omega⟩
    · rintro ⟨h1, h2, h3⟩
      exact ⟨h1 x (Or.inl rfl), fun y hy => ⟨(h1 y (Or.inr hy)).1, h2 y hy⟩, h3⟩
theorem getD_memI {ys : List Int} {k : Nat} (h : k < ys.length) : ys.getD k default ∈ ys := by
  rw [List.getD_eq_getElem?_getD, List.getElem?_eq_getElem h]; exact List.getElem_mem h
theorem getD_getI {ys : List Int} {k : Nat} (h : k < ys.length) : ys.getD k default = ys[k] := by
  rw [List.getD_eq_getElem?_getD, List.getElem?_eq_getElem h]; rfl
section
variable {ys : List Int} {t : Int}
theorem posI_spec (h : ys.Pairwise (· < ·)) : (∀ k, k < posI ys t → ys.getD k default < t) ∧ ∀ k, posI ys t ≤ k → k < ys.length → ¬ ys.getD k default < t := by
  have := bs_spec (lt := fun k => decide (ys.getD k default < t)) (n := ys.length) (fun i j hij hj hlt => by
    simp only [decide_eq_true_eq] at hlt ⊢
    by_cases e : i = j
    · subst e; exact hlt
    · have := List.pairwise_iff_getElem.1 h i j (by omega) hj (by omega)
      rw [getD_getI hj] at hlt
      rw [getD_getI (show i < ys.length by omega)]
      omega)
  refine ⟨fun k hk => ?_, fun k hk hkn => ?_⟩
  · have := this.1 k hk
    simpa using this
  · have := this.2 k hk hkn
    simp only [decide_eq_false_iff_not] at this
    exact this
theorem hasI_iff (h : ys.Pairwise (· < ·)) : hasI ys t = true ↔ t ∈ ys := by
  obtain ⟨h1, h2⟩ := posI_spec (t := t) h
  unfold hasI
  simp only [Bool.and_eq_true, decide_eq_true_eq]
  constructor
  · rintro ⟨a, b⟩
    rw [← b]; exact getD_memI a
  · intro hm
    obtain ⟨k, hk, rfl⟩ := List.getElem_of_mem hm
    have g1 : ¬ k < posI ys ys[k] := fun hlt => by have := h1 k hlt; rw [getD_getI hk] at this; omega
    have g2 : ¬ posI ys ys[k] < k := fun hlt => by
      have := h2 _ (Nat.le_refl _) (by omega)
      rw [getD_getI (show posI ys ys[k] < ys.length by omega)] at this
      have := List.pairwise_iff_getElem.1 h _ k (show posI ys ys[k] < ys.length by omega) hk hlt
      omega
    have e : posI ys ys[k] = k := by omega
    rw [e, getD_getI hk]
    exact ⟨hk, rfl⟩
theorem ins_rise (h : riseB 0 ys = true) (ht : serB t = true) (hn : t ∉ ys) : riseB 0 (insAt ys (posI ys t) t) = true ∧ ∀ x, x ∈ insAt ys (posI ys t) t ↔ x = t ∨ x ∈ ys := by
  obtain ⟨a, b⟩ := rise_iff.1 h
  obtain ⟨h1, h2⟩ := posI_spec (t := t) b
  have hm : ∀ x, x ∈ insAt ys (posI ys t) t ↔ x = t ∨ x ∈ ys := fun x => by
    unfold insAt
    rw [List.mem_append, List.mem_append, List.mem_singleton]
    constructor
    · rintro ((h | h) | h)
      · exact Or.inr (List.mem_of_mem_take h)
      · exact Or.inl h
      · exact Or.inr (List.mem_of_mem_drop h)
    · rintro (h | h)
      · exact Or.inl (Or.inr h)
      · rw [← List.take_append_drop (posI ys t) ys] at h
        rcases List.mem_append.1 h with h | h
        · exact Or.inl (Or.inl h)
        · exact Or.inr h
  refine ⟨rise_iff.2 ⟨fun x hx => ?_, ?_⟩, hm⟩
  · rcases (hm x).1 hx with rfl | hx
    · refine ⟨ht, ?_⟩
      simp [serB] at ht; omega
    · exact a x hx
  · unfold insAt
    rw [List.append_assoc, List.pairwise_append]
    refine ⟨b.sublist (List.take_sublist _ _), ?_, fun x hx y hy => ?_⟩
    · rw [List.singleton_append, List.pairwise_cons]
      refine ⟨fun y hy => ?_, b.sublist (List.drop_sublist _ _)⟩
      obtain ⟨k, hk, rfl⟩ := List.getElem_of_mem hy
      rw [List.length_drop] at hk
      rw [List.getElem_drop]
      have h3 := h2 (posI ys t + k) (by omega) (by omega)
      rw [getD_getI (show posI ys t + k < ys.length by omega)] at h3
      have h4 : ys[posI ys t + k] ≠ t := fun e => hn (by rw [← e]; exact List.getElem_mem _)
      omega
    · obtain ⟨k, hk, rfl⟩ := List.getElem_of_mem hx
      rw [List.length_take] at hk
      rw [List.getElem_take]
      have h3 := h1 k (by omega)
      rw [getD_getI (show k < ys.length by omega)] at h3
      rw [List.singleton_append] at hy
      rcases List.mem_cons.1 hy with rfl | hy
      · exact h3
      · obtain ⟨j, hj, rfl⟩ := List.getElem_of_mem hy
        rw [List.length_drop] at hj
        rw [List.getElem_drop]
        exact List.pairwise_iff_getElem.1 b k _ (by omega) (by omega) (by omega)
theorem del_rise (h : riseB 0 ys = true) (hn : t ∈ ys) : riseB 0 (delAt ys (posI ys t)) = true ∧ (∀ x, x ∈ delAt ys (posI ys t) ↔ x ≠ t ∧ x ∈ ys) ∧ (delAt ys (posI ys t)).length + 1 = ys.length := by
  obtain ⟨a, b⟩ := rise_iff.1 h
  have hh := (hasI_iff b).2 hn
  have hl := hasI_lt hh
  have he : ys.getD (posI ys t) default = t := by
    unfold hasI at hh
    simp only [Bool.and_eq_true, decide_eq_true_eq] at hh; exact hh.2
  rw [getD_getI hl] at he
  have hsub : (delAt ys (posI ys t)).Sublist ys := by
    unfold delAt
    have h2 : (ys.take (posI ys t) ++ ys.drop (posI ys t)).Sublist ys := by rw [List.take_append_drop]; exact List.Sublist.refl _
    refine List.Sublist.trans (List.Sublist.append (List.Sublist.refl _) ?_) h2
    rw [List.drop_eq_getElem_cons hl]
    exact List.sublist_cons_self _ _
  refine ⟨rise_iff.2 ⟨fun x hx => a x (hsub.subset hx), b.sublist hsub⟩, fun x => ?_, by rw [delAt_length _ _ hl]; omega⟩
  constructor
  · intro hx
    refine ⟨fun e => ?_, hsub.subset hx⟩
    subst e
    unfold delAt at hx
    rcases List.mem_append.1 hx with hx | hx
    · obtain ⟨k, hk, e⟩ := List.getElem_of_mem hx
      rw [List.length_take] at hk
      rw [List.getElem_take] at e
      have := List.pairwise_iff_getElem.1 b k _ (by omega) hl (by omega)
      omega
    · obtain ⟨k, hk, e⟩ := List.getElem_of_mem hx
      rw [List.length_drop] at hk
      rw [List.getElem_drop] at e
      have := List.pairwise_iff_getElem.1 b _ (posI ys x + 1 + k) hl (by omega) (by omega)
      omega
  · rintro ⟨h1, h2⟩
    unfold delAt
    rw [← List.take_append_drop (posI ys t) ys] at h2
    rcases List.mem_append.1 h2 with h2 | h2
    · exact List.mem_append_left _ h2
    · rw [List.drop_eq_getElem_cons hl, he] at h2
      rcases List.mem_cons.1 h2 with h2 | h2
      · exact absurd h2 h1
      · exact List.mem_append_right _ h2
end
/-- the book of one semaphore -/
def semP (p : Int) : List Pol := [⟨2, 0, 0, p⟩]
def pcel (b : Bool) (ys : List Int) : List Cel := if b then [⟨0, [107], 0, ys⟩] else []
theorem newSem {p : Int} (h : 1 ≤ p ∧ p ≤ 4) : newE (semP p) 8 = 0 := by
  unfold newE polsE semP
  rw [if_neg (by omega), if_neg (by simp), if_pos]
  simp [formB]
  omega
theorem sem_pols {p : Int} (h : 1 ≤ p ∧ p ≤ 4) : polsE (semP p) = 0 := by
  have := newSem h
  unfold newE at this
  rw [if_neg (by omega)] at this; exact this
section
variable {p s : Int} {b : Bool} {ys : List Int}
theorem pcel_srt : Srt (pcel b ys) := by
  cases b with
  | false => exact ⟨fun c hc => by simp [pcel] at hc, .nil⟩
  | true =>
    refine ⟨fun c hc => ?_, ?_⟩
    · simp [pcel] at hc; subst hc; exact ⟨by simp, by simp, by simp⟩
    · simp [pcel]
theorem pcel_lk (i : List Int) : look (pcel b ys) i = if i = [0, 107] then (if b then some ⟨0, [107], 0, ys⟩ else none) else none := by
  by_cases hi : i = [0, 107]
  · subst hi; cases b <;> rfl
  · rw [if_neg hi]
    cases b with
    | false => rfl
    | true =>
      refine look_none.2 fun c hc e => ?_
      simp [pcel] at hc
      subst hc
      exact hi e.symm
theorem pcel_inv (h : 1 ≤ p ∧ p ≤ 4) (hl : (ys.length : Int) ≤ p) : BInv (semP p) 8 (pcel b ys) := by
  cases b with
  | false => exact .nil (by omega) (by omega) (by simp [semP])
  | true =>
    refine ⟨⟨fun c hc => ?_, ?_⟩, ok_of ⟨by simp [pcel], fun c hc => ?_⟩, by simp [pcel], by omega, by simp [semP]⟩
    · simp [pcel] at hc; subst hc; exact ⟨by simp, by simp, by simp⟩
    · simp [pcel]
    · simp [pcel] at hc; subst hc
      refine ⟨by simp, by simp, ?_, by simp, by simp [semP]⟩
      simp only
      omega
theorem pcel_look : look (pcel b ys) [0, 107] = if b then some ⟨0, [107], 0, ys⟩ else none := by cases b <;> rfl
theorem pcel_len : (pcel b ys).length ≤ 1 := by cases b <;> simp [pcel]
theorem pcel_with {zs : List Int} : withC (pcel b ys) (posC (pcel b ys) (newC 0 [107])) (hasC (pcel b ys) (newC 0 [107])) ⟨0, [107], 0, zs⟩ = pcel true zs := by
  have hc : okId (⟨0, [107], 0, zs⟩ : Cel).pol (⟨0, [107], 0, zs⟩ : Cel).key := ⟨by simp, by simp, by simp⟩
  refine srt_ext (with_srt pcel_srt hc rfl).1 pcel_srt fun i => ?_
  have hl := with_look (xs := pcel b ys) (t := newC 0 [107]) (c := ⟨0, [107], 0, zs⟩) pcel_srt hc rfl i
  rw [hl, pcel_lk, pcel_lk, show idn (⟨0, [107], 0, zs⟩ : Cel) = [0, 107] from rfl]
  by_cases hi : i = [0, 107]
  · rw [if_pos hi, if_pos hi]; rfl
  · rw [if_neg hi, if_neg hi, if_neg hi]
theorem pcel_base (hb : b = false → ys = []) : (look (pcel b ys) [0, 107]).getD (newC 0 [107]) = ⟨0, [107], 0, ys⟩ := by
  rw [pcel_look]
  cases b with
  | true => rfl
  | false => rw [hb rfl]; rfl
theorem sem_chk (h : 1 ≤ p ∧ p ≤ 4) {op n : Int} (hop : op = 2 ∨ op = 3 ∨ op = 4) (hs : op = 2 → 1 ≤ s ∧ s ≤ 4611686018427387903) : bchkE (semP p) op 0 [107] n 0 s = 0 := by
  unfold bchkE
  rw [show tickB 0 = true from rfl, if_neg (by simp; omega)]
  unfold chkE
  rw [sem_pols h, if_neg (by simp; omega), if_neg (by simp), if_neg (by omega), if_neg]
  rintro ⟨_, h3 | h3 | ⟨h4, h5⟩⟩
  · omega
  · simp [semP] at h3
  · refine h5 ?_
    unfold kindE at h4 ⊢
    rw [if_neg (by omega)] at h4 ⊢
    split
    · rfl
    · rename_i h6; rw [if_neg h6] at h4; omega
/-- acquire -/
theorem sem_acq (h : 1 ≤ p ∧ p ≤ 4) (hb : b = false → ys = []) (hr : riseB 0 ys = true) (hl : (ys.length : Int) ≤ p) (hs : 1 ≤ s ∧ s ≤ 7) :
    (s ∈ ys → doS (semP p) 8 (pcel b ys) 2 0 [107] 0 0 s = (errR 8, pcel b ys)) ∧
    (s ∉ ys → (ys.length : Int) = p → doS (semP p) 8 (pcel b ys) 2 0 [107] 0 0 s = (errR 9, pcel b ys)) ∧
    (s ∉ ys → ¬ (ys.length : Int) = p → doS (semP p) 8 (pcel b ys) 2 0 [107] 0 0 s = (⟨0, true, p - (ys.length + 1), 0, s, 0⟩, pcel true (insAt ys (posI ys s) s))) := by
  have hE := sem_chk (s := s) (n := 0) h (Or.inl rfl) (fun _ => by omega)
  have hI := pcel_inv (b := b) h hl
  have hsem : semE p ys = 0 := by unfold semE; rw [if_pos ⟨h.1, by omega, hl, hr⟩]
  have hser : serB s = true := by unfold serB; rw [decide_eq_true hs.1, decide_eq_true (by omega)]; rfl
  have hhas := hasI_iff (t := s) (rise_iff.1 hr).2
  have hlen := pcel_len (b := b) (ys := ys)
  rw [do_keyed hI hE (by omega)]
  unfold cellS
  rw [pcel_base hb, if_neg (by omega), oneR_2 rfl]
  rw [show (semP p).getD (0 : Int).toNat default = ⟨2, 0, 0, p⟩ from rfl]
  refine ⟨fun hm => ?_, fun hm hp => ?_, fun hm hp => ?_⟩
  · have e : takeE p ys s = 8 := by unfold takeE; rw [hser, hsem, hhas.2 hm]; simp
    unfold acqR
    simp only [e]
    rfl
  · have hh : hasI ys s = false := by cases h : hasI ys s with | false => rfl | true => exact absurd (hhas.1 h) hm
    have e : takeE p ys s = 9 := by unfold takeE; rw [hser, hsem, hh]; simp [hp]
    unfold acqR
    simp only [e]
    rfl
  · have hh : hasI ys s = false := by cases h : hasI ys s with | false => rfl | true => exact absurd (hhas.1 h) hm
    have e : takeE p ys s = 0 := by unfold takeE; rw [hser, hsem, hh]; simp [hp]
    unfold acqR acqC takeL
    simp only [e, if_true]
    rw [if_neg (by simp)]
    show (if look (pcel b ys) [0, 107] = none ∧ ((pcel b ys).length : Int) = 8 then (errR 10, pcel b ys) else _) = _
    rw [if_neg (by omega), pcel_with, insAt_length _ _ _ (posI_le _ _)]
    rfl
/-- release -/
theorem sem_rel (h : 1 ≤ p ∧ p ≤ 4) (hb : b = false → ys = []) (hr : riseB 0 ys = true) (hl : (ys.length : Int) ≤ p) :
    (s ∈ ys → doS (semP p) 8 (pcel b ys) 3 0 [107] s 0 0 = (⟨0, true, p - (delAt ys (posI ys s)).length, 0, 0, 0⟩, pcel true (delAt ys (posI ys s)))) ∧
    (s ∉ ys → doS (semP p) 8 (pcel b ys) 3 0 [107] s 0 0 = (errR 11, pcel b ys)) := by
  have hE := sem_chk (s := 0) (n := s) h (Or.inr (Or.inl rfl)) (fun h => by omega)
  have hI := pcel_inv (b := b) h hl
  have hsem : semE p ys = 0 := by unfold semE; rw [if_pos ⟨h.1, by omega, hl, hr⟩]
  have hhas := hasI_iff (t := s) (rise_iff.1 hr).2
  have hlen := pcel_len (b := b) (ys := ys)
  rw [do_keyed hI hE (by omega)]
  unfold cellS
  rw [pcel_base hb, if_neg (by omega), oneR_3 rfl]
  rw [show (semP p).getD (0 : Int).toNat default = ⟨2, 0, 0, p⟩ from rfl]
  refine ⟨fun hm => ?_, fun hm => ?_⟩
  · have e : giveE p ys s = 0 := by unfold giveE; rw [hsem, hhas.2 hm]; simp
    unfold relR relC giveL
    simp only [e, if_true]
    rw [if_neg (by simp)]
    show (if look (pcel b ys) [0, 107] = none ∧ ((pcel b ys).length : Int) = 8 then (errR 10, pcel b ys) else _) = _
    rw [if_neg (by omega), pcel_with]
  · have hh : hasI ys s = false := by cases h : hasI ys s with | false => rfl | true => exact absurd (hhas.1 h) hm
    have e : giveE p ys s = 11 := by unfold giveE; rw [hsem, hh]; simp
    unfold relR
    simp only [e]
    rfl
/-- peek -/
theorem sem_peek (h : 1 ≤ p ∧ p ≤ 4) (hb : b = false → ys = []) (hl : (ys.length : Int) ≤ p) : doS (semP p) 8 (pcel b ys) 4 0 [107] 0 0 0 = (⟨0, false, p - ys.length, 0, 0, 0⟩, pcel b ys) := by
  have hE := sem_chk (s := 0) (n := 0) h (Or.inr (Or.inr rfl)) (fun h => by omega)
  have hI := pcel_inv (b := b) h hl
  rw [do_keyed hI hE (by omega)]
  unfold cellS
  rw [pcel_base hb, if_pos rfl]
  rfl
end
theorem filt_len {hs : List Int} {s : Int} (h : hs.Nodup) (hm : s ∈ hs) : (hs.filter fun x => decide (x ≠ s)).length + 1 = hs.length := by
  induction hs with
  | nil => simp at hm
  | cons a r ih =>
    rw [List.nodup_cons] at h
    by_cases e : a = s
    · subst e
      have : r.filter (fun x => decide (x ≠ a)) = r := List.filter_eq_self.2 fun x hx => by
        refine decide_eq_true fun e => ?_
        subst e; exact h.1 hx
      rw [List.filter_cons_of_neg (by simp), this]; rfl
    · rw [List.filter_cons_of_pos (by simpa using e), List.length_cons, List.length_cons, ih h.2 (by simpa [Ne.symm e, eq_comm, e] using hm)]
/-- what the law knows of the book -/
structure Held (p : Int) (b : Bool) (ys hs : List Int) : Prop where
  b : b = false → ys = []
  r : riseB 0 ys = true
  m : ∀ x, x ∈ ys ↔ x ∈ hs
  l : ys.length = hs.length
  le : (hs.length : Int) ≤ p
  nd : hs.Nodup
theorem Held.nil {p : Int} (h : 1 ≤ p) : Held p false [] [] := ⟨fun _ => rfl, rfl, fun _ => Iff.rfl, rfl, by simp; omega, .nil⟩
theorem Held.add {p s : Int} {b : Bool} {ys hs : List Int} (h : Held p b ys hs) (hs1 : 1 ≤ s ∧ s ≤ 7) (hn : s ∉ hs) (hp : ¬ (hs.length : Int) = p) : Held p true (insAt ys (posI ys s) s) (hs ++ [s]) := by
  have hser : serB s = true := by unfold serB; rw [decide_eq_true hs1.1, decide_eq_true (by omega)]; rfl
  obtain ⟨a, b⟩ := ins_rise h.r hser (fun hm => hn ((h.m s).1 hm))
  have := h.le
  refine ⟨(fun h => by cases h), a, fun x => ?_, ?_, by simp; omega, ?_⟩
  · rw [b, List.mem_append, List.mem_singleton, h.m]
    exact Or.comm
  · rw [insAt_length _ _ _ (posI_le _ _), h.l]; simp
  · rw [List.nodup_append]
    refine ⟨h.nd, by simp, fun x hx y hy => ?_⟩
    rw [List.mem_singleton] at hy
    subst hy
    intro e; subst e; exact hn hx
theorem Held.del {p s : Int} {b : Bool} {ys hs : List Int} (h : Held p b ys hs) (hm : s ∈ hs) : Held p true (delAt ys (posI ys s)) (hs.filter fun x => decide (x ≠ s)) := by
  obtain ⟨a, b, c⟩ := del_rise h.r ((h.m s).2 hm)
  have hf := filt_len h.nd hm
  have := h.le
  have := h.l
  refine ⟨(fun h => by cases h), a, fun x => ?_, by omega, by omega, h.nd.filter _⟩
  rw [b, List.mem_filter, h.m]
  simp [and_comm]
end Go.Proofs.Ytkdolemhhihidaa

namespace Go.Proofs.Ytkdolemhhihidaa
open Go.RowKit

theorem CallStop.frz {C : Cx} {S : St} {g : Nat} {args : List SV} {k : St → SV → Prop} (he : Enters C.P g) (hk : imK S args fun S' ys => CallStop C S' g ys k) : CallStop C S g args k := by
  refine ⟨he, fun O E a w vs hs hsz hargs => ?_⟩
  obtain ⟨E', S', ys, gk, g2, g3, g4, g5⟩ := imK_ok args (us := vs.toList) hs (by simpa using hsz) (fun j x v hx hv => by
    obtain ⟨q1, q2⟩ := List.getElem?_eq_some_iff.1 hx
    subst q2; rw [← arr_get hv]; exact hargs j q1) hk
  have hlen : vs.size = ys.length := by omega
  refine gk.out O E' a w vs g2 hlen fun j hj => ?_
  have hj3 : j < vs.size := by omega
  exact RS.mono (fun l hl => absurd hl (by omega)) (Nat.zero_le _) (fun _ h => h) (fun _ _ => rfl) (g5 j _ _ (List.getElem?_eq_getElem hj) (by simp [Array.getD, hj3]))
end Go.Proofs.Ytkdolemhhihidaa
