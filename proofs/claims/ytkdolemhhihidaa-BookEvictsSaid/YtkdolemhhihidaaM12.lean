/- Parts of the proof, one behind the other: Pl4, Pl5, Pl6. Lemmas and contracts of functions; no condition of its own. -/
import Derived.Test.YtkdolemhhihidaaM11
set_option linter.unusedVariables false
set_option linter.unusedSimpArgs false
namespace Go.Proofs.Ytkdolemhhihidaa
open Go.RowKit

section
variable {ps : List Pol} {room : Int} {xs ys : List Cel}
/-- two calls on unlike identities, in either order -/
theorem swap_ok (h : BInv ps room xs) {o1 p1 n1 w1 s1 o2 p2 n2 w2 s2 : Int} {k1 k2 : List Int} (hk1 : IsB k1) (hk2 : IsB k2) (ho1 : o1 < 5) (ho2 : o2 < 5) (hne : p1 :: k1 ≠ p2 :: k2) (hr : (xs.length : Int) + 1 < room) :
    (doS ps room (doS ps room xs o2 p2 k2 n2 w2 s2).2 o1 p1 k1 n1 w1 s1).1 = (doS ps room xs o1 p1 k1 n1 w1 s1).1 ∧
    (doS ps room xs o2 p2 k2 n2 w2 s2).1 = (doS ps room (doS ps room xs o1 p1 k1 n1 w1 s1).2 o2 p2 k2 n2 w2 s2).1 ∧
    (doS ps room (doS ps room xs o2 p2 k2 n2 w2 s2).2 o1 p1 k1 n1 w1 s1).2 = (doS ps room (doS ps room xs o1 p1 k1 n1 w1 s1).2 o2 p2 k2 n2 w2 s2).2 := by
  obtain ⟨a1, a2, a3⟩ := do_step (op := o1) (pol := p1) (key := k1) (n := n1) (now := w1) (serial := s1) h ho1 (by omega)
  obtain ⟨b1, b2, b3⟩ := do_step (op := o2) (pol := p2) (key := k2) (n := n2) (now := w2) (serial := s2) h ho2 (by omega)
  have ha := do_inv (op := o1) (pol := p1) (key := k1) (n := n1) (now := w1) (serial := s1) h hk1
  have hb := do_inv (op := o2) (pol := p2) (key := k2) (n := n2) (now := w2) (serial := s2) h hk2
  obtain ⟨c1, c2, c3⟩ := do_step (op := o2) (pol := p2) (key := k2) (n := n2) (now := w2) (serial := s2) ha ho2 (by omega)
  obtain ⟨d1, d2, d3⟩ := do_step (op := o1) (pol := p1) (key := k1) (n := n1) (now := w1) (serial := s1) hb ho1 (by omega)
  have e1 : look (doS ps room xs o1 p1 k1 n1 w1 s1).2 (p2 :: k2) = look xs (p2 :: k2) := by rw [a2, if_neg (fun e => hne e.symm)]
  have e2 : look (doS ps room xs o2 p2 k2 n2 w2 s2).2 (p1 :: k1) = look xs (p1 :: k1) := by rw [b2, if_neg hne]
  rw [e1] at c1 c2
  rw [e2] at d1 d2
  refine ⟨d1.trans a1.symm, b1.trans c1.symm, ?_⟩
  have hab := do_inv (op := o2) (pol := p2) (key := k2) (n := n2) (now := w2) (serial := s2) ha hk2
  have hba := do_inv (op := o1) (pol := p1) (key := k1) (n := n1) (now := w1) (serial := s1) hb hk1
  refine srt_ext hba.srt hab.srt fun i => ?_
  rw [d2, c2, a2, b2]
  by_cases g1 : i = p1 :: k1
  · subst g1
    rw [if_pos rfl, if_neg hne, if_neg hne, if_pos rfl]
  · rw [if_neg g1, if_neg g1]

/-- a book that knows one identity alone -/
def Only (id : List Int) (xs ys : List Cel) : Prop := ∀ i, look ys i = if i = id then look xs i else none
theorem only_len {id : List Int} (hy : Srt ys) (h : Only id xs ys) : ys.length ≤ 1 := by
  match ys, hy, h with
  | [], _, _ => simp
  | [_], _, _ => simp
  | a :: b :: r, hy, h =>
    exfalso
    have key : ∀ c ∈ a :: b :: r, idn c = id := fun c hc => by
      have h1 := hy.look_of hc
      rw [h] at h1
      split at h1
      · assumption
      · cases h1
    have h1 := key a (by simp)
    have h2 := key b (by simp)
    have := (List.pairwise_cons.1 hy.lt).1 b (by simp)
    rw [h1, h2, cmpI_self] at this
    omega
/-- a call on that very identity -/
theorem only_same {id : List Int} (hx : BInv ps room xs) (hy : BInv ps room ys) (h : Only id xs ys) {op pol n now serial : Int} {key : List Int} (ho : op < 5) (hid : pol :: key = id) (hrx : (xs.length : Int) < room) (hry : (ys.length : Int) < room) :
    (doS ps room ys op pol key n now serial).1 = (doS ps room xs op pol key n now serial).1 ∧ Only id (doS ps room xs op pol key n now serial).2 (doS ps room ys op pol key n now serial).2 := by
  obtain ⟨a1, a2, _⟩ := do_step (op := op) (pol := pol) (key := key) (n := n) (now := now) (serial := serial) hx ho hrx
  obtain ⟨b1, b2, _⟩ := do_step (op := op) (pol := pol) (key := key) (n := n) (now := now) (serial := serial) hy ho hry
  have e : look ys (pol :: key) = look xs (pol :: key) := by rw [h, if_pos hid]
  rw [e] at b1 b2
  refine ⟨b1.trans a1.symm, fun i => ?_⟩
  rw [b2, a2, h]
  by_cases hi : i = id
  · subst hi; rw [if_pos hid.symm, if_pos hid.symm, if_pos rfl, if_pos rfl]
  · rw [if_neg hi, if_neg hi, if_neg (fun e => hi (e.trans hid))]
/-- a call on another one -/
theorem only_other {id : List Int} (hx : BInv ps room xs) (h : Only id xs ys) {op pol n now serial : Int} {key : List Int} (ho : op < 5) (hid : pol :: key ≠ id) (hrx : (xs.length : Int) < room) :
    Only id (doS ps room xs op pol key n now serial).2 ys := by
  obtain ⟨_, a2, _⟩ := do_step (op := op) (pol := pol) (key := key) (n := n) (now := now) (serial := serial) hx ho hrx
  intro i
  rw [h, a2]
  by_cases hi : i = id
  · rw [if_pos hi, if_pos hi, if_neg (fun e => hid (e.symm.trans hi))]
  · rw [if_neg hi, if_neg hi]
/-- evict, split -/
theorem only_both {id : List Int} (hx : BInv ps room xs) (hy : BInv ps room ys) (h : Only id xs ys) {op pol n now serial : Int} {key : List Int} (ho : 5 ≤ op) :
    Only id (doS ps room xs op pol key n now serial).2 (doS ps room ys op pol key n now serial).2 := by
  by_cases hE : bchkE ps op pol key n now serial = 0
  · by_cases h5 : op = 5
    · subst h5
      rw [do_evict hE, do_evict hE]
      intro i
      show look (stay ps now ys) i = if i = id then look (stay ps now xs) i else none
      rw [stay_look hy.srt, stay_look hx.srt, h]
      by_cases hi : i = id
      · rw [if_pos hi, if_pos hi]
      · rw [if_neg hi, if_neg hi]; rfl
    · have hb := (bchk_0 hE).2.2.1
      unfold doS
      rw [if_neg (fun h => h hE), if_neg h5, if_pos (by omega), if_neg (fun h => h hE), if_neg h5, if_pos (by omega)]
      exact h
  · unfold doS; rw [if_pos hE, if_pos hE]; exact h
/-- how much longer a call makes the cells -/
theorem do_len (h : BInv ps room xs) {op pol n now serial : Int} {key : List Int} : (doS ps room xs op pol key n now serial).2.length ≤ xs.length + 1 := by
  by_cases hE : bchkE ps op pol key n now serial = 0
  · by_cases hop : op < 5
    · rw [do_keyed h hE hop]
      obtain ⟨hid, _⟩ := id_of hE hop
      cases hc : (cellS (ps.getD pol.toNat default) (look xs (pol :: key)) op pol key n now serial).2 with
      | none => simp
      | some c =>
        simp only
        split
        · simp
        · exact withC_len (posC_le _ _)
    · have hb := (bchk_0 hE).2.2.1
      by_cases h5 : op = 5
      · subst h5
        rw [do_evict hE]
        have := List.length_filter_le (fun c => !idleB ps c now) xs
        simp only [stay]; omega
      · unfold doS; rw [if_neg (fun h => h hE), if_neg h5, if_pos (by omega)]; simp
  · unfold doS; rw [if_pos hE]; simp
end
end Go.Proofs.Ytkdolemhhihidaa

namespace Go.Proofs.Ytkdolemhhihidaa
open Go.RowKit

section
variable {ps : List Pol} {room : Int} {xs : List Cel} {op pol : Int} {key : List Int} {n now serial : Int}
def tatAt (xs : List Cel) (id : List Int) : Int := match look xs id with | some c => c.tat | none => 0
theorem dec_g {T tau tat now n : Int} (h : (decA T tau tat now n).g = true) : chkL T tau [tat, now, n] = 0 ∧ n ≤ leftI T tau tat now ∧ (decA T tau tat now n).tat = tatI T tau tat now n := by
  unfold decA at h ⊢
  split at h
  · rename_i h0
    rw [if_pos h0]
    exact ⟨h0, by simpa [decI] using h, rfl⟩
  · cases h
theorem one_tat {p : Pol} {c : Cel} (hg : (oneR p c op n now serial).1.g = true) : c.tat ≤ (oneR p c op n now serial).2.tat := by
  unfold oneR at hg ⊢
  by_cases h1 : op = 1
  · rw [if_pos h1] at hg ⊢
    obtain ⟨h0, h2, h3⟩ := dec_g hg
    show c.tat ≤ (decA p.T p.tau c.tat now n).tat
    rw [h3]
    obtain ⟨⟨a1, a2⟩, _⟩ := (chk3_0 _ _ _ _ _).1 h0
    unfold tatI
    split
    · rename_i h5
      have : 0 ≤ n * p.T := Int.mul_nonneg (by omega) (by omega)
      omega
    · omega
  · rw [if_neg h1] at hg ⊢
    split
    · unfold acqC; split <;> exact Int.le_refl _
    · unfold relC; split <;> exact Int.le_refl _
/-- what a call makes of a cell: its tat doesn't go back -/
theorem step_tat {o : Option Cel} {c : Cel} (h : (stepS ps o op pol key n now serial).2 = some c) : (o.getD (newC pol key)).tat ≤ c.tat := by
  unfold stepS at h
  split at h
  · cases h
  · unfold cellS at h
    split at h
    · cases h
    · split at h
      · cases h
      · rename_i h9
        simp only [Option.some.injEq] at h
        rw [← h]
        exact one_tat (by
          cases hg : (oneR (ps.getD pol.toNat default) (o.getD (newC pol key)) op n now serial).1.g with
          | true => rfl
          | false => exact absurd (Or.inl hg) h9)
theorem tat_mono (h : BInv ps room xs) (hroom : (xs.length : Int) < room) (h0 : (ps.getD 0 default).kind = 1) (k0 : List Int) :
    max (tatAt xs (0 :: k0)) now ≤ max (tatAt (doS ps room xs op pol key n now serial).2 (0 :: k0)) now := by
  by_cases hop : op < 5
  · obtain ⟨_, h2, _⟩ := do_step (op := op) (pol := pol) (key := key) (n := n) (now := now) (serial := serial) h hop hroom
    unfold tatAt
    rw [h2]
    by_cases hi : 0 :: k0 = pol :: key
    · rw [if_pos hi]
      cases hs : (stepS ps (look xs (pol :: key)) op pol key n now serial).2 with
      | none => rw [Option.none_or]; omega
      | some c =>
        have := step_tat hs
        rw [hi, Option.some_or]
        cases ho : look xs (pol :: key) with
        | none => rw [ho] at this; simp only [Option.getD_none, newC] at this ⊢; omega
        | some d => rw [ho] at this; simp only [Option.getD_some] at this ⊢; omega
    · rw [if_neg hi]; omega
  · by_cases hE : bchkE ps op pol key n now serial = 0
    · have hb := (bchk_0 hE).2.2.1
      have hnow := (bchk_0 hE).1
      by_cases h5 : op = 5
      · subst h5
        rw [do_evict hE]
        unfold tatAt
        simp only
        rw [stay_look h.srt]
        cases hl : look xs (0 :: k0) with
        | none => simp
        | some c =>
          have hid := (look_mem hl).2
          have hpol : c.pol = 0 := by simp only [idn, List.cons.injEq] at hid; exact hid.1
          simp only [Option.filter]
          by_cases hi : idleB ps c now = true
          · rw [if_neg (by simp [hi])]
            unfold idleB at hi
            rw [hpol, show (0 : Int).toNat = 0 from rfl, if_neg (by omega)] at hi
            simp at hi
            simp only
            show max c.tat now ≤ max 0 now
            omega
          · rw [if_pos (by simp [hi])]; exact Int.le_refl _
      · unfold doS; rw [if_neg (fun h => h hE), if_neg h5, if_pos (by omega)]; exact Int.le_refl _
    · unfold doS; rw [if_pos hE]; exact Int.le_refl _
/-- a cost that is granted -/
theorem rate_grant (h : BInv ps room xs) (hroom : (xs.length : Int) < room) (hg : (doS ps room xs 1 0 key n now serial).1.g = true) (hn : 0 < n) :
    tatAt (doS ps room xs 1 0 key n now serial).2 (0 :: key) = max (tatAt xs (0 :: key)) now + n * (ps.getD 0 default).T ∧ max (tatAt xs (0 :: key)) now + n * (ps.getD 0 default).T ≤ now + (ps.getD 0 default).tau + (ps.getD 0 default).T := by
  obtain ⟨h1, h2, _⟩ := do_step (op := 1) (pol := 0) (key := key) (n := n) (now := now) (serial := serial) h (by omega) hroom
  have htat : ((look xs (0 :: key)).getD (newC 0 key)).tat = tatAt xs (0 :: key) := by
    unfold tatAt
    cases look xs (0 :: key) <;> rfl
  rw [h1] at hg
  have hs : (stepS ps (look xs (0 :: key)) 1 0 key n now serial).2 = some (allowC (ps.getD 0 default) ((look xs (0 :: key)).getD (newC 0 key)) now n) ∧ (decA (ps.getD 0 default).T (ps.getD 0 default).tau ((look xs (0 :: key)).getD (newC 0 key)).tat now n).g = true := by
    unfold stepS at hg ⊢
    split at hg
    · cases hg
    · rename_i h9
      rw [if_neg h9]
      unfold cellS oneR at hg ⊢
      rw [if_neg (by omega), if_pos rfl] at hg ⊢
      rw [show (0 : Int).toNat = 0 from rfl] at hg ⊢
      split at hg
      · rename_i h8
        rcases h8 with h8 | h8
        · simp only at hg; rw [h8] at hg; cases hg
        · omega
      · rename_i h8
        rw [if_neg h8]; exact ⟨rfl, hg⟩
  obtain ⟨s1, s2⟩ := hs
  obtain ⟨g0, g1, g2⟩ := dec_g s2
  rw [htat] at g0 g1 g2
  obtain ⟨⟨a1, a2⟩, ⟨b1, b2⟩, _⟩ := (chk3_0 _ _ _ _ _).1 g0
  have hT := a1.1
  have e1 : tatAt (doS ps room xs 1 0 key n now serial).2 (0 :: key) = tatI (ps.getD 0 default).T (ps.getD 0 default).tau (tatAt xs (0 :: key)) now n := by
    unfold tatAt at g2 ⊢
    rw [h2, if_pos rfl, s1, Option.some_or]
    simp only [allowC]
    rw [htat]
    unfold tatAt
    exact g2
  have e2 : tatI (ps.getD 0 default).T (ps.getD 0 default).tau (tatAt xs (0 :: key)) now n = max (tatAt xs (0 :: key)) now + n * (ps.getD 0 default).T := by unfold tatI; rw [if_pos ⟨g1, hn⟩]
  refine ⟨e1.trans e2, ?_⟩
  generalize tatAt xs (0 :: key) = t at *
  generalize (ps.getD 0 default).T = T at *
  generalize (ps.getD 0 default).tau = tau at *
  unfold leftI at g1
  split at g1
  · omega
  · rename_i h8
    have h9 : n - 1 ≤ (tau - (max t now - now)) / T := by omega
    have h10 : (n - 1) * T ≤ tau - (max t now - now) := by
      have := (Int.le_ediv_iff_mul_le (show 0 < T by omega)).1 h9
      exact this
    rw [Int.sub_mul] at h10
    omega
/-- what is left of what may be granted in a span -/
theorem rate_left {T tau fr to_ left n M now : Int} (hT : 1 ≤ T) (hft : fr ≤ to_) (hnow : fr ≤ now) (hnow2 : now ≤ to_) (hM : now ≤ M) (hn : 0 < n)
    (hR : left = (to_ - fr + tau) / T + 1 ∨ fr + T * ((to_ - fr + tau) / T + 1 - left) ≤ M) (hb : M + n * T ≤ now + tau + T) :
    n ≤ left ∧ fr + T * ((to_ - fr + tau) / T + 1 - (left - n)) ≤ M + n * T := by
  have hR' : fr + T * ((to_ - fr + tau) / T + 1 - left) ≤ M := by
    rcases hR with h | h
    · rw [h, Int.sub_self, Int.mul_zero]; omega
    · exact h
  have e : T * ((to_ - fr + tau) / T + 1 - (left - n)) = T * ((to_ - fr + tau) / T + 1 - left) + n * T := by
    rw [show (to_ - fr + tau) / T + 1 - (left - n) = ((to_ - fr + tau) / T + 1 - left) + n by omega, Int.mul_add, Int.mul_comm T n]
  refine ⟨?_, by rw [e]; omega⟩
  have h1 : T * ((to_ - fr + tau) / T + 1 - (left - n)) ≤ to_ - fr + tau + T := by rw [e]; omega
  have h2 : ((to_ - fr + tau) / T + 1 - (left - n)) ≤ (to_ - fr + tau + T) / T := (Int.le_ediv_iff_mul_le (show 0 < T by omega)).2 (by rw [Int.mul_comm]; exact h1)
  rw [show to_ - fr + tau + T = (to_ - fr + tau) + 1 * T by omega, Int.add_mul_ediv_right _ _ (show T ≠ 0 by omega)] at h2
  omega
end
end Go.Proofs.Ytkdolemhhihidaa

namespace Go.Proofs.Ytkdolemhhihidaa
open Go.RowKit

/-- a cell that its kind of calls has made -/
def Clean (p : Pol) (c : Cel) : Prop := if p.kind = 2 then c.tat = 0 else c.held = [] ∧ 0 ≤ c.tat
section
variable {ps : List Pol} {room : Int} {xs ys : List Cel} {op pol : Int} {key : List Int} {n now serial : Int}
theorem left_idle {T tau tat now : Int} (h1 : tat ≤ now) (h2 : 0 ≤ now) : leftI T tau tat now = leftI T tau 0 now := by
  unfold leftI
  rw [show max tat now = now by omega, show max (0 : Int) now = now by omega]
theorem tick_zero : tickB 0 = true := (tickB_iff 0).2 ⟨by omega, by omega⟩
theorem chk_idle {T tau tat now n : Int} (h0 : 0 ≤ tat) (h1 : tat ≤ now) (h3 : now ≤ 4611686018427387903) : chkL T tau [tat, now, n] = chkL T tau [0, now, n] ∧ chkL T tau [tat, now] = chkL T tau [0, now] := by
  have : tickB tat = true := (tickB_iff _).2 ⟨h0, by omega⟩
  unfold chkL
  simp only [List.all_cons, this, tick_zero, Bool.true_and]
  exact ⟨trivial, trivial⟩
theorem wait_idle {T tau tat now n : Int} (hT : 1 ≤ T) (ht : 0 ≤ tau) (h1 : tat ≤ now) (hn : ¬ n ≤ leftI T tau tat now) : waitI T tau tat now n = 4611686018427387903 := by
  unfold waitI
  rw [if_neg]
  rintro ⟨a, b⟩
  refine hn ?_
  unfold leftI
  rw [show max tat now = now by omega] at b ⊢
  have : n - 1 ≤ tau / T := (Int.le_ediv_iff_mul_le (show 0 < T by omega)).2 a
  rw [if_neg (by omega), show tau - (now - now) = tau by omega]
  omega
theorem dec_idle {T tau tat now n : Int} (h0 : 0 ≤ tat) (h1 : tat ≤ now) (h3 : now ≤ 4611686018427387903) :
    (decA T tau tat now n).g = (decA T tau 0 now n).g ∧ (decA T tau tat now n).wait = (decA T tau 0 now n).wait ∧ (decA T tau tat now n).left = (decA T tau 0 now n).left ∧ ((decA T tau tat now n).g = true → n ≠ 0 → (decA T tau tat now n).tat = (decA T tau 0 now n).tat) := by
  have hl : leftI T tau tat now = leftI T tau 0 now := left_idle h1 (by omega)
  have hc := (chk_idle (T := T) (tau := tau) (n := n) h0 h1 h3).1
  unfold decA
  rw [hc]
  split
  · rename_i h9
    obtain ⟨⟨a1, a2⟩, _, _, a5⟩ := (chk3_0 _ _ _ _ _).1 h9
    unfold decI
    simp only [hl]
    have hm : max tat now = max 0 now := by omega
    refine ⟨trivial, ?_, ?_, ?_⟩
    · split
      · rfl
      · rename_i hn
        rw [wait_idle a1.1 a2.1 h1 (by rw [hl]; exact hn), wait_idle a1.1 a2.1 (by omega) hn]
    · unfold tatI
      rw [hl, hm]
      split
      · rfl
      · exact hl
    · intro hg hn
      unfold tatI
      rw [hl, hm, if_pos ⟨by simpa using hg, by omega⟩, if_pos ⟨by simpa using hg, by omega⟩]
  · exact ⟨rfl, rfl, rfl, fun _ _ => rfl⟩
theorem kind_of (hE : bchkE ps op pol key n now serial = 0) : (op = 1 → (ps.getD pol.toNat default).kind = 1) ∧ (op = 2 ∨ op = 3 → (ps.getD pol.toNat default).kind = 2) := by
  obtain ⟨_, _, _, _, _, _, _, h⟩ := bchk_0 hE
  unfold kindE at h
  constructor
  · intro h1
    subst h1
    simpa using h
  · intro h1
    have := h (by split <;> omega)
    rw [this]
    split
    · omega
    · rfl
/-- an idle cell is as none -/
theorem idle_step {c : Cel} (hcl : Clean (ps.getD c.pol.toNat default) c) (hid : idn c = pol :: key) (hi : idleB ps c now = true) (hop : op < 5) : stepS ps (some c) op pol key n now serial = stepS ps none op pol key n now serial := by
  unfold stepS
  split
  · rfl
  · rename_i hE
    have hE : bchkE ps op pol key n now serial = 0 := Classical.byContradiction hE
    obtain ⟨k1, k2⟩ := kind_of hE
    obtain ⟨hnow, hop1, _⟩ := bchk_0 hE
    have e1 : c.pol = pol ∧ c.key = key := by simpa [idn] using hid
    rw [e1.1] at hcl
    unfold idleB at hi
    rw [e1.1] at hi
    unfold Clean at hcl
    by_cases hk : (ps.getD pol.toNat default).kind = 2
    · rw [if_pos hk] at hcl hi
      have hh : c.held = [] := by
        have : c.held.length = 0 := by simpa using hi
        exact List.length_eq_zero_iff.1 this
      have : c = newC pol key := by
        cases c with | mk a b d e =>
        simp only at hcl hh e1
        rw [e1.1, e1.2, hcl, hh]; rfl
      rw [this]; rfl
    · rw [if_neg hk] at hcl hi
      have hi : c.tat ≤ now := by simpa using hi
      have hop2 : op = 1 ∨ op = 4 := by
        have : ¬ (op = 2 ∨ op = 3) := fun h => hk (k2 h)
        revert this hop hop1
        generalize op = o
        omega
      unfold cellS
      simp only [Option.getD_some, Option.getD_none]
      rcases hop2 with h1 | h1
      · have h4 : ¬ op = 4 := by omega
        rw [if_neg h4, if_neg h4, oneR_1 h1, oneR_1 h1]
        obtain ⟨d1, d2, d3, d4⟩ := dec_idle (T := (ps.getD pol.toNat default).T) (tau := (ps.getD pol.toNat default).tau) (n := n) hcl.2 hi hnow.2
        have hR : allowR (ps.getD pol.toNat default) c now n = allowR (ps.getD pol.toNat default) (newC pol key) now n := by
          unfold allowR
          simp only [newC, d1, d2, d3]
        simp only [hR]
        split
        · rfl
        · rename_i h9
          have hg : (decA (ps.getD pol.toNat default).T (ps.getD pol.toNat default).tau 0 now n).g = true := by
            cases h : (decA (ps.getD pol.toNat default).T (ps.getD pol.toNat default).tau 0 now n).g with
            | true => rfl
            | false => exact absurd (Or.inl h) h9
          have hn : n ≠ 0 := fun h => h9 (Or.inr ⟨h1, h⟩)
          have hC : allowC (ps.getD pol.toNat default) c now n = allowC (ps.getD pol.toNat default) (newC pol key) now n := by
            unfold allowC
            simp only [newC, e1.1, e1.2, hcl.1, d4 (by rw [d1]; exact hg) hn]
          rw [hC]
      · rw [if_pos h1, if_pos h1]
        refine Prod.ext ?_ rfl
        show peekR _ _ _ = peekR _ _ _
        unfold peekR
        rw [if_neg hk, if_neg hk]
        have e2 := (chk_idle (T := (ps.getD pol.toNat default).T) (tau := (ps.getD pol.toNat default).tau) (n := n) hcl.2 hi hnow.2).2
        have e3 : leftI (ps.getD pol.toNat default).T (ps.getD pol.toNat default).tau c.tat now = leftI (ps.getD pol.toNat default).T (ps.getD pol.toNat default).tau 0 now := left_idle hi hnow.1
        have e4 : tkSub c.tat now = tkSub 0 now := by
          unfold tkSub
          rw [show max (c.tat - now) 0 = 0 by omega, show max (0 - now) 0 = 0 by omega]
          split <;> split <;> rfl
        simp only [newC, e2, e3, e4]
        rfl
theorem step_clean {o : Option Cel} {c : Cel} (ho : ∀ d, o = some d → Clean (ps.getD d.pol.toNat default) d ∧ idn d = pol :: key) (hop : op < 5) (h : (stepS ps o op pol key n now serial).2 = some c) : Clean (ps.getD c.pol.toNat default) c ∧ idn c = pol :: key := by
  unfold stepS at h
  split at h
  · cases h
  · rename_i hE
    have hE : bchkE ps op pol key n now serial = 0 := Classical.byContradiction hE
    have hid : idn c = pol :: key := cell_idn (fun d hd => (ho d hd).2) h
    refine ⟨?_, hid⟩
    obtain ⟨k1, k2⟩ := kind_of hE
    obtain ⟨hnow, hop1, _⟩ := bchk_0 hE
    have e1 : c.pol = pol ∧ c.key = key := by simpa [idn] using hid
    rw [e1.1]
    have hb : Clean (ps.getD pol.toNat default) (o.getD (newC pol key)) := by
      cases o with
      | none =>
        unfold Clean
        split
        · rfl
        · exact ⟨rfl, Int.le_refl _⟩
      | some d =>
        obtain ⟨h1, h2⟩ := ho d rfl
        have : d.pol = pol := by simp only [idn, List.cons.injEq] at h2; exact h2.1
        rw [this] at h1; exact h1
    unfold cellS at h
    generalize o.getD (newC pol key) = b at hb h
    split at h
    · cases h
    · split at h
      · cases h
      · rename_i h4 h9
        simp only [Option.some.injEq] at h
        rw [← h]
        unfold Clean at hb ⊢
        by_cases h1 : op = 1
        · have hk := k1 h1
          rw [if_neg (by omega)] at hb ⊢
          have hg : (oneR (ps.getD pol.toNat default) b op n now serial).1.g = true := by
            cases hg : (oneR (ps.getD pol.toNat default) b op n now serial).1.g with
            | true => rfl
            | false => exact absurd (Or.inl hg) h9
          have := one_tat hg
          refine ⟨?_, by omega⟩
          rw [oneR_1 h1]; exact hb.1
        · have hk := k2 (by omega)
          rw [if_pos hk] at hb ⊢
          by_cases h2 : op = 2
          · rw [oneR_2 h2]
            simp only [acqC]
            split <;> exact hb
          · rw [oneR_3 (by omega)]
            simp only [relC]
            split <;> exact hb
/-- ys is xs, but for idle cells that it may lack -/
structure Ev (ps : List Pol) (now : Int) (xs ys : List Cel) : Prop where
  rel : ∀ i, look ys i = look xs i ∨ (look ys i = none ∧ ∃ c, look xs i = some c ∧ idleB ps c now = true)
  cl : ∀ i c, look xs i = some c → Clean (ps.getD c.pol.toNat default) c
theorem Ev.nil : Ev ps now [] [] := ⟨fun i => Or.inl rfl, fun i c h => by simp [look] at h⟩
theorem Ev.mono (h : Ev ps now xs ys) {m : Int} (hm : now ≤ m) : Ev ps m xs ys := by
  refine ⟨fun i => ?_, h.cl⟩
  rcases h.rel i with h1 | ⟨h1, c, h2, h3⟩
  · exact Or.inl h1
  · refine Or.inr ⟨h1, c, h2, ?_⟩
    unfold idleB at h3 ⊢
    split
    · rename_i hk; rw [if_pos hk] at h3; exact h3
    · rename_i hk
      rw [if_neg hk] at h3
      have : c.tat ≤ now := by simpa using h3
      exact decide_eq_true (by omega)
theorem Ev.step (h : Ev ps now xs ys) (hx : BInv ps room xs) (hy : BInv ps room ys) (hop : op < 5) (hrx : (xs.length : Int) < room) (hry : (ys.length : Int) < room) :
    (doS ps room ys op pol key n now serial).1 = (doS ps room xs op pol key n now serial).1 ∧ Ev ps now (doS ps room xs op pol key n now serial).2 (doS ps room ys op pol key n now serial).2 := by
  obtain ⟨a1, a2, _⟩ := do_step (op := op) (pol := pol) (key := key) (n := n) (now := now) (serial := serial) hx hop hrx
  obtain ⟨b1, b2, _⟩ := do_step (op := op) (pol := pol) (key := key) (n := n) (now := now) (serial := serial) hy hop hry
  have e : stepS ps (look ys (pol :: key)) op pol key n now serial = stepS ps (look xs (pol :: key)) op pol key n now serial := by
    rcases h.rel (pol :: key) with h1 | ⟨h1, c, h2, h3⟩
    · rw [h1]
    · rw [h1, h2]
      exact (idle_step (h.cl _ c h2) (look_mem h2).2 h3 hop).symm
  rw [e] at b1 b2
  refine ⟨b1.trans a1.symm, fun i => ?_, fun i c hc => ?_⟩
  · rw [a2, b2]
    split
    · rename_i hi
      subst hi
      cases (stepS ps (look xs (pol :: key)) op pol key n now serial).2 with
      | none => rw [Option.none_or, Option.none_or]; exact h.rel _
      | some d => rw [Option.some_or, Option.some_or]; exact Or.inl rfl
    · exact h.rel i
  · rw [a2] at hc
    split at hc
    · cases hs : (stepS ps (look xs (pol :: key)) op pol key n now serial).2 with
      | none => rw [hs, Option.none_or] at hc; exact h.cl _ _ hc
      | some d =>
        rw [hs, Option.some_or] at hc
        cases hc
        exact (step_clean (fun d hd => ⟨h.cl _ _ hd, (look_mem hd).2⟩) hop hs).1
    · exact h.cl _ _ hc
theorem Ev.stay (h : Ev ps now xs ys) (hy : BInv ps room ys) : Ev ps now xs (stay ps now ys) := by
  refine ⟨fun i => ?_, h.cl⟩
  rw [stay_look hy.srt]
  rcases h.rel i with h1 | ⟨h1, h2⟩
  · rw [h1]
    cases hl : look xs i with
    | none => exact Or.inl rfl
    | some c =>
      by_cases hi : idleB ps c now = true
      · refine Or.inr ⟨?_, c, rfl, hi⟩
        simp [Option.filter, hi]
      · refine Or.inl ?_
        simp [Option.filter, hi]
  · rw [h1]
    exact Or.inr ⟨rfl, h2⟩
theorem Ev.len (h : Ev ps now xs ys) (hx : BInv ps room xs) (hy : BInv ps room ys) : ys.length ≤ xs.length := by
  have : ys = xs.filter fun c => (look ys (idn c)).isSome := by
    refine srt_ext hy.srt (hx.srt.filter _) fun i => ?_
    rw [filter_look hx.srt]
    rcases h.rel i with h1 | ⟨h1, c, h2, _⟩
    · cases hl : look xs i with
      | none => rw [h1, hl]; rfl
      | some c =>
        have h3 := (look_mem hl).2
        have : (look ys (idn c)).isSome = true := by rw [h3, h1, hl]; rfl
        simp only [Option.filter, this, if_true]
        rw [h1, hl]
    · have h3 := (look_mem h2).2
      have : (look ys (idn c)).isSome = false := by rw [h3, h1]; rfl
      rw [h1, h2]
      simp [Option.filter, this]
  rw [this]
  exact List.length_filter_le _ _
theorem Ev.fin (h : Ev ps now xs ys) (hx : BInv ps room xs) (hy : BInv ps room ys) : Go.Proofs.Ytkdolemhhihidaa.stay ps now ys = Go.Proofs.Ytkdolemhhihidaa.stay ps now xs := by
  refine srt_ext (hy.srt.filter _) (hx.srt.filter _) fun i => ?_
  rw [stay_look hy.srt, stay_look hx.srt]
  rcases h.rel i with h1 | ⟨h1, c, h2, h3⟩
  · rw [h1]
  · rw [h1, h2]
    simp [Option.filter, h3]
/-- a call that looks alone -/
theorem do_6 (h5 : 6 ≤ op) : ∃ r, ∀ zs, doS ps room zs op pol key n now serial = (r, zs) := by
  by_cases hE : bchkE ps op pol key n now serial = 0
  · have hb := (bchk_0 hE).2.2.1
    refine ⟨errR 0, fun zs => ?_⟩
    unfold doS; rw [if_neg (fun h => h hE), if_neg (by omega), if_pos (by omega)]
  · refine ⟨errR (bchkE ps op pol key n now serial), fun zs => ?_⟩
    unfold doS; rw [if_pos hE]
end
end Go.Proofs.Ytkdolemhhihidaa
