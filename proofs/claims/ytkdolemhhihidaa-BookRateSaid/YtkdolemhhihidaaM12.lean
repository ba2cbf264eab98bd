/- Parts of the proof, one behind the other: Pl4, Pl5, Pl7, Sx23, Bk24. Lemmas and contracts of functions; no condition of its own. -/
import Derived.Test.YtkdolemhhihidaaM11
set_option linter.unusedVariables false
set_option linter.unusedSimpArgs false
namespace Go.Proofs.Ytkdolemhhihidaa
open Go.RowKit

section
variable {ps : List Pol} {room : Int} {xs ys : List Cel}
/-- two calls on unlike identities, in either order -/
theorem swap_ok (h : BInv ps room xs) {o1 p1 n1 w1 s1 o2 p2 n2 w2 s2 : Int} {k1 k2 : List Int} (hk1 : IsB k1) (hk2 : IsB k2) (ho1 : o1 < 5) (ho2 : o2 < 5) (hne : p1 :: k1 ≠ p2 :: k2) (hr : (xs.length : Int) + 1 < room) :
    (doS ps room (doS ps room xs o2 p2 k2 n2 w2 s2).2 o1 p1 k1 n1 w1 s1).1 = (doS ps room xs o1 p1 k1 n1 w1 s1).1 ∧
    (doS ps room xs o2 p2 k2 n2 w2 s2).1 = (doS ps room (doS ps room xs o1 p1 k1 n1 w1 s1).2 o2 p2 k2 n2 w2 s2).1 ∧
    (doS ps room (doS ps room xs o2 p2 k2 n2 w2 s2).2 o1 p1 k1 n1 w1 s1).2 = (doS ps room (doS ps room xs o1 p1 k1 n1 w1 s1).2 o2 p2 k2 n2 w2 s2).2 := by
  obtain ⟨a1, a2, a3⟩ := do_step (op := o1) (pol := p1) (key := k1) (n := n1) (now := w1) (serial := s1) h ho1 (by omega)
  obtain ⟨b1, b2, b3⟩ := do_step (op := o2) (pol := p2) (key := k2) (n := n2) (now := w2) (serial := s2) h ho2 (by omega)
  have ha := do_inv (op := o1) (pol := p1) (key := k1) (n := n1) (now := w1) (serial := s1) h hk1
  have hb := do_inv (op := o2) (pol := p2) (key := k2) (n := n2) (now := w2) (serial := s2) h hk2
  obtain ⟨c1, c2, c3⟩ := do_step (op := o2) (pol := p2) (key := k2) (n := n2) (now := w2) (serial := s2) ha ho2 (by omega)
  obtain ⟨d1, d2, d3⟩ := do_step (op := o1) (pol := p1) (key := k1) (n := n1) (now := w1) (serial := s1) hb ho1 (by omega)
  have e1 : look (doS ps room xs o1 p1 k1 n1 w1 s1).2 (p2 :: k2) = look xs (p2 :: k2) := by rw [a2, if_neg (fun e => hne e.symm)]
  have e2 : look (doS ps room xs o2 p2 k2 n2 w2 s2).2 (p1 :: k1) = look xs (p1 :: k1) := by rw [b2, if_neg hne]
  rw [e1] at c1 c2
  rw [e2] at d1 d2
  refine ⟨d1.trans a1.symm, b1.trans c1.symm, ?_⟩
  have hab := do_inv (op := o2) (pol := p2) (key := k2) (n := n2) (now := w2) (serial := s2) ha hk2
  have hba := do_inv (op := o1) (pol := p1) (key := k1) (n := n1) (now := w1) (serial := s1) hb hk1
  refine srt_ext hba.srt hab.srt fun i => ?_
  rw [d2, c2, a2, b2]
  by_cases g1 : i = p1 :: k1
  · subst g1
    rw [if_pos rfl, if_neg hne, if_neg hne, if_pos rfl]
  · rw [if_neg g1, if_neg g1]

/-- a book that knows one identity alone -/
def Only (id : List Int) (xs ys : List Cel) : Prop := ∀ i, look ys i = if i = id then look xs i else none
theorem only_len {id : List Int} (hy : Srt ys) (h : Only id xs ys) : ys.length ≤ 1 := by
  match ys, hy, h with
  | [], _, _ => simp
  | [_], _, _ => simp
  | a :: b :: r, hy, h =>
    exfalso
    have key : ∀ c ∈ a :: b :: r, idn c = id := fun c hc => by
      have h1 := hy.look_of hc
      rw [h] at h1
      split at h1
      · assumption
      · cases h1
    have h1 := key a (by simp)
    have h2 := key b (by simp)
    have := (List.pairwise_cons.1 hy.lt).1 b (by simp)
    rw [h1, h2, cmpI_self] at this
    omega
/-- a call on that very identity -/
theorem only_same {id : List Int} (hx : BInv ps room xs) (hy : BInv ps room ys) (h : Only id xs ys) {op pol n now serial : Int} {key : List Int} (ho : op < 5) (hid : pol :: key = id) (hrx : (xs.length : Int) < room) (hry : (ys.length : Int) < room) :
    (doS ps room ys op pol key n now serial).1 = (doS ps room xs op pol key n now serial).1 ∧ Only id (doS ps room xs op pol key n now serial).2 (doS ps room ys op pol key n now serial).2 := by
  obtain ⟨a1, a2, _⟩ := do_step (op := op) (pol := pol) (key := key) (n := n) (now := now) (serial := serial) hx ho hrx
  obtain ⟨b1, b2, _⟩ := do_step (op := op) (pol := pol) (key := key) (n := n) (now := now) (serial := serial) hy ho hry
  have e : look ys (pol :: key) = look xs (pol :: key) := by rw [h, if_pos hid]
  rw [e] at b1 b2
  refine ⟨b1.trans a1.symm, fun i => ?_⟩
  rw [b2, a2, h]
  by_cases hi : i = id
  · subst hi; rw [if_pos hid.symm, if_pos hid.symm, if_pos rfl, if_pos rfl]
  · rw [if_neg hi, if_neg hi, if_neg (fun e => hi (e.trans hid))]
/-- a call on another one -/
theorem only_other {id : List Int} (hx : BInv ps room xs) (h : Only id xs ys) {op pol n now serial : Int} {key : List Int} (ho : op < 5) (hid : pol :: key ≠ id) (hrx : (xs.length : Int) < room) :
    Only id (doS ps room xs op pol key n now serial).2 ys := by
  obtain ⟨_, a2, _⟩ := do_step (op := op) (pol := pol) (key := key) (n := n) (now := now) (serial := serial) hx ho hrx
  intro i
  rw [h, a2]
  by_cases hi : i = id
  · rw [if_pos hi, if_pos hi, if_neg (fun e => hid (e.symm.trans hi))]
  · rw [if_neg hi, if_neg hi]
/-- evict, split -/
theorem only_both {id : List Int} (hx : BInv ps room xs) (hy : BInv ps room ys) (h : Only id xs ys) {op pol n now serial : Int} {key : List Int} (ho : 5 ≤ op) :
    Only id (doS ps room xs op pol key n now serial).2 (doS ps room ys op pol key n now serial).2 := by
  by_cases hE : bchkE ps op pol key n now serial = 0
  · by_cases h5 : op = 5
    · subst h5
      rw [do_evict hE, do_evict hE]
      intro i
      show look (stay ps now ys) i = if i = id then look (stay ps now xs) i else none
      rw [stay_look hy.srt, stay_look hx.srt, h]
      by_cases hi : i = id
      · rw [if_pos hi, if_pos hi]
      · rw [if_neg hi, if_neg hi]; rfl
    · have hb := (bchk_0 hE).2.2.1
      unfold doS
      rw [if_neg (fun h => h hE), if_neg h5, if_pos (by omega), if_neg (fun h => h hE), if_neg h5, if_pos (by omega)]
      exact h
  · unfold doS; rw [if_pos hE, if_pos hE]; exact h
/-- how much longer a call makes the cells -/
theorem do_len (h : BInv ps room xs) {op pol n now serial : Int} {key : List Int} : (doS ps room xs op pol key n now serial).2.length ≤ xs.length + 1 := by
  by_cases hE : bchkE ps op pol key n now serial = 0
  · by_cases hop : op < 5
    · rw [do_keyed h hE hop]
      obtain ⟨hid, _⟩ := id_of hE hop
      cases hc : (cellS (ps.getD pol.toNat default) (look xs (pol :: key)) op pol key n now serial).2 with
      | none => simp
      | some c =>
        simp only
        split
        · simp
        · exact withC_len (posC_le _ _)
    · have hb := (bchk_0 hE).2.2.1
      by_cases h5 : op = 5
      · subst h5
        rw [do_evict hE]
        have := List.length_filter_le (fun c => !idleB ps c now) xs
        simp only [stay]; omega
      · unfold doS; rw [if_neg (fun h => h hE), if_neg h5, if_pos (by omega)]; simp
  · unfold doS; rw [if_pos hE]; simp
end
end Go.Proofs.Ytkdolemhhihidaa

namespace Go.Proofs.Ytkdolemhhihidaa
open Go.RowKit

section
variable {ps : List Pol} {room : Int} {xs : List Cel} {op pol : Int} {key : List Int} {n now serial : Int}
def tatAt (xs : List Cel) (id : List Int) : Int := match look xs id with | some c => c.tat | none => 0
theorem dec_g {T tau tat now n : Int} (h : (decA T tau tat now n).g = true) : chkL T tau [tat, now, n] = 0 ∧ n ≤ leftI T tau tat now ∧ (decA T tau tat now n).tat = tatI T tau tat now n := by
  unfold decA at h ⊢
  split at h
  · rename_i h0
    rw [if_pos h0]
    exact ⟨h0, by simpa [decI] using h, rfl⟩
  · cases h
theorem one_tat {p : Pol} {c : Cel} (hg : (oneR p c op n now serial).1.g = true) : c.tat ≤ (oneR p c op n now serial).2.tat := by
  unfold oneR at hg ⊢
  by_cases h1 : op = 1
  · rw [if_pos h1] at hg ⊢
    obtain ⟨h0, h2, h3⟩ := dec_g hg
    show c.tat ≤ (decA p.T p.tau c.tat now n).tat
    rw [h3]
    obtain ⟨⟨a1, a2⟩, _⟩ := (chk3_0 _ _ _ _ _).1 h0
    unfold tatI
    split
    · rename_i h5
      have : 0 ≤ n * p.T := Int.mul_nonneg (by omega) (by omega)
      omega
    · omega
  · rw [if_neg h1] at hg ⊢
    split
    · unfold acqC; split <;> exact Int.le_refl _
    · unfold relC; split <;> exact Int.le_refl _
/-- what a call makes of a cell: its tat doesn't go back -/
theorem step_tat {o : Option Cel} {c : Cel} (h : (stepS ps o op pol key n now serial).2 = some c) : (o.getD (newC pol key)).tat ≤ c.tat := by
  unfold stepS at h
  split at h
  · cases h
  · unfold cellS at h
    split at h
    · cases h
    · split at h
      · cases h
      · rename_i h9
        simp only [Option.some.injEq] at h
        rw [← h]
        exact one_tat (by
          cases hg : (oneR (ps.getD pol.toNat default) (o.getD (newC pol key)) op n now serial).1.g with
          | true => rfl
          | false => exact absurd (Or.inl hg) h9)
theorem tat_mono (h : BInv ps room xs) (hroom : (xs.length : Int) < room) (h0 : (ps.getD 0 default).kind = 1) (k0 : List Int) :
    max (tatAt xs (0 :: k0)) now ≤ max (tatAt (doS ps room xs op pol key n now serial).2 (0 :: k0)) now := by
  by_cases hop : op < 5
  · obtain ⟨_, h2, _⟩ := do_step (op := op) (pol := pol) (key := key) (n := n) (now := now) (serial := serial) h hop hroom
    unfold tatAt
    rw [h2]
    by_cases hi : 0 :: k0 = pol :: key
    · rw [if_pos hi]
      cases hs : (stepS ps (look xs (pol :: key)) op pol key n now serial).2 with
      | none => rw [Option.none_or]; omega
      | some c =>
        have := step_tat hs
        rw [hi, Option.some_or]
        cases ho : look xs (pol :: key) with
        | none => rw [ho] at this; simp only [Option.getD_none, newC] at this ⊢; omega
        | some d => rw [ho] at this; simp only [Option.getD_some] at this ⊢; omega
    · rw [if_neg hi]; omega
  · by_cases hE : bchkE ps op pol key n now serial = 0
    · have hb := (bchk_0 hE).2.2.1
      have hnow := (bchk_0 hE).1
      by_cases h5 : op = 5
      · subst h5
        rw [do_evict hE]
        unfold tatAt
        simp only
        rw [stay_look h.srt]
        cases hl : look xs (0 :: k0) with
        | none => simp
        | some c =>
          have hid := (look_mem hl).2
          have hpol : c.pol = 0 := by simp only [idn, List.cons.injEq] at hid; exact hid.1
          simp only [Option.filter]
          by_cases hi : idleB ps c now = true
          · rw [if_neg (by simp [hi])]
            unfold idleB at hi
            rw [hpol, show (0 : Int).toNat = 0 from rfl, if_neg (by omega)] at hi
            simp at hi
            simp only
            show max c.tat now ≤ max 0 now
            omega
          · rw [if_pos (by simp [hi])]; exact Int.le_refl _
      · unfold doS; rw [if_neg (fun h => h hE), if_neg h5, if_pos (by omega)]; exact Int.le_refl _
    · unfold doS; rw [if_pos hE]; exact Int.le_refl _
/-- a cost that is granted -/
theorem rate_grant (h : BInv ps room xs) (hroom : (xs.length : Int) < room) (hg : (doS ps room xs 1 0 key n now serial).1.g = true) (hn : 0 < n) :
    tatAt (doS ps room xs 1 0 key n now serial).2 (0 :: key) = max (tatAt xs (0 :: key)) now + n * (ps.getD 0 default).T ∧ max (tatAt xs (0 :: key)) now + n * (ps.getD 0 default).T ≤ now + (ps.getD 0 default).tau + (ps.getD 0 default).T := by
  obtain ⟨h1, h2, _⟩ := do_step (op := 1) (pol := 0) (key := key) (n := n) (now := now) (serial := serial) h (by omega) hroom
  have htat : ((look xs (0 :: key)).getD (newC 0 key)).tat = tatAt xs (0 :: key) := by
    unfold tatAt
    cases look xs (0 :: key) <;> rfl
  rw [h1] at hg
  have hs : (stepS ps (look xs (0 :: key)) 1 0 key n now serial).2 = some (allowC (ps.getD 0 default) ((look xs (0 :: key)).getD (newC 0 key)) now n) ∧ (decA (ps.getD 0 default).T (ps.getD 0 default).tau ((look xs (0 :: key)).getD (newC 0 key)).tat now n).g = true := by
    unfold stepS at hg ⊢
    split at hg
    · cases hg
    · rename_i h9
      rw [if_neg h9]
      unfold cellS oneR at hg ⊢
      rw [if_neg (by omega), if_pos rfl] at hg ⊢
      rw [show (0 : Int).toNat = 0 from rfl] at hg ⊢
      split at hg
      · rename_i h8
        rcases h8 with h8 | h8
        · simp only at hg; rw [h8] at hg; cases hg
        · omega
      · rename_i h8
        rw [if_neg h8]; exact ⟨rfl, hg⟩
  obtain ⟨s1, s2⟩ := hs
  obtain ⟨g0, g1, g2⟩ := dec_g s2
  rw [htat] at g0 g1 g2
  obtain ⟨⟨a1, a2⟩, ⟨b1, b2⟩, _⟩ := (chk3_0 _ _ _ _ _).1 g0
  have hT := a1.1
  have e1 : tatAt (doS ps room xs 1 0 key n now serial).2 (0 :: key) = tatI (ps.getD 0 default).T (ps.getD 0 default).tau (tatAt xs (0 :: key)) now n := by
    unfold tatAt at g2 ⊢
    rw [h2, if_pos rfl, s1, Option.some_or]
    simp only [allowC]
    rw [htat]
    unfold tatAt
    exact g2
  have e2 : tatI (ps.getD 0 default).T (ps.getD 0 default).tau (tatAt xs (0 :: key)) now n = max (tatAt xs (0 :: key)) now + n * (ps.getD 0 default).T := by unfold tatI; rw [if_pos ⟨g1, hn⟩]
  refine ⟨e1.trans e2, ?_⟩
  generalize tatAt xs (0 :: key) = t at *
  generalize (ps.getD 0 default).T = T at *
  generalize (ps.getD 0 default).tau = tau at *
  unfold leftI at g1
  split at g1
  · omega
  · rename_i h8
    have h9 : n - 1 ≤ (tau - (max t now - now)) / T := by omega
    have h10 : (n - 1) * T ≤ tau - (max t now - now) := by
      have := (Int.le_ediv_iff_mul_le (show 0 < T by omega)).1 h9
      exact this
    rw [Int.sub_mul] at h10
    omega
/-- what is left of what may be granted in a span -/
theorem rate_left {T tau fr to_ left n M now : Int} (hT : 1 ≤ T) (hft : fr ≤ to_) (hnow : fr ≤ now) (hnow2 : now ≤ to_) (hM : now ≤ M) (hn : 0 < n)
    (hR : left = (to_ - fr + tau) / T + 1 ∨ fr + T * ((to_ - fr + tau) / T + 1 - left) ≤ M) (hb : M + n * T ≤ now + tau + T) :
    n ≤ left ∧ fr + T * ((to_ - fr + tau) / T + 1 - (left - n)) ≤ M + n * T := by
  have hR' : fr + T * ((to_ - fr + tau) / T + 1 - left) ≤ M := by
    rcases hR with h | h
    · rw [h, Int.sub_self, Int.mul_zero]; omega
    · exact h
  have e : T * ((to_ - fr + tau) / T + 1 - (left - n)) = T * ((to_ - fr + tau) / T + 1 - left) + n * T := by
    rw [show (to_ - fr + tau) / T + 1 - (left - n) = ((to_ - fr + tau) / T + 1 - left) + n by omega, Int.mul_add, Int.mul_comm T n]
  refine ⟨?_, by rw [e]; omega⟩
  have h1 : T * ((to_ - fr + tau) / T + 1 - (left - n)) ≤ to_ - fr + tau + T := by rw [e]; omega
  have h2 : ((to_ - fr + tau) / T + 1 - (left - n)) ≤ (to_ - fr + tau + T) / T := (Int.le_ediv_iff_mul_le (show 0 < T by omega)).2 (by rw [Int.mul_comm]; exact h1)
  rw [show to_ - fr + tau + T = (to_ - fr + tau) + 1 * T by omega, Int.add_mul_ediv_right _ _ (show T ≠ 0 by omega)] at h2
  omega
end
end Go.Proofs.Ytkdolemhhihidaa

namespace Go.Proofs.Ytkdolemhhihidaa
open Go.RowKit

section
variable {ps : List Pol} {room : Int} {xs : List Cel} {op pol : Int} {key : List Int} {n now serial : Int}
/-- what may still be granted -/
def Rate (T tau fr to_ : Int) (xs : List Cel) (now left : Int) : Prop :=
  left = (to_ - fr + tau) / T + 1 ∨ fr + T * ((to_ - fr + tau) / T + 1 - left) ≤ max (tatAt xs [0, 97]) now
theorem Rate.later {T tau fr to_ left m : Int} (h : Rate T tau fr to_ xs now left) (hm : now ≤ m) : Rate T tau fr to_ xs m left := by
  rcases h with h | h
  · exact Or.inl h
  · exact Or.inr (by omega)
theorem Rate.keep {T tau fr to_ left : Int} (h : Rate T tau fr to_ xs now left) (hb : BInv ps room xs) (hroom : (xs.length : Int) < room) (hk : (ps.getD 0 default).kind = 1) : Rate T tau fr to_ (doS ps room xs op pol key n now serial).2 now left := by
  have := tat_mono (op := op) (pol := pol) (key := key) (n := n) (now := now) (serial := serial) hb hroom hk [97]
  rcases h with h | h
  · exact Or.inl h
  · exact Or.inr (by omega)
theorem Rate.take {fr to_ left : Int} (h : Rate (ps.getD 0 default).T (ps.getD 0 default).tau fr to_ xs now left) (hb : BInv ps room xs) (hroom : (xs.length : Int) < room) (hk : (ps.getD 0 default).kind = 1) (hT : 1 ≤ (ps.getD 0 default).T) (hft : fr ≤ to_) (hl : 0 ≤ left)
    (e1 : op = 1) (e2 : pol = 0) (e3 : key = [97]) (hn : 0 ≤ n) (hg : (doS ps room xs op pol key n now serial).1.g = true) (h1 : fr ≤ now) (h2 : now ≤ to_) :
    n ≤ left ∧ Rate (ps.getD 0 default).T (ps.getD 0 default).tau fr to_ (doS ps room xs op pol key n now serial).2 now (left - n) := by
  by_cases hn0 : n = 0
  · have := h.keep (op := op) (pol := pol) (key := key) (n := n) (serial := serial) hb hroom hk
    rw [hn0] at this ⊢
    rw [Int.sub_zero]
    exact ⟨hl, this⟩
  · subst e1 e2 e3
    obtain ⟨a1, a2⟩ := rate_grant hb hroom hg (by omega)
    obtain ⟨b1, b2⟩ := rate_left hT hft h1 h2 (show now ≤ max (tatAt xs [0, 97]) now by omega) (show 0 < n by omega) h a2
    refine ⟨b1, Or.inr ?_⟩
    have a1 : tatAt (doS ps room xs 1 0 [97] n now serial).2 [0, 97] = max (tatAt xs [0, 97]) now + n * (ps.getD 0 default).T := a1
    rw [a1]
    generalize n * (ps.getD 0 default).T = q at *
    omega
theorem key1 {key : List Int} (h : (key.length : Int) = 1) (h2 : key.getD 0 default = 97) : key = [97] := by
  match key, h, h2 with
  | [], h, _ => simp at h
  | [a], _, h2 => simp at h2; rw [h2]
  | _ :: _ :: _, h, _ => simp at h; omega
end
def rateP (T tau : Int) : List Pol := [⟨1, T, tau, 0⟩, ⟨2, 0, 0, 2⟩]
theorem newRate {T tau : Int} (h : 1 ≤ T ∧ T ≤ 4611686018427387903) (h2 : 0 ≤ tau ∧ tau ≤ 4611686018427387903) : newE (rateP T tau) 4096 = 0 := by
  have h3 : limE T tau = 0 := (limE_0 T tau).2 ⟨h, h2⟩
  unfold newE polsE rateP
  rw [if_neg (by omega), if_neg (by simp)]
  simp only [List.all_cons, List.all_nil, formB, h3]
  rfl
end Go.Proofs.Ytkdolemhhihidaa

namespace Go.Proofs.Ytkdolemhhihidaa
open Go.RowKit

theorem CallStop.frz {C : Cx} {S : St} {g : Nat} {args : List SV} {k : St → SV → Prop} (he : Enters C.P g) (hk : imK S args fun S' ys => CallStop C S' g ys k) : CallStop C S g args k := by
  refine ⟨he, fun O E a w vs hs hsz hargs => ?_⟩
  obtain ⟨E', S', ys, gk, g2, g3, g4, g5⟩ := imK_ok args (us := vs.toList) hs (by simpa using hsz) (fun j x v hx hv => by
    obtain ⟨q1, q2⟩ := List.getElem?_eq_some_iff.1 hx
    subst q2; rw [← arr_get hv]; exact hargs j q1) hk
  have hlen : vs.size = ys.length := by omega
  refine gk.out O E' a w vs g2 hlen fun j hj => ?_
  have hj3 : j < vs.size := by omega
  exact RS.mono (fun l hl => absurd hl (by omega)) (Nat.zero_le _) (fun _ h => h) (fun _ _ => rfl) (g5 j _ _ (List.getElem?_eq_getElem hj) (by simp [Array.getD, hj3]))
end Go.Proofs.Ytkdolemhhihidaa

namespace Go.Proofs.Ytkdolemhhihidaa
open Go.RowKit
set_option maxRecDepth 100000

theorem fit_1 (a : Ask) (h : (fitA a).op = 1) : (fitA a).pol = 0 ∧ 0 ≤ (fitA a).n ∧ (fitA a).n ≤ 4611686018427387903 := by
  simp only [fitA] at h ⊢
  rw [h, if_neg (by omega), if_pos rfl]
  exact ⟨rfl, clampI_bd _⟩
set_option maxHeartbeats 8000000 in
theorem BookRate_holds (lT lA : Int) (script : List Ask) (fr to_ : Int) (hs : ∀ a ∈ script, a.ok) (b1 : lT ≤ 9223372036854775807) (b2 : lA ≤ 9223372036854775807) (b3 : fr ≤ 9223372036854775807) (b4 : to_ ≤ 9223372036854775807) : Pure TC 5 [.agg [.i .i64 lT, .i .i64 lA], .d (slOf 6 Ask.D script), .i .i64 fr, .i .i64 to_] (.b true) := by
  refine Pure.lens (.mk Try.func5 rfl rfl) fun hlen => ?_
  have ha := hlen script.length (by simp [lensOf, slOf])
  clear hlen
  obtain ⟨T, hT⟩ : ∃ T, T = clampI lT := ⟨_, rfl⟩
  obtain ⟨A, hA⟩ : ∃ A, A = clampI lA := ⟨_, rfl⟩
  obtain ⟨F, hF⟩ : ∃ F, F = clampI fr := ⟨_, rfl⟩
  obtain ⟨O, hO⟩ : ∃ O, O = clampI to_ := ⟨_, rfl⟩
  have c1 := r1_Clamp lT b1
  have c2 := r1_Clamp lA b2
  have c3 := r1_Clamp fr b3
  have c4 := r1_Clamp to_ b4
  have d1 := clampI_bd lT
  have d2 := clampI_bd lA
  have d3 := clampI_bd fr
  have d4 := clampI_bd to_
  rw [← hT] at c1 d1
  rw [← hA] at c2 d2
  rw [← hF] at c3 d3
  rw [← hO] at c4 d4
  clear hT hA hF hO
  have hT1 : 1 ≤ (if 1 > T then 1 else T) ∧ (if 1 > T then 1 else T) ≤ 4611686018427387903 := by split <;> omega
  have hN := newRate (T := (if 1 > T then 1 else T)) (tau := A) hT1 d2
  have hFO : (if O < F then O else F) ≤ (if O > F then O else F) := by split <;> split <;> omega
  have hF0 : 0 ≤ (if O < F then O else F) := by split <;> omega
  have hO1 : (if O > F then O else F) ≤ 4611686018427387903 := by split <;> omega
  have hW := rate_Within (if 1 > T then 1 else T) A ((if O > F then O else F) - (if O < F then O else F))
  have hlim : limE (if 1 > T then 1 else T) A = 0 := (limE_0 _ _).2 ⟨hT1, d2⟩
  have htick : tickB ((if O > F then O else F) - (if O < F then O else F)) = true := (tickB_iff _).2 (by omega)
  rw [show withinE (if 1 > T then 1 else T) A ((if O > F then O else F) - (if O < F then O else F)) = 0 from by rw [withinE, if_pos ⟨hlim, htick⟩], show withinI (if 1 > T then 1 else T) A ((if O > F then O else F) - (if O < F then O else F)) = ((if O > F then O else F) - (if O < F then O else F) + A) / (if 1 > T then 1 else T) + 1 from by rw [withinI, if_pos ⟨hlim, htick⟩]] at hW
  clear hlim htick
  refine Pure.mk' Try.func5 rfl rfl (Nat.le_of_ble_eq_true rfl) ?_
  (repeat' (first
    | with_reducible refine Wp.seq ?_
    | with_reducible refine Wp.block ?_
    | ((with_reducible refine Wp.region ?_); conv => whnf)
    | ((with_reducible refine Wp.drawL TC_mixed ?_); conv => whnf)
    | ((with_reducible refine Wp.cond ?_); conv => whnf)
    | ((with_reducible refine Wp.ret ?_); conv => whnf)
    | ((with_reducible refine Wp.skip ?_); conv => whnf)
    | ((with_reducible refine Wp.exit ?_); conv => whnf)
    | ((with_reducible refine Go.mk ?_); conv => whnf)
    | ((with_reducible apply Eff1.of); conv => whnf)
    | with_reducible exact rfl
    | ((with_reducible refine Ov.ok (by first | exact IntWalk.i64_in _ (by omega) | exact IntWalk.u64_in _ (by omega) | exact IntWalk.u8_in _ (by omega) | exact IntWalk.u32_in _ (by omega) | exact IntWalk.i32_in _ (by omega) | exact IntWalk.u16_in _ (by omega)) ?_); conv => whnf)
    | (with_reducible refine Ov.sh1 (by with_unfolding_all exact rfl) ?_)
    | ((with_reducible refine Ov.quo (by omega) (by omega) (by omega) (fun _ _ => ?_)); conv => whnf)
    | ((with_reducible refine And.intro (show drawOK _ _ _ _ = true by kernel_rfl) ?_); conv => whnf)
    | ((with_reducible refine And.intro (by first | omega | exact Nat.le_of_ble_eq_true rfl) ?_); conv => whnf)
    | ((with_reducible refine And.intro ?hb ?_); (case hb => exact bytes_bd (Nat.le_of_ble_eq_true rfl) (by omega)); (conv => whnf))
    | ((refine DApp.a rfl rfl rfl rfl rfl rfl ?hb ?_); (case hb => first | exact bytes_bd (Nat.le_of_ble_eq_true rfl) (by omega) | omega); (conv => whnf))
    | ((refine DApp.b rfl rfl rfl rfl rfl rfl rfl rfl ?hb ?ho ?_); (case hb => first | exact bytes_bd (Nat.le_of_ble_eq_true rfl) (by omega) | omega); (case ho => omega); (conv => whnf))
    | ((refine DApp.c rfl rfl rfl rfl rfl ?hb ?_); (case hb => first | exact bytes_bd (Nat.le_of_ble_eq_true rfl) (by omega) | omega); (conv => whnf))
    | ((refine DApp.d rfl rfl rfl rfl rfl rfl ?hb ?ho ?_); (case hb => first | exact bytes_bd (Nat.le_of_ble_eq_true rfl) (by omega) | omega); (case ho => omega); (conv => whnf))
    | ((with_reducible refine nil_no (by omega) ?_); (conv => whnf))
    | ((with_reducible refine nil_any ?_ (fun hn0 => ?_)) <;> (conv => whnf))
    | ((with_reducible refine CallStop.pure (awake) rfl rfl ?_); conv => whnf) | ((with_reducible refine DCall.pure (awake) rfl rfl ?_); conv => whnf)
    | ((with_reducible refine CallStop.pure (c1) rfl rfl ?_); conv => whnf) | ((with_reducible refine DCall.pure (c1) rfl rfl ?_); conv => whnf)
    | ((with_reducible refine CallStop.pure (c2) rfl rfl ?_); conv => whnf) | ((with_reducible refine DCall.pure (c2) rfl rfl ?_); conv => whnf)
    | ((with_reducible refine CallStop.pure (c3) rfl rfl ?_); conv => whnf) | ((with_reducible refine DCall.pure (c3) rfl rfl ?_); conv => whnf)
    | ((with_reducible refine CallStop.pure (c4) rfl rfl ?_); conv => whnf) | ((with_reducible refine DCall.pure (c4) rfl rfl ?_); conv => whnf)
    | (with_reducible refine CallStop.inline Try.func16 rfl rfl rfl (Nat.le_of_ble_eq_true rfl) ?_)
    | ((refine CallStop.frz (book_New (rateP (if 1 > T then 1 else T) A) 4096 hN).ent ?_); (conv => whnf); (repeat' ((with_reducible refine And.intro (by omega) ?_); (conv => whnf))); (refine CallStop.fn (book_New (rateP (if 1 > T then 1 else T) A) 4096 hN) [] rfl rfl rfl rfl rfl ?ha ?hh ?_); (case ha => ((conv => whnf); repeat' (first | exact trivial | exact ArgLe.rfl rfl | exact ArgLe.ptr rfl | exact ArgLe.sl rfl | ((with_reducible refine ArgLe.fn ?_); (conv => whnf)) | exact ArgLe.free SV.Le.nil rfl | ((with_reducible refine And.intro ?_ ?_) <;> (conv => whnf)) | ((refine ArgLe.free ?_ rfl); (repeat' (first | exact SV.Le.rfl _ | exact SV.Le.nil | exact SV.Le.sl (fun i hi => by (rcases i with _ | _ | _ | _ | i) <;> first | rfl | (exfalso; omega)) | with_reducible refine SV.Le.agg ?_ | exact Les.nil | with_reducible refine Les.cons ?_ ?_)))))); (case hh => ((conv => whnf); repeat' (first | exact trivial | exact ArgLe.rfl rfl | exact ArgLe.ptr rfl | exact ArgLe.sl rfl | ((with_reducible refine ArgLe.fn ?_); (conv => whnf)) | exact ArgLe.free SV.Le.nil rfl | exact ⟨rfl, rfl, rfl⟩ | exact fun i hi => rfl | exact (fun i hi => by (rcases i with _ | i) <;> first | rfl | (exfalso; omega)) | ((with_reducible refine And.intro ?_ ?_) <;> (conv => whnf))))); (conv => whnf))
    | ((with_reducible refine CallStop.pure (hW) rfl rfl ?_); conv => whnf) | ((with_reducible refine DCall.pure (hW) rfl rfl ?_); conv => whnf)
    | ((refine ways (fun hc => ?_) (fun hc => ?_)) <;> (try simp only [decide_eq_true_eq, decide_eq_false_iff_not, Bool.and_eq_true, Bool.or_eq_true, Bool.and_eq_false_iff, Bool.or_eq_false_iff, Bool.not_eq_true', Bool.not_eq_false', beq_iff_eq, bne_iff_ne, ne_eq, beq_eq_false_iff_ne, bne_eq_false_iff_eq, Bool.not_eq_true, Bool.not_eq_false] at hc) <;> (try (exfalso; omega)) <;> (conv => whnf))))
  clear c1 c2 c3 c4 hW hN
  generalize (if O < F then O else F) = F' at *
  generalize (if O > F then O else F) = O' at *
  generalize (if 1 > T then 1 else T) = T' at *
  have hQ := quo_bd (O' - F' + A) T' (by omega) hT1.1
  refine Wp.loopP (ι := Nat × Int × Int × List Cel) (fun k => k.1 ≤ script.length ∧ k.1 ≤ 150 ∧ BInv (rateP T' A) 4096 k.2.2.2 ∧ k.2.2.2.length ≤ k.1 ∧ (0 ≤ k.2.1 ∧ k.2.1 ≤ 4611686018427387903) ∧ (0 ≤ k.2.2.1 ∧ k.2.2.1 ≤ 9223372036854775807) ∧ Rate T' A F' O' k.2.2.2 k.2.1 k.2.2.1) (fun k => ⟨⟨Try.f5.ntmps, 0⟩, 2, [(2, .i .i64 F'), (3, .i .i64 O'), (10, .ptr 0 0), (12, .i .i64 k.2.2.1), (14, .i .i64 k.2.1), (62, .d (slOf 6 Ask.D script)), (63, .i .i64 script.length), (64, .i .i64 k.1)], bookH (rateP T' A) 4096 k.2.2.2⟩) (fun k => script.length - k.1) (0, 0, (O' - F' + A) / T' + 1, []) ⟨Nat.zero_le _, Nat.zero_le _, .nil (by omega) (by omega) (by simp [rateP]), Nat.le_refl _, by dsimp only; omega, by dsimp only; omega, Or.inl rfl⟩ ?_ ?_
  · (refine Le.by [11,12] rfl rfl rfl rfl ?_ ?_ <;> (conv => whnf) <;> (repeat' (first | exact trivial | exact ArgLe.rfl rfl | exact ArgLe.ptr rfl | exact ArgLe.sl rfl | ((with_reducible refine ArgLe.fn ?_); (conv => whnf)) | exact ⟨rfl, rfl, rfl⟩ | exact fun i hi => rfl | ((with_reducible refine And.intro ?_ ?_) <;> (conv => whnf)))))
  · rintro ⟨i, now, left, xs⟩ ⟨h1, h2, h3, h4, h5, h6, h7⟩
    dsimp only at h1 h2 h3 h4 h5 h6 h7 ⊢
    have hok := ask_at hs (i : Int).toNat
    have hp1 := fun h => fit_1 (script.getD (i : Int).toNat default) h
    obtain ⟨f, hf⟩ : ∃ f, f = fitA (script.getD (i : Int).toNat default) := ⟨_, rfl⟩
    have hop := fit_op _ hok
    have hB := fit_B hok
    have hnw : 0 ≤ (fitA (script.getD (i : Int).toNat default)).now ∧ (fitA (script.getD (i : Int).toNat default)).now ≤ 4611686018427387903 := clampI_bd _
    have hfit := law_fit (script.getD (i : Int).toNat default) hok.1.1 hok.1.2 hok.2.2.2.1.2 hok.2.2.2.2.1.2 hok.2.2.2.2.2.2
    rw [← hf] at hop hB hfit hnw hp1
    clear hf
    have hM : 0 ≤ (if f.now > now then f.now else now) ∧ (if f.now > now then f.now else now) ≤ 4611686018427387903 := by split <;> omega
    have r1 := h7.later (m := (if f.now > now then f.now else now)) (by split <;> omega)
    have r2 := r1.keep (op := f.op) (pol := f.pol) (key := f.key) (n := f.n) (serial := f.serial) h3 (by omega) rfl
    have r3 := r1.take (ps := rateP T' A) (op := f.op) (pol := f.pol) (key := f.key) (n := f.n) (serial := f.serial) h3 (by omega) rfl hT1.1 hFO h6.1
    have g1 := do_inv (op := f.op) (pol := f.pol) (key := f.key) (n := f.n) (now := (if f.now > now then f.now else now)) (serial := f.serial) h3 hB
    have g3 := do_len (op := f.op) (pol := f.pol) (key := f.key) (n := f.n) (now := (if f.now > now then f.now else now)) (serial := f.serial) h3
    (repeat' (first
    | with_reducible refine Wp.seq ?_
    | with_reducible refine Wp.block ?_
    | ((with_reducible refine Wp.region ?_); conv => whnf)
    | ((with_reducible refine Wp.drawL TC_mixed ?_); conv => whnf)
    | ((with_reducible refine Wp.cond ?_); conv => whnf)
    | ((with_reducible refine Wp.ret ?_); conv => whnf)
    | ((with_reducible refine Wp.skip ?_); conv => whnf)
    | ((with_reducible refine Wp.exit ?_); conv => whnf)
    | ((with_reducible refine Go.mk ?_); conv => whnf)
    | ((with_reducible apply Eff1.of); conv => whnf)
    | with_reducible exact rfl
    | ((with_reducible refine Ov.ok (by first | exact IntWalk.i64_in _ (by omega) | exact IntWalk.u64_in _ (by omega) | exact IntWalk.u8_in _ (by omega) | exact IntWalk.u32_in _ (by omega) | exact IntWalk.i32_in _ (by omega) | exact IntWalk.u16_in _ (by omega)) ?_); conv => whnf)
    | (with_reducible refine Ov.sh1 (by with_unfolding_all exact rfl) ?_)
    | ((with_reducible refine Ov.quo (by omega) (by omega) (by omega) (fun _ _ => ?_)); conv => whnf)
    | ((with_reducible refine And.intro (show drawOK _ _ _ _ = true by kernel_rfl) ?_); conv => whnf)
    | ((with_reducible refine And.intro (by first | omega | exact Nat.le_of_ble_eq_true rfl) ?_); conv => whnf)
    | ((with_reducible refine And.intro ?hb ?_); (case hb => exact bytes_bd (Nat.le_of_ble_eq_true rfl) (by omega)); (conv => whnf))
    | ((refine DApp.a rfl rfl rfl rfl rfl rfl ?hb ?_); (case hb => first | exact bytes_bd (Nat.le_of_ble_eq_true rfl) (by omega) | omega); (conv => whnf))
    | ((refine DApp.b rfl rfl rfl rfl rfl rfl rfl rfl ?hb ?ho ?_); (case hb => first | exact bytes_bd (Nat.le_of_ble_eq_true rfl) (by omega) | omega); (case ho => omega); (conv => whnf))
    | ((refine DApp.c rfl rfl rfl rfl rfl ?hb ?_); (case hb => first | exact bytes_bd (Nat.le_of_ble_eq_true rfl) (by omega) | omega); (conv => whnf))
    | ((refine DApp.d rfl rfl rfl rfl rfl rfl ?hb ?ho ?_); (case hb => first | exact bytes_bd (Nat.le_of_ble_eq_true rfl) (by omega) | omega); (case ho => omega); (conv => whnf))
    | ((with_reducible refine nil_no (by omega) ?_); (conv => whnf))
    | ((with_reducible refine nil_any ?_ (fun hn0 => ?_)) <;> (conv => whnf))
    | ((with_reducible refine CallStop.pure (hfit) rfl rfl ?_); conv => whnf) | ((with_reducible refine DCall.pure (hfit) rfl rfl ?_); conv => whnf)
    | ((refine CallStop.fn (book_Do (rateP T' A) 4096 xs f.op f.pol f.key f.n (if f.now > now then f.now else now) f.serial h3.ok hB) [0,1] rfl rfl rfl rfl rfl ?ha ?hh ?_); (case ha => ((conv => whnf); repeat' (first | exact trivial | exact ArgLe.rfl rfl | exact ArgLe.ptr rfl | exact ArgLe.sl rfl | ((with_reducible refine ArgLe.fn ?_); (conv => whnf)) | exact ArgLe.free SV.Le.nil rfl | ((with_reducible refine And.intro ?_ ?_) <;> (conv => whnf)) | ((refine ArgLe.free ?_ rfl); (repeat' (first | exact SV.Le.rfl _ | exact SV.Le.nil | exact SV.Le.sl (fun i hi => by (rcases i with _ | _ | _ | _ | i) <;> first | rfl | (exfalso; omega)) | with_reducible refine SV.Le.agg ?_ | exact Les.nil | with_reducible refine Les.cons ?_ ?_)))))); (case hh => ((conv => whnf); repeat' (first | exact trivial | exact ArgLe.rfl rfl | exact ArgLe.ptr rfl | exact ArgLe.sl rfl | ((with_reducible refine ArgLe.fn ?_); (conv => whnf)) | exact ArgLe.free SV.Le.nil rfl | exact ⟨rfl, rfl, rfl⟩ | exact fun i hi => rfl | exact (fun i hi => by (rcases i with _ | i) <;> first | rfl | (exfalso; omega)) | ((with_reducible refine And.intro ?_ ?_) <;> (conv => whnf))))); (conv => whnf))
    | ((refine DCall.fn (book_Do (rateP T' A) 4096 xs f.op f.pol f.key f.n (if f.now > now then f.now else now) f.serial h3.ok hB) [0,1] [0,1] rfl rfl rfl rfl rfl ?ha ?hh ?hs ?_); (case ha => ((conv => whnf); repeat' (first | exact trivial | exact ArgLe.rfl rfl | exact ArgLe.ptr rfl | exact ArgLe.sl rfl | ((with_reducible refine ArgLe.fn ?_); (conv => whnf)) | exact ArgLe.free SV.Le.nil rfl | ((with_reducible refine And.intro ?_ ?_) <;> (conv => whnf)) | ((refine ArgLe.free ?_ rfl); (repeat' (first | exact SV.Le.rfl _ | exact SV.Le.nil | exact SV.Le.sl (fun i hi => by (rcases i with _ | _ | _ | _ | i) <;> first | rfl | (exfalso; omega)) | with_reducible refine SV.Le.agg ?_ | exact Les.nil | with_reducible refine Les.cons ?_ ?_)))))); (case hh => ((conv => whnf); repeat' (first | exact trivial | exact ArgLe.rfl rfl | exact ArgLe.ptr rfl | exact ArgLe.sl rfl | ((with_reducible refine ArgLe.fn ?_); (conv => whnf)) | exact ArgLe.free SV.Le.nil rfl | exact ⟨rfl, rfl, rfl⟩ | exact fun i hi => rfl | exact (fun i hi => by (rcases i with _ | i) <;> first | rfl | (exfalso; omega)) | ((with_reducible refine And.intro ?_ ?_) <;> (conv => whnf))))); (case hs => (conv => whnf); repeat' (first | exact trivial | ((refine And.intro rfl ?_); (conv => whnf)))); (conv => whnf)) | ((refine DCall.new (book_Do (rateP T' A) 4096 xs f.op f.pol f.key f.n (if f.now > now then f.now else now) f.serial h3.ok hB) [0,1] [0,1] rfl rfl rfl rfl rfl rfl ?ha ?hh ?hs ?_); (case ha => ((conv => whnf); repeat' (first | exact trivial | exact ArgLe.rfl rfl | exact ArgLe.ptr rfl | exact ArgLe.sl rfl | ((with_reducible refine ArgLe.fn ?_); (conv => whnf)) | exact ArgLe.free SV.Le.nil rfl | ((with_reducible refine And.intro ?_ ?_) <;> (conv => whnf)) | ((refine ArgLe.free ?_ rfl); (repeat' (first | exact SV.Le.rfl _ | exact SV.Le.nil | exact SV.Le.sl (fun i hi => by (rcases i with _ | _ | _ | _ | i) <;> first | rfl | (exfalso; omega)) | with_reducible refine SV.Le.agg ?_ | exact Les.nil | with_reducible refine Les.cons ?_ ?_)))))); (case hh => ((conv => whnf); repeat' (first | exact trivial | exact ArgLe.rfl rfl | exact ArgLe.ptr rfl | exact ArgLe.sl rfl | ((with_reducible refine ArgLe.fn ?_); (conv => whnf)) | exact ArgLe.free SV.Le.nil rfl | exact ⟨rfl, rfl, rfl⟩ | exact fun i hi => rfl | exact (fun i hi => by (rcases i with _ | i) <;> first | rfl | (exfalso; omega)) | ((with_reducible refine And.intro ?_ ?_) <;> (conv => whnf))))); (case hs => (conv => whnf); repeat' (first | exact trivial | ((refine And.intro rfl ?_); (conv => whnf)))); (conv => whnf))
    | ((refine DCall.fn (book_Do (rateP T' A) 4096 xs f.op f.pol f.key f.n (if f.now > now then f.now else now) f.serial h3.ok hB) [0,1] [] rfl rfl rfl rfl rfl ?ha ?hh ?hs ?_); (case ha => ((conv => whnf); repeat' (first | exact trivial | exact ArgLe.rfl rfl | exact ArgLe.ptr rfl | exact ArgLe.sl rfl | ((with_reducible refine ArgLe.fn ?_); (conv => whnf)) | exact ArgLe.free SV.Le.nil rfl | ((with_reducible refine And.intro ?_ ?_) <;> (conv => whnf)) | ((refine ArgLe.free ?_ rfl); (repeat' (first | exact SV.Le.rfl _ | exact SV.Le.nil | exact SV.Le.sl (fun i hi => by (rcases i with _ | _ | _ | _ | i) <;> first | rfl | (exfalso; omega)) | with_reducible refine SV.Le.agg ?_ | exact Les.nil | with_reducible refine Les.cons ?_ ?_)))))); (case hh => ((conv => whnf); repeat' (first | exact trivial | exact ArgLe.rfl rfl | exact ArgLe.ptr rfl | exact ArgLe.sl rfl | ((with_reducible refine ArgLe.fn ?_); (conv => whnf)) | exact ArgLe.free SV.Le.nil rfl | exact ⟨rfl, rfl, rfl⟩ | exact fun i hi => rfl | exact (fun i hi => by (rcases i with _ | i) <;> first | rfl | (exfalso; omega)) | ((with_reducible refine And.intro ?_ ?_) <;> (conv => whnf))))); (case hs => (conv => whnf); repeat' (first | exact trivial | ((refine And.intro rfl ?_); (conv => whnf)))); (conv => whnf)) | ((refine DCall.new (book_Do (rateP T' A) 4096 xs f.op f.pol f.key f.n (if f.now > now then f.now else now) f.serial h3.ok hB) [0,1] [] rfl rfl rfl rfl rfl rfl ?ha ?hh ?hs ?_); (case ha => ((conv => whnf); repeat' (first | exact trivial | exact ArgLe.rfl rfl | exact ArgLe.ptr rfl | exact ArgLe.sl rfl | ((with_reducible refine ArgLe.fn ?_); (conv => whnf)) | exact ArgLe.free SV.Le.nil rfl | ((with_reducible refine And.intro ?_ ?_) <;> (conv => whnf)) | ((refine ArgLe.free ?_ rfl); (repeat' (first | exact SV.Le.rfl _ | exact SV.Le.nil | exact SV.Le.sl (fun i hi => by (rcases i with _ | _ | _ | _ | i) <;> first | rfl | (exfalso; omega)) | with_reducible refine SV.Le.agg ?_ | exact Les.nil | with_reducible refine Les.cons ?_ ?_)))))); (case hh => ((conv => whnf); repeat' (first | exact trivial | exact ArgLe.rfl rfl | exact ArgLe.ptr rfl | exact ArgLe.sl rfl | ((with_reducible refine ArgLe.fn ?_); (conv => whnf)) | exact ArgLe.free SV.Le.nil rfl | exact ⟨rfl, rfl, rfl⟩ | exact fun i hi => rfl | exact (fun i hi => by (rcases i with _ | i) <;> first | rfl | (exfalso; omega)) | ((with_reducible refine And.intro ?_ ?_) <;> (conv => whnf))))); (case hs => (conv => whnf); repeat' (first | exact trivial | ((refine And.intro rfl ?_); (conv => whnf)))); (conv => whnf))
    | ((refine ways (fun hc => ?_) (fun hc => ?_)) <;> (try simp only [decide_eq_true_eq, decide_eq_false_iff_not, Bool.and_eq_true, Bool.or_eq_true, Bool.and_eq_false_iff, Bool.or_eq_false_iff, Bool.not_eq_true', Bool.not_eq_false', beq_iff_eq, bne_iff_ne, ne_eq, beq_eq_false_iff_ne, bne_eq_false_iff_eq, Bool.not_eq_true, Bool.not_eq_false] at hc) <;> (try (exfalso; omega)) <;> (conv => whnf))))
    · exact .b rfl
    · exfalso
      have hk : f.key = [97] := key1 (by omega) (by assumption)
      have := (r3 (by omega) (hp1 (by omega)).1 hk (hp1 (by omega)).2.1 (by assumption) (by omega) (by omega)).1
      omega
    · have hk : f.key = [97] := key1 (by omega) (by assumption)
      have hp2 := hp1 (by omega)
      have r4 := r3 (by omega) hp2.1 hk hp2.2.1 (by assumption) (by omega) (by omega)
      refine ⟨(i + 1, (if f.now > now then f.now else now), left - f.n, (doS (rateP T' A) 4096 xs f.op f.pol f.key f.n (if f.now > now then f.now else now) f.serial).2), ⟨by dsimp only; omega, by dsimp only; omega, g1, by dsimp only; omega, hM, by dsimp only; omega, r4.2⟩, by dsimp only; omega, ?_⟩; (refine Le.by [0,3] rfl rfl rfl rfl ?_ ?_ <;> (conv => whnf) <;> (repeat' (first | exact trivial | exact ArgLe.rfl rfl | exact ArgLe.ptr rfl | exact ArgLe.sl rfl | ((with_reducible refine ArgLe.fn ?_); (conv => whnf)) | exact ⟨rfl, rfl, rfl⟩ | exact fun i hi => rfl | ((with_reducible refine And.intro ?_ ?_) <;> (conv => whnf)))))
    all_goals first
      | exact .b rfl
      | (refine ⟨(i + 1, (if f.now > now then f.now else now), left, (doS (rateP T' A) 4096 xs f.op f.pol f.key f.n (if f.now > now then f.now else now) f.serial).2), ⟨by dsimp only; omega, by dsimp only; omega, g1, by dsimp only; omega, hM, h6, r2⟩, by dsimp only; omega, ?_⟩; (refine Le.by [0,3] rfl rfl rfl rfl ?_ ?_ <;> (conv => whnf) <;> (repeat' (first | exact trivial | exact ArgLe.rfl rfl | exact ArgLe.ptr rfl | exact ArgLe.sl rfl | ((with_reducible refine ArgLe.fn ?_); (conv => whnf)) | exact ⟨rfl, rfl, rfl⟩ | exact fun i hi => rfl | ((with_reducible refine And.intro ?_ ?_) <;> (conv => whnf))))))
end Go.Proofs.Ytkdolemhhihidaa
