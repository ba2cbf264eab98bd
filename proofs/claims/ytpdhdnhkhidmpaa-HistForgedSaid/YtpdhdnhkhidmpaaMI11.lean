/- Lemmas of Hh1, Pl5, Pl6, Hh2, Hh3, Hh5, Br14, Sx39, Pl8a, Hh4. No condition. -/
import Derived.Test.YtpdhdnhkhidmpaaMI10
set_option linter.unusedVariables false
set_option linter.unusedSimpArgs false
set_option maxHeartbeats 80000000
set_option maxRecDepth 100000
namespace Go.Proofs.Ytpdhdnhkhidmpaa
open Go.RowKit
namespace Hist
theorem k0 {a b : List HD} {k : Nat} (h : k < a.length) : (a ++ b).getD k default = a.getD k default := by
  rw [Q1, Q1, Q11 h]
def Good (ps : List Pol) (spare : Int) (g : List HD) : Prop := ∀ k, k < g.length → jN ps spare (g.take k) (g.getD k default) = true
theorem Good.nil (ps : List Pol) (spare : Int) : Good ps spare [] := fun k hk => absurd hk (Nat.not_lt_zero k)
theorem Good.snoc {ps : List Pol} {spare : Int} {g : List HD} (h : Good ps spare g) {d : HD} (hd : jN ps spare g d = true) : Good ps spare (g ++ [d]) := by
  intro k hk
  rw [Q9, List.length_singleton] at hk
  by_cases e : k < g.length
  · rw [List.take_append_of_le_length (by omega), k0 e]
    exact h k e
  · obtain rfl : k = g.length := by omega
    rw [List.take_left]
    simpa [Q1] using hd
theorem Good.pre {ps : List Pol} {spare : Int} {a b : List HD} (h : Good ps spare (a ++ b)) : Good ps spare a := by
  intro k hk
  have := h k (by rw [Q9]; omega)
  rwa [List.take_append_of_le_length (by omega), k0 hk] at this
theorem Good.at_ {ps : List Pol} {spare : Int} {a b : List HD} {d : HD} (h : Good ps spare (a ++ d :: b)) : jN ps spare a d = true := by
  have := h a.length (by rw [Q9, List.length_cons]; omega)
  rw [List.take_left] at this
  simpa [Q1] using this
theorem bit_off : ∀ left : Nat, left < 256 → ∀ i : Nat, i < 8 → left.testBit i = true → ∀ j : Nat, j < 8 → (left - 2 ^ i).testBit j = (left.testBit j && !decide (j = i)) := by decide +kernel
theorem nU {left j : Nat} (h : left < 256) (hj : left.testBit j = true) : j < 8 := by
  refine Classical.byContradiction fun h8 => ?_
  have h1 : left < 2 ^ j := Nat.lt_of_lt_of_le h (Q16 (show 0 < 2 by decide) (show 8 ≤ j by omega))
  rw [Nat.testBit_lt_two_pow h1] at hj
  cases hj
theorem bit_no : ∀ left : Nat, left < 256 → (∀ j : Nat, j < 8 → left.testBit j = false) → left = 0 := by decide +kernel
theorem iB {left i : Nat} (h : left < 256) (hi : left.testBit i = true) (j : Nat) : (left - 2 ^ i).testBit j = true ↔ left.testBit j = true ∧ j ≠ i := by
  have hi8 := nU h hi
  by_cases hj : j < 8
  · rw [bit_off left h i hi8 hi j hj]; simp
  · constructor
    · intro h9
      exact absurd (nU (Nat.lt_of_le_of_lt (Nat.sub_le _ _) h) h9) hj
    · intro h9
      exact absurd (nU h h9.1) hj
theorem mD {ps : List Pol} {l : List HD} {spare : Int} : ∀ (is : List Nat) (left : Nat) (done : List HD), left < 256 → is.Nodup → (∀ j, j ∈ is ↔ left.testBit j = true) → (∀ j ∈ is, j < l.length) →
    is.Pairwise (fun a b => (l.getD a default).first ≤ (l.getD b default).last) → (∀ j ∈ is, (l.getD j default).first ≤ (l.getD j default).last) →
    (∀ k, k < is.length → jN ps spare (done ++ (is.take k).map fun i => l.getD i default) (l.getD (is.getD k default) default) = true) → srch ps l spare is.length left done = true
  | [], left, done, h1, _, h3, _, _, _, _ => by
    have : left = 0 := bit_no left h1 fun j _ => by
      cases hb : left.testBit j with
      | false => rfl
      | true => have := (h3 j).2 hb; cases this
    subst this; rfl
  | i :: is, left, done, h1, h2, h3, h4, h5, h6, h7 => by
    obtain ⟨hni, hnd⟩ := List.nodup_cons.1 h2
    obtain ⟨hp1, hp2⟩ := List.pairwise_cons.1 h5
    have hi : left.testBit i = true := (h3 i).1 (List.mem_cons_self ..)
    refine kA (i := i) (h4 i (List.mem_cons_self ..)) ?_ ?_
    · have ht := qm (ps := ps) (spare := spare) (done := done) hi fun j (_ : j < l.length) => (show ¬ (left.testBit j = true ∧ (l.getD j default).last < (l.getD i default).first) from fun ⟨hb, hlt⟩ => by
        rcases Q22 ((h3 j).2 hb) with rfl | hm
        · have := h6 j (List.mem_cons_self ..); omega
        · have := hp1 j hm; omega)
      rw [ht]
      have := h7 0 (by simp)
      simpa using this
    · refine mD is (left - 2 ^ i) _ (Nat.lt_of_le_of_lt (Nat.sub_le _ _) h1) hnd (fun j => ?_) (fun j hj => h4 j (List.mem_cons_of_mem _ hj)) hp2 (fun j hj => h6 j (List.mem_cons_of_mem _ hj)) fun k hk => ?_
      · rw [iB h1 hi, ← h3 j]
        constructor
        · intro hj; exact ⟨List.mem_cons_of_mem _ hj, fun e => hni (e ▸ hj)⟩
        · rintro ⟨hj, hne⟩
          rcases Q22 hj with rfl | hj
          · exact absurd rfl hne
          · exact hj
      · have := h7 (k + 1) (by simp only [List.length_cons]; omega)
        rw [List.take_succ_cons, List.map_cons] at this
        simpa using this
theorem srch_ex {ps : List Pol} {l : List HD} {spare : Int} : ∀ (f left : Nat) (done : List HD), left < 256 → (∀ j, left.testBit j = true → j < l.length) → Good ps spare done → srch ps l spare f left done = true →
    ∃ is : List Nat, is.Nodup ∧ (∀ j, j ∈ is ↔ left.testBit j = true) ∧ Good ps spare (done ++ is.map fun i => l.getD i default) := by
  have h0 : ∀ (left : Nat) (done : List HD), (left == 0) = true → Good ps spare done → ∃ is : List Nat, is.Nodup ∧ (∀ j, j ∈ is ↔ left.testBit j = true) ∧ Good ps spare (done ++ is.map fun i => l.getD i default) := fun left done h hg => by
    have : left = 0 := by simpa using h
    subst this
    exact ⟨[], .nil, fun j => by simp, by simpa using hg⟩
  intro f
  induction f with
  | zero => intro left done h1 h2 hg hs; exact h0 left done hs hg
  | succ f ih =>
    intro left done h1 h2 hg hs
    unfold srch at hs
    rw [Q20] at hs
    rcases hs with hs | hs
    · exact h0 left done hs hg
    · rw [List.any_eq_true] at hs
      obtain ⟨i, hi, hs⟩ := hs
      rw [Q5] at hs
      obtain ⟨ht, hs⟩ := hs
      unfold lI at ht
      rw [Q5, Q5] at ht
      obtain ⟨⟨hb, _⟩, hr⟩ := ht
      obtain ⟨is, n1, n2, n3⟩ := ih (left - 2 ^ i) (done ++ [l.getD i default]) (Nat.lt_of_le_of_lt (Nat.sub_le _ _) h1) (fun j hj => h2 j ((iB h1 hb j).1 hj).1) (hg.snoc hr) hs
      refine ⟨i :: is, List.nodup_cons.2 ⟨fun hm => ((iB h1 hb i).1 ((n2 i).1 hm)).2 rfl, n1⟩, fun j => ?_, by rw [List.map_cons]; simpa using n3⟩
      rw [List.mem_cons, n2, iB h1 hb]
      constructor
      · rintro (rfl | h)
        · exact hb
        · exact h.1
      · intro h
        by_cases e : j = i
        · exact .inl e
        · exact .inr ⟨h, e⟩
theorem perm_of {a b : List Nat} (ha : a.Nodup) (hb : b.Nodup) (h : ∀ j, j ∈ a ↔ j ∈ b) : a.Perm b := by
  rw [List.perm_iff_count]
  intro j
  rw [ha.count, hb.count]
  by_cases hj : j ∈ b
  · rw [if_pos hj, if_pos ((h j).2 hj)]
  · rw [if_neg hj, if_neg (fun e => hj ((h j).1 e))]
theorem fx {α : Type} (d : α) (l : List α) : (List.range l.length).map (fun i => l.getD i d) = l := by
  refine List.ext_getElem (by simp) fun i h1 h2 => ?_
  simp [Q1, Q0 h2]
theorem pD {α : Type} (d : α) {g g' : List α} (h : g.Perm g') : ∃ is : List Nat, is.Perm (List.range g'.length) ∧ is.map (fun i => g'.getD i d) = g := by
  induction h with
  | nil => exact ⟨[], .nil, rfl⟩
  | @cons x l₁ l₂ _ ih =>
    obtain ⟨is, h1, h2⟩ := ih
    refine ⟨0 :: is.map (· + 1), ?_, ?_⟩
    · rw [List.length_cons, List.range_succ_eq_map]
      exact (h1.map Nat.succ).cons 0
    · rw [List.map_cons, List.map_map, ← h2]
      rfl
  | swap x y l =>
    refine ⟨1 :: 0 :: ((List.range l.length).map (· + 1)).map (· + 1), ?_, ?_⟩
    · rw [List.length_cons, List.length_cons, List.range_succ_eq_map, List.range_succ_eq_map, List.map_cons]
      exact .swap ..
    · rw [List.map_cons, List.map_cons, List.map_map, List.map_map]
      exact congrArg (fun z => y :: x :: z) (fx d l)
  | @trans a b c _ _ ih1 ih2 =>
    obtain ⟨is1, p1, q1⟩ := ih1
    obtain ⟨is2, p2, q2⟩ := ih2
    have hlen : is2.length = b.length := by rw [← q2, List.length_map]
    refine ⟨is1.map fun i => is2.getD i 0, ?_, ?_⟩
    · refine ((p1.map fun i => is2.getD i 0).trans ?_).trans p2
      rw [← hlen, fx]
    · rw [List.map_map, ← q1]
      refine List.map_congr_left fun i hi => ?_
      have hi2 : i < is2.length := by rw [hlen]; exact List.mem_range.1 (p1.mem_iff.1 hi)
      show c.getD (is2.getD i 0) d = b.getD i d
      rw [← q2]
      simp [Q1, Q0 hi2]
theorem all_ex {ps : List Pol} {g : List HD} (h8 : g.length ≤ 8) (h : qK ps g = true) : ∃ o : List HD, o.Perm g ∧ Good ps (spI g) o := by
  unfold qK at h
  have hlt : 2 ^ g.length - 1 < 256 := (i6 _ h8).2.2
  obtain ⟨is, n1, n2, n3⟩ := srch_ex g.length (2 ^ g.length - 1) [] hlt (fun j hj => by rw [Nat.testBit_two_pow_sub_one] at hj; exact of_decide_eq_true hj) (.nil _ _) h
  refine ⟨_, ?_, n3⟩
  rw [List.nil_append]
  have hp : is.Perm (List.range g.length) := perm_of n1 List.nodup_range fun j => by rw [n2, Nat.testBit_two_pow_sub_one, List.mem_range, decide_eq_true_iff]
  have := hp.map fun i => g.getD i default
  rwa [fx] at this
theorem lH {g g' : List HD} (h : g.Perm g') (n : Int) : aR g n = aR g' n := by
  rw [Bool.eq_iff_iff]
  unfold aR
  rw [List.any_eq_true, List.any_eq_true]
  exact ⟨fun ⟨d, h1, h2⟩ => ⟨d, h.mem_iff.1 h1, h2⟩, fun ⟨d, h1, h2⟩ => ⟨d, h.mem_iff.2 h1, h2⟩⟩
theorem spI_ok (l : List HD) (h : l.length ≤ 4096) : aR l (spI l) = false ∧ 1 ≤ spI l ∧ spI l ≤ 4611686018427387903 := by
  obtain ⟨h1, h2, h3⟩ := mE l (mu l 4611686018427387903) 4611686018427387903 (Q4 _)
  have := mu_le l 4611686018427387903
  exact ⟨h1, by show 1 ≤ spF l _ _; omega, h3⟩
theorem all_of {ps : List Pol} {g g' : List HD} (hp : g.Perm g') (h8 : g.length ≤ 8) (hT : g.Pairwise fun a b => a.first ≤ b.last) (hS : ∀ d ∈ g, d.first ≤ d.last)
    (hG : ∀ spare, 1 ≤ spare → spare ≤ 4611686018427387903 → aR g spare = false → Good ps spare g) : qK ps g' = true := by
  obtain ⟨is, p1, p2⟩ := pD default hp
  have h8' : g'.length ≤ 8 := by rw [← hp.length_eq]; exact h8
  have hlen : is.length = g'.length := by rw [p1.length_eq, List.length_range]
  obtain ⟨u1, u2, u3⟩ := spI_ok g' (by omega)
  have hg := hG (spI g') u2 u3 (by rw [lH hp]; exact u1)
  have hlt : 2 ^ g'.length - 1 < 256 := (i6 _ h8').2.2
  unfold qK
  rw [← hlen]
  refine mD is _ [] (by rw [hlen]; exact hlt) (p1.nodup_iff.2 List.nodup_range) (fun j => by rw [p1.mem_iff, hlen, Nat.testBit_two_pow_sub_one, List.mem_range, decide_eq_true_iff]) (fun j hj => List.mem_range.1 (p1.mem_iff.1 hj)) ?_ (fun j hj => ?_) fun k hk => ?_
  · rw [← p2, List.pairwise_map] at hT; exact hT
  · exact hS _ (by rw [← p2]; exact List.mem_map_of_mem hj)
  · have := hg k (by rw [← p2, List.length_map]; exact hk)
    rw [← p2, ← List.map_take] at this
    rw [List.nil_append]
    simpa [Q1, Q0 hk] using this
end Hist
section
section
variable {ps : List Pol} {room : Int} {xs : List Cel} {op pol : Int} {key : List Int} {n now serial : Int}
theorem dec_g {T tau tat now n : Int} (h : (fS T tau tat now n).g = true) : iJ T tau [tat, now, n] = 0 ∧ n ≤ bj T tau tat now ∧ (fS T tau tat now n).tat = pp T tau tat now n := by
  unfold fS at h ⊢
  split at h
  · rename_i h0
    rw [if_pos h0]
    exact ⟨h0, by simpa [decI] using h, rfl⟩
  · cases h
theorem one_tat {p : Pol} {c : Cel} (hg : (dj p c op n now serial).1.g = true) : c.tat ≤ (dj p c op n now serial).2.tat := by
  unfold dj at hg ⊢
  by_cases h1 : op = 1
  · rw [if_pos h1] at hg ⊢
    obtain ⟨h0, h2, h3⟩ := dec_g hg
    show c.tat ≤ (fS p.T p.tau c.tat now n).tat
    rw [h3]
    obtain ⟨⟨a1, a2⟩, _⟩ := (gF _ _ _ _ _).1 h0
    unfold pp
    split
    · rename_i h5
      have : 0 ≤ n * p.T := Int.mul_nonneg (by omega) (by omega)
      omega
    · omega
  · rw [if_neg h1] at hg ⊢
    split
    · unfold iE; split <;> exact Int.le_refl _
    · unfold iI; split <;> exact Int.le_refl _
end
end
section
def iG (p : Pol) (c : Cel) : Prop := if p.kind = 2 then c.tat = 0 else c.held = [] ∧ 0 ≤ c.tat
section
variable {ps : List Pol} {room : Int} {xs ys : List Cel} {op pol : Int} {key : List Int} {n now serial : Int}
theorem i7 {T tau tat now : Int} (h1 : tat ≤ now) (h2 : 0 ≤ now) : bj T tau tat now = bj T tau 0 now := by
  unfold bj
  rw [show max tat now = now by omega, show max (0 : Int) now = now by omega]
theorem mr : bU 0 = true := (bv 0).2 ⟨by omega, by omega⟩
theorem lv {T tau tat now n : Int} (h0 : 0 ≤ tat) (h1 : tat ≤ now) (h3 : now ≤ 4611686018427387903) : iJ T tau [tat, now, n] = iJ T tau [0, now, n] ∧ iJ T tau [tat, now] = iJ T tau [0, now] := by
  have : bU tat = true := (bv _).2 ⟨h0, by omega⟩
  unfold iJ
  simp only [List.all_cons, this, mr, Bool.true_and]
  exact ⟨trivial, trivial⟩
theorem iN {T tau tat now n : Int} (hT : 1 ≤ T) (ht : 0 ≤ tau) (h1 : tat ≤ now) (hn : ¬ n ≤ bj T tau tat now) : jQ T tau tat now n = 4611686018427387903 := by
  unfold jQ
  rw [if_neg]
  rintro ⟨a, b⟩
  refine hn ?_
  unfold bj
  rw [show max tat now = now by omega] at b ⊢
  have : n - 1 ≤ tau / T := (Int.le_ediv_iff_mul_le (show 0 < T by omega)).2 a
  rw [if_neg (by omega), show tau - (now - now) = tau by omega]
  omega
theorem p8 {T tau tat now n : Int} (h0 : 0 ≤ tat) (h1 : tat ≤ now) (h3 : now ≤ 4611686018427387903) :
    (fS T tau tat now n).g = (fS T tau 0 now n).g ∧ (fS T tau tat now n).wait = (fS T tau 0 now n).wait ∧ (fS T tau tat now n).left = (fS T tau 0 now n).left ∧ ((fS T tau tat now n).g = true → n ≠ 0 → (fS T tau tat now n).tat = (fS T tau 0 now n).tat) := by
  have hl : bj T tau tat now = bj T tau 0 now := i7 h1 (by omega)
  have hc := (lv (T := T) (tau := tau) (n := n) h0 h1 h3).1
  unfold fS
  rw [hc]
  split
  · rename_i h9
    obtain ⟨⟨a1, a2⟩, _, _, a5⟩ := (gF _ _ _ _ _).1 h9
    unfold decI
    simp only [hl]
    have hm : max tat now = max 0 now := by omega
    refine ⟨trivial, ?_, ?_, ?_⟩
    · split
      · rfl
      · rename_i hn
        rw [iN a1.1 a2.1 h1 (by rw [hl]; exact hn), iN a1.1 a2.1 (by omega) hn]
    · unfold pp
      rw [hl, hm]
      split
      · rfl
      · exact hl
    · intro hg hn
      unfold pp
      rw [hl, hm, if_pos ⟨by simpa using hg, by omega⟩, if_pos ⟨by simpa using hg, by omega⟩]
  · exact ⟨rfl, rfl, rfl, fun _ _ => rfl⟩
theorem na (hE : bJ ps op pol key n now serial = 0) : (op = 1 → (ps.getD pol.toNat default).kind = 1) ∧ (op = 2 ∨ op = 3 → (ps.getD pol.toNat default).kind = 2) := by
  obtain ⟨_, _, _, _, _, _, _, h⟩ := fP hE
  unfold ja at h
  constructor
  · intro h1
    subst h1
    simpa using h
  · intro h1
    have := h (by split <;> omega)
    rw [this]
    split
    · omega
    · rfl
theorem ji {c : Cel} (hcl : iG (ps.getD c.pol.toNat default) c) (hid : idn c = pol :: key) (hi : aN ps c now = true) (hop : op < 5) : aF ps (some c) op pol key n now serial = aF ps none op pol key n now serial := by
  unfold aF
  split
  · rfl
  · rename_i hE
    have hE : bJ ps op pol key n now serial = 0 := Classical.byContradiction hE
    obtain ⟨k1, k2⟩ := na hE
    obtain ⟨hnow, hop1, _⟩ := fP hE
    have e1 : c.pol = pol ∧ c.key = key := by simpa [idn] using hid
    rw [e1.1] at hcl
    unfold aN at hi
    rw [e1.1] at hi
    unfold iG at hcl
    by_cases hk : (ps.getD pol.toNat default).kind = 2
    · rw [if_pos hk] at hcl hi
      have hh : c.held = [] := by
        have : c.held.length = 0 := by simpa using hi
        exact List.length_eq_zero_iff.1 this
      have : c = aw pol key := by
        cases c with | mk a b d e =>
        simp only at hcl hh e1
        rw [e1.1, e1.2, hcl, hh]; rfl
      rw [this]; rfl
    · rw [if_neg hk] at hcl hi
      have hi : c.tat ≤ now := by simpa using hi
      have hop2 : op = 1 ∨ op = 4 := by
        have : ¬ (op = 2 ∨ op = 3) := fun h => hk (k2 h)
        revert this hop hop1
        generalize op = o
        omega
      unfold bB
      simp only [Option.getD_some, Option.getD_none]
      rcases hop2 with h1 | h1
      · have h4 : ¬ op = 4 := by omega
        rw [if_neg h4, if_neg h4, b8 h1, b8 h1]
        obtain ⟨d1, d2, d3, d4⟩ := p8 (T := (ps.getD pol.toNat default).T) (tau := (ps.getD pol.toNat default).tau) (n := n) hcl.2 hi hnow.2
        have hR : gL (ps.getD pol.toNat default) c now n = gL (ps.getD pol.toNat default) (aw pol key) now n := by
          unfold gL
          simp only [aw, d1, d2, d3]
        simp only [hR]
        split
        · rfl
        · rename_i h9
          have hg : (fS (ps.getD pol.toNat default).T (ps.getD pol.toNat default).tau 0 now n).g = true := by
            cases h : (fS (ps.getD pol.toNat default).T (ps.getD pol.toNat default).tau 0 now n).g with
            | true => rfl
            | false => exact absurd (Or.inl h) h9
          have hn : n ≠ 0 := fun h => h9 (Or.inr ⟨h1, h⟩)
          have hC : cR (ps.getD pol.toNat default) c now n = cR (ps.getD pol.toNat default) (aw pol key) now n := by
            unfold cR
            simp only [aw, e1.1, e1.2, hcl.1, d4 (by rw [d1]; exact hg) hn]
          rw [hC]
      · rw [if_pos h1, if_pos h1]
        refine Prod.ext ?_ rfl
        show dV _ _ _ = dV _ _ _
        unfold dV
        rw [if_neg hk, if_neg hk]
        have e2 := (lv (T := (ps.getD pol.toNat default).T) (tau := (ps.getD pol.toNat default).tau) (n := n) hcl.2 hi hnow.2).2
        have e3 : bj (ps.getD pol.toNat default).T (ps.getD pol.toNat default).tau c.tat now = bj (ps.getD pol.toNat default).T (ps.getD pol.toNat default).tau 0 now := i7 hi hnow.1
        have e4 : jS c.tat now = jS 0 now := by
          unfold jS
          rw [show max (c.tat - now) 0 = 0 by omega, show max (0 - now) 0 = 0 by omega]
          split <;> split <;> rfl
        simp only [aw, e2, e3, e4]
        rfl
theorem gh {o : Option Cel} {c : Cel} (ho : ∀ d, o = some d → iG (ps.getD d.pol.toNat default) d ∧ idn d = pol :: key) (hop : op < 5) (h : (aF ps o op pol key n now serial).2 = some c) : iG (ps.getD c.pol.toNat default) c ∧ idn c = pol :: key := by
  unfold aF at h
  split at h
  · cases h
  · rename_i hE
    have hE : bJ ps op pol key n now serial = 0 := Classical.byContradiction hE
    have hid : idn c = pol :: key := iy (fun d hd => (ho d hd).2) h
    refine ⟨?_, hid⟩
    obtain ⟨k1, k2⟩ := na hE
    obtain ⟨hnow, hop1, _⟩ := fP hE
    have e1 : c.pol = pol ∧ c.key = key := by simpa [idn] using hid
    rw [e1.1]
    have hb : iG (ps.getD pol.toNat default) (o.getD (aw pol key)) := by
      cases o with
      | none =>
        unfold iG
        split
        · rfl
        · exact ⟨rfl, Int.le_refl _⟩
      | some d =>
        obtain ⟨h1, h2⟩ := ho d rfl
        have : d.pol = pol := by simp only [idn, List.cons.injEq] at h2; exact h2.1
        rw [this] at h1; exact h1
    unfold bB at h
    generalize o.getD (aw pol key) = b at hb h
    split at h
    · cases h
    · split at h
      · cases h
      · rename_i h4 h9
        simp only [Option.some.injEq] at h
        rw [← h]
        unfold iG at hb ⊢
        by_cases h1 : op = 1
        · have hk := k1 h1
          rw [if_neg (by omega)] at hb ⊢
          have hg : (dj (ps.getD pol.toNat default) b op n now serial).1.g = true := by
            cases hg : (dj (ps.getD pol.toNat default) b op n now serial).1.g with
            | true => rfl
            | false => exact absurd (Or.inl hg) h9
          have := one_tat hg
          refine ⟨?_, by omega⟩
          rw [b8 h1]; exact hb.1
        · have hk := k2 (by omega)
          rw [if_pos hk] at hb ⊢
          by_cases h2 : op = 2
          · rw [bN h2]
            simp only [iE]
            split <;> exact hb
          · rw [de (by omega)]
            simp only [iI]
            split <;> exact hb
structure Ev (ps : List Pol) (now : Int) (xs ys : List Cel) : Prop where
  rel : ∀ i, look ys i = look xs i ∨ (look ys i = none ∧ ∃ c, look xs i = some c ∧ aN ps c now = true)
  cl : ∀ i c, look xs i = some c → iG (ps.getD c.pol.toNat default) c
theorem Ev.nil : Ev ps now [] [] := ⟨fun i => Or.inl rfl, fun i c h => by simp [look] at h⟩
theorem Ev.mono (h : Ev ps now xs ys) {m : Int} (hm : now ≤ m) : Ev ps m xs ys := by
  refine ⟨fun i => ?_, h.cl⟩
  rcases h.rel i with h1 | ⟨h1, c, h2, h3⟩
  · exact Or.inl h1
  · refine Or.inr ⟨h1, c, h2, ?_⟩
    unfold aN at h3 ⊢
    split
    · rename_i hk; rw [if_pos hk] at h3; exact h3
    · rename_i hk
      rw [if_neg hk] at h3
      have : c.tat ≤ now := by simpa using h3
      exact decide_eq_true (by omega)
theorem Ev.step (h : Ev ps now xs ys) (hx : fR ps room xs) (hy : fR ps room ys) (hop : op < 5) (hrx : (xs.length : Int) < room) (hry : (ys.length : Int) < room) :
    (doS ps room ys op pol key n now serial).1 = (doS ps room xs op pol key n now serial).1 ∧ Ev ps now (doS ps room xs op pol key n now serial).2 (doS ps room ys op pol key n now serial).2 := by
  obtain ⟨a1, a2, _⟩ := ek (op := op) (pol := pol) (key := key) (n := n) (now := now) (serial := serial) hx hop hrx
  obtain ⟨b1, b2, _⟩ := ek (op := op) (pol := pol) (key := key) (n := n) (now := now) (serial := serial) hy hop hry
  have e : aF ps (look ys (pol :: key)) op pol key n now serial = aF ps (look xs (pol :: key)) op pol key n now serial := by
    rcases h.rel (pol :: key) with h1 | ⟨h1, c, h2, h3⟩
    · rw [h1]
    · rw [h1, h2]
      exact (ji (h.cl _ c h2) (bi h2).2 h3 hop).symm
  rw [e] at b1 b2
  refine ⟨b1.trans a1.symm, fun i => ?_, fun i c hc => ?_⟩
  · rw [a2, b2]
    split
    · rename_i hi
      subst hi
      cases (aF ps (look xs (pol :: key)) op pol key n now serial).2 with
      | none => rw [Option.none_or, Option.none_or]; exact h.rel _
      | some d => rw [Option.some_or, Option.some_or]; exact Or.inl rfl
    · exact h.rel i
  · rw [a2] at hc
    split at hc
    · cases hs : (aF ps (look xs (pol :: key)) op pol key n now serial).2 with
      | none => rw [hs, Option.none_or] at hc; exact h.cl _ _ hc
      | some d =>
        rw [hs, Option.some_or] at hc
        cases hc
        exact (gh (fun d hd => ⟨h.cl _ _ hd, (bi hd).2⟩) hop hs).1
    · exact h.cl _ _ hc
theorem Ev.stay (h : Ev ps now xs ys) (hy : fR ps room ys) : Ev ps now xs (stay ps now ys) := by
  refine ⟨fun i => ?_, h.cl⟩
  rw [iU hy.srt]
  rcases h.rel i with h1 | ⟨h1, h2⟩
  · rw [h1]
    cases hl : look xs i with
    | none => exact Or.inl rfl
    | some c =>
      by_cases hi : aN ps c now = true
      · refine Or.inr ⟨?_, c, rfl, hi⟩
        simp [Option.filter, hi]
      · refine Or.inl ?_
        simp [Option.filter, hi]
  · rw [h1]
    exact Or.inr ⟨rfl, h2⟩
theorem Ev.len (h : Ev ps now xs ys) (hx : fR ps room xs) (hy : fR ps room ys) : ys.length ≤ xs.length := by
  have : ys = xs.filter fun c => (look ys (idn c)).isSome := by
    refine mC hy.srt (hx.srt.filter _) fun i => ?_
    rw [fH hx.srt]
    rcases h.rel i with h1 | ⟨h1, c, h2, _⟩
    · cases hl : look xs i with
      | none => rw [h1, hl]; rfl
      | some c =>
        have h3 := (bi hl).2
        have : (look ys (idn c)).isSome = true := by rw [h3, h1, hl]; rfl
        simp only [Option.filter, this, if_true]
        rw [h1, hl]
    · have h3 := (bi h2).2
      have : (look ys (idn c)).isSome = false := by rw [h3, h1]; rfl
      rw [h1, h2]
      simp [Option.filter, this]
  rw [this]
  exact List.length_filter_le _ _
end
end
section
namespace Hist
structure Ask where
  op : Int
  pol : Int
  key : List Int
  n : Int
  now : Int
  ser : Int
  early : Int
  later : Int
  deriving Inhabited
@[reducible] def Ask.D (a : Ask) : List D := [.val (.int .u8 a.op), .val (.int .i64 a.pol), ap 1 (aQ .u8) a.key, .val (.int .i64 a.n), .val (.int .i64 a.now), .val (.int .i64 a.ser), .val (.int .u8 a.early), .val (.int .u8 a.later)]
def opA (o : Int) : Int := if o < 1 ∨ 6 < o then 1 + o % 6 else o
def cq (o : Int) : Int := if o = 2 ∨ o = 3 then 1 else 0
def nA (a : Ask) : Int := max (ar a.n) 1
def mJ (a : Ask) : Int := max (ar a.ser) 1
def lB (a : Ask) (i : Nat) (r : Rpl) : HD := ⟨0, opA a.op, cq (opA a.op), a.key.take 2, nA a, 100 * i - a.early, 100 * i + a.later, r⟩
structure MS where
  xs : List Cel
  now : Int
  l : List HD
def dq (S : MS) (a : Ask) : Rpl × List Cel := doS au 4096 S.xs (opA a.op) (cq (opA a.op)) (a.key.take 2) (nA a) (max S.now (ar a.now)) (mJ a)
def mkS (S : MS) (i : Nat) (a : Ask) : MS :=
  if 8 ≤ S.l.length then S
  else if (dq S a).1.e = 8 then ⟨(dq S a).2, max S.now (ar a.now), S.l⟩
  else ⟨(dq S a).2, max S.now (ar a.now), S.l ++ [lB a i (dq S a).1]⟩
def aC (s : List Ask) : Nat → MS
  | 0 => ⟨[], 0, []⟩
  | k + 1 => mkS (aC s k) k (s.getD k default)
def ak (s : List Ask) : List HD := (aC s s.length).l
theorem mY {o : Int} (h : 0 ≤ o) : 1 ≤ opA o ∧ opA o ≤ 6 := by unfold opA; split <;> omega
theorem fM (n : Int) : 0 ≤ ar n ∧ ar n ≤ 4611686018427387903 := by unfold ar; omega
theorem nA_bd (a : Ask) : 1 ≤ nA a ∧ nA a ≤ 4611686018427387903 := by have := fM a.n; unfold nA; omega
theorem serA_bd (a : Ask) : 1 ≤ mJ a ∧ mJ a ≤ 4611686018427387903 := by have := fM a.ser; unfold mJ; omega
theorem dQ : bA au = 0 := by decide +kernel
theorem qI {op n : Int} {key : List Int} (h1 : 1 ≤ op) (h6 : op ≤ 6) (hk : key.length ≤ 2) (hn : 1 ≤ n ∧ n ≤ 4611686018427387903) : qc au op (cq op) key n = 0 := by
  have tN : bU n = true := (bv _).2 ⟨by omega, hn.2⟩
  unfold qc
  rw [if_neg (by rw [tN]; simp; omega), if_neg (by omega), if_neg (by rw [dQ]; simp), if_neg]
  rintro ⟨h4, h5⟩
  have h : op = 1 ∨ op = 2 ∨ op = 3 ∨ op = 4 := by omega
  rcases h with rfl | rfl | rfl | rfl <;> revert h5 <;> decide
theorem nV {op n now s : Int} {key : List Int} (h1 : 1 ≤ op) (h6 : op ≤ 6) (hk : key.length ≤ 2) (hn : 1 ≤ n ∧ n ≤ 4611686018427387903) (hw : 0 ≤ now ∧ now ≤ 4611686018427387903) (hs : 1 ≤ s ∧ s ≤ 4611686018427387903) : bJ au op (cq op) key n now s = 0 := by
  have tn : bU now = true := (bv _).2 hw
  unfold bJ
  rw [if_neg (by rw [tn]; simp; omega)]
  exact qI h1 h6 hk hn
section
variable {ps : List Pol} {room : Int} {xs : List Cel} {op pol : Int} {key : List Int} {n now serial : Int}
theorem pA {z : Bool} {q : Rpl × Cel} (hq : q.1.g = true → q.1.e = 0) (h : (mc room xs pol key z q).1.e ≠ 0) : (mc room xs pol key z q).2 = xs := by
  unfold mc at h ⊢
  split
  · rfl
  · rename_i h1
    rw [if_neg h1] at h
    split
    · rfl
    · rename_i h2
      rw [if_neg h2] at h
      exact absurd (hq (by
        cases hg : q.1.g with
        | true => rfl
        | false => exact absurd (Or.inl hg) h1)) h
theorem one_e0 {p : Pol} {c : Cel} (h : (dj p c op n now serial).1.g = true) : (dj p c op n now serial).1.e = 0 := by
  unfold dj at h ⊢
  split
  · rfl
  · rename_i h1
    rw [if_neg h1] at h
    split
    · rename_i h2
      rw [if_pos h2] at h
      simp only [jO] at h ⊢
      split
      · rfl
      · rename_i h3; rw [if_neg h3] at h; cases h
    · rename_i h2
      rw [if_neg h2] at h
      simp only [og] at h ⊢
      split
      · rfl
      · rename_i h3; rw [if_neg h3] at h; cases h
theorem do_err (h : (doS ps room xs op pol key n now serial).1.e ≠ 0) : (doS ps room xs op pol key n now serial).2 = xs := by
  unfold doS at h ⊢
  split
  · rfl
  · rename_i h1
    rw [if_neg h1] at h
    split
    · rename_i h2; rw [if_pos h2] at h; exact absurd rfl h
    · rename_i h2
      rw [if_neg h2] at h
      split
      · rfl
      · rename_i h3
        rw [if_neg h3] at h
        split
        · rfl
        · rename_i h4
          rw [if_neg h4] at h
          exact pA one_e0 h
theorem gH {p : Pol} {o : Option Cel} : (bB p o op pol key n now serial).1 = if op = 4 then dV p (o.getD (aw pol key)) now else (dj p (o.getD (aw pol key)) op n now serial).1 := by
  unfold bB
  split
  · rfl
  · split <;> rfl
theorem fc {o : Option Cel} (hE : bJ ps op pol key n now serial = 0) : aF ps o op pol key n now serial = bB (ps.getD pol.toNat default) o op pol key n now serial := by
  unfold aF; rw [if_neg (fun h => h hE)]
theorem kY {xs : List Int} {t : Int} (h : f6 xs t = true) : t ∈ xs := by
  unfold f6 at h
  rw [Q5, decide_eq_true_iff, decide_eq_true_iff] at h
  obtain ⟨h1, h2⟩ := h
  rw [Q1, Q0 h1] at h2
  rw [← h2]
  exact Q14 h1
theorem lJ {p : Int} {xs : List Int} {s t : Int} (h : aU p xs s ≠ 0) (h8 : aU p xs s ≠ 8) (hs : lP s = true) (ht : lP t = true) (hn : t ∉ xs) : aU p xs t = aU p xs s := by
  have hh : f6 xs t = false := by
    cases e : f6 xs t with
    | false => rfl
    | true => exact absurd (kY e) hn
  have e1 : ¬ lP s = false := by rw [hs]; decide
  have e2 : ¬ lP t = false := by rw [ht]; decide
  have e3 : ¬ f6 xs t = true := by rw [hh]; decide
  unfold aU at h h8 ⊢
  simp only [if_neg e1, if_neg e2, if_neg e3] at h h8 ⊢
  by_cases h1 : fZ p xs ≠ 0
  · simp only [if_pos h1]
  · simp only [if_neg h1] at h h8 ⊢
    by_cases h2 : f6 xs s = true
    · rw [if_pos h2] at h8; exact absurd rfl h8
    · rw [if_neg h2]
theorem cN {p : Pol} {o : Option Cel} (h : ¬ op = 4) : bB p o op pol key n now serial = if (dj p (o.getD (aw pol key)) op n now serial).1.g = false ∨ (op = 1 ∧ n = 0) then ((dj p (o.getD (aw pol key)) op n now serial).1, none) else ((dj p (o.getD (aw pol key)) op n now serial).1, some (dj p (o.getD (aw pol key)) op n now serial).2) := by
  unfold bB; rw [if_neg h]
theorem re_step {z : Option Cel} {op n now s spare : Int} {key : List Int} {d : HD} (h1 : 1 ≤ op) (h5 : op < 5) (hk : key.length ≤ 2) (hn : 1 ≤ n ∧ n ≤ 4611686018427387903) (hw : 0 ≤ now ∧ now ≤ 4611686018427387903) (hs : 1 ≤ s ∧ s ≤ 4611686018427387903) (hp : 1 ≤ spare ∧ spare ≤ 4611686018427387903)
    (hz : ∀ c, z = some c → spare ∉ c.held) (ho : d.op = op) (hr : d.r = (aF au z op (cq op) key n now s).1) (hc : fL d = true) (h8 : d.r.e ≠ 8) :
    aF au z op (cq op) key n d.r.now (ser spare d) = aF au z op (cq op) key n now s := by
  have hb := fun w t hw ht => nV (op := op) (n := n) (now := w) (s := t) (key := key) h1 (by omega) hk hn hw ht
  rw [fc (hb _ _ hw hs), gH] at hr
  rw [fc (hb _ _ hw hs)]
  have h : op = 1 ∨ op = 2 ∨ op = 3 ∨ op = 4 := by omega
  rcases h with rfl | rfl | rfl | rfl
  · rw [if_neg (by decide), b8 rfl] at hr
    have e1 : d.r.now = now := by rw [hr]; rfl
    have e2 : d.r.serial = 0 := by rw [hr]; rfl
    have e3 : ser spare d = spare := by unfold ser; rw [if_pos e2]
    rw [e1, e3, fc (hb _ _ hw hp)]
    rw [cN (by decide), cN (by decide), b8 rfl, b8 rfl]
  · rw [if_neg (by decide), bN rfl] at hr
    simp only [jO] at hr
    by_cases h0 : aU (au.getD (cq 2).toNat default).permits (z.getD (aw (cq 2) key)).held s = 0
    · rw [if_pos h0] at hr
      have e1 : d.r.now = 0 := by rw [hr]
      have e2 : ser spare d = s := by unfold ser; rw [if_neg (by rw [hr]; dsimp only; omega), hr]
      rw [e1, e2, fc (hb _ _ (by omega) hs)]
      rw [cN (by decide), cN (by decide), bN rfl, bN rfl]
    · rw [if_neg h0] at hr
      have e1 : d.r.now = 0 := by rw [hr]
      have e2 : ser spare d = spare := by unfold ser; rw [if_pos (by rw [hr])]
      have e3 : aU (au.getD (cq 2).toNat default).permits (z.getD (aw (cq 2) key)).held spare = aU (au.getD (cq 2).toNat default).permits (z.getD (aw (cq 2) key)).held s := by
        refine lJ h0 (by rw [hr] at h8; exact h8) (by unfold lP; simp; omega) (by unfold lP; simp; omega) ?_
        cases z with
        | none => simp [aw]
        | some c => exact hz c rfl
      rw [e1, e2, fc (hb _ _ (by omega) hp)]
      rw [cN (by decide), cN (by decide), bN rfl, bN rfl]
      have h0' : ¬ aU (au.getD (cq 2).toNat default).permits (z.getD (aw (cq 2) key)).held spare = 0 := by rw [e3]; exact h0
      have a1 : jO (au.getD (cq 2).toNat default) (z.getD (aw (cq 2) key)) spare = ⟨aU (au.getD (cq 2).toNat default).permits (z.getD (aw (cq 2) key)).held s, false, 0, 0, 0, 0⟩ := by unfold jO; rw [if_neg h0', e3]
      have a2 : jO (au.getD (cq 2).toNat default) (z.getD (aw (cq 2) key)) s = ⟨aU (au.getD (cq 2).toNat default).permits (z.getD (aw (cq 2) key)).held s, false, 0, 0, 0, 0⟩ := by unfold jO; rw [if_neg h0]
      rw [if_pos (Or.inl (by rw [a1])), if_pos (Or.inl (by rw [a2]))]
      show ((jO _ _ _, none) : Rpl × Option Cel) = (jO _ _ _, none)
      rw [a1, a2]
  · rw [if_neg (by decide), de rfl] at hr
    have e1 : d.r.now = 0 := by rw [hr]; unfold og; split <;> rfl
    have e2 : d.r.serial = 0 := by rw [hr]; unfold og; split <;> rfl
    have e3 : ser spare d = spare := by unfold ser; rw [if_pos e2]
    rw [e1, e3, fc (hb _ _ (by omega) hp)]
    rw [cN (by decide), cN (by decide), de rfl, de rfl]
  · rw [if_pos rfl] at hr
    have hk2 : ¬ (au.getD (cq 4).toNat default).kind = 2 := by decide
    have e1 : d.r.now = now := by rw [hr]; unfold dV; rw [if_neg hk2]
    have e2 : d.r.serial = 0 := by rw [hr]; unfold dV; rw [if_neg hk2]
    have e3 : ser spare d = spare := by unfold ser; rw [if_pos e2]
    rw [e1, e3, fc (hb _ _ hw hp)]
    unfold bB
    rw [if_pos rfl, if_pos rfl]
theorem ins_mem {xs : List Int} {i : Nat} {x y : Int} (h : y ∈ bF xs i x) : y = x ∨ y ∈ xs := by
  unfold bF at h
  rw [List.mem_append, List.mem_append, List.mem_singleton] at h
  rcases h with (h | h) | h
  · exact .inr (List.mem_of_mem_take h)
  · exact .inl h
  · exact .inr (List.mem_of_mem_drop h)
theorem del_mem {xs : List Int} {i : Nat} {y : Int} (h : y ∈ dn xs i) : y ∈ xs := by
  unfold dn at h
  rw [List.mem_append] at h
  rcases h with h | h
  · exact List.mem_of_mem_take h
  · exact List.mem_of_mem_drop h
theorem iT {o : Option Cel} {c : Cel} (h : (aF ps o op pol key n now serial).2 = some c) {x : Int} (hx : x ∈ c.held) :
    (∃ b, o = some b ∧ x ∈ b.held) ∨ (op = 2 ∧ x = serial ∧ (aF ps o op pol key n now serial).1.g = true ∧ (aF ps o op pol key n now serial).1.serial = serial) := by
  have hb : ∀ y, y ∈ (o.getD (aw pol key)).held → ∃ b, o = some b ∧ y ∈ b.held := fun y hy => by
    cases o with
    | none => simp [aw] at hy
    | some b => exact ⟨b, rfl, hy⟩
  unfold aF at h ⊢
  split at h
  · cases h
  · rename_i hE
    rw [if_neg hE]
    unfold bB at h ⊢
    generalize o.getD (aw pol key) = b at h hb ⊢
    split at h
    · cases h
    · rename_i h4
      rw [if_neg h4]
      split at h
      · cases h
      · rename_i h9
        rw [if_neg h9]
        simp only [Option.some.injEq] at h
        subst h
        unfold dj at hx ⊢
        by_cases h1 : op = 1
        · rw [if_pos h1] at hx; exact .inl (hb x hx)
        · rw [if_neg h1] at hx ⊢
          by_cases h2 : op = 2
          · rw [if_pos h2] at hx ⊢
            simp only [iE, jO] at hx ⊢
            by_cases h3 : aU (ps.getD pol.toNat default).permits b.held serial = 0
            · rw [if_pos h3] at hx ⊢
              simp only [dP] at hx
              rw [if_pos h3] at hx
              rcases ins_mem hx with rfl | hx
              · exact .inr ⟨h2, rfl, rfl, rfl⟩
              · exact .inl (hb x hx)
            · rw [if_neg h3] at hx; exact .inl (hb x hx)
          · rw [if_neg h2] at hx
            simp only [iI] at hx
            split at hx
            · rename_i h3
              simp only [f9] at hx
              rw [if_pos h3] at hx
              exact .inl (hb x (del_mem hx))
            · exact .inl (hb x hx)
theorem kz {o : Option Cel} (h3 : op = 3) (h : (aF ps o op pol key n now serial).1.g = true) : ∃ c, o = some c ∧ n ∈ c.held := by
  unfold aF at h
  split at h
  · cases h
  · rw [gH, if_neg (by omega), de h3] at h
    simp only [og] at h
    split at h
    · rename_i h4
      have := kY (kf.1 h4).2
      cases o with
      | none => simp [aw] at this
      | some c => exact ⟨c, rfl, this⟩
    · cases h
theorem nf {c : Cel} {m : Int} (h3 : aN ps c now = true) (hm : now ≤ m) : aN ps c m = true := by
  unfold aN at h3 ⊢
  split
  · rename_i hk; rw [if_pos hk] at h3; exact h3
  · rename_i hk
    rw [if_neg hk] at h3
    have : c.tat ≤ now := by simpa using h3
    exact decide_eq_true (by omega)
end
def gid (l : List HD) (id : List Int) : List HD := l.filter fun d => fL d && decide (d.pol :: d.key = id)
theorem c5 (l : List HD) (d : HD) (id : List Int) : gid (l ++ [d]) id = if fL d = true ∧ d.pol :: d.key = id then gid l id ++ [d] else gid l id := by
  unfold gid
  rw [List.filter_append]
  by_cases h : fL d = true ∧ d.pol :: d.key = id
  · rw [if_pos h, List.filter_cons, if_pos (by rw [h.1, decide_eq_true h.2]; rfl)]; rfl
  · rw [if_neg h, List.filter_cons, if_neg (by rw [Q5, decide_eq_true_iff]; exact h)]
    simp
structure Hon (id : List Int) (l : List HD) (xs : List Cel) (now : Int) (z : Option Cel) : Prop where
  good : ∀ spare, 1 ≤ spare → spare ≤ 4611686018427387903 → aR (gid l id) spare = false → Good au spare (gid l id) ∧ ∀ i, look (play au spare (gid l id)) i = if i = id then z else none
  rel : look xs id = z ∨ (look xs id = none ∧ ∃ c, z = some c ∧ aN au c now = true)
  cl : ∀ c, z = some c → (iG (au.getD c.pol.toNat default) c ∧ idn c = id) ∧ ∀ s ∈ c.held, ∃ d ∈ gid l id, d.op = 2 ∧ d.r.serial = s
structure Fm (d : HD) : Prop where
  op : 1 ≤ d.op ∧ d.op ≤ 6
  pol : d.pol = cq d.op
  key : IsB d.key
  klen : d.key.length ≤ 2
  n : 1 ≤ d.n ∧ d.n ≤ 4611686018427387903
structure MI (S : MS) (i : Nat) : Prop where
  inv : fR au 4096 S.xs
  len : S.xs.length ≤ S.l.length
  l8 : S.l.length ≤ 8
  now : 0 ≤ S.now ∧ S.now ≤ 4611686018427387903
  fm : ∀ d ∈ S.l, Fm d ∧ d.first ≤ d.last ∧ d.first ≤ 100 * i - 100 ∧ -255 ≤ d.first
  tm : S.l.Pairwise fun a b => a.first ≤ b.last
  hon : ∀ id, ∃ z, Hon id S.l S.xs S.now z
  rel : ∀ d ∈ S.l, d.op = 3 → d.r.g = true → ∃ e ∈ S.l, e.op = 2 ∧ e.r.serial = d.n
theorem pC {spare : Int} {g : List HD} {id : List Int} {z : Option Cel} (hk : ∀ d ∈ g, IsB d.key) (h : ∀ i, look (play au spare g) i = if i = id then z else none) : fR au 4096 (play au spare g) ∧ ((play au spare g).length : Int) < 4096 := by
  have hB := hU (ps := au) (by decide) (spare := spare) hk
  have := pF (id := id) (xs := play au spare g) hB.srt fun i => by
    by_cases e : i = id
    · rw [if_pos e]
    · rw [if_neg e, h, if_neg e]
  exact ⟨hB, by omega⟩
theorem mo {g : List HD} {d : HD} {s : Int} (h : aR (g ++ [d]) s = false) : aR g s = false := by
  unfold aR at h ⊢
  rw [List.any_append, Bool.or_eq_false_iff] at h
  exact h.1
theorem Hon.later {id : List Int} {l : List HD} {xs : List Cel} {now m : Int} {z : Option Cel} (h : Hon id l xs now z) (hm : now ≤ m) : Hon id l xs m z := by
  refine ⟨h.good, ?_, h.cl⟩
  rcases h.rel with h1 | ⟨h1, c, h2, h3⟩
  · exact .inl h1
  · exact .inr ⟨h1, c, h2, nf h3 hm⟩
theorem Hon.step {l : List HD} {xs ys : List Cel} {now s : Int} {z : Option Cel} {d : HD} (h : Hon (d.pol :: d.key) l xs now z) (hkl : ∀ e ∈ l, IsB e.key) (hf : Fm d) (h5 : d.op < 5) (hw : 0 ≤ now ∧ now ≤ 4611686018427387903) (hs : 1 ≤ s ∧ s ≤ 4611686018427387903)
    (hr : d.r = (aF au (look xs (d.pol :: d.key)) d.op d.pol d.key d.n now s).1) (hc : fL d = true) (h8 : d.r.e ≠ 8)
    (hy : look ys (d.pol :: d.key) = (aF au (look xs (d.pol :: d.key)) d.op d.pol d.key d.n now s).2.or (look xs (d.pol :: d.key))) :
    ∃ z', Hon (d.pol :: d.key) (l ++ [d]) ys now z' := by
  have e1 : aF au (look xs (d.pol :: d.key)) d.op d.pol d.key d.n now s = aF au z d.op d.pol d.key d.n now s := by
    rcases h.rel with h1 | ⟨h1, c, h2, h3⟩
    · rw [h1]
    · rw [h1, h2]
      obtain ⟨⟨c1, c2⟩, _⟩ := h.cl c h2
      exact (ji c1 c2 h3 h5).symm
  rw [e1] at hr hy
  have hg : gid (l ++ [d]) (d.pol :: d.key) = gid l (d.pol :: d.key) ++ [d] := by rw [c5, if_pos ⟨hc, rfl⟩]
  have hkg : ∀ e ∈ gid l (d.pol :: d.key), IsB e.key := fun e he => hkl e (List.mem_filter.1 he).1
  refine ⟨(aF au z d.op d.pol d.key d.n now s).2.or z, fun spare p1 p2 hu => ?_, ?_, fun c hcz => ?_⟩
  · rw [hg] at hu ⊢
    have hu0 := mo hu
    obtain ⟨g1, g2⟩ := h.good spare p1 p2 hu0
    obtain ⟨b1, b2⟩ := pC hkg g2
    obtain ⟨a1, a2, _⟩ := ek (op := d.op) (pol := d.pol) (key := d.key) (n := d.n) (now := d.r.now) (serial := ser spare d) b1 h5 b2
    have hlz : look (play au spare (gid l (d.pol :: d.key))) (d.pol :: d.key) = z := by rw [g2, if_pos rfl]
    have hre : aF au z d.op d.pol d.key d.n d.r.now (ser spare d) = aF au z d.op d.pol d.key d.n now s := by
      have hp := hf.pol
      rw [hp] at hr ⊢
      refine re_step hf.op.1 h5 hf.klen hf.n hw hs ⟨p1, p2⟩ (fun c hcz hm => ?_) rfl hr hc h8
      obtain ⟨e, he, _, hes⟩ := (h.cl c hcz).2 spare hm
      have : aR (gid l (d.pol :: d.key)) spare = true := by
        unfold aR; rw [List.any_eq_true]; exact ⟨e, he, by simp [hes]⟩
      rw [this] at hu0; cases hu0
    rw [hlz, hre] at a1 a2
    refine ⟨g1.snoc ?_, fun i => ?_⟩
    · unfold jN
      rw [nC]
      exact a1.trans hr.symm
    · rw [dv]
      refine (a2 i).trans ?_
      by_cases hi : i = d.pol :: d.key
      · rw [if_pos hi, if_pos hi, g2, if_pos hi]
      · rw [if_neg hi, if_neg hi, g2, if_neg hi]
  · rw [hy]
    rcases h.rel with h1 | ⟨h1, c, h2, h3⟩
    · rw [h1]; exact .inl rfl
    · cases hq : (aF au z d.op d.pol d.key d.n now s).2 with
      | none => rw [Option.none_or, Option.none_or]; exact .inr ⟨h1, c, h2, h3⟩
      | some c' => rw [Option.some_or, Option.some_or]; exact .inl rfl
  · rw [hg]
    cases hq : (aF au z d.op d.pol d.key d.n now s).2 with
    | none =>
      rw [hq, Option.none_or] at hcz
      obtain ⟨c1, c2⟩ := h.cl c hcz
      refine ⟨c1, fun x hx => ?_⟩
      obtain ⟨e, he, h9⟩ := c2 x hx
      exact ⟨e, List.mem_append_left _ he, h9⟩
    | some c' =>
      rw [hq, Option.some_or] at hcz
      cases hcz
      refine ⟨gh (fun b hb => (h.cl b hb).1) h5 hq, fun x hx => ?_⟩
      rcases iT hq hx with ⟨b, hb, hx⟩ | ⟨o2, rfl, _, o4⟩
      · obtain ⟨e, he, h9⟩ := (h.cl b hb).2 x hx
        exact ⟨e, List.mem_append_left _ he, h9⟩
      · exact ⟨d, by simp, o2, by rw [hr]; exact o4⟩
end Hist
end
namespace Hist
structure Af (a : Ask) : Prop where
  op : 0 ≤ a.op ∧ a.op ≤ 255
  key : IsB a.key
  early : 0 ≤ a.early ∧ a.early ≤ 255
  later : 0 ≤ a.later ∧ a.later ≤ 255
theorem askD_fm {a : Ask} (ha : Af a) (i : Nat) (r : Rpl) : Fm (lB a i r) :=
  ⟨mY ha.op.1, rfl, fun b hb => ha.key b (List.mem_of_mem_take hb), by show (a.key.take 2).length ≤ 2; rw [Q10]; omega, nA_bd a⟩
theorem MI.start : MI ⟨[], 0, []⟩ 0 := by
  refine ⟨.nil (by decide) (by decide) (by decide), Q4 _, by decide, by decide, fun d hd => absurd hd (List.not_mem_nil), .nil, fun id => ⟨none, ⟨fun spare _ _ _ => ⟨.nil _ _, fun i => ?_⟩, .inl rfl, fun c hc => nomatch hc⟩⟩, fun d hd => absurd hd (List.not_mem_nil)⟩
  show (none : Option Cel) = _
  split <;> rfl
theorem MI.fm_mono {S : MS} {i : Nat} (h : MI S i) {d : HD} (hd : d ∈ S.l) : Fm d ∧ d.first ≤ d.last ∧ d.first ≤ 100 * ((i + 1 : Nat) : Int) - 100 ∧ -255 ≤ d.first := by
  obtain ⟨h1, h2, h3, h4⟩ := h.fm d hd
  exact ⟨h1, h2, by omega, h4⟩
theorem MI.step {S : MS} {i : Nat} (h : MI S i) {a : Ask} (ha : Af a) : MI (mkS S i a) (i + 1) := by
  unfold mkS
  by_cases h8 : 8 ≤ S.l.length
  · rw [if_pos h8]
    exact ⟨h.inv, h.len, h.l8, h.now, fun d hd => h.fm_mono hd, h.tm, h.hon, h.rel⟩
  rw [if_neg h8]
  have hw0 := fM a.now
  have hw := h.now
  have hw' : 0 ≤ max S.now (ar a.now) ∧ max S.now (ar a.now) ≤ 4611686018427387903 := by omega
  have hle : S.now ≤ max S.now (ar a.now) := by omega
  have hop := mY ha.op.1
  have hkt : IsB (a.key.take 2) := fun b hb => ha.key b (List.mem_of_mem_take hb)
  have hlen2 : (a.key.take 2).length ≤ 2 := by rw [Q10]; omega
  have hroom : (S.xs.length : Int) < 4096 := by have := h.len; omega
  have hinv : fR au 4096 (dq S a).2 := nF h.inv hkt
  have hn := nA_bd a
  have hs := serA_bd a
  have hE := nV hop.1 hop.2 hlen2 hn hw' hs
  have herr : (dq S a).1.e ≠ 0 → (dq S a).2 = S.xs := fun h => do_err h
  have hlk : ∀ id, ∃ z, Hon id S.l S.xs (max S.now (ar a.now)) z := fun id => by
    obtain ⟨z, hz⟩ := h.hon id
    exact ⟨z, hz.later hle⟩
  have hlast : 0 ≤ a.early ∧ 0 ≤ a.later ∧ a.early ≤ 255 := ⟨ha.early.1, ha.later.1, ha.early.2⟩
  by_cases he : (dq S a).1.e = 8
  · rw [if_pos he]
    have hx := herr (by rw [he]; decide)
    rw [hx]
    exact ⟨h.inv, h.len, h.l8, hw', fun d hd => h.fm_mono hd, h.tm, hlk, h.rel⟩
  rw [if_neg he]
  have hfm := askD_fm ha i (dq S a).1
  have hlen1 : (dq S a).2.length ≤ S.xs.length + 1 := qH h.inv
  refine ⟨hinv, ?_, ?_, hw', ?_, ?_, fun id => ?_, ?_⟩
  · have := h.len
    show (dq S a).2.length ≤ (S.l ++ [_]).length
    rw [Q9, List.length_singleton]; omega
  · show (S.l ++ [_]).length ≤ 8
    rw [Q9, List.length_singleton]; omega
  · intro d hd
    rcases List.mem_append.1 hd with hd | hd
    · exact h.fm_mono hd
    · rw [List.mem_singleton.1 hd]
      refine ⟨hfm, ?_, ?_, ?_⟩
      · show 100 * (i : Int) - a.early ≤ 100 * (i : Int) + a.later; omega
      · show 100 * (i : Int) - a.early ≤ _; omega
      · show -255 ≤ 100 * (i : Int) - a.early; omega
  · refine List.pairwise_append.2 ⟨h.tm, List.pairwise_singleton _ _, fun b hb c hc => ?_⟩
    rw [List.mem_singleton.1 hc]
    have := (h.fm b hb).2.2.1
    show b.first ≤ 100 * (i : Int) + a.later
    omega
  · show ∃ z, Hon id (S.l ++ [lB a i (dq S a).1]) (dq S a).2 (max S.now (ar a.now)) z
    obtain ⟨z, hz⟩ := hlk id
    by_cases h5 : opA a.op < 5
    · obtain ⟨a1, a2, _⟩ := ek (op := opA a.op) (pol := cq (opA a.op)) (key := a.key.take 2) (n := nA a) (now := max S.now (ar a.now)) (serial := mJ a) h.inv h5 hroom
      have a1 : (dq S a).1 = _ := a1
      have a2 : ∀ i, look (dq S a).2 i = _ := a2
      by_cases hc : fL (lB a i (dq S a).1) = true
      · by_cases hi : id = cq (opA a.op) :: a.key.take 2
        · subst hi
          exact hz.step (d := lB a i (dq S a).1) (s := mJ a) (fun e he => (h.fm e he).1.key) hfm h5 hw' hs a1 hc he (by rw [a2]; exact if_pos rfl)
        · have hg : gid (S.l ++ [lB a i (dq S a).1]) id = gid S.l id := by rw [c5, if_neg (fun e => hi e.2.symm)]
          refine ⟨z, ⟨by rw [hg]; exact hz.good, by rw [a2, if_neg hi]; exact hz.rel, by rw [hg]; exact hz.cl⟩⟩
      · have hg : gid (S.l ++ [lB a i (dq S a).1]) id = gid S.l id := by rw [c5, if_neg (fun e => hc e.1)]
        have hx : (dq S a).2 = S.xs := herr fun e0 => hc (by
          have hoo : (lB a i (dq S a).1).op = opA a.op := rfl
          have hre : (lB a i (dq S a).1).r.e = 0 := e0
          unfold fL
          rw [hre, hoo]
          have hq : opA a.op = 1 ∨ opA a.op = 2 ∨ opA a.op = 3 ∨ opA a.op = 4 := by omega
          rcases hq with h | h | h | h <;> rw [h] <;> decide)
        exact ⟨z, ⟨by rw [hg]; exact hz.good, by rw [hx]; exact hz.rel, by rw [hg]; exact hz.cl⟩⟩
    · have hc : fL (lB a i (dq S a).1) = false := by
        have hoo : (lB a i (dq S a).1).op = opA a.op := rfl
        unfold fL
        rw [hoo]
        have hq : opA a.op = 5 ∨ opA a.op = 6 := by omega
        rcases hq with h | h <;> rw [h] <;> simp
      have hg : gid (S.l ++ [lB a i (dq S a).1]) id = gid S.l id := by rw [c5, if_neg (fun e => by rw [hc] at e; cases e.1)]
      have hx : (dq S a).2 = S.xs ∨ (dq S a).2 = stay au (max S.now (ar a.now)) S.xs := by
        show (doS ..).2 = _ ∨ (doS ..).2 = _
        unfold doS
        rw [if_neg (fun h => h hE)]
        by_cases h55 : opA a.op = 5
        · rw [if_pos h55]; exact .inr rfl
        · rw [if_neg h55, if_pos (by omega)]; exact .inl rfl
      refine ⟨z, ⟨by rw [hg]; exact hz.good, ?_, by rw [hg]; exact hz.cl⟩⟩
      rcases hx with hx | hx
      · rw [hx]; exact hz.rel
      · rw [hx, iU h.inv.srt]
        rcases hz.rel with h1 | ⟨h1, h2⟩
        · rw [h1]
          cases z with
          | none => exact .inl rfl
          | some c =>
            by_cases hi : aN au c (max S.now (ar a.now)) = true
            · exact .inr ⟨by simp [Option.filter, hi], c, rfl, hi⟩
            · exact .inl (by simp [Option.filter, hi])
        · rw [h1]; exact .inr ⟨rfl, h2⟩
  · intro d hd hd3 hg
    rcases List.mem_append.1 hd with hd | hd
    · obtain ⟨e, he, h9⟩ := h.rel d hd hd3 hg
      exact ⟨e, List.mem_append_left _ he, h9⟩
    · rw [List.mem_singleton.1 hd] at hd3 hg ⊢
      have h3 : opA a.op = 3 := hd3
      obtain ⟨a1, _, _⟩ := ek (op := opA a.op) (pol := cq (opA a.op)) (key := a.key.take 2) (n := nA a) (now := max S.now (ar a.now)) (serial := mJ a) h.inv (by omega) hroom
      have a1 : (dq S a).1 = _ := a1
      have hg : (dq S a).1.g = true := hg
      rw [a1] at hg
      obtain ⟨c, hc, hm⟩ := kz h3 hg
      obtain ⟨z, hz⟩ := hlk (cq (opA a.op) :: a.key.take 2)
      have hzc : z = some c := by
        rcases hz.rel with h1 | ⟨h1, _⟩
        · rw [← h1, hc]
        · rw [hc] at h1; cases h1
      obtain ⟨e, he, h9⟩ := (hz.cl c hzc).2 _ hm
      exact ⟨e, List.mem_append_left _ (List.mem_filter.1 he).1, h9⟩
theorem MI.made {s : List Ask} (h : ∀ a ∈ s, Af a) : ∀ k, k ≤ s.length → MI (aC s k) k
  | 0, _ => .start
  | k + 1, hk => (MI.made h k (by omega)).step (h _ (by rw [Q1, Q0 (by omega)]; exact Q14 _))
structure Ok (d : HD) : Prop where
  bad : dO au d = false
  id : bk d.pol d.key = 0
  key : IsB d.key
theorem Fm.ok {d : HD} (h : Fm d) : Ok d := by
  have hc := qI h.op.1 h.op.2 h.klen h.n
  refine ⟨?_, ?_, h.key⟩
  · unfold dO
    rw [h.pol, hc]; rfl
  · have := h.klen
    have hp : d.pol = 0 ∨ d.pol = 1 := by rw [h.pol]; unfold cq; split <;> omega
    unfold bk
    rw [if_neg (by omega), if_neg (by omega)]
theorem Ok.inc {d : HD} (h : Ok d) : b9 au d = fL d := by unfold b9; rw [h.bad, decide_eq_true h.id]; rfl
theorem Ok.pol {d : HD} (h : Ok d) : 0 ≤ d.pol ∧ d.pol < 32 := by
  have := h.id
  unfold bk at this
  split at this
  · omega
  · omega
theorem m6 {f : Int → UInt8} (hf : ∀ x y, (0 ≤ x ∧ x ≤ 255) → (0 ≤ y ∧ y ≤ 255) → f x = f y → x = y) : ∀ {a b : List Int}, IsB a → IsB b → a.map f = b.map f → a = b
  | [], [], _, _, _ => rfl
  | [], _ :: _, _, _, h => by cases h
  | _ :: _, [], _, _, h => by cases h
  | x :: a, y :: b, ha, hb, h => by
    rw [List.map_cons, List.map_cons, List.cons.injEq] at h
    rw [hf x y (ha x (List.mem_cons_self ..)) (hb y (List.mem_cons_self ..)) h.1, m6 hf (fun z hz => ha z (List.mem_cons_of_mem _ hz)) (fun z hz => hb z (List.mem_cons_of_mem _ hz)) h.2]
theorem u8_inj (x y : Int) (hx : 0 ≤ x ∧ x ≤ 255) (hy : 0 ≤ y ∧ y ≤ 255) (h : UInt8.ofNat x.toNat = UInt8.ofNat y.toNat) : x = y := by
  have h1 := congrArg UInt8.toNat h
  rw [UInt8.toNat_ofNat', UInt8.toNat_ofNat'] at h1
  omega
theorem Ok.kb_iff {d e : HD} (hd : Ok d) (he : Ok e) : kb d = kb e ↔ d.pol :: d.key = e.pol :: e.key := by
  have h1 : aT d.pol d.key = d.pol :: d.key := by unfold aT; rw [if_pos hd.id]
  have h2 : aT e.pol e.key = e.pol :: e.key := by unfold aT; rw [if_pos he.id]
  unfold kb
  rw [h1, h2]
  constructor
  · intro h
    have h3 := congrArg (fun b => b.data.toList) h
    simp only at h3
    refine m6 u8_inj ?_ ?_ h3
    · intro x hx
      rcases Q22 hx with rfl | hx
      · have := hd.pol; omega
      · exact hd.key x hx
    · intro x hx
      rcases Q22 hx with rfl | hx
      · have := he.pol; omega
      · exact he.key x hx
  · intro h; rw [h]
theorem nj {l : List HD} (hl : ∀ e ∈ l, Ok e) {d : HD} (hd : Ok d) : grp au l (kb d) = gid l (d.pol :: d.key) := by
  unfold grp gid
  refine List.filter_congr fun e he => ?_
  rw [(hl e he).inc]
  congr 1
  exact decide_eq_decide.2 ((hl e he).kb_iff hd)
theorem ny : ∀ (l pre : List HD), (∀ d ∈ l, ¬ d.last < d.first ∧ dO au d = false) → pre.length + l.length ≤ 8 → lZ au 0 pre l = 0
  | [], _, _, _ => rfl
  | d :: l, pre, h, hl => by
    obtain ⟨h1, h2⟩ := h d (List.mem_cons_self ..)
    have hs : bC au 0 pre d = 0 := by
      have hg := ni au (pre ++ [d]) (kb d)
      rw [Q9, List.length_singleton] at hg
      rw [List.length_cons] at hl
      unfold bC
      dsimp only
      rw [if_neg h1, h2, if_neg (by decide)]
      split
      · rw [if_neg (by omega)]
      · rfl
    unfold lZ
    rw [hs]
    refine ny l _ (fun e he => h e (List.mem_cons_of_mem _ he)) ?_
    rw [Q9, List.length_singleton]
    rw [List.length_cons] at hl
    omega
theorem nz {l : List HD} (h : ∀ d ∈ l, d.first ≤ d.last ∧ Ok d) (h8 : l.length ≤ 8) : bQ au l.length l = 0 := by
  unfold bQ err0
  rw [if_neg (by omega), dQ]
  exact ny l [] (fun d hd => ⟨by have := (h d hd).1; omega, (h d hd).2.bad⟩) (by rw [List.length_nil]; omega)
theorem qy {S : MS} {i : Nat} (h : MI S i) {l' : List HD} (hp : S.l.Perm l') : ij au l' = true ∧ bQ au l'.length l' = 0 := by
  have hok : ∀ d ∈ S.l, Ok d := fun d hd => (h.fm d hd).1.ok
  have he : bQ au l'.length l' = 0 := nz (fun d hd => ⟨(h.fm d (hp.mem_iff.2 hd)).2.1, hok d (hp.mem_iff.2 hd)⟩) (by rw [← hp.length_eq]; exact h.l8)
  refine ⟨?_, he⟩
  unfold ij
  rw [decide_eq_true he, Bool.true_and, Q23]
  intro k hk
  obtain ⟨d, hd, _, rfl⟩ := (j9 au l' k).1 hk
  have hd := hp.mem_iff.2 hd
  have hg := nj hok (hok d hd)
  obtain ⟨z, hz⟩ := h.hon (d.pol :: d.key)
  have hsub : (gid S.l (d.pol :: d.key)).Sublist S.l := List.filter_sublist
  refine all_of (g := gid S.l (d.pol :: d.key)) (by rw [← hg]; exact hp.filter _) (Nat.le_trans (List.length_filter_le _ _) h.l8) (h.tm.sublist hsub) (fun e he => (h.fm e (hsub.mem he)).2.1) fun spare p1 p2 hu => (hz.good spare p1 p2 hu).1
end Hist
section
open Hist
theorem i2 {s : List Hist.Ask} {k : Nat} (h : 8 ≤ (aC s k).l.length) : ∀ m, (aC s (k + m)).l = (aC s k).l
  | 0 => rfl
  | m + 1 => by
    have ih := i2 h m
    show (mkS (aC s (k + m)) (k + m) _).l = _
    unfold mkS
    rw [if_pos (by rw [ih]; exact h)]; exact ih
theorem kr {m : Nat} (l : List Int) {k : Nat} (hk : k = (l.take m).length) : SV.Le (.d (.sl 1 k fun i => aQ .u8 (l.getD (0 + i) default))) (.d (ap 1 (aQ .u8) (l.take m))) := by
  subst hk
  refine fd rfl fun i hi => ?_
  rw [Q19, Q1, Q1, Q15, if_pos (by rw [Q10] at hi; omega)]
structure AfB (a : Hist.Ask) : Prop where
  f : Af a
  n : a.n ≤ 9223372036854775807
  now : a.now ≤ 9223372036854775807
  ser : a.ser ≤ 9223372036854775807
theorem eU {s : List Hist.Ask} (hs : ∀ a ∈ s, AfB a) (hl : s.length ≤ 1048576) : Fun TC 7 0 [.d (ap 8 Hist.Ask.D s)] [] 1 (.tup [.sl 0 13 0 (ak s).length, .b true]) [(0, some (aI 39 13 HD.D (ak s)))] := by
  have hMI := MI.made (fun a ha => (hs a ha).f)
  refine Fun.mk' Try.func7 rfl rfl (zzb rfl) (by decide) ?_
  (repeat' (first
    | with_reducible refine Wp.seq ?_
    | with_reducible refine Wp.block ?_
    | ((with_reducible first | refine Wp.region ?_ | refine Wp.drawL ac ?_ | refine Wp.cond ?_ | refine Wp.ret ?_ | refine Wp.skip ?_ | refine Wp.exit ?_ | refine Go.mk ?_ | apply aA.of); conv => whnf)
    | with_reducible exact rfl
    | ((with_reducible refine Ov.ok zO ?_); conv => whnf)
    | (with_reducible refine Ov.sh1 (by with_unfolding_all exact rfl) ?_)
    | ((with_reducible refine Ov.quo (by omega) (by omega) (by omega) (fun _ _ => ?_)); conv => whnf)
    | ((with_reducible refine And.intro (show aj _ _ _ _ = true by kernel_rfl) ?_); conv => whnf)
    | ((with_reducible refine And.intro zC ?_); conv => whnf)
    | ((with_reducible refine And.intro ?hb ?_); (case hb => exact ae (zzb rfl) (by omega)); (conv => whnf))
    | ((refine af.a rfl rfl rfl rfl rfl rfl ?hb ?_); (case hb => exact zB); (conv => whnf))
    | ((refine af.b rfl rfl rfl rfl rfl rfl rfl rfl ?hb ?ho ?_); (case hb => exact zB); (case ho => omega); (conv => whnf))
    | ((refine af.c rfl rfl rfl rfl rfl ?hb ?_); (case hb => exact zB); (conv => whnf))
    | ((refine af.d rfl rfl rfl rfl rfl rfl ?hb ?ho ?_); (case hb => exact zB); (case ho => omega); (conv => whnf))
    | (with_reducible refine Or.inl ?_)
    | ((with_reducible refine nil_no (by omega) ?_); (conv => whnf))
    | ((with_reducible refine ag ?_ (fun hn0 => ?_)) <;> (conv => whnf))
    | ((with_reducible refine aa.pure (am) rfl rfl ?_); conv => whnf) | ((with_reducible refine ai.pure (am) rfl rfl ?_); conv => whnf)
    | ((refine aa.fn (db au 4096 (cX dQ)) [] rfl rfl rfl rfl rfl ?ha ?hh ?_); (case ha => exact zA); (case hh => exact zH); (conv => whnf))
    | ((refine ai.fn (db au 4096 (cX dQ)) [] [] rfl rfl rfl rfl rfl ?ha ?hh ?hs ?_); (case ha => exact zA); (case hh => exact zH); (case hs => exact zK); (conv => whnf)) | ((refine ai.new (db au 4096 (cX dQ)) [] [] rfl rfl rfl rfl rfl rfl ?ha ?hh ?hs ?_); (case ha => exact zA); (case hh => exact zH); (case hs => exact zK); (conv => whnf))
    | ((refine aB (fun hc => ?_) (fun hc => ?_)) <;> (try simp only [decide_eq_true_eq, decide_eq_false_iff_not, Q5, Q20, Bool.and_eq_false_iff, Bool.or_eq_false_iff, Bool.not_eq_true', Bool.not_eq_false', beq_iff_eq, bne_iff_ne, ne_eq, beq_eq_false_iff_ne, bne_eq_false_iff_eq, Bool.not_eq_true, Bool.not_eq_false] at hc) <;> (try (exfalso; omega)) <;> (conv => whnf))))
  refine Wp.le (Le.virt 6 39 13 (fun i => HD.D (([] : List HD).getD i default)) (by decide) rfl) ?_
  refine Wp.loopP (ι := Nat) (fun k => k ≤ s.length) (fun k => ⟨⟨Try.f7.ntmps, 0⟩, 3, [(4, .ptr 0 0), (6, .sl 2 13 0 (aC s k).l.length), (7, .i .i64 (aC s k).now), (18, .d (ap 8 Hist.Ask.D s)), (19, .i .i64 s.length), (20, .i .i64 k)], [(0, some (.cells [.d (ap 4 Pol.D au), .i .i64 4096, .sl 1 4 0 (aC s k).xs.length])), (1, some (aI 78 4 Cel.D (aC s k).xs)), (2, some (aI 39 13 HD.D (aC s k).l))]⟩) (fun k => s.length - k) 0 (Nat.zero_le _) ?_ ?_
  · (refine Le.by [0,1,2] rfl rfl rfl rfl ?_ ?_ <;> (conv => whnf) <;> (repeat' (first | exact trivial | exact ab.rfl rfl | exact ab.ptr rfl | exact ab.sl rfl | ((with_reducible refine ab.fn ?_); (conv => whnf)) | ((refine ab.iref ?_); (conv => whnf)) | exact ⟨rfl, rfl, rfl⟩ | exact fun i hi => rfl | ((with_reducible refine And.intro ?_ ?_) <;> (conv => whnf)))))
  · intro k hk0
    have hM := hMI k hk0
    have h8 := hM.l8
    by_cases hi : k < s.length
    · have hm : (s.getD (k : Int).toNat default) ∈ s := by
        rw [Q13, Q1, Q0 hi]; exact Q14 _
      have hxa := hs _ hm
      have hmk : aC s (k + 1) = mkS (aC s k) k (s.getD (k : Int).toNat default) := by rw [Q13]; rfl
      have hm6 : (s.getD (k : Int).toNat default).op.tmod 6 = (s.getD (k : Int).toNat default).op % 6 := Q6 hxa.f.op.1
      have hop := mY hxa.f.op.1
      have he1 := hxa.f.early
      have hl1 := hxa.f.later
      have hkt : IsB ((s.getD (k : Int).toNat default).key.take 2) := fun b hb => hxa.f.key b (List.mem_of_mem_take hb)
      have hTw : Pure TC 10 [.d (.sl 1 ((if 2 < ((s.getD (k : Int).toNat default).key.length : Int) then 2 else ((s.getD (k : Int).toNat default).key.length : Int)).toNat - 0) fun i => (fun i => aQ .u8 ((s.getD (k : Int).toNat default).key.getD i default)) (0 + i))] (.d (ap 1 (aQ .u8) ((s.getD (k : Int).toNat default).key.take 2))) :=
        .leX (kI ((s.getD (k : Int).toNat default).key.take 2) (by rw [Q10]; omega)) (.cons (kr (s.getD (k : Int).toNat default).key (by rw [Q10]; split <;> omega)) .nil)
      obtain ⟨S1, hS1⟩ : ∃ S1 : St, S1 = ⟨⟨Try.f7.ntmps, 0⟩, 4, [(8, .i .i64 k), (9, .ptr 3 0), (4, .ptr 0 0), (6, .sl 2 13 0 (aC s k).l.length), (7, .i .i64 (aC s k).now), (18, .d (ap 8 Hist.Ask.D s)), (19, .i .i64 s.length), (20, .i .i64 k)], [(0, some (.cells [.d (ap 4 Pol.D au), .i .i64 4096, .sl 1 4 0 (aC s k).xs.length])), (1, some (aI 78 4 Cel.D (aC s k).xs)), (2, some (aI 39 13 HD.D (aC s k).l)), (3, some (.cells [.i .u8 (opA (s.getD (k : Int).toNat default).op), .i .i64 (s.getD (k : Int).toNat default).pol, .d (ap 1 (aQ .u8) (s.getD (k : Int).toNat default).key), .i .i64 (s.getD (k : Int).toNat default).n, .i .i64 (s.getD (k : Int).toNat default).now, .i .i64 (s.getD (k : Int).toNat default).ser, .i .u8 (s.getD (k : Int).toNat default).early, .i .u8 (s.getD (k : Int).toNat default).later]))]⟩ := ⟨_, rfl⟩
      obtain ⟨S2, hS2⟩ : ∃ S2 : St, S2 = ⟨⟨Try.f7.ntmps, 0⟩, 4, [(8, .i .i64 k), (9, .ptr 3 0), (4, .ptr 0 0), (6, .sl 2 13 0 (aC s k).l.length), (7, .i .i64 (aC s k).now), (18, .d (ap 8 Hist.Ask.D s)), (19, .i .i64 s.length), (20, .i .i64 k)], [(0, some (.cells [.d (ap 4 Pol.D au), .i .i64 4096, .sl 1 4 0 (aC s k).xs.length])), (1, some (aI 78 4 Cel.D (aC s k).xs)), (2, some (aI 39 13 HD.D (aC s k).l)), (3, some (.cells [.i .u8 (opA (s.getD (k : Int).toNat default).op), .i .i64 (cq (opA (s.getD (k : Int).toNat default).op)), .d (ap 1 (aQ .u8) (s.getD (k : Int).toNat default).key), .i .i64 (s.getD (k : Int).toNat default).n, .i .i64 (s.getD (k : Int).toNat default).now, .i .i64 (s.getD (k : Int).toNat default).ser, .i .u8 (s.getD (k : Int).toNat default).early, .i .u8 (s.getD (k : Int).toNat default).later]))]⟩ := ⟨_, rfl⟩
      have hDo := nR au 4096 (aC s k).xs (opA (s.getD (k : Int).toNat default).op) (cq (opA (s.getD (k : Int).toNat default).op)) ((s.getD (k : Int).toNat default).key.take 2) (nA (s.getD (k : Int).toNat default)) (max (aC s k).now (ar (s.getD (k : Int).toNat default).now)) (mJ (s.getD (k : Int).toNat default)) hM.inv.ok hkt
      obtain ⟨R, hR⟩ : ∃ R, R = dq (aC s k) (s.getD (k : Int).toNat default) := ⟨_, rfl⟩
      rw [show doS au 4096 (aC s k).xs (opA (s.getD (k : Int).toNat default).op) (cq (opA (s.getD (k : Int).toNat default).op)) ((s.getD (k : Int).toNat default).key.take 2) (nA (s.getD (k : Int).toNat default)) (max (aC s k).now (ar (s.getD (k : Int).toNat default).now)) (mJ (s.getD (k : Int).toNat default)) = R from hR.symm] at hDo
      rw [show nA (s.getD (k : Int).toNat default) = (if 1 > ar (s.getD (k : Int).toNat default).n then 1 else ar (s.getD (k : Int).toNat default).n) by unfold nA; omega, show max (aC s k).now (ar (s.getD (k : Int).toNat default).now) = (if ar (s.getD (k : Int).toNat default).now > (aC s k).now then ar (s.getD (k : Int).toNat default).now else (aC s k).now) by omega, show mJ (s.getD (k : Int).toNat default) = (if 1 > ar (s.getD (k : Int).toNat default).ser then 1 else ar (s.getD (k : Int).toNat default).ser) by unfold mJ; omega] at hDo
      (repeat' (first
    | ((refine Wp.midAt 10 S1 ?_ ?_) <;> subst hS1)
    | ((refine Wp.midAt 13 S2 ?_ ?_) <;> subst hS2)
    | with_reducible refine Wp.seq ?_
    | with_reducible refine Wp.block ?_
    | ((with_reducible first | refine Wp.region ?_ | refine Wp.drawL ac ?_ | refine Wp.cond ?_ | refine Wp.ret ?_ | refine Wp.skip ?_ | refine Wp.exit ?_ | refine Go.mk ?_ | apply aA.of); conv => whnf)
    | with_reducible exact rfl
    | ((with_reducible refine Ov.ok zO ?_); conv => whnf)
    | (with_reducible refine Ov.sh1 (by with_unfolding_all exact rfl) ?_)
    | ((with_reducible refine Ov.quo (by omega) (by omega) (by omega) (fun _ _ => ?_)); conv => whnf)
    | ((with_reducible refine And.intro (show aj _ _ _ _ = true by kernel_rfl) ?_); conv => whnf)
    | ((with_reducible refine And.intro zC ?_); conv => whnf)
    | ((with_reducible refine And.intro ?hb ?_); (case hb => exact ae (zzb rfl) (by omega)); (conv => whnf))
    | ((refine af.a rfl rfl rfl rfl rfl rfl ?hb ?_); (case hb => exact zB); (conv => whnf))
    | ((refine af.b rfl rfl rfl rfl rfl rfl rfl rfl ?hb ?ho ?_); (case hb => exact zB); (case ho => omega); (conv => whnf))
    | ((refine af.c rfl rfl rfl rfl rfl ?hb ?_); (case hb => exact zB); (conv => whnf))
    | ((refine af.d rfl rfl rfl rfl rfl rfl ?hb ?ho ?_); (case hb => exact zB); (case ho => omega); (conv => whnf))
    | (with_reducible refine Or.inl ?_)
    | ((with_reducible refine nil_no (by omega) ?_); (conv => whnf))
    | ((with_reducible refine ag ?_ (fun hn0 => ?_)) <;> (conv => whnf))
    | ((with_reducible refine aa.pure (hTw) rfl rfl ?_); conv => whnf) | ((with_reducible refine ai.pure (hTw) rfl rfl ?_); conv => whnf)
    | ((with_reducible refine aa.pure (cV _ hxa.n) rfl rfl ?_); conv => whnf) | ((with_reducible refine ai.pure (cV _ hxa.n) rfl rfl ?_); conv => whnf)
    | ((with_reducible refine aa.pure (cV _ hxa.now) rfl rfl ?_); conv => whnf) | ((with_reducible refine ai.pure (cV _ hxa.now) rfl rfl ?_); conv => whnf)
    | ((with_reducible refine aa.pure (cV _ hxa.ser) rfl rfl ?_); conv => whnf) | ((with_reducible refine ai.pure (cV _ hxa.ser) rfl rfl ?_); conv => whnf)
    | ((refine aa.fn (hDo) [0,1] rfl rfl rfl rfl rfl ?ha ?hh ?_); (case ha => exact zA); (case hh => exact zH); (conv => whnf))
    | ((refine ai.fn (hDo) [0,1] [0,1] rfl rfl rfl rfl rfl ?ha ?hh ?hs ?_); (case ha => exact zA); (case hh => exact zH); (case hs => exact zK); (conv => whnf)) | ((refine ai.new (hDo) [0,1] [0,1] rfl rfl rfl rfl rfl rfl ?ha ?hh ?hs ?_); (case ha => exact zA); (case hh => exact zH); (case hs => exact zK); (conv => whnf))
    | ((refine ai.fn (hDo) [0,1] [] rfl rfl rfl rfl rfl ?ha ?hh ?hs ?_); (case ha => exact zA); (case hh => exact zH); (case hs => exact zK); (conv => whnf)) | ((refine ai.new (hDo) [0,1] [] rfl rfl rfl rfl rfl rfl ?ha ?hh ?hs ?_); (case ha => exact zA); (case hh => exact zH); (case hs => exact zK); (conv => whnf))
    | ((refine aB (fun hc => ?_) (fun hc => ?_)) <;> (try simp only [decide_eq_true_eq, decide_eq_false_iff_not, Q5, Q20, Bool.and_eq_false_iff, Bool.or_eq_false_iff, Bool.not_eq_true', Bool.not_eq_false', beq_iff_eq, bne_iff_ne, ne_eq, beq_eq_false_iff_ne, bne_eq_false_iff_eq, Bool.not_eq_true, Bool.not_eq_false] at hc) <;> (try (exfalso; omega)) <;> (conv => whnf))))
      · have e9 : ak s = (aC s k).l := by
          have := i2 (s := s) (k := k) (by omega) (s.length - k)
          rw [show k + (s.length - k) = s.length by omega] at this
          exact this
        rw [e9]
        refine ao.of [2] rfl (by simp) rfl ?_ ?_
        · exact .of_eq rfl
        · exact ⟨⟨⟨rfl, rfl, rfl⟩, fun i hi => rfl⟩, trivial⟩
      · rw [show opA (s.getD (k : Int).toNat default).op = 1 + (s.getD (k : Int).toNat default).op.tmod 6 by unfold opA; rw [if_pos (.inl hc), hm6]]
        (refine Le.by [0,1,2,3] rfl rfl rfl rfl ?_ ?_ <;> (conv => whnf) <;> (repeat' (first | exact trivial | exact ab.rfl rfl | exact ab.ptr rfl | exact ab.sl rfl | ((with_reducible refine ab.fn ?_); (conv => whnf)) | ((refine ab.iref ?_); (conv => whnf)) | exact ⟨rfl, rfl, rfl⟩ | exact fun i hi => rfl | ((with_reducible refine And.intro ?_ ?_) <;> (conv => whnf)))))
      · rw [show opA (s.getD (k : Int).toNat default).op = 1 + (s.getD (k : Int).toNat default).op.tmod 6 by unfold opA; rw [if_pos (.inr hc), hm6]]
        (refine Le.by [0,1,2,3] rfl rfl rfl rfl ?_ ?_ <;> (conv => whnf) <;> (repeat' (first | exact trivial | exact ab.rfl rfl | exact ab.ptr rfl | exact ab.sl rfl | ((with_reducible refine ab.fn ?_); (conv => whnf)) | ((refine ab.iref ?_); (conv => whnf)) | exact ⟨rfl, rfl, rfl⟩ | exact fun i hi => rfl | ((with_reducible refine And.intro ?_ ?_) <;> (conv => whnf)))))
      · rw [show opA (s.getD (k : Int).toNat default).op = (s.getD (k : Int).toNat default).op by unfold opA; rw [if_neg (by omega)]]
        (refine Le.by [0,1,2,3] rfl rfl rfl rfl ?_ ?_ <;> (conv => whnf) <;> (repeat' (first | exact trivial | exact ab.rfl rfl | exact ab.ptr rfl | exact ab.sl rfl | ((with_reducible refine ab.fn ?_); (conv => whnf)) | ((refine ab.iref ?_); (conv => whnf)) | exact ⟨rfl, rfl, rfl⟩ | exact fun i hi => rfl | ((with_reducible refine And.intro ?_ ?_) <;> (conv => whnf)))))
      · rw [show cq (opA (s.getD (k : Int).toNat default).op) = 1 by unfold cq; rw [if_pos (by omega)]]
        (refine Le.by [0,1,2,3] rfl rfl rfl rfl ?_ ?_ <;> (conv => whnf) <;> (repeat' (first | exact trivial | exact ab.rfl rfl | exact ab.ptr rfl | exact ab.sl rfl | ((with_reducible refine ab.fn ?_); (conv => whnf)) | ((refine ab.iref ?_); (conv => whnf)) | exact ⟨rfl, rfl, rfl⟩ | exact fun i hi => rfl | ((with_reducible refine And.intro ?_ ?_) <;> (conv => whnf)))))
      · rw [show cq (opA (s.getD (k : Int).toNat default).op) = 1 by unfold cq; rw [if_pos (by omega)]]
        (refine Le.by [0,1,2,3] rfl rfl rfl rfl ?_ ?_ <;> (conv => whnf) <;> (repeat' (first | exact trivial | exact ab.rfl rfl | exact ab.ptr rfl | exact ab.sl rfl | ((with_reducible refine ab.fn ?_); (conv => whnf)) | ((refine ab.iref ?_); (conv => whnf)) | exact ⟨rfl, rfl, rfl⟩ | exact fun i hi => rfl | ((with_reducible refine And.intro ?_ ?_) <;> (conv => whnf)))))
      · rw [show cq (opA (s.getD (k : Int).toNat default).op) = 0 by unfold cq; rw [if_neg (by omega)]]
        (refine Le.by [0,1,2,3] rfl rfl rfl rfl ?_ ?_ <;> (conv => whnf) <;> (repeat' (first | exact trivial | exact ab.rfl rfl | exact ab.ptr rfl | exact ab.sl rfl | ((with_reducible refine ab.fn ?_); (conv => whnf)) | ((refine ab.iref ?_); (conv => whnf)) | exact ⟨rfl, rfl, rfl⟩ | exact fun i hi => rfl | ((with_reducible refine And.intro ?_ ?_) <;> (conv => whnf)))))
      · have hm1 : aC s (k + 1) = ⟨R.2, (if ar (s.getD (k : Int).toNat default).now > (aC s k).now then ar (s.getD (k : Int).toNat default).now else (aC s k).now), (aC s k).l⟩ := by
          rw [hmk]; unfold mkS; rw [if_neg (by omega), ← hR, if_pos hc]; congr 1; omega
        refine ⟨k + 1, by omega, by dsimp only; omega, ?_⟩
        dsimp only
        rw [hm1]
        (refine Le.by [0,12,2] rfl rfl rfl rfl ?_ ?_ <;> ((conv => whnf); repeat' (first | exact trivial | exact law_argR (by decide) (fun l hl => by rcases l with _ | _ | _ | _ | l <;> first | exact ⟨zzb rfl, rfl⟩ | exact ⟨zzb rfl, rfl, rfl⟩ | omega) (fun q hq => by rcases q with _ | _ | _ | _ | _ | _ | _ | _ | _ | q <;> first | exact ⟨zzb rfl, rfl⟩ | omega) | exact law_argI (by decide) (by decide) (fun l hl => by rcases l with _ | _ | _ | _ | l <;> first | exact ⟨zzb rfl, rfl⟩ | exact ⟨zzb rfl, rfl, rfl⟩ | omega) (fun q hq => by rcases q with _ | _ | _ | _ | _ | _ | _ | _ | _ | q <;> first | exact ⟨zzb rfl, rfl⟩ | omega) | exact ab.rfl rfl | exact ab.ptr rfl | exact ab.sl rfl | exact ab.free SV.Le.any rfl | exact ⟨rfl, rfl, rfl⟩ | exact ⟨rfl, zzb rfl⟩ | exact x_argRA (by assumption) rfl | exact x_argA (by assumption) | exact fun i hi => rfl | exact app_rowI _ _ | ((with_reducible refine And.intro ?_ ?_) <;> (conv => whnf)))))
      · have hm1 : aC s (k + 1) = ⟨R.2, (if ar (s.getD (k : Int).toNat default).now > (aC s k).now then ar (s.getD (k : Int).toNat default).now else (aC s k).now), (aC s k).l ++ [lB (s.getD (k : Int).toNat default) k R.1]⟩ := by
          rw [hmk]; unfold mkS; rw [if_neg (by omega), ← hR, if_neg hc]; congr 1; omega
        refine ⟨k + 1, by omega, by dsimp only; omega, ?_⟩
        dsimp only
        rw [hm1]
        (refine Le.by [0,12,16] rfl rfl rfl rfl ?_ ?_ <;> ((conv => whnf); repeat' (first | exact trivial | exact law_argR (by decide) (fun l hl => by rcases l with _ | _ | _ | _ | l <;> first | exact ⟨zzb rfl, rfl⟩ | exact ⟨zzb rfl, rfl, rfl⟩ | omega) (fun q hq => by rcases q with _ | _ | _ | _ | _ | _ | _ | _ | _ | q <;> first | exact ⟨zzb rfl, rfl⟩ | omega) | exact law_argI (by decide) (by decide) (fun l hl => by rcases l with _ | _ | _ | _ | l <;> first | exact ⟨zzb rfl, rfl⟩ | exact ⟨zzb rfl, rfl, rfl⟩ | omega) (fun q hq => by rcases q with _ | _ | _ | _ | _ | _ | _ | _ | _ | q <;> first | exact ⟨zzb rfl, rfl⟩ | omega) | exact ab.rfl rfl | exact ab.ptr rfl | exact ab.sl rfl | exact ab.free SV.Le.any rfl | exact ⟨rfl, rfl, rfl⟩ | exact ⟨rfl, zzb rfl⟩ | exact x_argRA (by assumption) rfl | exact x_argA (by assumption) | exact fun i hi => rfl | exact app_rowI _ _ | ((with_reducible refine And.intro ?_ ?_) <;> (conv => whnf)))))
        all_goals try dsimp only
        all_goals first
          | (rw [Q9]; exact ab.sl rfl)
          | rfl
          | (rw [Q9]; rfl)
          | (refine bo HD.D 13 _ (lB (s.getD (k : Int).toNat default) k R.1) _ ?_
             rw [show (if 1 > ar (s.getD (k : Int).toNat default).n then 1 else ar (s.getD (k : Int).toNat default).n) = nA (s.getD (k : Int).toNat default) by unfold nA; omega]
             rfl)
    · obtain rfl : k = s.length := by omega
      (repeat' (first
    | with_reducible refine Wp.seq ?_
    | with_reducible refine Wp.block ?_
    | ((with_reducible first | refine Wp.region ?_ | refine Wp.drawL ac ?_ | refine Wp.cond ?_ | refine Wp.ret ?_ | refine Wp.skip ?_ | refine Wp.exit ?_ | refine Go.mk ?_ | apply aA.of); conv => whnf)
    | with_reducible exact rfl
    | ((with_reducible refine Ov.ok zO ?_); conv => whnf)
    | (with_reducible refine Ov.sh1 (by with_unfolding_all exact rfl) ?_)
    | ((with_reducible refine Ov.quo (by omega) (by omega) (by omega) (fun _ _ => ?_)); conv => whnf)
    | ((with_reducible refine And.intro (show aj _ _ _ _ = true by kernel_rfl) ?_); conv => whnf)
    | ((with_reducible refine And.intro zC ?_); conv => whnf)
    | ((with_reducible refine And.intro ?hb ?_); (case hb => exact ae (zzb rfl) (by omega)); (conv => whnf))
    | ((refine af.a rfl rfl rfl rfl rfl rfl ?hb ?_); (case hb => exact zB); (conv => whnf))
    | ((refine af.b rfl rfl rfl rfl rfl rfl rfl rfl ?hb ?ho ?_); (case hb => exact zB); (case ho => omega); (conv => whnf))
    | ((refine af.c rfl rfl rfl rfl rfl ?hb ?_); (case hb => exact zB); (conv => whnf))
    | ((refine af.d rfl rfl rfl rfl rfl rfl ?hb ?ho ?_); (case hb => exact zB); (case ho => omega); (conv => whnf))
    | (with_reducible refine Or.inl ?_)
    | ((with_reducible refine nil_no (by omega) ?_); (conv => whnf))
    | ((with_reducible refine ag ?_ (fun hn0 => ?_)) <;> (conv => whnf))
    
    | ((refine aB (fun hc => ?_) (fun hc => ?_)) <;> (try simp only [decide_eq_true_eq, decide_eq_false_iff_not, Q5, Q20, Bool.and_eq_false_iff, Bool.or_eq_false_iff, Bool.not_eq_true', Bool.not_eq_false', beq_iff_eq, bne_iff_ne, ne_eq, beq_eq_false_iff_ne, bne_eq_false_iff_eq, Bool.not_eq_true, Bool.not_eq_false] at hc) <;> (try (exfalso; omega)) <;> (conv => whnf))))
      have e9 : ak s = (aC s s.length).l := rfl
      rw [e9]
      refine ao.of [2] rfl (by simp) rfl ?_ ?_
      · exact .of_eq rfl
      · exact ⟨⟨⟨rfl, rfl, rfl⟩, fun i hi => rfl⟩, trivial⟩
end
section
open Go.ChangeShapes Go.WideShapes Go.ChangeAt Go.RowKit
@[reducible] def jV : List Sh := [.int .u8, .int .i64, .sl 1 [.int .u8], .int .i64, .int .i64, .int .i64, .int .u8, .int .u8]
theorem jv {ds : List D} (h : eJ jV ds) : ∃ a : Hist.Ask, mh ds a.D ∧ AfB a := by
  obtain ⟨d0, r0, rfl, h0, t0⟩ := bm h
  obtain ⟨d1, r1, rfl, h1, t1⟩ := bm t0
  obtain ⟨d2, r2, rfl, h2, t2⟩ := bm t1
  obtain ⟨d3, r3, rfl, h3, t3⟩ := bm t2
  obtain ⟨d4, r4, rfl, h4, t4⟩ := bm t3
  obtain ⟨d5, r5, rfl, h5, t5⟩ := bm t4
  obtain ⟨d6, r6, rfl, h6, t6⟩ := bm t5
  obtain ⟨d7, r7, rfl, h7, t7⟩ := bm t6
  obtain rfl := iq t7
  obtain ⟨n0, rfl, w0⟩ := cK h0
  obtain ⟨n1, rfl, _⟩ := cK h1
  obtain ⟨key, le, _, hkb⟩ := lc h2
  obtain ⟨n3, rfl, w3⟩ := cK h3
  obtain ⟨n4, rfl, w4⟩ := cK h4
  obtain ⟨n5, rfl, w5⟩ := cK h5
  obtain ⟨n6, rfl, w6⟩ := cK h6
  obtain ⟨n7, rfl, w7⟩ := cK h7
  exact ⟨⟨n0, n1, key, n3, n4, n5, n6, n7⟩, .cons (.rfl _) (.cons (.rfl _) (.cons le (.cons (.rfl _) (.cons (.rfl _) (.cons (.rfl _) (.cons (.rfl _) (.cons (.rfl _) .nil))))))), ⟨⟨lG w0, fun x hx => lG (hkb x hx), lG w6, lG w7⟩, (iM w3).2, (iM w4).2, (iM w5).2⟩⟩
theorem argAsks {H : Type} {enc : TypeId × Value → H} {W : World} {v : Value} {d : DataW H} {p : List MemPlace} (h : DataW.Trod enc Try.prog W 0 (fun _ => true) true 22 v d p) (hv : v.cells.toList = [v]) :
    ∃ s : List Hist.Ask, (∀ a ∈ s, AfB a) ∧ ∀ E : Env, E.Im = (fun b => b < W.heap.size) → RS E 0 W (.d (ap 8 Hist.Ask.D s)) v := by
  obtain ⟨x, f, g⟩ := arg1 h (s := .sl 8 jV) (by kernel_rfl) hv
  obtain ⟨s, le, _, hok⟩ := la f fun ds hd => jv hd
  exact ⟨s, hok, fun E hE => .d _ _ (by rw [hE]; exact le.out _ _ _ g)⟩
theorem qi {N : Nat} {H : Type} {enc : TypeId × Value → H} {W : World} {v : Value} {d : DataW H} {p : List MemPlace} (h : DataW.Trod enc Try.prog W 0 (fun _ => true) true 22 v d p) (hv : v.cells.toList = [v]) (hN : Rows.uptoBulk d ≤ N) :
    ∃ s : List Hist.Ask, s.length ≤ N ∧ (∀ a ∈ s, AfB a) ∧ ∀ E : Env, E.Im = (fun b => b < W.heap.size) → RS E 0 W (.d (ap 8 Hist.Ask.D s)) v := by
  obtain ⟨x, f, g0, g⟩ := arg1N h (s := .sl 8 jV) (by kernel_rfl) hv hN
  obtain ⟨s, le, hl, hok⟩ := nu f g0 fun ds hd _ => jv hd
  exact ⟨s, hl, hok, fun E hE => .d _ _ (by rw [hE]; exact le.out _ _ _ g)⟩
theorem nW {H : Type} {enc : TypeId × Value → H} {W : World} {v : Value} {d : DataW H} {p : List MemPlace} (h : DataW.Trod enc Try.prog W 0 (fun _ => true) true 33 v d p) (hv : v.cells.toList = [v]) :
    ∃ xs : List Int, IsB xs ∧ ∀ E : Env, E.Im = (fun b => b < W.heap.size) → RS E 0 W (.d (ap 1 (aQ .u8) xs)) v := by
  obtain ⟨x, f, g⟩ := arg1 h (s := .sl 1 [.int .u8]) (by kernel_rfl) hv
  obtain ⟨xs, le, _, hok⟩ := lc f
  exact ⟨xs, fun x hx => lG (hok x hx), fun E hE => .d _ _ (by rw [hE]; exact le.out _ _ _ g)⟩
theorem iO {H : Type} {enc : TypeId × Value → H} {P : Program} {w : World} {base : Nat} {spare : Nat → Bool} {held : Bool} {t t' t'' : TypeId} {args : Array Value} {ds : List (DataW H)} {ps : List MemPlace} (h : DataW.TrodAll enc P w base spare held [t, t', t''] args.toList ds ps) :
    ∃ v v' v'' d d' d'' p p' p'', args = #[v, v', v''] ∧ ds = [d, d', d''] ∧ ps = p ++ p' ++ p'' ∧ DataW.Trod enc P w base spare held t v d p ∧ DataW.Trod enc P w base spare held t' v' d' p' ∧ DataW.Trod enc P w base spare held t'' v'' d'' p'' := by
  obtain ⟨v, vs, d, ds', p, q, hargs, rfl, rfl, hd, hrest⟩ := trodAll_cons h
  obtain ⟨v', vs', d', ds'', p', q', rfl, rfl, rfl, hd', hrest'⟩ := trodAll_cons hrest
  obtain ⟨v'', vs'', d'', ds''', p'', q'', rfl, rfl, rfl, hd'', hrest''⟩ := trodAll_cons hrest'
  obtain ⟨rfl, rfl, rfl⟩ := trodAll_nil hrest''
  exact ⟨v, v', v'', d, d', d'', p, p', p'', by cases args; simp_all, rfl, by simp, hd, hd', hd''⟩
end
theorem RS.two {E E' : Env} {nx nx' : Nat} {w w' : World} {b : Bool} {k : IntKind} {n : Int} {v : Value} (h : RS E nx w (.tup [.b b, .i k n]) v) : RS E' nx' w' (.tup [.b b, .i k n]) v := by
  cases h with
  | tup _ us hs hh =>
    refine .tup _ us hs fun j hj => ?_
    have : j = 0 ∨ j = 1 := by simp at hj; omega
    rcases this with rfl | rfl
    · have := hh 0 (by simp)
      rw [show ([SV.b b, SV.i k n] : List SV)[0] = .b b from rfl] at this ⊢
      rw [this.val_inv]; exact RS.bool _ _ _ b
    · have := hh 1 (by simp)
      rw [show ([SV.b b, SV.i k n] : List SV)[1] = .i k n from rfl] at this ⊢
      rw [this.val_inv]; exact .d _ _ (.val _ rfl)
theorem aa.pureT {C : Cx} {nt : NT} {nx : Nat} {fr : List (Nat × SV)} {hp : List (Nat × Option Blk)} {g : Nat} {args args0 : List SV} {b : Bool} {kd : IntKind} {n : Int} {k : St → SV → Prop} (h : Pure C g args0 (.tup [.b b, .i kd n]))
    (hk : kE ⟨nt, nx, fr, hp⟩ args fun ys => Les ys args0 ∧ k ⟨nt, nx, fr, hp⟩ (.tup [.b b, .i kd n])) : aa C ⟨nt, nx, fr, hp⟩ g args k := by
  refine ⟨h.ent, fun O E a w vs hs hsz hargs => ?_⟩
  obtain ⟨ys, ⟨g1, gk⟩, g3, g5⟩ := fg hs args vs.toList _ (by simpa using hsz) (fun j x v hx hv => by
    obtain ⟨q1, q2⟩ := Q3 hx
    subst q2; rw [← bW hv]; exact hargs j q1) hk
  have hlen : vs.size = ys.length := by omega
  refine (h.out ⟨E.ρ, E.κ, E.all ⟨nt, nx, fr, hp⟩⟩ w vs (fun b hb => ?_) (by rw [hlen, g1.len]) fun j hj => ?_).mono ?_
  · rcases hb with hb | ⟨l, x, hl, hr, rfl⟩
    · exact (hs.im b hb).1
    · exact (hs.hp l x hl).lt hr
  · have hj2 : j < ys.length := by rw [g1.len]; exact hj
    have hj3 : j < vs.size := by omega
    exact (g1.out j hj2 hj).out _ _ _ _ (g5 j _ _ (Q0 hj2) (by simp [Array.getD, hj3]))
  · rintro e w' ⟨v, rfl, hkp, hv⟩
    exact ⟨v, _, ⟨nt, nx, fr, hp⟩, _, rfl, gk, hs.after hkp, hv.two⟩
section
theorem kG : ∀ {ys : List Int} {l : Int}, fo l ys = true ↔ (∀ x ∈ ys, lP x = true ∧ l < x) ∧ ys.Pairwise (· < ·)
  | [], l => by simp [fo]
  | x :: r, l => by
    have ih := kG (ys := r) (l := x)
    simp only [fo, Q5, decide_eq_true_eq, ih, List.mem_cons, List.pairwise_cons]
    constructor
    · rintro ⟨⟨h1, h2⟩, h3, h4⟩
      refine ⟨fun y hy => ?_, fun y hy => (h3 y hy).2, h4⟩
      rcases hy with rfl | hy
      · exact ⟨h1, h2⟩
      · exact ⟨(h3 y hy).1, by have := (h3 y hy).2; omega⟩
    · rintro ⟨h1, h2, h3⟩
      exact ⟨h1 x (Or.inl rfl), fun y hy => ⟨(h1 y (Or.inr hy)).1, h2 y hy⟩, h3⟩
theorem nm {ys : List Int} {k : Nat} (h : k < ys.length) : ys.getD k default ∈ ys := by
  rw [Q1, Q0 h]; exact Q14 h
theorem cJ {ys : List Int} {k : Nat} (h : k < ys.length) : ys.getD k default = ys[k] := by
  rw [Q1, Q0 h]; rfl
section
variable {ys : List Int} {t : Int}
theorem mS (h : ys.Pairwise (· < ·)) : (∀ k, k < eL ys t → ys.getD k default < t) ∧ ∀ k, eL ys t ≤ k → k < ys.length → ¬ ys.getD k default < t := by
  have := nO (lt := fun k => decide (ys.getD k default < t)) (n := ys.length) (fun i j hij hj hlt => by
    simp only [decide_eq_true_eq] at hlt ⊢
    by_cases e : i = j
    · subst e; exact hlt
    · have := List.pairwise_iff_getElem.1 h i j (by omega) hj (by omega)
      rw [cJ hj] at hlt
      rw [cJ (show i < ys.length by omega)]
      omega)
  refine ⟨fun k hk => ?_, fun k hk hkn => ?_⟩
  · have := this.1 k hk
    simpa using this
  · have := this.2 k hk hkn
    simp only [decide_eq_false_iff_not] at this
    exact this
theorem pR (h : ys.Pairwise (· < ·)) : f6 ys t = true ↔ t ∈ ys := by
  obtain ⟨h1, h2⟩ := mS (t := t) h
  unfold f6
  simp only [Q5, decide_eq_true_eq]
  constructor
  · rintro ⟨a, b⟩
    rw [← b]; exact nm a
  · intro hm
    obtain ⟨k, hk, rfl⟩ := List.getElem_of_mem hm
    have g1 : ¬ k < eL ys ys[k] := fun hlt => by have := h1 k hlt; rw [cJ hk] at this; omega
    have g2 : ¬ eL ys ys[k] < k := fun hlt => by
      have := h2 _ (Q4 _) (by omega)
      rw [cJ (show eL ys ys[k] < ys.length by omega)] at this
      have := List.pairwise_iff_getElem.1 h _ k (show eL ys ys[k] < ys.length by omega) hk hlt
      omega
    have e : eL ys ys[k] = k := by omega
    rw [e, cJ hk]
    exact ⟨hk, rfl⟩
end
end
section
namespace Hist
def fD (op pol : Int) (key : List Int) (n : Int) (r : Rpl) : HD := ⟨0, op, pol, key, n, -1000, 1000, r⟩
def fg0 (key : List Int) : HD := fD 2 1 key 0 ⟨0, true, 1, 0, 2305843009213693952, 0⟩
def fg1 (key : List Int) : HD := fD 3 1 key 2305843009213693953 ⟨0, true, 1, 0, 0, 0⟩
def fg2 (key : List Int) : HD := fD 4 1 key 0 ⟨0, false, 3, 0, 0, 0⟩
def fg3 (key : List Int) : HD := fD 1 0 key 4 ⟨0, true, 0, 0, 0, 1125899906842624⟩
def dd (x : HD) : Bool := (decide (x.r.serial = 2305843009213693952) && decide (x.first ≠ -1000)) || (decide (x.op = 2) && decide (x.r.serial = 2305843009213693953))
section
variable {ps : List Pol} {op pol : Int} {key : List Int} {n now serial : Int}
theorem mU {spare : Int} : ∀ {l : List HD} {xs : List Cel}, fR ps 4096 xs → (∀ d ∈ l, IsB d.key) → (l.foldl (fun xs d => (doH ps spare xs d).2) xs).length ≤ xs.length + l.length
  | [], _, _, _ => by simp
  | d :: l, xs, h, hk => by
    have h1 := nF (op := d.op) (pol := d.pol) (n := d.n) (now := d.r.now) (serial := ser spare d) h (hk d (List.mem_cons_self ..))
    have h2 := mU (l := l) (spare := spare) h1 fun e he => hk e (List.mem_cons_of_mem _ he)
    have h3 : (doH ps spare xs d).2.length ≤ xs.length + 1 := qH h
    rw [List.foldl_cons, List.length_cons]
    exact Nat.le_trans h2 (by show (doH ps spare xs d).2.length + _ ≤ _; omega)
theorem bH {spare : Int} {a : List HD} {d : HD} (hp : ps.length ≤ 32) (ha : ∀ e ∈ a, IsB e.key) (hl : a.length ≤ 4000) (h5 : d.op < 5) (h : jN ps spare a d = true) :
    d.r = (aF ps (look (play ps spare a) (d.pol :: d.key)) d.op d.pol d.key d.n d.r.now (ser spare d)).1 ∧
    ∀ i, look (play ps spare (a ++ [d])) i = if i = d.pol :: d.key then (aF ps (look (play ps spare a) (d.pol :: d.key)) d.op d.pol d.key d.n d.r.now (ser spare d)).2.or (look (play ps spare a) i) else look (play ps spare a) i := by
  have hB := hU hp (spare := spare) ha
  have hL : (play ps spare a).length ≤ 0 + a.length := mU (.nil (by decide) (by decide) hp) ha
  obtain ⟨a1, a2, _⟩ := ek (op := d.op) (pol := d.pol) (key := d.key) (n := d.n) (now := d.r.now) (serial := ser spare d) hB h5 (by omega)
  unfold jN at h
  rw [nC] at h
  refine ⟨h.symm.trans a1, fun i => ?_⟩
  rw [dv]
  exact a2 i
theorem pu {o : Option Cel} (h2 : op = 2) (h : (aF ps o op pol key n now serial).1.g = true) : ∃ c, (aF ps o op pol key n now serial).2 = some c ∧ serial ∈ c.held := by
  unfold aF at h ⊢
  split at h
  · cases h
  · rename_i hE
    rw [if_neg hE]
    rw [gH, if_neg (by omega), bN h2] at h
    unfold bB
    rw [if_neg (by omega), bN h2]
    rw [if_neg (by rintro (h9 | h9); · rw [h] at h9; cases h9
                   · omega)]
    simp only [jO] at h
    split at h
    · rename_i h3
      refine ⟨_, rfl, ?_⟩
      simp only [iE, dP]
      rw [if_pos h3]
      simp only
      rw [if_pos h3]
      unfold bF; simp
    · cases h
theorem pr {p : Int} {xs : List Int} {s : Int} (h : aU p xs s = 0) : s ∉ xs := by
  obtain ⟨_, h1, h2, _⟩ := mt.1 h
  intro hm
  unfold fZ at h1
  split at h1
  · rename_i h3
    have := (pR (kG.1 h3.2.2.2).2).2 hm
    rw [this] at h2; cases h2
  · omega
theorem lL {c : Cel} (h2 : op = 2) (h : (aF ps (some c) op pol key n now serial).1.g = true) : serial ∉ c.held := by
  unfold aF at h
  split at h
  · cases h
  · rw [gH, if_neg (by omega), bN h2] at h
    simp only [jO, Option.getD_some] at h
    split at h
    · exact pr (by assumption)
    · cases h
theorem ins_old {xs : List Int} {i : Nat} {x y : Int} (h : y ∈ xs) : y ∈ bF xs i x := by
  unfold bF
  rw [← List.take_append_drop i xs] at h
  rcases List.mem_append.1 h with h | h
  · exact List.mem_append_left _ (List.mem_append_left _ h)
  · exact List.mem_append_right _ h
theorem del_old {xs : List Int} {i : Nat} {y : Int} (h : y ∈ xs) (hn : i < xs.length → xs.getD i default ≠ y) : y ∈ dn xs i := by
  unfold dn
  obtain ⟨k, hk, rfl⟩ := List.getElem_of_mem h
  rw [List.mem_append]
  by_cases h1 : k < i
  · left
    rw [List.mem_iff_getElem]
    exact ⟨k, by rw [Q10]; omega, by rw [List.getElem_take]⟩
  · by_cases h2 : k = i
    · subst h2
      exact absurd (by rw [Q1, Q0 hk]; rfl) (hn hk)
    · right
      rw [List.mem_iff_getElem]
      exact ⟨k - (i + 1), by rw [List.length_drop]; omega, by rw [List.getElem_drop]; congr 1; omega⟩
theorem mA {b c : Cel} {x : Int} (h : (aF ps (some b) op pol key n now serial).2 = some c) (hx : x ∈ b.held) (hop : op < 5) (h1 : 1 ≤ op) : x ∈ c.held ∨ (op = 3 ∧ n = x ∧ (aF ps (some b) op pol key n now serial).1.g = true) := by
  unfold aF at h ⊢
  split at h
  · cases h
  · rename_i hE
    rw [if_neg hE]
    unfold bB at h ⊢
    simp only [Option.getD_some] at h ⊢
    split at h
    · cases h
    · rename_i h4
      rw [if_neg h4]
      split at h
      · cases h
      · rename_i h9
        rw [if_neg h9]
        simp only [Option.some.injEq] at h
        subst h
        have h : op = 1 ∨ op = 2 ∨ op = 3 := by omega
        rcases h with h | h | h
        · rw [b8 h]; exact .inl hx
        · rw [bN h]
          left
          simp only [iE]
          split
          · rename_i h3
            simp only [dP]
            rw [if_pos h3]; exact ins_old hx
          · exact hx
        · rw [de h]
          simp only [iI, og]
          split
          · rename_i h3
            simp only [f9]
            rw [if_pos h3]
            by_cases hn : n = x
            · exact .inr ⟨h, hn, trivial⟩
            · left
              refine del_old hx fun hlt e => hn ?_
              have := (kf.1 h3).2
              unfold f6 at this
              rw [Q5, decide_eq_true_iff, decide_eq_true_iff] at this
              rw [← this.2, e]
          · exact .inl hx
end
theorem dx {L : List HD} (hok : ∀ d ∈ L, d.first ≤ d.last ∧ Ok d) (h8 : L.length ≤ 8) {d : HD} (hd : d ∈ L) (hc : fL d = true) (hno : ∀ o spare, o.Perm (gid L (d.pol :: d.key)) → Good au spare o → False) : ij au L = false ∧ bQ au L.length L = 0 := by
  refine ⟨?_, nz hok h8⟩
  cases hh : ij au L with
  | false => rfl
  | true =>
    unfold ij at hh
    rw [Q5, Q23] at hh
    have h1 := hh.2 (kb d) ((j9 au L (kb d)).2 ⟨d, hd, by rw [(hok d hd).2.inc]; exact hc, rfl⟩)
    rw [nj (fun e he => (hok e he).2) (hok d hd).2] at h1
    obtain ⟨o, p1, p2⟩ := all_ex (Nat.le_trans (List.length_filter_le _ _) h8) h1
    exact absurd p2 (fun h => hno o _ p1 h)
theorem eb {l : List HD} {id : List Int} {d : HD} : d ∈ gid l id ↔ d ∈ l ∧ fL d = true ∧ d.pol :: d.key = id := by
  unfold gid; rw [List.mem_filter, Q5, decide_eq_true_iff]
theorem lr {d : HD} (h : fL d = true) : 1 ≤ d.op ∧ d.op < 5 := by
  unfold fL at h
  split at h
  · omega
  · split at h
    · omega
    · simp at h; omega
theorem jo {spare : Int} {o : List HD} {id : List Int} (hk : ∀ e ∈ o, IsB e.key ∧ fL e = true ∧ e.pol :: e.key = id) (hl : o.length ≤ 4000) (hg : Good au spare o) : ∀ m, m ≤ o.length → ∀ c, look (play au spare (o.take m)) id = some c → ∀ s ∈ c.held, ∃ e ∈ o.take m, e.op = 2 ∧ e.r.serial = s
  | 0, _, c, hc, _, _ => by cases hc
  | m + 1, hm, c, hc, s, hs => by
    have ih := jo hk hl hg m (by omega)
    have ht : o.take (m + 1) = o.take m ++ [o.getD m default] := by
      rw [List.take_add_one, Q0 (by omega), Q1, Q0 (by omega)]; rfl
    have hmem : o.getD m default ∈ o := by rw [Q1, Q0 (by omega)]; exact Q14 _
    obtain ⟨k1, k2, k3⟩ := hk _ hmem
    obtain ⟨a1, a2⟩ := bH (ps := au) (by decide) (fun e he => (hk e (List.mem_of_mem_take he)).1) (by rw [Q10]; omega) (lr k2).2 (hg m (by omega))
    rw [ht] at hc ⊢
    rw [a2, if_pos k3.symm] at hc
    have hold : ∀ b, look (play au spare (o.take m)) id = some b → s ∈ b.held → ∃ e ∈ o.take m ++ [o.getD m default], e.op = 2 ∧ e.r.serial = s := fun b hb hsb => by
      obtain ⟨e, he, h9⟩ := ih b hb s hsb
      exact ⟨e, List.mem_append_left _ he, h9⟩
    rw [k3] at a1 hc
    cases hq : (aF au (look (play au spare (o.take m)) id) (o.getD m default).op (o.getD m default).pol (o.getD m default).key (o.getD m default).n (o.getD m default).r.now (ser spare (o.getD m default))).2 with
    | none => rw [hq, Option.none_or] at hc; exact hold c hc hs
    | some c' =>
      rw [hq, Option.some_or] at hc
      cases hc
      rcases iT hq hs with ⟨b, hb, hsb⟩ | ⟨o2, o3, _, o4⟩
      · exact hold b hb hsb
      · exact ⟨o.getD m default, by simp, o2, by rw [a1, o4, o3]⟩
theorem nk {spare : Int} {id : List Int} {P : Int} {o1 : List HD} : ∀ (o2 : List HD), (∀ e ∈ o1 ++ o2, IsB e.key ∧ fL e = true ∧ e.pol :: e.key = id) → (o1 ++ o2).length ≤ 4000 → Good au spare (o1 ++ o2) → (∀ e ∈ o2, ¬ (e.op = 3 ∧ e.n = P ∧ e.r.g = true)) → (∃ c, look (play au spare o1) id = some c ∧ P ∈ c.held) → ∃ c, look (play au spare (o1 ++ o2)) id = some c ∧ P ∈ c.held := by
  intro o2
  induction o2 generalizing o1 with
  | nil => intro _ _ _ _ h; rw [List.append_nil]; exact h
  | cons d o2 ih =>
    intro hk hl hg hn h
    have e : o1 ++ d :: o2 = (o1 ++ [d]) ++ o2 := by simp
    rw [e] at hk hl hg ⊢
    refine ih hk hl hg (fun e he => hn e (List.mem_cons_of_mem _ he)) ?_
    obtain ⟨c, h1, h2⟩ := h
    obtain ⟨k1, k2, k3⟩ := hk d (by simp)
    have hr : jN au spare o1 d = true := (show Good au spare (o1 ++ d :: o2) by rw [e]; exact hg).at_
    obtain ⟨a1, a2⟩ := bH (ps := au) (by decide) (fun e he => (hk e (by simp [he])).1) (by simp at hl; omega) (lr k2).2 hr
    rw [k3, h1] at a1 a2
    have a2' := a2 id
    rw [if_pos rfl, h1] at a2'
    cases hq : (aF au (some c) d.op d.pol d.key d.n d.r.now (ser spare d)).2 with
    | none => rw [hq, Option.none_or] at a2'; exact ⟨c, a2', h2⟩
    | some c' =>
      rw [hq, Option.some_or] at a2'
      rcases mA hq h2 (lr k2).2 (lr k2).1 with h9 | ⟨h9, h10, h11⟩
      · exact ⟨c', a2', h9⟩
      · exact absurd ⟨h9, h10, by rw [a1]; exact h11⟩ (hn d (List.mem_cons_self ..))
theorem two_of {a : List HD} {o : List HD} {d : HD} (h : o.Perm (a ++ [d, d])) : ∃ o1 o2 o3, o = o1 ++ d :: (o2 ++ d :: o3) := by
  have h1 : d ∈ o := h.mem_iff.2 (by simp)
  obtain ⟨x, y, rfl⟩ := List.append_of_mem h1
  have h2 : (d :: (x ++ y)).Perm (d :: (a ++ [d])) := (List.perm_middle.symm.trans h).trans (by
    have : a ++ [d, d] = (a ++ [d]) ++ [d] := by simp
    rw [this]
    exact List.perm_append_singleton d (a ++ [d]))
  have h3 : d ∈ x ++ y := (List.Perm.mem_iff h2.cons_inv).2 (by simp)
  rcases List.mem_append.1 h3 with h3 | h3
  · obtain ⟨x1, x2, rfl⟩ := List.append_of_mem h3
    exact ⟨x1, x2, y, by simp⟩
  · obtain ⟨y1, y2, rfl⟩ := List.append_of_mem h3
    exact ⟨x, y1, y2, rfl⟩
def cj (how : Int) (key : List Int) (l : List HD) : List HD := if how = 0 then l ++ [fg0 key, fg0 key] else if how = 1 then l ++ [fg1 key] else if how = 2 then l ++ [fg2 key] else l ++ [fg3 key]
section
variable {S : MS} {i : Nat} {key : List Int}
theorem f_ok {op n : Int} {pol : Int} {r : Rpl} (hk : IsB key) (hl : key.length ≤ 2) (h : (op = 2 ∨ op = 3 ∨ op = 4) ∧ pol = 1 ∨ op = 1 ∧ pol = 0 ∧ n = 4) : (fD op pol key n r).first ≤ (fD op pol key n r).last ∧ Ok (fD op pol key n r) := by
  refine ⟨by show (-1000 : Int) ≤ 1000; decide, ⟨?_, ?_, hk⟩⟩
  · show dO au ⟨0, op, pol, key, n, -1000, 1000, r⟩ = false
    unfold dO
    rw [Bool.and_eq_false_iff]
    right
    rw [decide_eq_false_iff_not]
    refine fun h9 => h9 ?_
    show qc au op pol key n = 0
    unfold qc
    rcases h with ⟨h | h | h, rfl⟩ | ⟨h, rfl, rfl⟩ <;> subst h
    all_goals
      rw [if_neg (by first | decide | (rintro (h | h | h) <;> omega)), if_neg (by omega), if_neg (by rw [dQ]; simp), if_neg (by decide)]
  · show bk pol key = 0
    unfold bk
    have : pol = 0 ∨ pol = 1 := by omega
    rw [if_neg (by omega), if_neg (by omega)]
theorem dz (h : MI S i) {F : List HD} (hF : ∀ d ∈ F, d.first ≤ d.last ∧ Ok d) : ∀ d ∈ S.l ++ F, d.first ≤ d.last ∧ Ok d := fun d hd => by
  rcases List.mem_append.1 hd with hd | hd
  · exact ⟨(h.fm d hd).2.1, (h.fm d hd).1.ok⟩
  · exact hF d hd
theorem eW {L : List HD} (hok : ∀ d ∈ L, d.first ≤ d.last ∧ Ok d) {o : List HD} {id : List Int} (hp : o.Perm (gid L id)) : ∀ e ∈ o, IsB e.key ∧ fL e = true ∧ e.pol :: e.key = id := fun e he => by
  obtain ⟨h1, h2, h3⟩ := eb.1 (hp.mem_iff.1 he)
  exact ⟨(hok e h1).2.key, h2, h3⟩
theorem pV (h : MI S i) (h5 : S.l.length ≤ 5) (hk : IsB key) (hl : key.length ≤ 2) (hch : ∀ x ∈ S.l, dd x = false) : ij au (S.l ++ [fg1 key]) = false ∧ bQ au (S.l ++ [fg1 key]).length (S.l ++ [fg1 key]) = 0 := by
  have hok := dz h (F := [fg1 key]) fun d hd => by rw [List.mem_singleton.1 hd]; exact f_ok hk hl (.inl ⟨.inr (.inl rfl), rfl⟩)
  refine dx hok (by rw [Q9, List.length_singleton]; omega) (d := fg1 key) (by simp) rfl fun o spare hp hg => ?_
  have hL : o.length ≤ 8 := by rw [hp.length_eq]; exact Nat.le_trans (List.length_filter_le _ _) (by rw [Q9, List.length_singleton]; omega)
  have hkk := eW hok hp
  have hm : fg1 key ∈ o := hp.mem_iff.2 (eb.2 ⟨by simp, rfl, rfl⟩)
  obtain ⟨a, b, rfl⟩ := List.append_of_mem hm
  obtain ⟨a1, _⟩ := bH (ps := au) (by decide) (fun e he => (hkk e (by simp [he])).1) (by simp at hL; omega) (show (fg1 key).op < 5 by show (3 : Int) < 5; decide) hg.at_
  obtain ⟨c, hc, hmem⟩ := kz (op := (fg1 key).op) rfl (by rw [← a1]; rfl)
  obtain ⟨e, he, h2, h3⟩ := jo hkk (by omega) hg a.length (by simp) c (by rw [List.take_left]; exact hc) _ hmem
  rw [List.take_left] at he
  have heo := eb.1 (hp.mem_iff.1 (List.mem_append_left _ he))
  rcases List.mem_append.1 heo.1 with h9 | h9
  · have := hch e h9
    unfold dd at this
    rw [h2, h3] at this
    simp [fg1, fD] at this
  · rw [List.mem_singleton.1 h9] at h2
    cases h2
theorem pW (h : MI S i) (h5 : S.l.length ≤ 5) (hk : IsB key) (hl : key.length ≤ 2) (hch : ∀ x ∈ S.l, dd x = false) : ij au (S.l ++ [fg0 key, fg0 key]) = false ∧ bQ au (S.l ++ [fg0 key, fg0 key]).length (S.l ++ [fg0 key, fg0 key]) = 0 := by
  have hok := dz h (F := [fg0 key, fg0 key]) fun d hd => by
    have : d = fg0 key := by simpa using hd
    rw [this]; exact f_ok hk hl (.inl ⟨.inl rfl, rfl⟩)
  refine dx hok (by simp; omega) (d := fg0 key) (by simp) rfl fun o spare hp hg => ?_
  have hL : o.length ≤ 8 := by rw [hp.length_eq]; exact Nat.le_trans (List.length_filter_le _ _) (by simp; omega)
  have hkk := eW hok hp
  have hgd : gid (S.l ++ [fg0 key, fg0 key]) ((fg0 key).pol :: (fg0 key).key) = gid S.l ((fg0 key).pol :: (fg0 key).key) ++ [fg0 key, fg0 key] := by
    have : S.l ++ [fg0 key, fg0 key] = (S.l ++ [fg0 key]) ++ [fg0 key] := by simp
    rw [this, c5, if_pos ⟨rfl, rfl⟩, c5, if_pos ⟨rfl, rfl⟩]; simp
  have hp' := hp
  rw [hgd] at hp'
  obtain ⟨o1, o2, o3, rfl⟩ := two_of hp'
  have hser : ser spare (fg0 key) = 2305843009213693952 := rfl
  obtain ⟨a1, a2⟩ := bH (ps := au) (by decide) (fun e he => (hkk e (by simp [he])).1) (by simp at hL; omega) (show (fg0 key).op < 5 by show (2 : Int) < 5; decide) hg.at_
  have hst : ∃ c, look (play au spare (o1 ++ [fg0 key])) ((fg0 key).pol :: (fg0 key).key) = some c ∧ 2305843009213693952 ∈ c.held := by
    obtain ⟨c, q1, q2⟩ := pu (op := (fg0 key).op) rfl (by rw [← a1]; rfl)
    rw [hser] at q2
    exact ⟨c, by rw [a2, if_pos rfl, q1, Option.some_or], q2⟩
  have e1 : o1 ++ fg0 key :: (o2 ++ fg0 key :: o3) = ((o1 ++ [fg0 key]) ++ o2) ++ fg0 key :: o3 := by simp
  rw [e1] at hg hkk hL hp
  obtain ⟨c, q1, q2⟩ := nk o2 (fun e he => hkk e (List.mem_append_left _ he)) (by rw [Q9] at hL; omega) hg.pre (fun e he ⟨u1, u2, u3⟩ => by
    have heo := (eb.1 (hp.mem_iff.1 (show e ∈ _ by simp [he]))).1
    rcases List.mem_append.1 heo with h9 | h9
    · obtain ⟨w, w1, w2, w3⟩ := h.rel e h9 u1 u3
      have := hch w w1
      have hfi := (h.fm w w1).2.2.2
      unfold dd at this
      rw [w3, u2] at this
      rw [decide_eq_true (show w.first ≠ -1000 by omega)] at this
      simp at this
    · have : e = fg0 key := by simpa using h9
      rw [this] at u1; cases u1) hst
  obtain ⟨b1, _⟩ := bH (ps := au) (by decide) (fun e he => (hkk e (List.mem_append_left _ he)).1) (by rw [Q9] at hL; omega) (show (fg0 key).op < 5 by show (2 : Int) < 5; decide) hg.at_
  rw [q1] at b1
  have := lL (op := (fg0 key).op) rfl (by rw [← b1]; rfl)
  rw [hser] at this
  exact this q2
theorem pU (h : MI S i) (h5 : S.l.length ≤ 5) (hk : IsB key) (hl : key.length ≤ 2) : ij au (S.l ++ [fg2 key]) = false ∧ bQ au (S.l ++ [fg2 key]).length (S.l ++ [fg2 key]) = 0 := by
  have hok := dz h (F := [fg2 key]) fun d hd => by rw [List.mem_singleton.1 hd]; exact f_ok hk hl (.inl ⟨.inr (.inr rfl), rfl⟩)
  refine dx hok (by rw [Q9, List.length_singleton]; omega) (d := fg2 key) (by simp) rfl fun o spare hp hg => ?_
  have hL : o.length ≤ 8 := by rw [hp.length_eq]; exact Nat.le_trans (List.length_filter_le _ _) (by rw [Q9, List.length_singleton]; omega)
  have hkk := eW hok hp
  have hm : fg2 key ∈ o := hp.mem_iff.2 (eb.2 ⟨by simp, rfl, rfl⟩)
  obtain ⟨a, b, rfl⟩ := List.append_of_mem hm
  obtain ⟨a1, _⟩ := bH (ps := au) (by decide) (fun e he => (hkk e (by simp [he])).1) (by simp at hL; omega) (show (fg2 key).op < 5 by show (4 : Int) < 5; decide) hg.at_
  have a1 := congrArg Rpl.left a1
  unfold aF at a1
  split at a1
  · exact absurd a1 (by show ¬ (3 : Int) = 0; decide)
  · rw [gH, if_pos (show (fg2 key).op = 4 from rfl)] at a1
    unfold dV at a1
    rw [if_pos (show (au.getD (fg2 key).pol.toNat default).kind = 2 from rfl)] at a1
    have a1 : (3 : Int) = 2 - _ := a1
    omega
theorem pT (h : MI S i) (h5 : S.l.length ≤ 5) (hk : IsB key) (hl : key.length ≤ 2) : ij au (S.l ++ [fg3 key]) = false ∧ bQ au (S.l ++ [fg3 key]).length (S.l ++ [fg3 key]) = 0 := by
  have hok := dz h (F := [fg3 key]) fun d hd => by rw [List.mem_singleton.1 hd]; exact f_ok hk hl (.inr ⟨rfl, rfl, rfl⟩)
  refine dx hok (by rw [Q9, List.length_singleton]; omega) (d := fg3 key) (by simp) rfl fun o spare hp hg => ?_
  have hL : o.length ≤ 8 := by rw [hp.length_eq]; exact Nat.le_trans (List.length_filter_le _ _) (by rw [Q9, List.length_singleton]; omega)
  have hkk := eW hok hp
  have hm : fg3 key ∈ o := hp.mem_iff.2 (eb.2 ⟨by simp, rfl, rfl⟩)
  obtain ⟨a, b, rfl⟩ := List.append_of_mem hm
  obtain ⟨a1, _⟩ := bH (ps := au) (by decide) (fun e he => (hkk e (by simp [he])).1) (by simp at hL; omega) (show (fg3 key).op < 5 by show (1 : Int) < 5; decide) hg.at_
  have a1 := congrArg Rpl.g a1
  unfold aF at a1
  split at a1
  · cases a1
  · rw [gH, if_neg (show ¬ (fg3 key).op = 4 by show ¬ (1 : Int) = 4; decide), b8 (show (fg3 key).op = 1 from rfl)] at a1
    have a1 : true = (fS 10 20 _ 1125899906842624 4).g := a1
    obtain ⟨_, h4, _⟩ := dec_g a1.symm
    unfold bj at h4
    split at h4
    · omega
    · omega
theorem k9 (h : MI S i) (h5 : S.l.length ≤ 5) (hk : IsB key) (hl : key.length ≤ 2) (how : Int) (hch : ∀ x ∈ cj how key S.l, dd x = false) : ij au (cj how key S.l) = false ∧ bQ au (cj how key S.l).length (cj how key S.l) = 0 := by
  unfold cj at hch ⊢
  split
  · rename_i h1; rw [if_pos h1] at hch
    exact pW h h5 hk hl fun x hx => hch x (List.mem_append_left _ hx)
  · rename_i h1; rw [if_neg h1] at hch
    split
    · rename_i h2; rw [if_pos h2] at hch
      exact pV h h5 hk hl fun x hx => hch x (List.mem_append_left _ hx)
    · split
      · exact pU h h5 hk hl
      · exact pT h h5 hk hl
end
end Hist
end
end Go.Proofs.Ytpdhdnhkhidmpaa
