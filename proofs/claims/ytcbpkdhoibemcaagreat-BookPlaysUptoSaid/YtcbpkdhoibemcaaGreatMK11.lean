/- Lemmas of Rh2, Rk5, Rk6, Sx32. No condition. -/
import Derived.Test.YtcbpkdhoibemcaaGreatMK10
set_option linter.unusedVariables false
set_option linter.unusedSimpArgs false
set_option maxHeartbeats 80000000
set_option maxRecDepth 100000
namespace Go.Proofs.YtcbpkdhoibemcaaGreat
open Go.RowKit
section
@[reducible] def eY (ps : List Pol) (room : Int) (xs : List Cel) : Blk := .cells [.d (aj 4 Pol.D ps), .i .i64 room, .d (aj 4 Cel.D xs)]
theorem qj {p : Pol} {c : Cel} {n : Int} : (dP p c n).pol = c.pol := by unfold dP; split <;> rfl
theorem pr {p : Pol} {c : Cel} {n : Int} : (ew p c n).pol = c.pol := by unfold ew; split <;> rfl
section
variable {ps : List Pol} {room : Int} {xs : List Cel} {op pol : Int} {key : List Int} {n now s : Int}
theorem kR (ht : aD now = false) :     Fun TC 9 1 [.ptr 0 0, dr op pol key n, .i .i64 now, .i .i64 s] [(0, some (eY ps room xs))] 1 (dG 1).S [(0, some (eY ps room xs))] := by
 have hF := bR now
 rw [ht] at hF
 refine Fun.mk' Tryz.func9 rfl rfl zN (by decide) ?_
 (repeat' (first | ((first | refine Wp.any aa rfl ?_ | (with_reducible first | refine Go.mk ?_ | apply ak.of | refine ab.pure (hF) rfl rfl ?_)); conv => whnf)))
 ((refine ah.of [0] rfl (fun i hi => by have : i = 0 := (by omega); subst this; rfl) rfl ?_ ?_) <;> first | exact .rfl _ | (((conv => whnf); repeat' (first | exact zA9 | ((with_reducible refine And.intro ?_ ?_) <;> (conv => whnf)))); done))
theorem pA (hs : s < 1 ∨ 4611686018427387903 < s) :     Fun TC 9 1 [.ptr 0 0, dr 2 pol key n, .i .i64 now, .i .i64 s] [(0, some (eY ps room xs))] 1 (dG 1).S [(0, some (eY ps room xs))] := by
 cases ht : aD now with
 | false => exact kR ht
 | true =>
  have hF := bR now
  rw [ht] at hF
  refine Fun.mk' Tryz.func9 rfl rfl zN (by decide) ?_
  (repeat' (first | ((first | refine Wp.any aa rfl ?_ | (with_reducible first | refine Go.mk ?_ | apply ak.of | refine ab.pure (hF) rfl rfl ?_)); conv => whnf) | ((refine am (fun hc => ?_) (fun hc => ?_)) <;> (try simp only [wz9] at hc) <;> (try (exfalso; omega)) <;> (conv => whnf))))
  all_goals ((refine ah.of [0] rfl (fun i hi => by have : i = 0 := (by omega); subst this; rfl) rfl ?_ ?_) <;> first | exact .rfl _ | (((conv => whnf); repeat' (first | exact zA9 | ((with_reducible refine And.intro ?_ ?_) <;> (conv => whnf)))); done))
theorem pz (ht : aD now = true) (hs : ¬ (op = 2 ∧ (s < 1 ∨ 4611686018427387903 < s))) (hE : cB ps op pol key n ≠ 0) :     Fun TC 9 1 [.ptr 0 0, dr op pol key n, .i .i64 now, .i .i64 s] [(0, some (eY ps room xs))] 1 (dG (cB ps op pol key n)).S [(0, some (eY ps room xs))] := by
 have hF := bR now
 rw [ht] at hF
 have hC := cF ps op pol key n
 generalize cB ps op pol key n = e at *
 refine Fun.mk' Tryz.func9 rfl rfl zN (by decide) ?_
 (repeat' (first | ((first | refine Wp.any aa rfl ?_ | (with_reducible first | refine Go.mk ?_ | apply ak.of) | refine zV ?_ | (with_reducible first | refine ab.pure (hF) rfl rfl ?_ | refine ag.pure (hC) rfl rfl ?_)); conv => whnf) | ((refine am (fun hc => ?_) (fun hc => ?_)) <;> (try simp only [wz9] at hc) <;> (try (exfalso; omega)) <;> (conv => whnf))))
 all_goals ((refine ah.of [0] rfl (fun i hi => by have : i = 0 := (by omega); subst this; rfl) rfl ?_ ?_) <;> first | exact .rfl _ | (((conv => whnf); repeat' (first | exact zA9 | ((with_reducible refine And.intro ?_ ?_) <;> (conv => whnf)))); done))
theorem py (h : BCI ps room xs) (ht : aD now = true) (hE : cB ps 5 pol key n = 0) :     Fun TC 9 1 [.ptr 0 0, dr 5 pol key n, .i .i64 now, .i .i64 s] [(0, some (eY ps room xs))] 1 (Rpl.S ⟨0, false, (xs.length : Int) - (cg ps now xs).length, 0, 0, now⟩) [(0, some (eY ps room (cg ps now xs)))] := by
 have hF := bR now
 rw [ht] at hF
 have hC := cF ps 5 pol key n
 rw [hE] at hC
 have hB := pF ps xs now h.inv.ok.pol h.inv.ok.len
 have hl := h.inv.len
 have hst : (cg ps now xs).length ≤ xs.length := List.length_filter_le _ _
 generalize cg ps now xs = ys at *
 refine Fun.mk' Tryz.func9 rfl rfl zN (by decide) ?_
 (repeat' (first | ((first | refine Wp.any aa rfl ?_ | (with_reducible first | refine Go.mk ?_ | apply ak.of | refine Ov.ok zO ?_) | refine zV ?_ | (with_reducible first | refine ab.pure (hF) rfl rfl ?_ | refine ag.pure (hC) rfl rfl ?_ | refine ag.pure (hB) rfl rfl ?_)); conv => whnf)))
 all_goals ((refine ah.of [0] rfl (fun i hi => by have : i = 0 := (by omega); subst this; rfl) rfl ?_ ?_) <;> first | exact .rfl _ | (((conv => whnf); repeat' (first | exact zA9 | ((with_reducible refine And.intro ?_ ?_) <;> (conv => whnf)))); done))
theorem px (ht : aD now = true) (hE : cB ps 6 pol key n = 0) :     Fun TC 9 1 [.ptr 0 0, dr 6 pol key n, .i .i64 now, .i .i64 s] [(0, some (eY ps room xs))] 1 (dG 0).S [(0, some (eY ps room xs))] := by
 have hF := bR now
 rw [ht] at hF
 have hC := cF ps 6 pol key n
 rw [hE] at hC
 refine Fun.mk' Tryz.func9 rfl rfl zN (by decide) ?_
 (repeat' (first | ((first | refine Wp.any aa rfl ?_ | (with_reducible first | refine Go.mk ?_ | apply ak.of) | refine zV ?_ | (with_reducible first | refine ab.pure (hF) rfl rfl ?_ | refine ag.pure (hC) rfl rfl ?_)); conv => whnf)))
 all_goals ((refine ah.of [0] rfl (fun i hi => by have : i = 0 := (by omega); subst this; rfl) rfl ?_ ?_) <;> first | exact .rfl _ | (((conv => whnf); repeat' (first | exact zA9 | ((with_reducible refine And.intro ?_ ?_) <;> (conv => whnf)))); done))
theorem pu (h : BCI ps room xs) (hop : 1 ≤ op ∧ op < 5) (ht : aD now = true) (hs : ¬ (op = 2 ∧ (s < 1 ∨ 4611686018427387903 < s))) (hE : cB ps op pol key n = 0) {q : Rpl} {c : Cel} {z : Bool}
  (hcp : 0 ≤ c.pol ∧ c.pol ≤ 255) (hck : c.key.length ≤ 16777216)
  (hO : Pure TC 31 [(ps.getD pol.toNat default).S, (du xs pol key).S, dr op pol key n, .i .i64 now, .i .i64 s] (.tup [q.S, c.S, .b z])) :
    Fun TC 9 1 [.ptr 0 0, dr op pol key n, .i .i64 now, .i .i64 s] [(0, some (eY ps room xs))] 1 (if z = false then q else if d9 xs pol key < 0 ∧ room ≤ xs.length then dG 10 else q).S [(0, some (eY ps room (if z = false then xs else if d9 xs pol key < 0 ∧ room ≤ xs.length then xs else c7 c false xs)))] := by
 have hF := bR now
 rw [ht] at hF
 have hC := cF ps op pol key n
 rw [hE] at hC
 obtain ⟨_, _, _, hk, _⟩ := p9 hE
 have hk := hk hop.2
 have hl := h.inv.len
 have hX : ∀ k, k < xs.length → (0 ≤ (xs.getD k default).pol ∧ (xs.getD k default).pol ≤ 255) ∧ (xs.getD k default).key.length ≤ 16777216 := fun k hk => by
  have h1 := h.inv.ok.pol k hk
  have h2 := h.inv.ok.key k
  have h3 := h.inv.pl
  omega
 have hCell := pE xs pol key (by omega)
 have hFind := it xs pol key
 have hPut := r16_Put xs c hcp hck hX (by omega)
 generalize du xs pol key = c0 at *
 generalize d9 xs pol key = f0 at *
 generalize c7 c false xs = ys at *
 cases z with
 | false =>
  simp only [if_true]
  refine Fun.mk' Tryz.func9 rfl rfl zN (by decide) ?_
  (repeat' (first | ((first | refine Wp.any aa rfl ?_ | (with_reducible first | refine Go.mk ?_ | apply ak.of) | refine zV ?_ | (with_reducible first | refine And.intro zC ?_ | refine ab.pure (hF) rfl rfl ?_ | refine ag.pure (hC) rfl rfl ?_ | refine ag.pure (hCell) rfl rfl ?_ | refine ag.pure (hO) rfl rfl ?_)); conv => whnf) | ((refine am (fun hc => ?_) (fun hc => ?_)) <;> (try simp only [wz9] at hc) <;> (try (exfalso; omega)) <;> (conv => whnf))))
  all_goals ((refine ah.of [0] rfl (fun i hi => by have : i = 0 := (by omega); subst this; rfl) rfl ?_ ?_) <;> first | exact .rfl _ | (((conv => whnf); repeat' (first | exact zA9 | ((with_reducible refine And.intro ?_ ?_) <;> (conv => whnf)))); done))
 | true =>
  simp only [Bool.true_eq_false, if_false]
  by_cases hfull : f0 < 0 ∧ room ≤ xs.length
  ·simp only [if_pos hfull]
   refine Fun.mk' Tryz.func9 rfl rfl zN (by decide) ?_
   (repeat' (first | ((first | refine Wp.any aa rfl ?_ | (with_reducible first | refine Go.mk ?_ | apply ak.of) | refine zV ?_ | (with_reducible first | refine And.intro zC ?_ | refine ab.pure (hF) rfl rfl ?_ | refine ag.pure (hC) rfl rfl ?_ | refine ag.pure (hCell) rfl rfl ?_ | refine ag.pure (hO) rfl rfl ?_ | refine ag.pure (hFind) rfl rfl ?_)); conv => whnf) | ((refine am (fun hc => ?_) (fun hc => ?_)) <;> (try simp only [wz9] at hc) <;> (try (exfalso; omega)) <;> (conv => whnf))))
   all_goals ((refine ah.of [0] rfl (fun i hi => by have : i = 0 := (by omega); subst this; rfl) rfl ?_ ?_) <;> first | exact .rfl _ | (((conv => whnf); repeat' (first | exact zA9 | ((with_reducible refine And.intro ?_ ?_) <;> (conv => whnf)))); done))
  ·simp only [if_neg hfull]
   refine Fun.mk' Tryz.func9 rfl rfl zN (by decide) ?_
   (repeat' (first | ((first | refine Wp.any aa rfl ?_ | (with_reducible first | refine Go.mk ?_ | apply ak.of) | refine zV ?_ | (with_reducible first | refine And.intro zC ?_ | refine ab.pure (hF) rfl rfl ?_ | refine ag.pure (hC) rfl rfl ?_ | refine ag.pure (hCell) rfl rfl ?_ | refine ag.pure (hO) rfl rfl ?_ | refine ag.pure (hFind) rfl rfl ?_ | refine ag.pure (hPut) rfl rfl ?_)); conv => whnf) | ((refine am (fun hc => ?_) (fun hc => ?_)) <;> (try simp only [wz9] at hc) <;> (try (exfalso; omega)) <;> (conv => whnf))))
   all_goals ((refine ah.of [0] rfl (fun i hi => by have : i = 0 := (by omega); subst this; rfl) rfl ?_ ?_) <;> first | exact .rfl _ | (((conv => whnf); repeat' (first | exact zA9 | ((with_reducible refine And.intro ?_ ?_) <;> (conv => whnf)))); done))
theorem mI (h : BCI ps room xs) :     Fun TC 9 1 [.ptr 0 0, dr op pol key n, .i .i64 now, .i .i64 s] [(0, some (eY ps room xs))] 1 (doS ps room xs op pol key n now s).1.S [(0, some (eY ps room (doS ps room xs op pol key n now s).2))] := by
 rw [← p6 h]
 by_cases hE0 : aR ps op pol key n now s = 0
 ·have hE := e6 hE0
  have hb : ¬ (aD now = false ∨ (op = 2 ∧ gz s = false)) := fun hb => by rw [ky hE, if_pos hb] at hE0; omega
  have ht : aD now = true := by cases ht : aD now with | true => rfl | false => exact absurd (Or.inl ht) hb
  obtain ⟨hnow, h1, h6, _⟩ := dd hE0
  have hs : ¬ (op = 2 ∧ (s < 1 ∨ 4611686018427387903 < s)) := fun ⟨h2, h3⟩ => by have := (dd hE0).2.2.2.2.2.2.1 h2; omega
  have hn : op = 1 → 0 ≤ n ∧ n ≤ 4611686018427387903 := (dd hE0).2.2.2.2.2.1
  by_cases hop : op < 5
  ·obtain ⟨hC, hid, hhl⟩ := nF h hE hop
   obtain ⟨⟨i1, i2, i3⟩, hpl⟩ := m7 hE0 hop
   have hFm := nh hE hop
   have hkd := (p9 hE).2.2.2.2.2
   have e1 : (du xs pol key).pol = pol ∧ (du xs pol key).key = key := by
    have : (du xs pol key).pol :: (du xs pol key).key = pol :: key := hid
    injection this with a b; exact ⟨a, b⟩
   have e2 : oc ps room xs op pol key n now s = if op = 4 then (bZ (ps.getD pol.toNat default) (du xs pol key) now, xs)
     else if (bK (ps.getD pol.toNat default) (du xs pol key) op n now s).1.g = false ∨ (op = 1 ∧ n = 0) then ((bK (ps.getD pol.toNat default) (du xs pol key) op n now s).1, xs)
     else if d9 xs pol key < 0 ∧ room ≤ xs.length then (dG 10, xs)
     else ((bK (ps.getD pol.toNat default) (du xs pol key) op n now s).1, c7 (bK (ps.getD pol.toNat default) (du xs pol key) op n now s).2 false xs) := by
    unfold oc; rw [if_neg (fun h => h hE0), if_neg (by omega), if_neg (by omega)]
   have hK := @pu ps room xs op pol key n now s h ⟨h1, hop⟩ ht hs hE
   rw [e2]
   clear e2
   generalize hp : ps.getD pol.toNat default = p at *
   generalize hcc : du xs pol key = c0 at *
   have hz : ∀ (q : Rpl) (c : Cel) (z : Bool), bK p c0 op n now s = (q, c) → op ≠ 4 → (z = false ↔ (q.g = false ∨ (op = 1 ∧ n = 0))) →
     Fun TC 9 1 [.ptr 0 0, dr op pol key n, .i .i64 now, .i .i64 s] [(0, some (eY ps room xs))] 1 (if z = false then q else if d9 xs pol key < 0 ∧ room ≤ xs.length then dG 10 else q).S [(0, some (eY ps room (if z = false then xs else if d9 xs pol key < 0 ∧ room ≤ xs.length then xs else c7 c false xs)))] →
     Fun TC 9 1 [.ptr 0 0, dr op pol key n, .i .i64 now, .i .i64 s] [(0, some (eY ps room xs))] 1 (if op = 4 then (bZ p c0 now, xs)
     else if (bK p c0 op n now s).1.g = false ∨ (op = 1 ∧ n = 0) then ((bK p c0 op n now s).1, xs)
     else if d9 xs pol key < 0 ∧ room ≤ xs.length then (dG 10, xs)
     else ((bK p c0 op n now s).1, c7 (bK p c0 op n now s).2 false xs)).1.S [(0, some (eY ps room (if op = 4 then (bZ p c0 now, xs)
     else if (bK p c0 op n now s).1.g = false ∨ (op = 1 ∧ n = 0) then ((bK p c0 op n now s).1, xs)
     else if d9 xs pol key < 0 ∧ room ≤ xs.length then (dG 10, xs)
     else ((bK p c0 op n now s).1, c7 (bK p c0 op n now s).2 false xs)).2))] := by
    intro q c z e h4 hz hF
    simp only [e, if_neg h4]
    by_cases h : z = false
    ·simp only [if_pos h] at hF
     simp only [if_pos (hz.1 h)]
     exact hF
    ·simp only [if_neg h] at hF
     simp only [if_neg (fun h9 => h (hz.2 h9))]
     by_cases h8 : d9 xs pol key < 0 ∧ room ≤ xs.length
     ·simp only [if_pos h8] at hF ⊢; exact hF
     ·simp only [if_neg h8] at hF ⊢; exact hF
   rcases (by omega : op = 1 ∨ op = 2 ∨ op = 3 ∨ op = 4) with rfl | rfl | rfl | rfl
   ·have k1 : p.kind = 1 := by rw [← hp]; rw [hp]; exact hkd (by decide)
    unfold cI at hFm
    rw [if_pos k1] at hFm
    have hck : jU p.T p.tau [c0.tat, now, n] = 0 := (fV _ _ _ _ _).2 ⟨(ll _ _).1 (by simpa using hFm), hC.tat, hnow, hn rfl⟩
    refine hz (dM p c0 now n) (bt p c0 now n) _ (ez rfl) (by decide) ?_ (hK (by rw [show (bt p c0 now n).pol = c0.pol from rfl]; omega) (by rw [show (bt p c0 now n).key = c0.key from rfl, e1.2]; omega) (one_D1 hck))
    rw [Bool.and_eq_false_iff, decide_eq_false_iff_not]
    have := hn rfl
    constructor
    ·rintro (h | h)
     ·exact Or.inl h
     ·exact Or.inr ⟨rfl, by omega⟩
    ·rintro (h | h)
     ·exact Or.inl h
     ·exact Or.inr (by omega)
   ·have k2 : p.kind = 2 := hkd (by decide)
    have hsr := hC.sem k2
    have hsb : gz s = true := by unfold gz; rw [Q5, decide_eq_true_eq, decide_eq_true_eq]; omega
    refine hz (jV p c0 s) (dP p c0 s) _ (fC rfl) (by decide) ?_ (hK (by rw [qj]; omega) (by rw [i5, e1.2]; omega) (one_D2 hsr hsb))
    constructor
    ·exact Or.inl
    ·rintro (h | h)
     ·exact h
     ·omega
   ·have k2 : p.kind = 2 := hkd (by decide)
    have hsr := hC.sem k2
    refine hz (kQ p c0 n) (ew p c0 n) _ (fB rfl) (by decide) ?_ (hK (by rw [pr]; omega) (by rw [ip, e1.2]; omega) (one_D3 hsr))
    constructor
    ·exact Or.inl
    ·rintro (h | h)
     ·exact h
     ·omega
   ·simp only [if_true]
    by_cases k2 : p.kind = 2
    ·unfold cI at hFm
     rw [if_neg (by omega), if_pos k2, Q5, decide_eq_true_eq, decide_eq_true_eq] at hFm
     exact hK (z := false) (by omega) (by rw [e1.2]; omega) (one_D4s k2 hFm (by omega))
    ·have k1 : p.kind = 1 := by
      unfold cI at hFm
      by_cases k1 : p.kind = 1
      ·exact k1
      ·rw [if_neg k1, if_neg k2] at hFm; cases hFm
     unfold cI at hFm
     rw [if_pos k1] at hFm
     exact hK (z := false) (by omega) (by rw [e1.2]; omega) (one_D4r k2 ((gQ _ _ _ _).2 ⟨(ll _ _).1 (by simpa using hFm), hC.tat, hnow⟩))
  ·have e2 : oc ps room xs op pol key n now s = if op = 5 then (⟨0, false, (xs.length : Int) - (cg ps now xs).length, 0, 0, now⟩, cg ps now xs) else if op = 6 then (dG 0, xs)
     else if op = 4 then (bZ (ps.getD pol.toNat default) (du xs pol key) now, xs)
     else if (bK (ps.getD pol.toNat default) (du xs pol key) op n now s).1.g = false ∨ (op = 1 ∧ n = 0) then ((bK (ps.getD pol.toNat default) (du xs pol key) op n now s).1, xs)
     else if d9 xs pol key < 0 ∧ room ≤ xs.length then (dG 10, xs)
     else ((bK (ps.getD pol.toNat default) (du xs pol key) op n now s).1, c7 (bK (ps.getD pol.toNat default) (du xs pol key) op n now s).2 false xs) := by
    unfold oc; rw [if_neg (fun h => h hE0)]
   rw [e2]
   rcases (by omega : op = 5 ∨ op = 6) with rfl | rfl
   ·exact py h ht hE
   ·exact px ht hE
 ·have e2 : oc ps room xs op pol key n now s = (dG (aR ps op pol key n now s), xs) := by unfold oc; rw [if_pos hE0]
  rw [e2]
  by_cases hb : aD now = false ∨ (op = 2 ∧ (s < 1 ∨ 4611686018427387903 < s))
  ·have e3 : aR ps op pol key n now s = 1 := by unfold aR; rw [if_pos hb]
   rw [e3]
   rcases hb with ht | ⟨rfl, hs⟩
   ·exact kR ht
   ·exact pA hs
  ·have e3 : aR ps op pol key n now s = cB ps op pol key n := by unfold aR; rw [if_neg hb]
   rw [e3] at hE0 ⊢
   have ht : aD now = true := by cases ht : aD now with | true => rfl | false => exact absurd (Or.inl ht) hb
   exact pz ht (fun h => hb (Or.inr h)) hE0
end
end
noncomputable def cT : Code := (pt 30 (Tryz.f3.body.getD .skip)).getD .skip
theorem RD.eqInv {w : World} {Im : Nat → Prop} {v u : Value} {x : D} (h : RD w Im (.eq v x) u) : u = v := by cases h; rfl
theorem RD.celB {w : World} {Im : Nat → Prop} {b : Nat} (hb : Im b) {xs : List Cel} {v : Value} (h : RD w Im (aj 4 Cel.D xs) v) : RD w Im (.low b (aj 4 (celB b) xs)) v := by
 refine .low _ _ _ hb ?_
 cases h with
 | sl _ _ _ a cap g hc hm hl ha hg =>
  refine .sl _ _ _ a cap g hc hm (fun i hi => rfl) ha fun i j hi hj => ?_
  have hj : j < 4 := hj
  have hg := hg i j hi hj
  rcases (by omega : j = 0 ∨ j = 1 ∨ j = 2 ∨ j = 3) with rfl | rfl | rfl | rfl
  ·exact hg
  ·exact .low _ _ _ hb hg
  ·exact hg
  ·exact .low _ _ _ hb hg
theorem scr_wp {ps : List Pol} {room : Int} {xs : List Cel} {L0 L1 L2 nx : Nat} {fr : List (Nat × SV)} {hp : List (Nat × Option Blk)} {Q : Exit → St → Prop} (hlen : xs.length ≤ 1000000) (hk : ∀ k, (xs.getD k default).key.length ≤ 16777216 ∧ (xs.getD k default).held.length ≤ 16777216)
  (h0 : lkh hp L0 = some (.cells [.d (aj 4 Pol.D ps), .i .i64 room, .sl L1 4 0 xs.length])) (h1 : lkh hp L1 = some (ap 56 4 Cel.D xs)) (h2 : lkh hp L2 = some (eY ps room xs)) (h8 : lk fr 8 = .ptr L0 0) (h10 : lk fr 10 = .ptr L2 0)
  {x84 x85 x86 : SV} (h84 : lk fr 84 = x84) (h85 : lk fr 85 = x85) (h86 : lk fr 86 = x86) (o84 : x84.one = true) (o85 : x85.one = true) (o86 : x86.one = true)
  (hQ : Q .normal ⟨⟨Tryz.f3.ntmps, 0⟩, nx, [(8, .ptr L0 0), (10, .ptr L2 0), (84, x84), (85, x85), (86, x86)], hp⟩) : Wp TC cT ⟨⟨Tryz.f3.ntmps, 0⟩, nx, fr, hp⟩ Q := by
 refine ⟨fun O E a w hs => ?_⟩
 have f8 := hs.fr 8
 have f10 := hs.fr 10
 have f84 := hs.fr 84
 have f85 := hs.fr 85
 have f86 := hs.fr 86
 rw [show lk _ 8 = _ from h8] at f8
 rw [show lk _ 10 = _ from h10] at f10
 rw [show lk _ 84 = _ from h84] at f84
 rw [show lk _ 85 = _ from h85] at f85
 rw [show lk _ 86 = _ from h86] at f86
 obtain ⟨vs, T, c1, c2, c3⟩ := hs.hp L0 _ h0
 obtain ⟨us, T2, d1, d2, d3⟩ := hs.hp L2 _ h2
 have hN : E.ρ L0 < w.heap.size := (Q17 c1).1
 have hN2 : E.ρ L2 < w.heap.size := (Q17 d1).1
 have himl : ∀ b, E.Im b → b < w.heap.size := fun b hb => (hs.im b hb).1
 obtain ⟨b0, hb0⟩ : ∃ b0, w.heap.size = b0 + 1 := ⟨w.heap.size - 1, by omega⟩
 have c2 : vs.size = 3 := c2
 have d2 : us.size = 3 := d2
 have r2 : RD w (fun b => b < w.heap.size) (aj 4 Cel.D xs) (vs.getD 2 undef) := by
  have h3 := (c3 2 (by show 2 < 3; omega)).1
  obtain ⟨y, hy, hr⟩ := cQ (k := fun y => y = .d (aj 4 Cel.D xs)) hs (x := .sl L1 4 0 xs.length) h3 (by
   unfold eK
   dsimp only
   rw [h1]
   refine ⟨by rw [Q19]; exact Q4 _, ?_⟩
   simp only [Q19]; rfl)
  subst hy
  cases hr with
  | d _ _ hr => exact hr.mono (fun b hb => by
    rcases hb with hb | ⟨l, x, hl, hr, rfl⟩
    ·exact himl b hb
    ·exact (hs.hp l x hl).lt hr) fun _ _ => rfl
 have R8 : RD w (fun b => b < w.heap.size) (jS b0 ps room xs) (a.tmps.getD 8 undef) := by
  cases hv : a.tmps.getD 8 undef <;> rw [hv] at f8 <;> cases f8
  refine .ref _ _ (E.ρ L0) 0 (fun j => vs.getD j undef) hN (fun j hj => ?_) fun j hj => ?_
  ·have hj : j < 3 := hj
   simp [World.cell?, c1, Array.getD, show j < vs.size by omega]
  ·have hj : j < 3 := hj
   rcases (by omega : j = 0 ∨ j = 1 ∨ j = 2) with rfl | rfl | rfl
   ·have := (c3 0 (by show 0 < 3; omega)).1
    cases this with | d _ _ h => exact h.mono himl fun _ _ => rfl
   ·have := (c3 1 (by show 1 < 3; omega)).1
    cases this with | d _ _ h => exact h.mono himl fun _ _ => rfl
   ·exact r2.celB (by omega)
 have R10 : RD w (fun b => b < w.heap.size) (.ref [aj 4 Pol.D ps, .val (.int .i64 room), aj 4 Cel.D xs] 0) (a.tmps.getD 10 undef) := by
  cases hv : a.tmps.getD 10 undef <;> rw [hv] at f10 <;> cases f10
  refine .ref _ _ (E.ρ L2) 0 (fun j => us.getD j undef) hN2 (fun j hj => ?_) fun j hj => ?_
  ·have hj : j < 3 := hj
   simp [World.cell?, d1, Array.getD, show j < us.size by omega]
  ·have hj : j < 3 := hj
   rcases (by omega : j = 0 ∨ j = 1 ∨ j = 2) with rfl | rfl | rfl
   ·have := (d3 0 (by show 0 < 3; omega)).1
    cases this with | d _ _ h => exact h.mono himl fun _ _ => rfl
   ·have := (d3 1 (by show 1 < 3; omega)).1
    cases this with | d _ _ h => exact h.mono himl fun _ _ => rfl
   ·have := (d3 2 (by show 2 < 3; omega)).1
    cases this with | d _ _ h => exact h.mono himl fun _ _ => rfl
 let O1 : Org := ⟨w, fun _ => False, fun b => b < w.heap.size, 0, E.ρ, E.κ⟩
 let E1 : Env := ⟨E.ρ, E.κ, fun b => b < w.heap.size⟩
 have hs1 : Sat O1 E1 ⟨⟨Tryz.f3.ntmps, 0⟩, 0, [(8, .d (.eq (a.tmps.getD 8 undef) (jS b0 ps room xs))), (10, .d (.eq (a.tmps.getD 10 undef) (.ref [aj 4 Pol.D ps, .val (.int .i64 room), aj 4 Cel.D xs] 0))), (84, .d (.val (a.tmps.getD 84 undef))), (85, .d (.val (a.tmps.getD 85 undef))), (86, .d (.val (a.tmps.getD 86 undef)))], []⟩ a w := by
  refine ⟨fun n => ?_, ⟨hs.nt.1, rfl⟩, hs.df, fun l b hb => absurd hb (by simp [lkh]), fun l b hb => absurd hb (by simp [lkh]), fun l l' b b' hb => absurd hb (by simp [lkh]), fun b hb => ⟨hb, Or.inr (Or.inl hb), fun l x hl => absurd hl (by simp [lkh])⟩, fun l b hb => absurd hb (by simp [lkh]), Kq.refl _ _, fun l hl => absurd hl (Nat.not_lt_zero _), Q4 _, fun b hb => hb⟩
  simp only [bE]
  split
  ·rename_i e; subst e; exact .d _ _ (.eq _ _ R8)
  ·split
   ·rename_i e; subst e; exact .d _ _ (.eq _ _ R10)
   ·split
    ·rename_i e; subst e; exact .d _ _ (.val _ (f84.one o84))
    ·split
     ·rename_i e; subst e; exact .d _ _ (.val _ (f85.one o85))
     ·split
      ·rename_i e; subst e; exact .d _ _ (.val _ (f86.one o86))
      ·exact .any _
 have hCells := kw b0 ps room xs hlen hk
 have hLen := nM b0 ps room xs
 have hSame := mN b0 xs
 conv => (arg 2; whnf)
 refine wp_seq (wp_mono (Wp.out (C := TC) (S := ⟨⟨Tryz.f3.ntmps, 0⟩, 0, [(8, .d (.eq (a.tmps.getD 8 undef) (jS b0 ps room xs))), (10, .d (.eq (a.tmps.getD 10 undef) (.ref [aj 4 Pol.D ps, .val (.int .i64 room), aj 4 Cel.D xs] 0))), (84, .d (.val (a.tmps.getD 84 undef))), (85, .d (.val (a.tmps.getD 85 undef))), (86, .d (.val (a.tmps.getD 86 undef)))], []⟩) (Q := fun e S' => e = .normal ∧ Le S' ⟨⟨Tryz.f3.ntmps, 0⟩, 0, [(19, .d (.fsl (b0 + 1) 56 4 xs.length fun i => nG b0 (xs.getD i default))), (8, .d (.eq (a.tmps.getD 8 undef) (jS b0 ps room xs))), (10, .d (.eq (a.tmps.getD 10 undef) (.ref [aj 4 Pol.D ps, .val (.int .i64 room), aj 4 Cel.D xs] 0))), (84, .d (.val (a.tmps.getD 84 undef))), (85, .d (.val (a.tmps.getD 85 undef))), (86, .d (.val (a.tmps.getD 86 undef)))], []⟩) ?h30 O1 E1 a w hs1) ?_)
 case h30 =>
  (repeat' (first | ((first | refine Wp.any aa rfl ?_ | (with_reducible first | refine Go.mk ?_ | apply ak.of)); conv => whnf) | with_reducible exact rfl | ((with_reducible refine Ov.ok zO ?_); conv => whnf) | (with_reducible refine Ov.sh1 (by with_unfolding_all exact rfl) ?_) | ((first | with_reducible refine Ov.quo (by omega) (by omega) (by omega) (fun _ _ => ?_) | refine zV ?_ | with_reducible refine And.intro zC ?_); conv => whnf) | ((with_reducible refine And.intro ?hb ?_); (case hb => exact zz0); (conv => whnf)) | ((refine ae.a rfl rfl rfl rfl rfl rfl ?hb ?_); (case hb => exact zB); (conv => whnf)) | ((refine ae.b rfl rfl rfl rfl rfl rfl rfl rfl ?hb ?ho ?_); (case hb => exact zB); (case ho => omega); (conv => whnf)) | ((refine ae.c rfl rfl rfl rfl rfl ?hb ?_); (case hb => exact zB); (conv => whnf)) | ((refine ae.d rfl rfl rfl rfl rfl rfl ?hb ?ho ?_); (case hb => exact zB); (case ho => omega); (conv => whnf)) | (with_reducible refine Or.inl ?_) | ((with_reducible refine IxA.ptr ?_); conv => whnf) | ((with_reducible refine nil_no (by omega) ?_); (conv => whnf)) | ((with_reducible refine af ?_ (fun hn0 => ?_)) <;> (conv => whnf)) | ((with_reducible first | refine ab.pure (hCells) rfl rfl ?_ | refine ag.pure (hCells) rfl rfl ?_); conv => whnf) | ((refine am (fun hc => ?_) (fun hc => ?_)) <;> (try simp only [wz9] at hc) <;> (try (exfalso; omega)) <;> (conv => whnf))))
  refine ⟨rfl, ?_⟩
  (refine Le.by [] rfl rfl rfl rfl ?_ ?_ <;> (conv => whnf) <;> (repeat' (first | exact trivial | exact ac.rfl rfl | exact ac.ptr rfl | exact ac.sl rfl | ((with_reducible refine ac.fn ?_); (conv => whnf)) | ((refine ac.iref ?_); (conv => whnf)) | exact ⟨rfl, rfl, rfl⟩ | exact fun i hi => rfl | ((with_reducible refine And.intro ?_ ?_) <;> (conv => whnf)))))
 rintro e a1 w1 ⟨S1, E2, ⟨rfl, hle⟩, hs2⟩
 obtain ⟨E3, hs3⟩ := hle.out O1 E2 a1 w1 hs2
 refine wp_seq (wp_mono (Wp.out (C := TC) (S := ⟨⟨Tryz.f3.ntmps, 0⟩, 0, [(19, .d (.fsl (b0 + 1) 56 4 xs.length fun i => nG b0 (xs.getD i default))), (8, .d (.eq (a.tmps.getD 8 undef) (jS b0 ps room xs))), (10, .d (.eq (a.tmps.getD 10 undef) (.ref [aj 4 Pol.D ps, .val (.int .i64 room), aj 4 Cel.D xs] 0))), (84, .d (.val (a.tmps.getD 84 undef))), (85, .d (.val (a.tmps.getD 85 undef))), (86, .d (.val (a.tmps.getD 86 undef)))], []⟩) (Q := fun e S' => e = .normal ∧ Le S' ⟨⟨Tryz.f3.ntmps, 0⟩, 0, [(19, .d (.fsl (b0 + 1) 56 4 xs.length fun i => nG b0 (xs.getD i default))), (8, .d (.eq (a.tmps.getD 8 undef) (jS b0 ps room xs))), (10, .d (.eq (a.tmps.getD 10 undef) (.ref [aj 4 Pol.D ps, .val (.int .i64 room), aj 4 Cel.D xs] 0))), (84, .d (.val (a.tmps.getD 84 undef))), (85, .d (.val (a.tmps.getD 85 undef))), (86, .d (.val (a.tmps.getD 86 undef)))], []⟩) ?h31 O1 E3 a1 w1 hs3) ?_)
 case h31 =>
  (repeat' (first | ((first | refine Wp.any aa rfl ?_ | (with_reducible first | refine Go.mk ?_ | apply ak.of)); conv => whnf) | with_reducible exact rfl | ((with_reducible refine Ov.ok zO ?_); conv => whnf) | (with_reducible refine Ov.sh1 (by with_unfolding_all exact rfl) ?_) | ((first | with_reducible refine Ov.quo (by omega) (by omega) (by omega) (fun _ _ => ?_) | refine zV ?_ | with_reducible refine And.intro zC ?_); conv => whnf) | ((with_reducible refine And.intro ?hb ?_); (case hb => exact zz0); (conv => whnf)) | ((refine ae.a rfl rfl rfl rfl rfl rfl ?hb ?_); (case hb => exact zB); (conv => whnf)) | ((refine ae.b rfl rfl rfl rfl rfl rfl rfl rfl ?hb ?ho ?_); (case hb => exact zB); (case ho => omega); (conv => whnf)) | ((refine ae.c rfl rfl rfl rfl rfl ?hb ?_); (case hb => exact zB); (conv => whnf)) | ((refine ae.d rfl rfl rfl rfl rfl rfl ?hb ?ho ?_); (case hb => exact zB); (case ho => omega); (conv => whnf)) | (with_reducible refine Or.inl ?_) | ((with_reducible refine IxA.ptr ?_); conv => whnf) | ((with_reducible refine nil_no (by omega) ?_); (conv => whnf)) | ((with_reducible refine af ?_ (fun hn0 => ?_)) <;> (conv => whnf)) | ((with_reducible first | refine ab.pure (hSame) rfl rfl ?_ | refine ag.pure (hSame) rfl rfl ?_ | refine ab.pure (hLen) rfl rfl ?_ | refine ag.pure (hLen) rfl rfl ?_); conv => whnf) | ((refine am (fun hc => ?_) (fun hc => ?_)) <;> (try simp only [wz9] at hc) <;> (try (exfalso; omega)) <;> (conv => whnf))))
  all_goals first
   | exact absurd rfl hc
   | exact absurd trivial hc
   | (refine ⟨rfl, ?_⟩; (refine Le.by [] rfl rfl rfl rfl ?_ ?_ <;> (conv => whnf) <;> (repeat' (first | exact trivial | exact ac.rfl rfl | exact ac.ptr rfl | exact ac.sl rfl | ((with_reducible refine ac.fn ?_); (conv => whnf)) | ((refine ac.iref ?_); (conv => whnf)) | exact ⟨rfl, rfl, rfl⟩ | exact fun i hi => rfl | ((with_reducible refine And.intro ?_ ?_) <;> (conv => whnf))))))
 rintro e a2 w2 ⟨S2, E4, ⟨rfl, hle2⟩, hs4⟩
 obtain ⟨E5, hs5⟩ := hle2.out O1 E4 a2 w2 hs4
 have k8 : a2.tmps.getD 8 undef = a.tmps.getD 8 undef := by have := hs5.fr 8; cases this with | d _ _ h => exact h.eqInv
 have k10 : a2.tmps.getD 10 undef = a.tmps.getD 10 undef := by have := hs5.fr 10; cases this with | d _ _ h => exact h.eqInv
 have k84 : a2.tmps.getD 84 undef = a.tmps.getD 84 undef := (hs5.fr 84).val_inv
 have k85 : a2.tmps.getD 85 undef = a.tmps.getD 85 undef := (hs5.fr 85).val_inv
 have k86 : a2.tmps.getD 86 undef = a.tmps.getD 86 undef := (hs5.fr 86).val_inv
 obtain ⟨ad, c, e19, hnm, hz⟩ := ZCel.of (b := b0) (w := w2) (Im := E5.Im) (xs := xs) (v := a2.tmps.getD 19 undef) (by have := hs5.fr 19; cases this with | d _ _ h => exact h)
 have hZ := scrib_Z (N := b0 + 1) (c := c) (w1 := w2) (a0 := a2) hnm hz
 refine wp_mono (hZ.out a2 w2 ⟨hs5.nt.1, rfl, fun n v hn => ?_, fun n _ => rfl⟩ (ZR.refl _ _)) ?_
 ·rw [iG] at hn
  by_cases e : 19 = n
  ·rw [if_pos e] at hn; cases hn; rw [← e]; exact e19
  ·rw [if_neg e] at hn; cases hn
 rintro e a3 w3 ⟨l, ⟨rfl, _⟩, hF, hR⟩
 have hR : ZR (b0 + 1) w2 w3 := hR
 have hheap : ∀ b, b < w.heap.size → w3.heap[b]? = w.heap[b]? := fun b hb => (hR.low b (by omega)).trans (hs5.kq.block b hb fun h => h)
 have hwi : ∀ b, E.Im b → w3.heap[b]? = w.heap[b]? := fun b hb => hheap b (himl b hb)
 have h9 : w.heap.size ≤ w2.heap.size := hs5.kq.size
 have hsz : w.heap.size ≤ w3.heap.size := by have := hR.size; omega
 have hkp : Kp w w3 := ⟨hR.os.1.trans hs5.kq.os, hR.os.2.1.trans hs5.kq.tape, hR.os.2.2.trans hs5.kq.output, hsz, hheap⟩
 have old : ∀ n, dT n = false → a3.tmps.getD n undef = a2.tmps.getD n undef := fun n hn => hF.old n (by show ¬ dT n = true; rw [hn]; decide)
 have mono : ∀ {x : SV} {v : Value}, RS E nx w x v → RS E nx w3 x v := fun h => h.mono (fun _ _ => ⟨rfl, rfl⟩) (Q4 _) (fun _ h => h) hwi
 refine ⟨_, E, hQ, fun n => ?_, ⟨hF.sz, hs.nt.2⟩, hF.df.trans hs5.df, fun l b hb => (hs.hp l b hb).mono (hs.nx l b hb) (fun _ _ => ⟨rfl, rfl⟩) (Q4 _) (fun _ h => h) hwi fun hr => hheap _ ((hs.hp l b hb).lt hr), hs.nx, hs.inj, fun b hb => ⟨Nat.lt_of_lt_of_le (himl b hb) hsz, (hs.im b hb).2⟩, hs.own, hs.kq.trans (hkp.kq _), hs.lab, hs.nl, hs.imo⟩
 simp only [bE]
 split
 ·rename_i e; subst e; rw [old 8 rfl, k8]; exact mono f8
 ·split
  ·rename_i e; subst e; rw [old 10 rfl, k10]; exact mono f10
  ·split
   ·rename_i e; subst e; rw [old 84 rfl, k84]; exact mono f84
   ·split
    ·rename_i e; subst e; rw [old 85 rfl, k85]; exact mono f85
    ·split
     ·rename_i e; subst e; rw [old 86 rfl, k86]; exact mono f86
     ·exact .any _
def ofP (ps : List Pol) : List Pol := ps ++ [⟨77, 0, 0, 0⟩]
theorem dV (ps : List Pol) : (ofP ps).length = ps.length + 1 := by unfold ofP; rw [Q9]; rfl
theorem gG (ps : List Pol) {i : Nat} (h : i < ps.length) : (ofP ps).getD i default = ps.getD i default := by
 unfold ofP
 rw [Q1, Q11 h, ← Q1]
theorem eQ (ps : List Pol) : (ofP ps).getD ps.length default = ⟨77, 0, 0, 0⟩ := by
 unfold ofP
 rw [Q1, Q12 (Q4 _), Nat.sub_self]; rfl
@[reducible] def mh (ps : List Pol) : Blk := ap 28 4 Pol.D (ofP ps)
theorem ofP_sl (ps : List Pol) : SV.Le (.d (.sl 4 ps.length fun i => Pol.D ((ofP ps).getD (0 + i) default))) (.d (aj 4 Pol.D ps)) := SV.Le.sl fun i hi => by
 rw [Q19, gG ps hi]
theorem bY (ps : List Pol) (hl : ps.length ≤ 32) : Fun TC 16 1 [.sl 0 4 0 ps.length] [(0, some (mh ps))] 1 (.d (aj 4 Pol.D ps)) [(0, some (mh ps))] := by
 have e1 := dV ps
 refine Fun.mk' Tryz.func16 rfl rfl zN (by decide) ?_
 (repeat' (first | ((first | refine Wp.any aa rfl ?_ | (with_reducible first | refine Go.mk ?_ | apply ak.of)); conv => whnf) | with_reducible exact rfl | ((with_reducible refine Ov.ok zO ?_); conv => whnf) | (with_reducible refine Ov.sh1 (by with_unfolding_all exact rfl) ?_) | ((first | with_reducible refine Ov.quo (by omega) (by omega) (by omega) (fun _ _ => ?_) | refine zV ?_ | with_reducible refine And.intro zC ?_); conv => whnf) | ((with_reducible refine And.intro ?hb ?_); (case hb => exact zz0); (conv => whnf)) | ((refine ae.a rfl rfl rfl rfl rfl rfl ?hb ?_); (case hb => exact zB); (conv => whnf)) | ((refine ae.b rfl rfl rfl rfl rfl rfl rfl rfl ?hb ?ho ?_); (case hb => exact zB); (case ho => omega); (conv => whnf)) | ((refine ae.c rfl rfl rfl rfl rfl ?hb ?_); (case hb => exact zB); (conv => whnf)) | ((refine ae.d rfl rfl rfl rfl rfl rfl ?hb ?ho ?_); (case hb => exact zB); (case ho => omega); (conv => whnf)) | (with_reducible refine Or.inl ?_) | ((with_reducible refine IxA.ptr ?_); conv => whnf) | ((with_reducible refine nil_no (by omega) ?_); (conv => whnf)) | ((with_reducible refine af ?_ (fun hn0 => ?_)) <;> (conv => whnf)) | ((refine am (fun hc => ?_) (fun hc => ?_)) <;> (try simp only [wz9] at hc) <;> (try (exfalso; omega)) <;> (conv => whnf))))
 ·refine ah.sealB [0] rfl rfl rfl (bI.le (bI.sl rfl rfl (Nat.le_of_eq (Q19 _))) (dw (Q19 _) fun i hi => ?_)) ?_
  ·unfold bh
   rw [if_neg (by omega)]
   show Pol.D ((ofP ps).getD (0 + (0 + i - 0)) default) = _
   rw [show 0 + (0 + i - 0) = i by omega, gG ps hi]
  ·(conv => whnf); (repeat' (first | exact zE | ((refine bI.ptr rfl rfl ?_); (conv => whnf)) | ((refine bI.fn ?_); (conv => whnf)) | ((refine bI.agg ?_); (conv => whnf)) | ((refine bI.tup ?_); (conv => whnf)) | ((refine bI.iref ?_); (conv => whnf)) | ((refine And.intro ?_ ?_) <;> (conv => whnf))))
 ·obtain rfl := List.eq_nil_of_length_eq_zero hn0
  refine ah.sealB [0] rfl rfl rfl (bI.le bI.d SV.Le.nil) ?_
  (conv => whnf); (repeat' (first | exact zE | ((refine bI.ptr rfl rfl ?_); (conv => whnf)) | ((refine bI.fn ?_); (conv => whnf)) | ((refine bI.agg ?_); (conv => whnf)) | ((refine bI.tup ?_); (conv => whnf)) | ((refine bI.iref ?_); (conv => whnf)) | ((refine And.intro ?_ ?_) <;> (conv => whnf))))
theorem da (ps : List Pol) : Fun TC 15 1 [.sl 0 4 0 ps.length] [(0, some (mh ps))] 1 (.i .i64 (bq ps)) [(0, some (mh ps))] := by
 refine Fun.ofPure (bA ps) rfl ?_
 conv => whnf
 refine ⟨by rw [dV]; omega, ?_⟩
 exact .cons (ofP_sl ps) .nil
theorem nL (ps : List Pol) (cells : Int) (h : gt ps cells = 0) : Fun TC 5 1 [.sl 0 4 0 ps.length, .i .i64 cells] [(0, some (mh ps))] 3 (.tup [.ptr 1 0, .i .i64 0]) [(0, some (mh ps)), (1, some (.cells [.d (aj 4 Pol.D ps), .i .i64 cells, .sl 2 4 0 0])), (2, some (ap 56 4 Cel.D []))] := by
 have hc1 : 1 ≤ cells ∧ cells ≤ 4096 := by
  unfold gt at h
  split at h <;> omega
 have hp : bq ps = 0 := by
  unfold gt at h
  split at h
  ·omega
  ·exact h
 have hl := bD hp
 have hP := da ps
 rw [hp] at hP
 refine Fun.mk' Tryz.func5 rfl rfl zN (by decide) ?_
 (repeat' (first | ((first | refine Wp.any aa rfl ?_ | (with_reducible first | refine Go.mk ?_ | apply ak.of)); conv => whnf) | with_reducible exact rfl | ((with_reducible refine Ov.ok zO ?_); conv => whnf) | (with_reducible refine Ov.sh1 (by with_unfolding_all exact rfl) ?_) | ((first | with_reducible refine Ov.quo (by omega) (by omega) (by omega) (fun _ _ => ?_) | refine zV ?_ | with_reducible refine And.intro zC ?_); conv => whnf) | ((with_reducible refine And.intro ?hb ?_); (case hb => exact zz0); (conv => whnf)) | ((refine ae.a rfl rfl rfl rfl rfl rfl ?hb ?_); (case hb => exact zB); (conv => whnf)) | ((refine ae.b rfl rfl rfl rfl rfl rfl rfl rfl ?hb ?ho ?_); (case hb => exact zB); (case ho => omega); (conv => whnf)) | ((refine ae.c rfl rfl rfl rfl rfl ?hb ?_); (case hb => exact zB); (conv => whnf)) | ((refine ae.d rfl rfl rfl rfl rfl rfl ?hb ?ho ?_); (case hb => exact zB); (case ho => omega); (conv => whnf)) | (with_reducible refine Or.inl ?_) | ((with_reducible refine IxA.ptr ?_); conv => whnf) | ((with_reducible refine nil_no (by omega) ?_); (conv => whnf)) | ((with_reducible refine af ?_ (fun hn0 => ?_)) <;> (conv => whnf)) | ((refine ab.fn (hP) [0] rfl rfl rfl rfl rfl ?ha ?hh ?_); (case ha => exact zA); (case hh => exact zH); (conv => whnf)) | ((refine ag.fn (hP) [0] [0] rfl rfl rfl rfl rfl ?ha ?hh ?hs ?_); (case ha => exact zA); (case hh => exact zH); (case hs => exact zK); (conv => whnf)) | ((refine ag.new (hP) [0] [0] rfl rfl rfl rfl rfl rfl ?ha ?hh ?hs ?_); (case ha => exact zA); (case hh => exact zH); (case hs => exact zK); (conv => whnf)) | ((refine ag.fn (hP) [0] [] rfl rfl rfl rfl rfl ?ha ?hh ?hs ?_); (case ha => exact zA); (case hh => exact zH); (case hs => exact zK); (conv => whnf)) | ((refine ag.new (hP) [0] [] rfl rfl rfl rfl rfl rfl ?ha ?hh ?hs ?_); (case ha => exact zA); (case hh => exact zH); (case hs => exact zK); (conv => whnf)) | ((refine ab.fn (bY ps hl) [0] rfl rfl rfl rfl rfl ?ha ?hh ?_); (case ha => exact zA); (case hh => exact zH); (conv => whnf)) | ((refine ag.fn (bY ps hl) [0] [0] rfl rfl rfl rfl rfl ?ha ?hh ?hs ?_); (case ha => exact zA); (case hh => exact zH); (case hs => exact zK); (conv => whnf)) | ((refine ag.new (bY ps hl) [0] [0] rfl rfl rfl rfl rfl rfl ?ha ?hh ?hs ?_); (case ha => exact zA); (case hh => exact zH); (case hs => exact zK); (conv => whnf)) | ((refine ag.fn (bY ps hl) [0] [] rfl rfl rfl rfl rfl ?ha ?hh ?hs ?_); (case ha => exact zA); (case hh => exact zH); (case hs => exact zK); (conv => whnf)) | ((refine ag.new (bY ps hl) [0] [] rfl rfl rfl rfl rfl rfl ?ha ?hh ?hs ?_); (case ha => exact zA); (case hh => exact zH); (case hs => exact zK); (conv => whnf)) | ((refine am (fun hc => ?_) (fun hc => ?_)) <;> (try simp only [wz9] at hc) <;> (try (exfalso; omega)) <;> (conv => whnf))))
 refine ah.virtC 1 2 56 4 (fun _ => []) (by decide) rfl rfl (by decide) ?_
 refine ah.of [0, 1, 2] rfl (fun i hi => by have : i = 0 := (by omega); subst this; rfl) rfl ?_ ?_
 ·exact .rfl _
 ·((conv => whnf); repeat' (first | exact trivial | exact SV.Le.rfl _ | exact ⟨rfl, rfl, rfl⟩ | exact fun i hi => rfl | ((with_reducible refine And.intro ?_ ?_) <;> (conv => whnf))))
  exact fun i hi => absurd hi (Nat.not_lt_zero _)
theorem iW (ps : List Pol) (cells : Int) (h : gt ps cells ≠ 0) : Fun TC 5 1 [.sl 0 4 0 ps.length, .i .i64 cells] [(0, some (mh ps))] 1 (.tup [.d (.val (.pointer none)), .i .i64 (gt ps cells)]) [(0, some (mh ps))] := by
 have e : gt ps cells = if cells < 1 ∨ 4096 < cells then 1 else bq ps := rfl
 have hP := da ps
 by_cases hc1 : cells < 1 ∨ 4096 < cells
 ·rw [if_pos hc1] at e
  rw [e]
  refine Fun.mk' Tryz.func5 rfl rfl zN (by decide) ?_
  (repeat' (first | ((first | refine Wp.any aa rfl ?_ | (with_reducible first | refine Go.mk ?_ | apply ak.of)); conv => whnf) | with_reducible exact rfl | ((with_reducible refine Ov.ok zO ?_); conv => whnf) | (with_reducible refine Ov.sh1 (by with_unfolding_all exact rfl) ?_) | ((first | with_reducible refine Ov.quo (by omega) (by omega) (by omega) (fun _ _ => ?_) | refine zV ?_ | with_reducible refine And.intro zC ?_); conv => whnf) | ((with_reducible refine And.intro ?hb ?_); (case hb => exact zz0); (conv => whnf)) | ((refine ae.a rfl rfl rfl rfl rfl rfl ?hb ?_); (case hb => exact zB); (conv => whnf)) | ((refine ae.b rfl rfl rfl rfl rfl rfl rfl rfl ?hb ?ho ?_); (case hb => exact zB); (case ho => omega); (conv => whnf)) | ((refine ae.c rfl rfl rfl rfl rfl ?hb ?_); (case hb => exact zB); (conv => whnf)) | ((refine ae.d rfl rfl rfl rfl rfl rfl ?hb ?ho ?_); (case hb => exact zB); (case ho => omega); (conv => whnf)) | (with_reducible refine Or.inl ?_) | ((with_reducible refine IxA.ptr ?_); conv => whnf) | ((with_reducible refine nil_no (by omega) ?_); (conv => whnf)) | ((with_reducible refine af ?_ (fun hn0 => ?_)) <;> (conv => whnf)) | ((refine ab.fn (hP) [0] rfl rfl rfl rfl rfl ?ha ?hh ?_); (case ha => exact zA); (case hh => exact zH); (conv => whnf)) | ((refine ag.fn (hP) [0] [0] rfl rfl rfl rfl rfl ?ha ?hh ?hs ?_); (case ha => exact zA); (case hh => exact zH); (case hs => exact zK); (conv => whnf)) | ((refine ag.new (hP) [0] [0] rfl rfl rfl rfl rfl rfl ?ha ?hh ?hs ?_); (case ha => exact zA); (case hh => exact zH); (case hs => exact zK); (conv => whnf)) | ((refine ag.fn (hP) [0] [] rfl rfl rfl rfl rfl ?ha ?hh ?hs ?_); (case ha => exact zA); (case hh => exact zH); (case hs => exact zK); (conv => whnf)) | ((refine ag.new (hP) [0] [] rfl rfl rfl rfl rfl rfl ?ha ?hh ?hs ?_); (case ha => exact zA); (case hh => exact zH); (case hs => exact zK); (conv => whnf)) | ((refine am (fun hc => ?_) (fun hc => ?_)) <;> (try simp only [wz9] at hc) <;> (try (exfalso; omega)) <;> (conv => whnf))))
  all_goals (refine ah.of [0] rfl (fun i hi => by have : i = 0 := (by omega); subst this; rfl) rfl ?_ ?_ <;> first | exact .rfl _ | (((conv => whnf); repeat' (first | exact trivial | exact SV.Le.rfl _ | exact ⟨rfl, rfl, rfl⟩ | exact fun i hi => rfl | ((with_reducible refine And.intro ?_ ?_) <;> (conv => whnf)))); done))
 ·rw [if_neg hc1] at e
  rw [e] at h ⊢
  generalize bq ps = z at *
  refine Fun.mk' Tryz.func5 rfl rfl zN (by decide) ?_
  (repeat' (first | ((first | refine Wp.any aa rfl ?_ | (with_reducible first | refine Go.mk ?_ | apply ak.of)); conv => whnf) | with_reducible exact rfl | ((with_reducible refine Ov.ok zO ?_); conv => whnf) | (with_reducible refine Ov.sh1 (by with_unfolding_all exact rfl) ?_) | ((first | with_reducible refine Ov.quo (by omega) (by omega) (by omega) (fun _ _ => ?_) | refine zV ?_ | with_reducible refine And.intro zC ?_); conv => whnf) | ((with_reducible refine And.intro ?hb ?_); (case hb => exact zz0); (conv => whnf)) | ((refine ae.a rfl rfl rfl rfl rfl rfl ?hb ?_); (case hb => exact zB); (conv => whnf)) | ((refine ae.b rfl rfl rfl rfl rfl rfl rfl rfl ?hb ?ho ?_); (case hb => exact zB); (case ho => omega); (conv => whnf)) | ((refine ae.c rfl rfl rfl rfl rfl ?hb ?_); (case hb => exact zB); (conv => whnf)) | ((refine ae.d rfl rfl rfl rfl rfl rfl ?hb ?ho ?_); (case hb => exact zB); (case ho => omega); (conv => whnf)) | (with_reducible refine Or.inl ?_) | ((with_reducible refine IxA.ptr ?_); conv => whnf) | ((with_reducible refine nil_no (by omega) ?_); (conv => whnf)) | ((with_reducible refine af ?_ (fun hn0 => ?_)) <;> (conv => whnf)) | ((refine ab.fn (hP) [0] rfl rfl rfl rfl rfl ?ha ?hh ?_); (case ha => exact zA); (case hh => exact zH); (conv => whnf)) | ((refine ag.fn (hP) [0] [0] rfl rfl rfl rfl rfl ?ha ?hh ?hs ?_); (case ha => exact zA); (case hh => exact zH); (case hs => exact zK); (conv => whnf)) | ((refine ag.new (hP) [0] [0] rfl rfl rfl rfl rfl rfl ?ha ?hh ?hs ?_); (case ha => exact zA); (case hh => exact zH); (case hs => exact zK); (conv => whnf)) | ((refine ag.fn (hP) [0] [] rfl rfl rfl rfl rfl ?ha ?hh ?hs ?_); (case ha => exact zA); (case hh => exact zH); (case hs => exact zK); (conv => whnf)) | ((refine ag.new (hP) [0] [] rfl rfl rfl rfl rfl rfl ?ha ?hh ?hs ?_); (case ha => exact zA); (case hh => exact zH); (case hs => exact zK); (conv => whnf)) | ((refine am (fun hc => ?_) (fun hc => ?_)) <;> (try simp only [wz9] at hc) <;> (try (exfalso; omega)) <;> (conv => whnf))))
  all_goals (refine ah.of [0] rfl (fun i hi => by have : i = 0 := (by omega); subst this; rfl) rfl ?_ ?_ <;> first | exact .rfl _ | (((conv => whnf); repeat' (first | exact trivial | exact SV.Le.rfl _ | exact ⟨rfl, rfl, rfl⟩ | exact fun i hi => rfl | ((with_reducible refine And.intro ?_ ?_) <;> (conv => whnf)))); done))
theorem Sat.frz {O : Org} {E : Env} {nt : NT} {nx : Nat} {fr : List (Nat × SV)} {hp : List (Nat × Option Blk)} {a : Act} {w : World} (hs : Sat O E ⟨nt, nx, fr, hp⟩ a w) {l e z m : Nat} {f : Nat → List D} (hl : lkh hp l = some (.row e z m f)) {off n : Nat} (h1 : off + n ≤ m) :
  ∃ E', Sat O E' ⟨nt, nx, fr, (l, none) :: hp⟩ a w ∧ ∀ u, RS E' nx w (.sl l z off n) u → RS E' nx w (.d (.sl z n fun i => f (off + i))) u := by
 by_cases hκ : 0 < E.κ l
 ·obtain ⟨s1, s2⟩ := hs.imm (w' := w) hl hκ (fun _ _ _ => rfl) rfl ⟨rfl, rfl, rfl⟩ (fun vs hvs => ⟨_, hvs⟩)
  refine ⟨_, s1, fun u hu => s2 off n u h1 ?_⟩
  cases hu with
  | sl _ _ _ _ a' cap hlx hc hmx ha h0 => exact .sl _ _ _ _ a' cap hlx hc hmx ha h0
 ·have hm := (hs.hp l _ hl).1
  have hn : n = 0 := by omega
  subst hn
  refine ⟨E, hs.kill l, fun u hu => ?_⟩
  cases hu with
  | sl _ _ _ _ a' cap hlx hc hmx ha h0 => exact .d _ _ (.sl _ 0 _ a' cap (fun _ _ => undef) hc hmx (fun i hi => by omega) (fun h => by omega) (fun i j hi => by omega))
theorem Wp.frzC {C : Cx} {c : Code} {nt : NT} {nx : Nat} {fr : List (Nat × SV)} {hp : List (Nat × Option Blk)} {Q : Exit → St → Prop} (k j : Nat) {cs : List SV} {l z off n e m : Nat} {f : Nat → List D}
  (hk : lkh hp k = some (.cells cs)) (hj : cs[j]? = some (.sl l z off n)) (hl : lkh hp l = some (.row e z m f)) (hkl : l ≠ k) (hn : off + n ≤ m)
  (h : Wp C c ⟨nt, nx, fr, (k, some (.cells (cs.set j (.d (.sl z n fun i => f (off + i)))))) :: (l, none) :: hp⟩ Q) : Wp C c ⟨nt, nx, fr, hp⟩ Q := by
 refine ⟨fun O E a w hs => ?_⟩
 obtain ⟨E', s1, s2⟩ := hs.frz hl hn
 refine h.out O E' a w (s1.rehp fun k' b' hb' => ?_)
 rw [ai] at hb'
 by_cases e1 : k = k'
 ·subst e1
  rw [if_pos rfl] at hb'; cases hb'
  refine ⟨.cells cs, by rw [ai, if_neg hkl]; exact hk, fun _ h => h, fun hb => ?_⟩
  obtain ⟨vs, T, h1, h2, h3⟩ := hb
  refine ⟨vs, T, h1, by rw [List.length_set]; exact h2, fun i hi => ?_⟩
  rw [List.length_set] at hi
  obtain ⟨h4, h5⟩ := h3 i hi
  refine ⟨?_, h5⟩
  by_cases e2 : j = i
  ·subst e2
   rw [List.getElem_set_self]
   refine s2 _ ?_
   rw [Q0 hi] at hj
   rw [← Option.some.inj hj]; exact h4
  ·rw [List.getElem_set_ne e2]; exact h4
 ·rw [if_neg e1] at hb'
  exact ⟨b', hb', fun _ h => h, fun h => h⟩
end Go.Proofs.YtcbpkdhoibemcaaGreat
