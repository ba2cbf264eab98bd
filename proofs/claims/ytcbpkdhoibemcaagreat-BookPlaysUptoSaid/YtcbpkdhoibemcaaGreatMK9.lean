/- Lemmas of Rh0, Rh1, Sx41, Sx39, Rh3, Sx42, Rk1, Rk2, Sx33, Sx34, Sx36, Sx23, Sx29, Sx31, Sx38, Sx43, Rk3. No condition. -/
import Derived.Test.YtcbpkdhoibemcaaGreatMK8
set_option linter.unusedVariables false
set_option linter.unusedSimpArgs false
set_option maxHeartbeats 80000000
set_option maxRecDepth 100000
namespace Go.Proofs.YtcbpkdhoibemcaaGreat
open Go.RowKit
section
structure CI (p : Pol) (c : Cel) : Prop where
 tat : 0 ≤ c.tat ∧ c.tat ≤ 4611686018427387903
 sem : p.kind = 2 → dx p.permits c.held = 0
def docR (p : Pol) (c : Cel) (op n now s : Int) : Rpl × Cel :=
 if aD now = false ∨ (op = 2 ∧ gz s = false) then (dG 1, c)
 else if op = 4 then (bZ p c now, c)
 else if (bK p c op n now s).1.g = false ∨ (op = 1 ∧ n = 0) then ((bK p c op n now s).1, c)
 else bK p c op n now s
section
variable {ps : List Pol} {p : Pol} {c z : Cel} {op pol n now s : Int} {key : List Int}
theorem ky (hE : cB ps op pol key n = 0) : aR ps op pol key n now s = if aD now = false ∨ (op = 2 ∧ gz s = false) then 1 else 0 := by
 unfold aR
 rw [hE]
 have : (op = 2 ∧ (s < 1 ∨ 4611686018427387903 < s)) ↔ (op = 2 ∧ gz s = false) := by
  have : gz s = false ↔ (s < 1 ∨ 4611686018427387903 < s) := by
   unfold gz
   rw [Bool.and_eq_false_iff, decide_eq_false_iff_not, decide_eq_false_iff_not]; omega
  rw [this]
 simp only [this]
theorem p9 (hE : cB ps op pol key n = 0) : bq ps = 0 ∧ 1 ≤ op ∧ op ≤ 6 ∧ (op < 5 → key.length ≤ 255 ∧ 0 ≤ pol ∧ pol < ps.length) ∧ (op = 1 → 0 ≤ n ∧ n ≤ 4611686018427387903) ∧ (fF op ≠ 0 → (ps.getD pol.toNat default).kind = fF op) := by
 have hb : aR ps op pol key n 0 1 = 0 := by rw [ky hE, if_neg]; rintro (h | ⟨_, h⟩) <;> (revert h; decide)
 have := dd hb
 exact ⟨this.2.2.2.1, this.2.1, this.2.2.1, this.2.2.2.2.1, this.2.2.2.2.2.1, this.2.2.2.2.2.2.2⟩
theorem nh (hE : cB ps op pol key n = 0) (h5 : op < 5) : cI (ps.getD pol.toNat default).kind (ps.getD pol.toNat default).T (ps.getD pol.toNat default).tau (ps.getD pol.toNat default).permits = true := by
 obtain ⟨hp, _, _, hk, _⟩ := p9 hE
 obtain ⟨_, h1, h2⟩ := hk h5
 exact fx hp _ (by omega)
theorem pn {q : Int} {xs : List Int} (h : bi q xs s = 0) : dx q (di q xs s) = 0 := by
 obtain ⟨h1, h2, h3, h4⟩ := jY.1 h
 have e : di q xs s = br xs (bJ xs s) s := by unfold di; rw [if_pos h]
 rw [e]
 unfold dx at h2 ⊢
 split at h2
 ·rename_i hs
  obtain ⟨g1, g2, g3, g4⟩ := hs
  have hn : s ∉ xs := fun hm => by rw [(eV (aT.1 g4).2).2 hm] at h3; cases h3
  rw [if_pos ⟨g1, g2, by rw [aB _ _ _ (fw _ _)]; omega, (lm g4 h1 hn).1⟩]
 ·omega
theorem pT {q : Int} {xs : List Int} (h : bT q xs n = 0) : dx q (d7 q xs n) = 0 := by
 obtain ⟨h2, h3⟩ := kh.1 h
 have e : d7 q xs n = b9 xs (bJ xs n) := by unfold d7; rw [if_pos h]
 rw [e]
 unfold dx at h2 ⊢
 split at h2
 ·rename_i hs
  obtain ⟨g1, g2, g3, g4⟩ := hs
  have hn : n ∈ xs := (eV (aT.1 g4).2).1 h3
  obtain ⟨d1, d2, d3⟩ := lA g4 hn
  rw [if_pos ⟨g1, g2, by omega, d1⟩]
 ·omega
theorem CI.doc (h : CI (ps.getD pol.toNat default) c) (hE : cB ps op pol key n = 0) (h5 : op < 5) : CI (ps.getD pol.toNat default) (docR (ps.getD pol.toNat default) c op n now s).2 := by
 have hF := nh hE h5
 obtain ⟨_, h1, _, _, hn, hk⟩ := p9 hE
 generalize ps.getD pol.toNat default = p at *
 unfold docR
 split
 ·exact h
 ·rename_i hbad
  split
  ·exact h
  ·split
   ·exact h
   ·rename_i h4 hg
    unfold bK at hg ⊢
    by_cases e1 : op = 1
    ·rw [if_pos e1] at hg ⊢
     have k1 : p.kind = 1 := by rw [hk (by rw [e1]; decide), e1]; rfl
     refine ⟨?_, fun h => by omega⟩
     have g : (lB p.T p.tau c.tat now n).g = true := by
      cases hq : (lB p.T p.tau c.tat now n).g with
      | true => rfl
      | false => exact absurd (Or.inl hq) hg
     obtain ⟨a1, a2, a3⟩ := dec_g g
     obtain ⟨⟨hT, ht⟩, b3, b5, bn⟩ := (fV _ _ _ _ _).1 a1
     show 0 ≤ (lB p.T p.tau c.tat now n).tat ∧ (lB p.T p.tau c.tat now n).tat ≤ 4611686018427387903
     rw [a3]
     have n0 : 0 < n := by have := hn e1; have : ¬ n = 0 := fun h => hg (Or.inr ⟨e1, h⟩); omega
     obtain ⟨c1, c2⟩ := iH (by omega) b3.1 b3.2 b5.1 b5.2 a2 n0
     unfold n9
     rw [if_pos ⟨a2, n0⟩]
     omega
    ·rw [if_neg e1] at hg ⊢
     by_cases e2 : op = 2
     ·rw [if_pos e2]
      dsimp only
      unfold dP
      split
      ·exact ⟨h.tat, fun _ => pn (by assumption)⟩
      ·exact h
     ·rw [if_neg e2]
      dsimp only
      unfold ew
      split
      ·exact ⟨h.tat, fun _ => pT (by assumption)⟩
      ·exact h
theorem CI.new (hE : cB ps op pol key n = 0) (h5 : op < 5) (q : Int) (k : List Int) : CI (ps.getD pol.toNat default) ⟨q, k, 0, []⟩ := by
 have hF := nh hE h5
 refine ⟨by dsimp only; omega, fun hk => ?_⟩
 unfold cI at hF
 rw [hk, if_neg (by decide), if_pos rfl, Q5, decide_eq_true_eq, decide_eq_true_eq] at hF
 unfold dx
 rw [if_pos ⟨hF.1, hF.2, by show (0 : Int) ≤ _; omega, rfl⟩]
end
end
section
structure BCI (ps : List Pol) (room : Int) (xs : List Cel) : Prop where
 inv : od ps room xs
 ci : ∀ c ∈ xs, CI (ps.getD c.pol.toNat default) c
def oc (ps : List Pol) (room : Int) (xs : List Cel) (op pol : Int) (key : List Int) (n now s : Int) : Rpl × List Cel :=
 if aR ps op pol key n now s ≠ 0 then (dG (aR ps op pol key n now s), xs)
 else if op = 5 then (⟨0, false, (xs.length : Int) - (cg ps now xs).length, 0, 0, now⟩, cg ps now xs)
 else if op = 6 then (dG 0, xs)
 else if op = 4 then (bZ (ps.getD pol.toNat default) (du xs pol key) now, xs)
 else if (bK (ps.getD pol.toNat default) (du xs pol key) op n now s).1.g = false ∨ (op = 1 ∧ n = 0) then ((bK (ps.getD pol.toNat default) (du xs pol key) op n now s).1, xs)
 else if d9 xs pol key < 0 ∧ room ≤ xs.length then (dG 10, xs)
 else ((bK (ps.getD pol.toNat default) (du xs pol key) op n now s).1, c7 (bK (ps.getD pol.toNat default) (du xs pol key) op n now s).2 false xs)
section
variable {ps : List Pol} {room : Int} {xs : List Cel} {op pol n now s : Int} {key : List Int}
theorem fW (h : Srt xs) : du xs pol key = (look xs (pol :: key)).getD (aw pol key) := by
 have hp : ∀ c : Cel, (decide (c.pol = pol) && decide (c.key = key)) = true ↔ idn c = pol :: key := fun c => by simp [idn]
 unfold du
 by_cases h0 : 0 ≤ d9 xs pol key
 ·rw [if_pos h0]
  have hlt : fst (fun c => decide (c.pol = pol) && decide (c.key = key)) xs < xs.length := by
   unfold d9 at h0
   split at h0
   ·assumption
   ·omega
  have e : d9 xs pol key = fst (fun c => decide (c.pol = pol) && decide (c.key = key)) xs := by unfold d9; rw [if_pos hlt]
  rw [e, Q13]
  have h1 := iN _ xs hlt
  rw [hp] at h1
  have h2 := (cV h (i := pol :: key) (d := xs.getD (fst (fun c => decide (c.pol = pol) && decide (c.key = key)) xs) default)).2 ⟨bO hlt, h1⟩
  rw [h2]; rfl
 ·rw [if_neg h0]
  have : look xs (pol :: key) = none := Classical.byContradiction fun hn => h0 (lr.2 hn)
  rw [this]; rfl
theorem nF (h : BCI ps room xs) (hE : cB ps op pol key n = 0) (h5 : op < 5) : CI (ps.getD pol.toNat default) (du xs pol key) ∧ idn (du xs pol key) = pol :: key ∧ (du xs pol key).held.length ≤ 64 := by
 rw [fW h.inv.srt]
 cases hl : look xs (pol :: key) with
 | none => exact ⟨CI.new hE h5 pol key, rfl, by show 0 ≤ 64; omega⟩
 | some c =>
  obtain ⟨h1, h2⟩ := bw hl
  have hc := h.ci c h1
  have e : c.pol = pol := by have : c.pol :: c.key = pol :: key := h2; injection this
  rw [e] at hc
  exact ⟨hc, h2, (h.inv.ok.mem h1).2.2.1⟩
theorem p6 (h : BCI ps room xs) : oc ps room xs op pol key n now s = doS ps room xs op pol key n now s := by
 by_cases hE : aR ps op pol key n now s = 0
 ·by_cases hop : op < 5
  ·obtain ⟨hid, hpl⟩ := m7 hE hop
   rw [iS h.inv hE hop]
   unfold oc
   rw [if_neg (fun h => h hE), if_neg (by omega), if_neg (by omega), fW h.inv.srt]
   unfold ee
   by_cases h4 : op = 4
   ·rw [if_pos h4, if_pos h4]
   ·rw [if_neg h4, if_neg h4]
    have hi : idn (bK (ps.getD pol.toNat default) ((look xs (pol :: key)).getD (aw pol key)) op n now s).2 = pol :: key := by
     rw [mT]
     cases hl : look xs (pol :: key) with
     | none => rfl
     | some c => exact (bw hl).2
    generalize bK (ps.getD pol.toNat default) ((look xs (pol :: key)).getD (aw pol key)) op n now s = q at *
    by_cases h1 : q.1.g = false ∨ (op = 1 ∧ n = 0)
    ·rw [if_pos h1, if_pos h1]
    ·rw [if_neg h1, if_neg h1]
     show _ = if look xs (pol :: key) = none ∧ (xs.length : Int) = room then _ else _
     have hf : (d9 xs pol key < 0 ∧ room ≤ xs.length) ↔ (look xs (pol :: key) = none ∧ (xs.length : Int) = room) := by
      have hle := h.inv.le
      have h0 := lr (xs := xs) (pol := pol) (key := key)
      constructor
      ·rintro ⟨a, b⟩
       exact ⟨Classical.byContradiction fun hn => by have := h0.2 hn; omega, by omega⟩
      ·rintro ⟨a, b⟩
       exact ⟨Classical.byContradiction fun hn => h0.1 (by omega) a, by omega⟩
     by_cases h9 : d9 xs pol key < 0 ∧ room ≤ xs.length
     ·rw [if_pos h9, if_pos (hf.1 h9)]
     ·rw [if_neg h9, if_neg (fun h => h9 (hf.2 h))]
      have e1 : q.2.pol = pol ∧ q.2.key = key := by
       have : q.2.pol :: q.2.key = pol :: key := hi
       injection this with a b; exact ⟨a, b⟩
      rw [mO h.inv.srt (t := aw pol key) (by rw [e1.1, e1.2]; exact hid) hi]
  ·unfold oc doS
   have hb := (dd hE).2.2.1
   rw [if_neg (fun h => h hE)]
   by_cases h5 : op = 5
   ·simp only [if_pos h5]
    rw [if_neg (fun h9 => h9 hE)]
   ·have h6 : op = 6 := by omega
    simp only [if_neg h5, if_pos h6]
    rw [if_neg (fun h9 => h9 hE)]
 ·unfold oc doS; simp only [if_pos hE]
theorem e6 (hE : aR ps op pol key n now s = 0) : cB ps op pol key n = 0 := by
 unfold aR at hE
 split at hE
 ·omega
 ·exact hE
theorem BCI.nil {ps : List Pol} {room : Int} (h0 : 0 ≤ room) (h1 : room ≤ 4096) (h2 : ps.length ≤ 32) : BCI ps room [] := ⟨.nil h0 h1 h2, fun c hc => by cases hc⟩
theorem BCI.step (h : BCI ps room xs) (hk : IsB key) : BCI ps room (doS ps room xs op pol key n now s).2 := by
 refine ⟨do_inv h.inv hk, ?_⟩
 by_cases hE : aR ps op pol key n now s = 0
 ·by_cases hop : op < 5
  ·have hC := nF h (e6 hE) hop
   have hD := CI.doc (now := now) (s := s) hC.1 (e6 hE) hop
   rw [fW h.inv.srt] at hD
   obtain ⟨hid, hpl⟩ := m7 hE hop
   have hbad : ¬ (aD now = false ∨ (op = 2 ∧ gz s = false)) := fun hb => by rw [ky (e6 hE), if_pos hb] at hE; omega
   rw [iS h.inv hE hop]
   unfold docR at hD
   rw [if_neg hbad] at hD
   cases hc : (ee (ps.getD pol.toNat default) (look xs (pol :: key)) op pol key n now s).2 with
   | none => exact h.ci
   | some c =>
    simp only
    split
    ·exact h.ci
    ·have hidn : idn c = pol :: key := lJ (fun d hd => (bw hd).2) hc
     have e1 : c.pol = pol ∧ c.key = key := by simpa [idn] using hidn
     have hcid : k9 c.pol c.key := by rw [e1.1, e1.2]; exact hid
     have hcc : CI (ps.getD pol.toNat default) c := by
      unfold ee at hc
      split at hc
      ·cases hc
      ·rename_i h4
       rw [if_neg h4] at hD
       split at hc
       ·cases hc
       ·rename_i hg
        rw [if_neg hg] at hD
        simp only [Option.some.injEq] at hc
        rw [← hc]; exact hD
     intro d hd
     rcases ((gX h.inv.srt (t := aw pol key) hcid hidn).2.1 d).1 hd with rfl | ⟨hd, _⟩
     ·rw [e1.1]; exact hcc
     ·exact h.ci d hd
  ·unfold doS
   have hb := (dd hE).2.2.1
   rw [if_neg (fun h => h hE)]
   by_cases h5 : op = 5
   ·rw [if_pos h5]; exact fun c hc => h.ci c (List.mem_filter.1 hc).1
   ·rw [if_neg h5, if_pos (by omega)]; exact h.ci
 ·unfold doS; rw [if_pos hE]; exact h.ci
end
end
def eJ (a : List Int) : List Int := a ++ [165, 90, 165]
theorem kU (a : List Int) (hl : a.length ≤ 16777216) : Fun TC 7 0 [.d (aj 1 (ao .u8) a)] [] 1 (.tup [.sl 0 1 0 a.length, .sl 0 1 0 (eJ a).length]) [(0, some (ap 5 1 (ao .u8) (eJ a)))] := by
 refine Fun.mk' Tryz.func7 rfl rfl zN (by decide) ?_
 (repeat' (first | ((first | refine Wp.any aa rfl ?_ | (with_reducible first | refine Go.mk ?_ | apply ak.of)); conv => whnf) | with_reducible exact rfl | ((with_reducible refine Ov.ok zO ?_); conv => whnf) | (with_reducible refine Ov.sh1 (by with_unfolding_all exact rfl) ?_) | ((first | with_reducible refine Ov.quo (by omega) (by omega) (by omega) (fun _ _ => ?_) | refine zV ?_ | with_reducible refine And.intro zC ?_); conv => whnf) | ((with_reducible refine And.intro ?hb ?_); (case hb => exact zz0); (conv => whnf)) | ((refine ae.a rfl rfl rfl rfl rfl rfl ?hb ?_); (case hb => exact zB); (conv => whnf)) | ((refine ae.b rfl rfl rfl rfl rfl rfl rfl rfl ?hb ?ho ?_); (case hb => exact zB); (case ho => omega); (conv => whnf)) | ((refine ae.c rfl rfl rfl rfl rfl ?hb ?_); (case hb => exact zB); (conv => whnf)) | ((refine ae.d rfl rfl rfl rfl rfl rfl ?hb ?ho ?_); (case hb => exact zB); (case ho => omega); (conv => whnf)) | (with_reducible refine Or.inl ?_) | ((with_reducible refine IxA.ptr ?_); conv => whnf) | ((with_reducible refine nil_no (by omega) ?_); (conv => whnf)) | ((with_reducible refine af ?_ (fun hn0 => ?_)) <;> (conv => whnf)) | ((refine am (fun hc => ?_) (fun hc => ?_)) <;> (try simp only [wz9] at hc) <;> (try (exfalso; omega)) <;> (conv => whnf))))
 have e1 : (eJ a).length = 0 + a.length + 3 := by unfold eJ; rw [Q9]; simp
 rw [e1]
 refine ah.of [3] rfl (by simp) rfl ?_ ?_
 ·refine .of_eq ?_
  rw [Q13, Nat.sub_zero]
  rfl
 ·refine ⟨⟨⟨rfl, rfl, e1.symm⟩, fun i hi => ?_⟩, trivial⟩
  unfold eJ bh
  by_cases h : i < 0 + a.length
  ·rw [if_pos h, if_neg (by omega)]
   show ao .u8 (a.getD (i - 0) default) = ao .u8 ((a ++ [165, 90, 165]).getD i default)
   rw [Q1, Q1, Q11 (by omega), Nat.sub_zero]
  ·rw [if_neg h]
   show a6 _ _ (0 + (i - (0 + a.length))) = ao .u8 ((a ++ [165, 90, 165]).getD i default)
   rw [Q1, Q12 (by omega)]
   have : i - a.length = 0 ∨ i - a.length = 1 ∨ i - a.length = 2 := by omega
   rw [show 0 + (i - (0 + a.length)) = i - a.length by omega]
   rcases this with h | h | h <;> rw [h] <;> rfl
theorem lV (ps : List Pol) (cells : Int) (hE : gt ps cells = 0) : Fun TC 6 0 [.d (aj 4 Pol.D ps), .i .i64 cells] [] 2 (.tup [.ptr 0 0, .i .i64 0]) [(0, some (.cells [.sl 1 4 0 ps.length, .i .i64 cells, .d (aj 4 Cel.D [])])), (1, some (ap 28 4 Pol.D ps))] := by
 have hc1 : 1 ≤ cells ∧ cells ≤ 4096 := by
  unfold gt at hE
  split at hE <;> omega
 have hp : bq ps = 0 := by
  unfold gt at hE
  split at hE
  ·omega
  ·exact hE
 have hl := bD hp
 have hP := bl ps
 rw [hp] at hP
 refine Fun.mk' Tryz.func6 rfl rfl zN (by decide) ?_
 (repeat' (first | ((first | refine Wp.any aa rfl ?_ | (with_reducible first | refine Go.mk ?_ | apply ak.of)); conv => whnf) | with_reducible exact rfl | ((with_reducible refine Ov.ok zO ?_); conv => whnf) | (with_reducible refine Ov.sh1 (by with_unfolding_all exact rfl) ?_) | ((first | with_reducible refine Ov.quo (by omega) (by omega) (by omega) (fun _ _ => ?_) | refine zV ?_ | with_reducible refine And.intro zC ?_); conv => whnf) | ((with_reducible refine And.intro ?hb ?_); (case hb => exact zz0); (conv => whnf)) | ((refine ae.a rfl rfl rfl rfl rfl rfl ?hb ?_); (case hb => exact zB); (conv => whnf)) | ((refine ae.b rfl rfl rfl rfl rfl rfl rfl rfl ?hb ?ho ?_); (case hb => exact zB); (case ho => omega); (conv => whnf)) | ((refine ae.c rfl rfl rfl rfl rfl ?hb ?_); (case hb => exact zB); (conv => whnf)) | ((refine ae.d rfl rfl rfl rfl rfl rfl ?hb ?ho ?_); (case hb => exact zB); (case ho => omega); (conv => whnf)) | (with_reducible refine Or.inl ?_) | ((with_reducible refine IxA.ptr ?_); conv => whnf) | ((with_reducible refine nil_no (by omega) ?_); (conv => whnf)) | ((with_reducible refine af ?_ (fun hn0 => ?_)) <;> (conv => whnf)) | ((with_reducible first | refine ab.pure (hP) rfl rfl ?_ | refine ag.pure (hP) rfl rfl ?_); conv => whnf) | ((refine am (fun hc => ?_) (fun hc => ?_)) <;> (try simp only [wz9] at hc) <;> (try (exfalso; omega)) <;> (conv => whnf))))
 refine ah.of [2, 1] rfl (by simp) rfl ?_ ?_
 ·exact .rfl _
 ·refine ⟨⟨.of_eq (congrArg (SV.sl _ _ _) (Q19 _)), .rfl _, .nil, trivial⟩, ⟨⟨rfl, rfl, Q19 _⟩, fun i hi => ?_⟩, trivial⟩
  unfold bh
  rw [if_neg (by omega), Nat.sub_zero]
theorem gq (ps : List Pol) (cells : Int) (hE : gt ps cells ≠ 0) : Pure TC 6 [.d (aj 4 Pol.D ps), .i .i64 cells] (.tup [.d (.val (.pointer none)), .i .i64 (gt ps cells)]) := by
 have e : gt ps cells = if cells < 1 ∨ 4096 < cells then 1 else bq ps := rfl
 refine Pure.mk' Tryz.func6 rfl rfl zN ?_
 by_cases hc1 : cells < 1 ∨ 4096 < cells
 ·rw [if_pos hc1] at e
  rw [e]
  (repeat' (first | ((first | refine Wp.any aa rfl ?_ | (with_reducible first | refine Go.mk ?_ | apply ak.of)); conv => whnf) | with_reducible exact rfl | ((with_reducible refine Ov.ok zO ?_); conv => whnf) | (with_reducible refine Ov.sh1 (by with_unfolding_all exact rfl) ?_) | ((first | with_reducible refine Ov.quo (by omega) (by omega) (by omega) (fun _ _ => ?_) | refine zV ?_ | with_reducible refine And.intro zC ?_); conv => whnf) | ((with_reducible refine And.intro ?hb ?_); (case hb => exact zz0); (conv => whnf)) | ((refine ae.a rfl rfl rfl rfl rfl rfl ?hb ?_); (case hb => exact zB); (conv => whnf)) | ((refine ae.b rfl rfl rfl rfl rfl rfl rfl rfl ?hb ?ho ?_); (case hb => exact zB); (case ho => omega); (conv => whnf)) | ((refine ae.c rfl rfl rfl rfl rfl ?hb ?_); (case hb => exact zB); (conv => whnf)) | ((refine ae.d rfl rfl rfl rfl rfl rfl ?hb ?ho ?_); (case hb => exact zB); (case ho => omega); (conv => whnf)) | (with_reducible refine Or.inl ?_) | ((with_reducible refine IxA.ptr ?_); conv => whnf) | ((with_reducible refine nil_no (by omega) ?_); (conv => whnf)) | ((with_reducible refine af ?_ (fun hn0 => ?_)) <;> (conv => whnf)) | ((with_reducible first | refine ab.pure (bl ps) rfl rfl ?_ | refine ag.pure (bl ps) rfl rfl ?_); conv => whnf) | ((refine am (fun hc => ?_) (fun hc => ?_)) <;> (try simp only [wz9] at hc) <;> (try (exfalso; omega)) <;> (conv => whnf))))
  all_goals exact .rfl _
 ·rw [if_neg hc1] at e
  rw [e] at hE ⊢
  have hP := bl ps
  generalize bq ps = z at *
  (repeat' (first | ((first | refine Wp.any aa rfl ?_ | (with_reducible first | refine Go.mk ?_ | apply ak.of)); conv => whnf) | with_reducible exact rfl | ((with_reducible refine Ov.ok zO ?_); conv => whnf) | (with_reducible refine Ov.sh1 (by with_unfolding_all exact rfl) ?_) | ((first | with_reducible refine Ov.quo (by omega) (by omega) (by omega) (fun _ _ => ?_) | refine zV ?_ | with_reducible refine And.intro zC ?_); conv => whnf) | ((with_reducible refine And.intro ?hb ?_); (case hb => exact zz0); (conv => whnf)) | ((refine ae.a rfl rfl rfl rfl rfl rfl ?hb ?_); (case hb => exact zB); (conv => whnf)) | ((refine ae.b rfl rfl rfl rfl rfl rfl rfl rfl ?hb ?ho ?_); (case hb => exact zB); (case ho => omega); (conv => whnf)) | ((refine ae.c rfl rfl rfl rfl rfl ?hb ?_); (case hb => exact zB); (conv => whnf)) | ((refine ae.d rfl rfl rfl rfl rfl rfl ?hb ?ho ?_); (case hb => exact zB); (case ho => omega); (conv => whnf)) | (with_reducible refine Or.inl ?_) | ((with_reducible refine IxA.ptr ?_); conv => whnf) | ((with_reducible refine nil_no (by omega) ?_); (conv => whnf)) | ((with_reducible refine af ?_ (fun hn0 => ?_)) <;> (conv => whnf)) | ((with_reducible first | refine ab.pure (hP) rfl rfl ?_ | refine ag.pure (hP) rfl rfl ?_); conv => whnf) | ((refine am (fun hc => ?_) (fun hc => ?_)) <;> (try simp only [wz9] at hc) <;> (try (exfalso; omega)) <;> (conv => whnf))))
  all_goals exact .rfl _
theorem db : Pure TC 11 [.d (.val (.pointer none))] (.d (.val (.slice none 0 0))) := by
 refine Pure.mk' Tryz.func11 rfl rfl zN ?_
 (repeat' (first | ((first | refine Wp.any aa rfl ?_ | (with_reducible first | refine Go.mk ?_ | apply ak.of)); conv => whnf) | with_reducible exact rfl | ((with_reducible refine Ov.ok zO ?_); conv => whnf) | (with_reducible refine Ov.sh1 (by with_unfolding_all exact rfl) ?_) | ((first | with_reducible refine Ov.quo (by omega) (by omega) (by omega) (fun _ _ => ?_) | refine zV ?_ | with_reducible refine And.intro zC ?_); conv => whnf) | ((with_reducible refine And.intro ?hb ?_); (case hb => exact zz0); (conv => whnf)) | ((refine ae.a rfl rfl rfl rfl rfl rfl ?hb ?_); (case hb => exact zB); (conv => whnf)) | ((refine ae.b rfl rfl rfl rfl rfl rfl rfl rfl ?hb ?ho ?_); (case hb => exact zB); (case ho => omega); (conv => whnf)) | ((refine ae.c rfl rfl rfl rfl rfl ?hb ?_); (case hb => exact zB); (conv => whnf)) | ((refine ae.d rfl rfl rfl rfl rfl rfl ?hb ?ho ?_); (case hb => exact zB); (case ho => omega); (conv => whnf)) | (with_reducible refine Or.inl ?_) | ((with_reducible refine IxA.ptr ?_); conv => whnf) | ((with_reducible refine nil_no (by omega) ?_); (conv => whnf)) | ((with_reducible refine af ?_ (fun hn0 => ?_)) <;> (conv => whnf)) | ((refine am (fun hc => ?_) (fun hc => ?_)) <;> (try simp only [wz9] at hc) <;> (try (exfalso; omega)) <;> (conv => whnf))))
 exact .rfl _
def nilR (op pol : Int) (key : List Int) (n now s : Int) : Rpl :=
 if aD now = false ∨ (op = 2 ∧ (s < 1 ∨ 4611686018427387903 < s)) then dG 1
 else if cB [] op pol key n ≠ 0 ∧ cB [] op pol key n < 7 then dG (cB [] op pol key n) else dG 7
theorem lW (op pol : Int) (key : List Int) (n now s : Int) : Pure TC 9 [.d (.val (.pointer none)), .agg [.i .u8 op, .i .i64 pol, .d (aj 1 (ao .u8) key), .i .i64 n], .i .i64 now, .i .i64 s] (nilR op pol key n now s).S := by
 have hC := cF [] op pol key n
 have hF := bR now
 unfold nilR
 generalize cB [] op pol key n = e at *
 generalize aD now = t at *
 refine Pure.mk' Tryz.func9 rfl rfl zN ?_
 (repeat' (first | ((first | refine Wp.any aa rfl ?_ | (with_reducible first | refine Go.mk ?_ | apply ak.of)); conv => whnf) | with_reducible exact rfl | ((with_reducible refine Ov.ok zO ?_); conv => whnf) | (with_reducible refine Ov.sh1 (by with_unfolding_all exact rfl) ?_) | ((first | with_reducible refine Ov.quo (by omega) (by omega) (by omega) (fun _ _ => ?_) | refine zV ?_ | with_reducible refine And.intro zC ?_); conv => whnf) | ((with_reducible refine And.intro ?hb ?_); (case hb => exact zz0); (conv => whnf)) | ((refine ae.a rfl rfl rfl rfl rfl rfl ?hb ?_); (case hb => exact zB); (conv => whnf)) | ((refine ae.b rfl rfl rfl rfl rfl rfl rfl rfl ?hb ?ho ?_); (case hb => exact zB); (case ho => omega); (conv => whnf)) | ((refine ae.c rfl rfl rfl rfl rfl ?hb ?_); (case hb => exact zB); (conv => whnf)) | ((refine ae.d rfl rfl rfl rfl rfl rfl ?hb ?ho ?_); (case hb => exact zB); (case ho => omega); (conv => whnf)) | (with_reducible refine Or.inl ?_) | ((with_reducible refine IxA.ptr ?_); conv => whnf) | ((with_reducible refine nil_no (by omega) ?_); (conv => whnf)) | ((with_reducible refine af ?_ (fun hn0 => ?_)) <;> (conv => whnf)) | ((with_reducible first | refine ab.pure (hF) rfl rfl ?_ | refine ag.pure (hF) rfl rfl ?_); conv => whnf) | ((with_reducible refine ab.pureI (hC) rfl ?_); (conv => whnf); (repeat' ((with_reducible refine And.intro (by omega) ?_); (conv => whnf))); (refine And.intro (by (repeat' (first | exact Les.nil | with_reducible refine Les.cons ?_ ?_ | exact SV.Le.rfl _ | exact SV.Le.nil | exact SV.Le.sl (fun i hi => by (rcases i with _ | _ | _ | _ | i) <;> first | rfl | (exfalso; omega)) | exact SV.Le.sl (fun i hi => by simp [a6, aj, *])))) ?_); (conv => whnf)) | ((refine am (fun hc => ?_) (fun hc => ?_)) <;> (try simp only [wz9] at hc) <;> (try (exfalso; omega)) <;> (conv => whnf))))
 all_goals first
  | (rw [if_pos (by first | exact Or.inl (by assumption) | exact Or.inr ⟨by assumption, by omega⟩)]; exact .rfl _)
  | (rw [if_neg (by rintro (h | ⟨h, h2⟩) <;> first | omega | (simp_all; done)), if_pos ⟨by omega, by omega⟩]; exact .rfl _)
  | (rw [if_neg (by rintro (h | ⟨h, h2⟩) <;> first | omega | (simp_all; done)), if_neg (by omega)]; exact .rfl _)
def SV.pv : SV → Bool
 | .d (.val _) => true
 | _ => false
def SV.pl : SV → Bool
 | .d (.val _) => true
 | .agg vs => vs.all SV.pv
 | .tup vs => vs.all fun | .d (.val _) => true | .agg us => us.all SV.pv | _ => false
 | _ => false
theorem RS.pv {E E' : Env} {nx nx' : Nat} {w w' : World} {x : SV} {v : Value} (hx : x.pv = true) (h : RS E nx w x v) : RS E' nx' w' x v := by
 unfold SV.pv at hx
 split at hx
 ·cases h with | d _ _ h => cases h with | val _ h => exact .d _ _ (.val _ h)
 ·cases hx
theorem RS.pvA {E E' : Env} {nx nx' : Nat} {w w' : World} {us : List SV} {v : Value} (hx : us.all SV.pv = true) (h : RS E nx w (.agg us) v) : RS E' nx' w' (.agg us) v := by
 rw [Q23] at hx
 cases h with
 | agg _ vs hs h1 hh => exact .agg _ _ hs h1 fun j hj => (hh j hj).pv (hx _ (Q14 hj))
theorem RS.pl {E E' : Env} {nx nx' : Nat} {w w' : World} {x : SV} {v : Value} (hx : x.pl = true) (h : RS E nx w x v) : RS E' nx' w' x v := by
 unfold SV.pl at hx
 split at hx
 ·exact h.pv rfl
 ·exact h.pvA hx
 ·rw [Q23] at hx
  cases h with
  | tup _ vs hs hh =>
   refine .tup _ _ hs fun j hj => ?_
   have h1 := hx _ (Q14 hj)
   have h2 := hh j hj
   revert h1 h2
   split
   ·rename_i e; intro _ h2; rw [e] at h2 ⊢; exact h2.pv rfl
   ·rename_i us e; intro h1 h2; rw [e] at h2 ⊢; exact h2.pvA h1
   ·intro h1; cases h1
 ·cases hx
theorem Fun.ofPure {C : Cx} {g m : Nat} {args0 args : List SV} {r : SV} {H : List (Nat × Option Blk)} (h : Pure C g args0 r) (hr : r.pl = true) (hk : kO ⟨⟨0, m⟩, m, [], H⟩ args fun ys => Les ys args0) : Fun C g m args H m r H := by
  refine ⟨h.ent, Q4 _, fun E w vs hS hsz hargs => ?_⟩
  let O : Org := ⟨w, HB E H, E.Im, m, E.ρ, E.κ⟩
  have hs : Sat O E ⟨⟨0, m⟩, m, [], H⟩ { tmps := #[], defers := [] } w :=
    ⟨fun n => .any _, ⟨rfl, rfl⟩, rfl, hS.hp, hS.nx, hS.inj, fun b hb => ⟨(hS.im b hb).1, Or.inr (Or.inl hb), (hS.im b hb).2⟩, fun l b hb hr => Or.inl ⟨l, b, hb, hr, rfl⟩, Kq.refl _ _, fun l hl => ⟨rfl, rfl⟩, Q4 _, fun b hb => hb⟩
  obtain ⟨ys, g1, g3, g5⟩ := fi hs args vs.toList _ (by simpa using hsz) (fun j x v hx hv => by
    obtain ⟨q1, q2⟩ := Q3 hx
    subst q2; rw [← bV hv]; exact hargs j q1) hk
  have hlen : vs.size = ys.length := by omega
  refine (h.out ⟨E.ρ, E.κ, E.all ⟨⟨0, m⟩, m, [], H⟩⟩ w vs (fun b hb => ?_) (by rw [hlen, g1.len]) fun j hj => ?_).mono ?_
  · rcases hb with hb | ⟨l, x, hl, hr, rfl⟩
    · exact (hs.im b hb).1
    · exact (hs.hp l x hl).lt hr
  · have hj2 : j < ys.length := by rw [g1.len]; exact hj
    have hj3 : j < vs.size := by omega
    exact (g1.out j hj2 hj).out _ _ _ _ (g5 j _ _ (Q0 hj2) (by simp [Array.getD, hj3]))
  · rintro e w' ⟨v, rfl, hkp, hv⟩
    have ha := hs.after hkp
    exact ⟨v, ⟨E.ρ, E.κ, fun b => E.Im b ∨ (w.heap.size ≤ b ∧ b < w'.heap.size)⟩, rfl, hkp.kq _, fun l hl => ⟨rfl, rfl⟩, ⟨ha.hp, ha.nx, ha.inj, fun b hb => ⟨(ha.im b hb).1, (ha.im b hb).2.2⟩⟩, fun b hb => Or.inl hb,
      fun b hb => by rcases hb with hb | hb
                     · exact Or.inl hb
                     · exact Or.inr (Or.inr hb.1), fun b hb => Or.inl hb, hv.pl hr⟩
theorem ac.agg {L : List Nat} {cs cs0 : List SV} (h : bc L cs cs0) : ac L (.agg cs) (.agg cs0) := by
 refine ⟨fun E nx w v hv => ?_⟩
 obtain ⟨g1, g2⟩ := h.out
 cases hv with
 | agg _ us hs h1 hh =>
  refine .agg _ us (by omega) h1 fun j hj => ?_
  obtain ⟨z, q1, q2⟩ := g2 j _ (Q0 hj)
  obtain ⟨q3, q4⟩ := Q3 q1
  have := hh j q3
  rw [q4] at this
  exact q2.out _ _ _ _ this
theorem qp (key : List Int) {i : Nat} (h : i < key.length) : (eJ key).getD i default = key.getD i default := by
 unfold eJ
 rw [Q1, Q11 h, ← Q1]
theorem er (key : List Int) : (eJ key).length = key.length + 3 := by unfold eJ; rw [Q9]; rfl
theorem kJ (key : List Int) : SV.Le (.d (.sl 1 key.length fun i => ao .u8 ((eJ key).getD (0 + i) default))) (.d (aj 1 (ao .u8) key)) := SV.Le.sl fun i hi => by
 rw [Q19, qp key hi]
@[reducible] def c5 (key : List Int) : Blk := ap 5 1 (ao .u8) (eJ key)
theorem pC (key : List Int) : Fun TC 35 1 [.sl 0 1 0 key.length, .d (aj 1 (ao .u8) key)] [(0, some (c5 key))] 1 (.b true) [(0, some (c5 key))] := by
 have h := bk key key
 rw [decide_eq_true rfl] at h
 refine Fun.ofPure h rfl ?_
 conv => whnf
 refine ⟨by rw [er]; omega, ?_⟩
 exact .cons (kJ key) (.cons (.rfl _) .nil)
theorem kV (key : List Int) (hl : key.length ≤ 16777216) : Fun TC 10 1 [.sl 0 1 0 (eJ key).length, .d (aj 1 (ao .u8) key)] [(0, some (c5 key))] 1 (.b true) [(0, some (c5 key))] := by
 have e1 := er key
 refine Fun.mk' Tryz.func10 rfl rfl zN (by decide) ?_
 have h0 : (eJ key).getD (0 + (key.length : Int).toNat) default = 165 := by
  unfold eJ
  rw [Q1, Q12 (by omega), show 0 + (key.length : Int).toNat - key.length = 0 by omega]; rfl
 have h1 : (eJ key).getD (0 + ((key.length : Int) + 1).toNat) default = 90 := by
  unfold eJ
  rw [Q1, Q12 (by omega), show 0 + ((key.length : Int) + 1).toNat - key.length = 1 by omega]; rfl
 have h2 : (eJ key).getD (0 + ((key.length : Int) + 2).toNat) default = 165 := by
  unfold eJ
  rw [Q1, Q12 (by omega), show 0 + ((key.length : Int) + 2).toNat - key.length = 2 by omega]; rfl
 (repeat' (first | ((first | refine Wp.any aa rfl ?_ | (with_reducible first | refine Go.mk ?_ | apply ak.of | refine Ov.ok zO ?_ | refine And.intro zC ?_)); conv => whnf) | ((refine ab.fn (pC key) [0] rfl rfl rfl rfl rfl ?ha ?hh ?_); (case ha => exact zA); (case hh => exact zH); (conv => whnf)) | ((refine am (fun hc => ?_) (fun hc => ?_)) <;> (try simp only [wz9] at hc) <;> (try (exfalso; omega)) <;> (conv => whnf))))
 refine ah.of [0] rfl (fun i hi => by have : i = 0 := (by omega); subst this; rfl) rfl ?_ ?_
 ·rw [h2]; exact .rfl _
 ·((conv => whnf); repeat' (first | exact zA9 | ((with_reducible refine And.intro ?_ ?_) <;> (conv => whnf))))
theorem f6 (ps : List Pol) (op pol : Int) (key : List Int) (n : Int) : Fun TC 41 1 [.d (aj 4 Pol.D ps), .agg [.i .u8 op, .i .i64 pol, .sl 0 1 0 key.length, .i .i64 n]] [(0, some (c5 key))] 1 (.i .i64 (cB ps op pol key n)) [(0, some (c5 key))] := by
 refine Fun.ofPure (ek ps op pol key n) rfl ?_
 conv => whnf
 refine ⟨by rw [er]; omega, ?_⟩
 exact .cons (.rfl _) (.cons (.agg (.cons (.rfl _) (.cons (.rfl _) (.cons (kJ key) (.cons (.rfl _) .nil))))) .nil)
@[reducible] def ke (l : Nat) (pol : Int) (key : List Int) : SV := .agg [.i .i64 pol, .sl l 1 0 key.length, .i .i64 0, .d (.val (.slice none 0 0))]
theorem ku (a : Cel) (pol : Int) (key : List Int) (ha : IsB a.key) (hb : IsB key) : Fun TC 44 1 [a.S, ke 0 pol key] [(0, some (c5 key))] 1 (.i .i64 (i9 a (aw pol key))) [(0, some (c5 key))] := by
 refine Fun.ofPure (ej a (aw pol key) ha hb) rfl ?_
 conv => whnf
 refine ⟨by rw [er]; omega, ?_⟩
 exact .cons (.rfl _) (.cons (.agg (.cons (.rfl _) (.cons (kJ key) (.cons (.rfl _) (.cons .nil .nil))))) .nil)
theorem j4 (xs : List Cel) (pol : Int) (key : List Int) (hlen : xs.length ≤ 4611686018427387903) (hx : ∀ k, IsB (xs.getD k default).key) (hk : IsB key) :
  Fun TC 43 2 [.sl 0 4 0 xs.length, ke 1 pol key, .d (.fn (.func 44) [])] [(0, some (ap 56 4 Cel.D xs)), (1, some (c5 key))] 2 (.tup [.i .i64 (aM xs (aw pol key)), .b (bS xs (aw pol key))]) [(0, some (ap 56 4 Cel.D xs)), (1, some (c5 key))] := by
 obtain ⟨t, hT⟩ : ∃ t, t = aw pol key := ⟨_, rfl⟩
 rw [← hT]
 refine Fun.mk' Tryz.func43 rfl rfl zN (by decide) ?_
 (repeat' (first | ((first | refine Wp.any aa rfl ?_ | (with_reducible first | refine Go.mk ?_ | apply ak.of)); conv => whnf)))
 refine Wp.loopP (ι := Nat × Nat × Nat) (fun k => k.1 ≤ k.2.1 ∧ k.2.1 ≤ xs.length ∧ k.2.1 - k.1 < k.2.2 ∧ bsF (fun k => decide (i9 (xs.getD k default) t < 0)) k.2.2 k.1 k.2.1 = aM xs t) (fun k => ⟨⟨Tryz.f43.ntmps, 2⟩, 3, [(0, .sl 0 4 0 xs.length), (2, .d (.fn (.func 44) [])), (4, .ptr 2 0), (8, .i .i64 xs.length), (9, .i .i64 k.1), (10, .i .i64 k.2.1)], [(0, some (ap 56 4 Cel.D xs)), (1, some (c5 key)), (2, some (.cells [.i .i64 pol, .sl 1 1 0 key.length, .i .i64 0, .d (.val (.slice none 0 0))]))]⟩) (fun k => k.2.1 - k.1) (0, xs.length, xs.length + 1) ⟨by simp, by simp, by simp, rfl⟩ ?_ ?_
 ·(refine Le.by [0,1,2] rfl rfl rfl rfl ?_ ?_ <;> (conv => whnf) <;> (repeat' (first | exact trivial | exact ac.rfl rfl | exact ac.ptr rfl | exact ac.sl rfl | exact ⟨rfl, rfl, rfl⟩ | exact fun i hi => rfl | ((with_reducible refine And.intro ?_ ?_) <;> (conv => whnf)))))
 ·rintro ⟨i, j, q⟩ ⟨h1, h2, h3, h4⟩
  dsimp only at h1 h2 h3 h4 ⊢
  have hO := fun k => ku (xs.getD k default) pol key (hx k) hk
  rw [← hT] at hO
  (repeat' (first | ((first | refine Wp.any aa rfl ?_ | (with_reducible first | refine Go.mk ?_ | apply ak.of | refine Ov.ok zO ?_)); conv => whnf) | (with_reducible refine Ov.sh1 (by with_unfolding_all exact rfl) ?_) | ((first | refine zV ?_ | with_reducible refine And.intro zC ?_); conv => whnf) | ((refine ag.fn (hO (0 + (((i : Int) + j) / 2).toNat)) [1] [1] rfl rfl rfl rfl rfl ?ha ?hh ?hs ?_); (case ha => exact zz1); (case hh => exact zH); (case hs => exact zK); (conv => whnf)) | ((refine ag.fn (hO (0 + (i : Int).toNat)) [1] [1] rfl rfl rfl rfl rfl ?ha ?hh ?hs ?_); (case ha => exact zz1); (case hh => exact zH); (case hs => exact zK); (conv => whnf)) | ((refine am (fun hc => ?_) (fun hc => ?_)) <;> (try simp only [wz9] at hc) <;> (try (exfalso; omega)) <;> (conv => whnf))))
  ·rw [show 0 + (((i : Int) + j) / 2).toNat = (i + j) / 2 by omega] at hc
   have hh : decide (i9 (xs.getD ((i + j) / 2) default) t < 0) = true := by simpa using hc
   refine ⟨((i + j) / 2 + 1, j, q - 1), ⟨by dsimp only; omega, h2, by dsimp only; omega, ?_⟩, by dsimp only; omega, ?_⟩
   ·rw [← h4]
    obtain ⟨q, rfl⟩ : ∃ r, q = r + 1 := ⟨q - 1, by omega⟩
    rw [bsF, if_pos (by omega), if_pos hh]; rfl
   ·(refine Le.by [0,1,2] rfl rfl rfl rfl ?_ ?_ <;> (conv => whnf) <;> (repeat' (first | exact trivial | exact ac.rfl rfl | exact ac.ptr rfl | exact ac.sl rfl | exact ⟨rfl, rfl, rfl⟩ | exact fun i hi => rfl | ((with_reducible refine And.intro ?_ ?_) <;> (conv => whnf)))))
  ·rw [show 0 + (((i : Int) + j) / 2).toNat = (i + j) / 2 by omega] at hc
   have hh : ¬ decide (i9 (xs.getD ((i + j) / 2) default) t < 0) = true := by simpa using hc
   refine ⟨(i, (i + j) / 2, q - 1), ⟨by dsimp only; omega, by dsimp only; omega, by dsimp only; omega, ?_⟩, by dsimp only; omega, ?_⟩
   ·rw [← h4]
    obtain ⟨q, rfl⟩ : ∃ r, q = r + 1 := ⟨q - 1, by omega⟩
    rw [bsF, if_pos (by omega), if_neg hh]; rfl
   ·(refine Le.by [0,1,2] rfl rfl rfl rfl ?_ ?_ <;> (conv => whnf) <;> (repeat' (first | exact trivial | exact ac.rfl rfl | exact ac.ptr rfl | exact ac.sl rfl | exact ⟨rfl, rfl, rfl⟩ | exact fun i hi => rfl | ((with_reducible refine And.intro ?_ ?_) <;> (conv => whnf)))))
  all_goals rw [ko (by omega)] at h4
  all_goals subst h4
  ·refine ah.of [0, 1] rfl (fun i hi => by have : i = 0 ∨ i = 1 := (by omega); rcases this with h | h <;> subst h <;> rfl) rfl ?_ ?_
   ·conv => whnf
    rw [show 0 + ((aM xs t : Nat) : Int).toNat = aM xs t by omega]
    exact .of_eq (by rw [show bS xs t = (i9 (xs.getD (aM xs t) default) t == 0) by
     unfold bS; rw [decide_eq_true (by omega), Bool.true_and]; rfl])
   ·((conv => whnf); repeat' (first | exact zA9 | ((with_reducible refine And.intro ?_ ?_) <;> (conv => whnf))))
  ·refine ah.of [0, 1] rfl (fun i hi => by have : i = 0 ∨ i = 1 := (by omega); rcases this with h | h <;> subst h <;> rfl) rfl ?_ ?_
   ·conv => whnf
    exact .of_eq (by rw [show bS xs t = false by unfold bS; rw [decide_eq_false (by omega), Bool.false_and]])
   ·((conv => whnf); repeat' (first | exact zA9 | ((with_reducible refine And.intro ?_ ?_) <;> (conv => whnf))))
@[reducible] def fndS (xs : List Cel) (l : Nat) (pol : Int) (key : List Int) (h : Bool) : SV := bif h then (xs.getD (aM xs (aw pol key)) default).S else ke l pol key
theorem gS (xs : List Cel) (pol : Int) (key : List Int) (hlen : xs.length ≤ 4611686018427387903) (hx : ∀ k, IsB (xs.getD k default).key) (ht : IsB key) {h : Bool} (hh : bS xs (aw pol key) = h) :
  Fun TC 22 2 [.sl 0 4 0 xs.length, .i .i64 pol, .sl 1 1 0 key.length] [(0, some (ap 56 4 Cel.D xs)), (1, some (c5 key))] 2
   (.tup [.i .i64 (aM xs (aw pol key)), .b h, fndS xs 1 pol key h]) [(0, some (ap 56 4 Cel.D xs)), (1, some (c5 key))] := by
 have hS := j4 xs pol key hlen hx ht
 have hlt := (c8 xs (aw pol key)).1
 rw [hh] at hS hlt
 cases h with
 | true =>
  have hlt := (hlt rfl).1
  refine Fun.mk' Tryz.func22 rfl rfl zN (by decide) ?_
  (repeat' (first | ((first | refine Wp.any aa rfl ?_ | (with_reducible first | refine Go.mk ?_ | apply ak.of) | refine zV ?_ | with_reducible refine And.intro zC ?_); conv => whnf) | ((refine ab.fn (hS) [0,1] rfl rfl rfl rfl rfl ?ha ?hh ?_); (case ha => exact zz1); (case hh => exact zH); (conv => whnf))))
  refine ah.of [0, 1] rfl (fun i hi => by have : i = 0 ∨ i = 1 := (by omega); rcases this with h | h <;> subst h <;> rfl) rfl ?_ ?_
  ·conv => whnf
   rw [show 0 + ((aM xs (aw pol key) : Nat) : Int).toNat = aM xs (aw pol key) by omega]
   exact .rfl _
  ·((conv => whnf); repeat' (first | exact zA9 | ((with_reducible refine And.intro ?_ ?_) <;> (conv => whnf))))
 | false =>
  refine Fun.mk' Tryz.func22 rfl rfl zN (by decide) ?_
  (repeat' (first | ((first | refine Wp.any aa rfl ?_ | (with_reducible first | refine Go.mk ?_ | apply ak.of) | refine zV ?_); conv => whnf) | ((refine ab.fn (hS) [0,1] rfl rfl rfl rfl rfl ?ha ?hh ?_); (case ha => exact zz1); (case hh => exact zH); (conv => whnf))))
  refine ah.of [0, 1] rfl (fun i hi => by have : i = 0 ∨ i = 1 := (by omega); rcases this with h | h <;> subst h <;> rfl) rfl ?_ ?_
  ·conv => whnf
   exact .rfl _
  ·((conv => whnf); repeat' (first | exact zA9 | ((with_reducible refine And.intro ?_ ?_) <;> (conv => whnf))))
theorem ah.mv3 {nx : Nat} {nt : NT} {fr : List (Nat × SV)} {hp : List (Nat × Option Blk)} {x r : SV} {H' : List (Nat × Option Blk)} {e z n : Nat} {f : Nat → List D} (hl : lkh hp 1 = some (.row e z n f)) (hm : Nat.ble 3 nx = true)
  (hx : rs2 ⟨nt, nx + 1, fr, (nx, some (.row e z n f)) :: (1, none) :: mvH 1 nx hp⟩ [0, 1, 2, nx] x fun y => SV.Le y r) (hH : kf ⟨nt, nx + 1, fr, (nx, some (.row e z n f)) :: (1, none) :: mvH 1 nx hp⟩ [0, 1, 2, nx] H') : ah 3 ⟨nt, nx, fr, hp⟩ x 4 r H' := by
 have h2 : 3 ≤ nx := zzb hm
 refine ah.mv 1 hl h2 (ah.of [0, 1, 2, nx] rfl (fun i hi => by have : i = 0 ∨ i = 1 ∨ i = 2 := (by omega); rcases this with h | h | h <;> subst h <;> rfl) ?_ hx hH)
 have e1 : ∀ k, k < 3 → Nat.beq k nx = false := fun k hk => by cases h : Nat.beq k nx with | true => have := Q2 h; omega | false => rfl
 have e3 : Nat.beq 0 1 = false := rfl
 have e4 : Nat.beq 0 2 = false := rfl
 have e5 : Nat.beq 1 2 = false := rfl
 simp [bL, e1, e3, e4, e5]
theorem jO (key : List Int) (hl : key.length ≤ 255) : Fun TC 51 1 [.sl 0 1 0 key.length] [(0, some (c5 key))] 1 (.d (aj 1 (ao .u8) key)) [(0, some (c5 key))] := by
 have e1 := er key
 refine Fun.mk' Tryz.func51 rfl rfl zN (by decide) ?_
 (repeat' (first | ((first | refine Wp.any aa rfl ?_ | (with_reducible first | refine Go.mk ?_ | apply ak.of | refine And.intro zC ?_)); conv => whnf) | ((with_reducible refine And.intro ?hb ?_); (case hb => exact zz0); (conv => whnf)) | ((with_reducible refine af ?_ (fun hn0 => ?_)) <;> (conv => whnf))))
 ·refine ah.sealB [0] rfl rfl rfl (bI.le (bI.sl rfl rfl (Nat.le_of_eq (Q19 _))) (dw (Q19 _) fun i hi => ?_)) ?_
  ·unfold bh
   rw [if_neg (by omega)]
   show ao .u8 ((eJ key).getD (0 + (0 + i - 0)) default) = _
   rw [show 0 + (0 + i - 0) = i by omega, qp key hi]
  ·(conv => whnf); (repeat' (first | exact zE | ((refine And.intro ?_ ?_) <;> (conv => whnf))))
 ·obtain rfl := List.eq_nil_of_length_eq_zero hn0
  refine ah.sealB [0] rfl rfl rfl (bI.le bI.d SV.Le.nil) ?_
  (conv => whnf); (repeat' (first | exact zE | ((refine And.intro ?_ ?_) <;> (conv => whnf))))
theorem ei (xs : List Cel) (at' : Nat) (pol : Int) (key : List Int) (tat : Int) (held : List Int) (hn : xs.length ≤ 16777215) (hk : key.length ≤ 255) (h1 : at' ≤ xs.length) :
  Fun TC 27 2 [.sl 0 4 0 xs.length, .i .i64 at', .b false, .agg [.i .i64 pol, .sl 1 1 0 key.length, .i .i64 tat, .d (aj 1 (ao .i64) held)]] [(0, some (ap 56 4 Cel.D xs)), (1, some (c5 key))] 3
   (.sl 2 4 0 (cA xs at' false ⟨pol, key, tat, held⟩).length) [(0, some (ap 56 4 Cel.D xs)), (1, some (c5 key)), (2, some (ap 56 4 Cel.D (cA xs at' false ⟨pol, key, tat, held⟩)))] := by
 have hI := bC xs at' ⟨pol, key, tat, held⟩ (by omega) (by omega)
 refine Fun.mk' Tryz.func27 rfl rfl zN (by decide) ?_
 (repeat' (first | ((first | refine Wp.any aa rfl ?_ | (with_reducible first | refine Go.mk ?_ | apply ak.of)); conv => whnf) | ((refine ab.fn (ar xs (by omega)) [0] rfl rfl rfl rfl rfl ?ha ?hh ?_); (case ha => exact zA); (case hh => exact zH); (conv => whnf)) | ((refine ab.fn (jO key hk) [1] rfl rfl rfl rfl rfl ?ha ?hh ?_); (case ha => exact zA); (case hh => exact zH); (conv => whnf)) | ((refine ab.fn (hI) [3,4] rfl rfl rfl rfl rfl ?ha ?hh ?_); (case ha => exact zA); (case hh => exact zH); (conv => whnf))))
 refine ah.of [0, 1, 5] rfl (fun i hi => by have : i = 0 ∨ i = 1 := (by omega); rcases this with h | h <;> subst h <;> rfl) rfl ?_ ?_
 ·exact .rfl _
 ·((conv => whnf); repeat' (first | exact zA9 | ((with_reducible refine And.intro ?_ ?_) <;> (conv => whnf))))
theorem f4 (ps : List Pol) (room : Int) (xs : List Cel) (op pol : Int) (key : List Int) (n now serial : Int) : Fun TC 18 3 [.ptr 0 0, .agg [.i .u8 op, .i .i64 pol, .sl 2 1 0 key.length, .i .i64 n], .i .i64 now, .i .i64 serial] (iZ ps room xs ++ [(2, some (c5 key))]) 3 (.i .i64 (aR ps op pol key n now serial)) (iZ ps room xs ++ [(2, some (c5 key))]) := by
 refine Fun.mk' Tryz.func18 rfl rfl zN (by decide) ?_
 (repeat' (first | ((first | refine Wp.any aa rfl ?_ | (with_reducible first | refine Go.mk ?_ | apply ak.of | refine ab.pure (aJ _) rfl rfl ?_)); conv => whnf) | ((refine ab.fn (f6 ps op pol key n) [2] rfl rfl rfl rfl rfl ?ha ?hh ?_); (case ha => exact zz1); (case hh => exact zH); (conv => whnf)) | ((refine am (fun hc => ?_) (fun hc => ?_)) <;> (try simp only [wz9] at hc) <;> (try (exfalso; omega)) <;> (conv => whnf))))
 all_goals refine ah.of [0, 1, 2] rfl (fun i hi => by have : i = 0 ∨ i = 1 ∨ i = 2 := (by omega); rcases this with h | h | h <;> subst h <;> rfl) rfl ?_ ?_
 all_goals first | (((conv => whnf); repeat' (first | exact zA9 | ((with_reducible refine And.intro ?_ ?_) <;> (conv => whnf)))); done) | skip
 all_goals (conv => whnf)
 all_goals exact .i (by
  unfold aR
  repeat' split
  all_goals first | rfl | omega | (exfalso; simp_all; try omega) | simp_all)
@[reducible] def kCelT (l : Nat) (pol : Int) (key : List Int) (tat : Int) (held : List Int) : SV := .agg [.i .i64 pol, .sl l 1 0 key.length, .i .i64 tat, .d (aj 1 (ao .i64) held)]
theorem kx (p : Pol) (pol : Int) (key : List Int) (now n : Int) : Fun TC 24 1 [p.S, ke 0 pol key, .i .i64 now, .i .i64 n] [(0, some (c5 key))] 1 (.tup [(dM p (aw pol key) now n).S, kCelT 0 pol key (bt p (aw pol key) now n).tat []]) [(0, some (c5 key))] := by
 refine Fun.mk' Tryz.func24 rfl rfl zN (by decide) ?_
 (repeat' (first | ((first | refine Wp.any aa rfl ?_ | (with_reducible first | refine Go.mk ?_ | apply ak.of) | refine zV ?_ | with_reducible refine ab.pure (dq _ _ _ _ _) rfl rfl ?_); conv => whnf)))
 (refine ah.of [0] rfl (fun i hi => by have : i = 0 := (by omega); subst this; rfl) rfl ?_ ?_ <;> first | ((conv => whnf); exact .tup (.cons (.rfl _) (.cons (.agg (.cons (.rfl _) (.cons (.rfl _) (.cons (.rfl _) (.cons (by first | exact .rfl _ | exact .nil) .nil))))) .nil))) | (((conv => whnf); repeat' (first | exact zA9 | ((with_reducible refine And.intro ?_ ?_) <;> (conv => whnf)))); done))
theorem iY (p : Pol) (pol : Int) (key : List Int) (n : Int) : Fun TC 25 1 [p.S, ke 0 pol key, .i .i64 n] [(0, some (c5 key))] 1 (.tup [(jV p (aw pol key) n).S, kCelT 0 pol key 0 (dP p (aw pol key) n).held]) [(0, some (c5 key))] := by
 have hb := ia (p := p.permits) (xs := []) (n := n)
 have hn : (aw pol key).held = [] := rfl
 rw [jV, dP, hn]
 refine Fun.mk' Tryz.func25 rfl rfl zN (by decide) ?_
 (repeat' (first | ((first | refine Wp.any aa rfl ?_ | (with_reducible first | refine Go.mk ?_ | apply ak.of | refine Ov.ok zO ?_) | refine zV ?_); conv => whnf) | ((with_reducible refine ab.pureI (fy p.permits [] n) rfl ?_); (conv => whnf); (repeat' ((with_reducible refine And.intro (by omega) ?_); (conv => whnf))); (refine And.intro (by exact .cons (.agg (.cons (.rfl _) (.cons .nil .nil))) (.cons (.rfl _) .nil)) ?_); (conv => whnf)) | ((refine am (fun hc => ?_) (fun hc => ?_)) <;> (try simp only [wz9] at hc) <;> (try (exfalso; omega)) <;> (conv => whnf))))
 ·rw [if_neg hc, if_neg hc]
  (refine ah.of [0] rfl (fun i hi => by have : i = 0 := (by omega); subst this; rfl) rfl ?_ ?_ <;> first | ((conv => whnf); exact .tup (.cons (.rfl _) (.cons (.agg (.cons (.rfl _) (.cons (.rfl _) (.cons (.rfl _) (.cons (by first | exact .rfl _ | exact .nil) .nil))))) .nil))) | (((conv => whnf); repeat' (first | exact zA9 | ((with_reducible refine And.intro ?_ ?_) <;> (conv => whnf)))); done))
 ·rw [if_pos hc, if_pos hc]
  (refine ah.of [0] rfl (fun i hi => by have : i = 0 := (by omega); subst this; rfl) rfl ?_ ?_ <;> first | ((conv => whnf); exact .tup (.cons (.rfl _) (.cons (.agg (.cons (.rfl _) (.cons (.rfl _) (.cons (.rfl _) (.cons (by first | exact .rfl _ | exact .nil) .nil))))) .nil))) | (((conv => whnf); repeat' (first | exact zA9 | ((with_reducible refine And.intro ?_ ?_) <;> (conv => whnf)))); done))
theorem iV (p : Pol) (pol : Int) (key : List Int) (n : Int) : Fun TC 26 1 [p.S, ke 0 pol key, .i .i64 n] [(0, some (c5 key))] 1 (.tup [(kQ p (aw pol key) n).S, kCelT 0 pol key 0 (ew p (aw pol key) n).held]) [(0, some (c5 key))] := by
 have hb := iK (p := p.permits) (xs := []) (n := n)
 have hn : (aw pol key).held = [] := rfl
 rw [kQ, ew, hn]
 refine Fun.mk' Tryz.func26 rfl rfl zN (by decide) ?_
 (repeat' (first | ((first | refine Wp.any aa rfl ?_ | (with_reducible first | refine Go.mk ?_ | apply ak.of | refine Ov.ok zO ?_) | refine zV ?_); conv => whnf) | ((with_reducible refine ab.pureI (fA p.permits [] n) rfl ?_); (conv => whnf); (repeat' ((with_reducible refine And.intro (by omega) ?_); (conv => whnf))); (refine And.intro (by exact .cons (.agg (.cons (.rfl _) (.cons .nil .nil))) (.cons (.rfl _) .nil)) ?_); (conv => whnf)) | ((refine am (fun hc => ?_) (fun hc => ?_)) <;> (try simp only [wz9] at hc) <;> (try (exfalso; omega)) <;> (conv => whnf))))
 ·rw [if_neg hc, if_neg hc]
  (refine ah.of [0] rfl (fun i hi => by have : i = 0 := (by omega); subst this; rfl) rfl ?_ ?_ <;> first | ((conv => whnf); exact .tup (.cons (.rfl _) (.cons (.agg (.cons (.rfl _) (.cons (.rfl _) (.cons (.rfl _) (.cons (by first | exact .rfl _ | exact .nil) .nil))))) .nil))) | (((conv => whnf); repeat' (first | exact zA9 | ((with_reducible refine And.intro ?_ ?_) <;> (conv => whnf)))); done))
 ·rw [if_pos hc, if_pos hc]
  (refine ah.of [0] rfl (fun i hi => by have : i = 0 := (by omega); subst this; rfl) rfl ?_ ?_ <;> first | ((conv => whnf); exact .tup (.cons (.rfl _) (.cons (.agg (.cons (.rfl _) (.cons (.rfl _) (.cons (.rfl _) (.cons (by first | exact .rfl _ | exact .nil) .nil))))) .nil))) | (((conv => whnf); repeat' (first | exact zA9 | ((with_reducible refine And.intro ?_ ?_) <;> (conv => whnf)))); done))
theorem qe (ps : List Pol) (room : Int) (xs : List Cel) (op pol : Int) (key : List Int) (n now serial : Int) (hb : dO ps xs) (hk : IsB key) :
  Fun TC 8 3 [.ptr 0 0, .agg [.i .u8 op, .i .i64 pol, .sl 2 1 0 key.length, .i .i64 n], .i .i64 now, .i .i64 serial] (iZ ps room xs ++ [(2, some (c5 key))]) 4 (doS ps room xs op pol key n now serial).1.S
   [(0, some (.cells [.d (aj 4 Pol.D ps), .i .i64 room, .sl 3 4 0 (doS ps room xs op pol key n now serial).2.length])), (1, none), (2, some (c5 key)), (3, some (ap 56 4 Cel.D (doS ps room xs op pol key n now serial).2))] := by
 have hlen := hb.len
 have hpos := j6 xs (aw pol key)
 by_cases hE : aR ps op pol key n now serial = 0
 ·obtain ⟨hnow, hop1, hop2, hps, hkey, hn, hser, hkind⟩ := dd hE
  have hpl := bD hps
  have hCk := f4 ps room xs op pol key n now serial
  rw [hE] at hCk
  have hD : doS ps room xs op pol key n now serial = if op = 5 then (⟨0, false, (xs.length : Int) - (cg ps now xs).length, 0, 0, now⟩, cg ps now xs)
   else if op = 6 then (dG 0, xs)
   else if op = 4 then (bZ (ps.getD pol.toNat default) (bz xs pol key) now, xs)
   else mg room xs pol key (decide (op = 1 ∧ n = 0)) (bK (ps.getD pol.toNat default) (bz xs pol key) op n now serial) := by
   unfold doS; rw [if_neg (fun h => h hE)]
  rw [hD]
  clear hD
  by_cases h5 : op = 5
  ·subst h5
   simp only [if_true]
   have hst : (cg ps now xs).length ≤ xs.length := List.length_filter_le _ _
   refine Fun.mk' Tryz.func8 rfl rfl zN (by decide) ?_
   (repeat' (first | ((first | refine Wp.any aa rfl ?_ | (with_reducible first | refine Go.mk ?_ | apply ak.of | refine Ov.ok zO ?_) | refine zV ?_); conv => whnf) | ((refine ab.fn (hCk) [0,1,2] rfl rfl rfl rfl rfl ?ha ?hh ?_); (case ha => exact zz1); (case hh => exact zH); (conv => whnf)) | ((refine ag.fn (dh ps room now xs hb.pol (by omega)) [1,0,3,5] [0,3,5] rfl rfl rfl rfl rfl ?ha ?hh ?hs ?_); (case ha => exact zA); (case hh => exact zH); (case hs => exact zK); (conv => whnf))))
   (refine ah.mv3 rfl rfl ?_ ?_ <;> first | ((conv => whnf); exact .rfl _) | (((conv => whnf); repeat' (first | exact zA9 | ((with_reducible refine And.intro ?_ ?_) <;> (conv => whnf)))); done))
  by_cases h6 : op = 6
  ·subst h6
   simp only [if_true, (by decide : ¬ (6 : Int) = 5), if_false]
   refine Fun.mk' Tryz.func8 rfl rfl zN (by decide) ?_
   (repeat' (first | ((first | refine Wp.any aa rfl ?_ | (with_reducible first | refine Go.mk ?_ | apply ak.of)); conv => whnf) | ((refine ab.fn (hCk) [0,1,2] rfl rfl rfl rfl rfl ?ha ?hh ?_); (case ha => exact zz1); (case hh => exact zH); (conv => whnf))))
   (refine ah.mv3 rfl rfl ?_ ?_ <;> first | ((conv => whnf); exact .rfl _) | (((conv => whnf); repeat' (first | exact zA9 | ((with_reducible refine And.intro ?_ ?_) <;> (conv => whnf)))); done))
  have hop : op < 5 := by omega
  have hperm : (ps.getD pol.toNat default).kind = 2 → -4611686018427387904 ≤ (ps.getD pol.toNat default).permits ∧ (ps.getD pol.toNat default).permits ≤ 4611686018427387903 := fun h2 => by
   have := fx hps pol.toNat (by have := hkey hop; omega)
   unfold cI at this
   rw [if_neg (by omega), if_pos h2] at this
   simp only [Q5, decide_eq_true_eq] at this
   omega
  have hkl := hkey hop
  simp only [if_neg h5, if_neg h6]
  have hbs := hb.held (aM xs (aw pol key))
  have hbk := hb.key (aM xs (aw pol key))
  have hposl : bS xs (aw pol key) = true → aM xs (aw pol key) < xs.length := fun h => ((c8 _ _).1 h).1
  cases hh : bS xs (aw pol key) with
  | true =>
   have hF := gS xs pol key (by omega) hb.byt hk hh
   unfold fndS at hF
   rw [cond_true] at hF
   have hlt := hposl hh
   have hfc : bz xs pol key = xs.getD (aM xs (aw pol key)) default := by rw [bz, if_pos hh]
   rw [hfc]
   unfold mg
   rw [hh]
   generalize aM xs (aw pol key) = P at *
   generalize xs.getD P default = c0 at *
   rcases (by omega : op = 1 ∨ op = 2 ∨ op = 3 ∨ op = 4) with rfl | rfl | rfl | rfl
   ·rw [if_neg (by decide), ez rfl]
    dsimp only
    have hW := ce xs P true (bt (ps.getD pol.toNat default) c0 now n) (by omega) (by rw [show (bt (ps.getD pol.toNat default) c0 now n).key = c0.key from rfl]; omega) hpos (fun _ => hlt)
    refine Fun.mk' Tryz.func8 rfl rfl zN (by decide) ?_
    (repeat' (first | ((first | refine Wp.any aa rfl ?_ | (with_reducible first | refine Go.mk ?_ | apply ak.of) | refine zV ?_ | with_reducible refine And.intro zC ?_); conv => whnf) | ((refine ab.fn (hCk) [0,1,2] rfl rfl rfl rfl rfl ?ha ?hh ?_); (case ha => exact zz1); (case hh => exact zH); (conv => whnf)) | ((refine ag.fn (hF) [1,2] [1,2] rfl rfl rfl rfl rfl ?ha ?hh ?hs ?_); (case ha => exact zA); (case hh => exact zH); (case hs => exact zK); (conv => whnf)) | ((with_reducible refine ab.pure (gU (ps.getD pol.toNat default) c0 now n) rfl rfl ?_); conv => whnf) | ((refine ag.new (hW) [1] [1] rfl rfl rfl rfl rfl rfl ?ha ?hh ?hs ?_); (case ha => exact zA); (case hh => exact zH); (case hs => exact zK); (conv => whnf)) | ((refine am (fun hc => ?_) (fun hc => ?_)) <;> (try simp only [wz9] at hc) <;> (try (exfalso; omega)) <;> (conv => whnf))))
    all_goals first
     | (rw [if_pos (Or.inl (by assumption))]; (refine ah.mv3 rfl rfl ?_ ?_ <;> first | ((conv => whnf); exact .rfl _) | (((conv => whnf); repeat' (first | exact zA9 | ((with_reducible refine And.intro ?_ ?_) <;> (conv => whnf)))); done)))
     | (rw [if_pos (Or.inr (decide_eq_true ⟨by first | rfl | assumption, by assumption⟩))]; (refine ah.mv3 rfl rfl ?_ ?_ <;> first | ((conv => whnf); exact .rfl _) | (((conv => whnf); repeat' (first | exact zA9 | ((with_reducible refine And.intro ?_ ?_) <;> (conv => whnf)))); done)))
     | (rw [if_neg (by rintro (h | h) <;> first | (simp_all; done) | (have := of_decide_eq_true h; omega)), if_pos ⟨rfl, by assumption⟩]; (refine ah.mv3 rfl rfl ?_ ?_ <;> first | ((conv => whnf); exact .rfl _) | (((conv => whnf); repeat' (first | exact zA9)); done)))
     | (rw [if_neg (by rintro (h | h) <;> first | (simp_all; done) | (have := of_decide_eq_true h; omega)), if_neg (by rintro ⟨h, h2⟩; first | (cases h; done) | exact absurd h2 (by assumption) | omega)]; (refine ah.of [0, 1, 2, 57] rfl (fun i hi => by have : i = 0 ∨ i = 1 ∨ i = 2 := (by omega); rcases this with h | h | h <;> subst h <;> rfl) rfl ?_ ?_ <;> first | ((conv => whnf); exact .rfl _) | (((conv => whnf); repeat' (first | exact zA9 | ((with_reducible refine And.intro ?_ ?_) <;> (conv => whnf)))); done)))
   ·rw [if_neg (by decide), fC rfl]
    dsimp only
    have hW := ce xs P true (dP (ps.getD pol.toNat default) c0 serial) (by omega) (by rw [i5]; omega) hpos (fun _ => hlt)
    refine Fun.mk' Tryz.func8 rfl rfl zN (by decide) ?_
    (repeat' (first | ((first | refine Wp.any aa rfl ?_ | (with_reducible first | refine Go.mk ?_ | apply ak.of) | refine zV ?_ | with_reducible refine And.intro zC ?_); conv => whnf) | ((refine ab.fn (hCk) [0,1,2] rfl rfl rfl rfl rfl ?ha ?hh ?_); (case ha => exact zz1); (case hh => exact zH); (conv => whnf)) | ((refine ag.fn (hF) [1,2] [1,2] rfl rfl rfl rfl rfl ?ha ?hh ?hs ?_); (case ha => exact zA); (case hh => exact zH); (case hs => exact zK); (conv => whnf)) | ((with_reducible refine ab.pure (eH (ps.getD pol.toNat default) c0 serial) rfl rfl ?_); conv => whnf) | ((refine ag.new (hW) [1] [1] rfl rfl rfl rfl rfl rfl ?ha ?hh ?hs ?_); (case ha => exact zA); (case hh => exact zH); (case hs => exact zK); (conv => whnf)) | ((refine am (fun hc => ?_) (fun hc => ?_)) <;> (try simp only [wz9] at hc) <;> (try (exfalso; omega)) <;> (conv => whnf))))
    all_goals first
     | (rw [if_pos (Or.inl (by assumption))]; (refine ah.mv3 rfl rfl ?_ ?_ <;> first | ((conv => whnf); exact .rfl _) | (((conv => whnf); repeat' (first | exact zA9 | ((with_reducible refine And.intro ?_ ?_) <;> (conv => whnf)))); done)))
     | (rw [if_pos (Or.inr (decide_eq_true ⟨by first | rfl | assumption, by assumption⟩))]; (refine ah.mv3 rfl rfl ?_ ?_ <;> first | ((conv => whnf); exact .rfl _) | (((conv => whnf); repeat' (first | exact zA9)); done)))
     | (rw [if_neg (by rintro (h | h) <;> first | (simp_all; done) | (have := of_decide_eq_true h; omega)), if_pos ⟨rfl, by assumption⟩]; (refine ah.mv3 rfl rfl ?_ ?_ <;> first | ((conv => whnf); exact .rfl _) | (((conv => whnf); repeat' (first | exact zA9)); done)))
     | (rw [if_neg (by rintro (h | h) <;> first | (simp_all; done) | (have := of_decide_eq_true h; omega)), if_neg (by rintro ⟨h, h2⟩; first | (cases h; done) | exact absurd h2 (by assumption) | omega)]; (refine ah.of [0, 1, 2, 57] rfl (fun i hi => by have : i = 0 ∨ i = 1 ∨ i = 2 := (by omega); rcases this with h | h | h <;> subst h <;> rfl) rfl ?_ ?_ <;> first | ((conv => whnf); exact .rfl _) | (((conv => whnf); repeat' (first | exact zA9 | ((with_reducible refine And.intro ?_ ?_) <;> (conv => whnf)))); done)))
   ·rw [if_neg (by decide), fB rfl]
    dsimp only
    have hW := ce xs P true (ew (ps.getD pol.toNat default) c0 n) (by omega) (by rw [ip]; omega) hpos (fun _ => hlt)
    refine Fun.mk' Tryz.func8 rfl rfl zN (by decide) ?_
    (repeat' (first | ((first | refine Wp.any aa rfl ?_ | (with_reducible first | refine Go.mk ?_ | apply ak.of) | refine zV ?_ | with_reducible refine And.intro zC ?_); conv => whnf) | ((refine ab.fn (hCk) [0,1,2] rfl rfl rfl rfl rfl ?ha ?hh ?_); (case ha => exact zz1); (case hh => exact zH); (conv => whnf)) | ((refine ag.fn (hF) [1,2] [1,2] rfl rfl rfl rfl rfl ?ha ?hh ?hs ?_); (case ha => exact zA); (case hh => exact zH); (case hs => exact zK); (conv => whnf)) | ((with_reducible refine ab.pure (eF (ps.getD pol.toNat default) c0 n) rfl rfl ?_); conv => whnf) | ((refine ag.new (hW) [1] [1] rfl rfl rfl rfl rfl rfl ?ha ?hh ?hs ?_); (case ha => exact zA); (case hh => exact zH); (case hs => exact zK); (conv => whnf)) | ((refine am (fun hc => ?_) (fun hc => ?_)) <;> (try simp only [wz9] at hc) <;> (try (exfalso; omega)) <;> (conv => whnf))))
    all_goals first
     | (rw [if_pos (Or.inl (by assumption))]; (refine ah.mv3 rfl rfl ?_ ?_ <;> first | ((conv => whnf); exact .rfl _) | (((conv => whnf); repeat' (first | exact zA9 | ((with_reducible refine And.intro ?_ ?_) <;> (conv => whnf)))); done)))
     | (rw [if_pos (Or.inr (decide_eq_true ⟨by first | rfl | assumption, by assumption⟩))]; (refine ah.mv3 rfl rfl ?_ ?_ <;> first | ((conv => whnf); exact .rfl _) | (((conv => whnf); repeat' (first | exact zA9)); done)))
     | (rw [if_neg (by rintro (h | h) <;> first | (simp_all; done) | (have := of_decide_eq_true h; omega)), if_pos ⟨rfl, by assumption⟩]; (refine ah.mv3 rfl rfl ?_ ?_ <;> first | ((conv => whnf); exact .rfl _) | (((conv => whnf); repeat' (first | exact zA9)); done)))
     | (rw [if_neg (by rintro (h | h) <;> first | (simp_all; done) | (have := of_decide_eq_true h; omega)), if_neg (by rintro ⟨h, h2⟩; first | (cases h; done) | exact absurd h2 (by assumption) | omega)]; (refine ah.of [0, 1, 2, 57] rfl (fun i hi => by have : i = 0 ∨ i = 1 ∨ i = 2 := (by omega); rcases this with h | h | h <;> subst h <;> rfl) rfl ?_ ?_ <;> first | ((conv => whnf); exact .rfl _) | (((conv => whnf); repeat' (first | exact zA9 | ((with_reducible refine And.intro ?_ ?_) <;> (conv => whnf)))); done)))
   ·rw [if_pos rfl]
    have hPk := f5 (ps.getD pol.toNat default) c0 now hperm (by omega)
    refine Fun.mk' Tryz.func8 rfl rfl zN (by decide) ?_
    (repeat' (first | ((first | refine Wp.any aa rfl ?_ | (with_reducible first | refine Go.mk ?_ | apply ak.of) | refine zV ?_ | with_reducible refine And.intro zC ?_); conv => whnf) | ((refine ab.fn (hCk) [0,1,2] rfl rfl rfl rfl rfl ?ha ?hh ?_); (case ha => exact zz1); (case hh => exact zH); (conv => whnf)) | ((refine ag.fn (hF) [1,2] [1,2] rfl rfl rfl rfl rfl ?ha ?hh ?hs ?_); (case ha => exact zA); (case hh => exact zH); (case hs => exact zK); (conv => whnf)) | ((with_reducible refine ab.pure (hPk) rfl rfl ?_); conv => whnf)))
    all_goals (refine ah.mv3 rfl rfl ?_ ?_ <;> first | ((conv => whnf); exact .rfl _) | (((conv => whnf); repeat' (first | exact zA9 | ((with_reducible refine And.intro ?_ ?_) <;> (conv => whnf)))); done))
  | false =>
   have hF := gS xs pol key (by omega) hb.byt hk hh
   unfold fndS at hF
   rw [cond_false] at hF
   have hfc : bz xs pol key = aw pol key := by rw [bz, if_neg (by rw [hh]; decide)]
   rw [hfc]
   unfold mg
   rw [hh]
   generalize aM xs (aw pol key) = P at *
   rcases (by omega : op = 1 ∨ op = 2 ∨ op = 3 ∨ op = 4) with rfl | rfl | rfl | rfl
   ·rw [if_neg (by decide), ez rfl]
    dsimp only
    have hW := ei xs P pol key (bt (ps.getD pol.toNat default) (aw pol key) now n).tat [] (by omega) hkl.1 hpos
    rw [show (⟨pol, key, (bt (ps.getD pol.toNat default) (aw pol key) now n).tat, []⟩ : Cel) = bt (ps.getD pol.toNat default) (aw pol key) now n from rfl] at hW
    have hA := kx (ps.getD pol.toNat default) pol key now n
    refine Fun.mk' Tryz.func8 rfl rfl zN (by decide) ?_
    (repeat' (first | ((first | refine Wp.any aa rfl ?_ | (with_reducible first | refine Go.mk ?_ | apply ak.of) | refine zV ?_ | with_reducible refine And.intro zC ?_); conv => whnf) | ((refine ab.fn (hCk) [0,1,2] rfl rfl rfl rfl rfl ?ha ?hh ?_); (case ha => exact zz1); (case hh => exact zH); (conv => whnf)) | ((refine ag.fn (hF) [1,2] [1,2] rfl rfl rfl rfl rfl ?ha ?hh ?hs ?_); (case ha => exact zA); (case hh => exact zH); (case hs => exact zK); (conv => whnf)) | ((refine ab.fn (hA) [2] rfl rfl rfl rfl rfl ?ha ?hh ?_); (case ha => exact zz1); (case hh => exact zH); (conv => whnf)) | ((refine ag.new (hW) [1,2] [1,2] rfl rfl rfl rfl rfl rfl ?ha ?hh ?hs ?_); (case ha => exact zz1); (case hh => exact zH); (case hs => exact zK); (conv => whnf)) | ((refine am (fun hc => ?_) (fun hc => ?_)) <;> (try simp only [wz9] at hc) <;> (try (exfalso; omega)) <;> (conv => whnf))))
    all_goals first
     | (rw [if_pos (Or.inl (by assumption))]; (refine ah.mv3 rfl rfl ?_ ?_ <;> first | ((conv => whnf); exact .rfl _) | (((conv => whnf); repeat' (first | exact zA9 | ((with_reducible refine And.intro ?_ ?_) <;> (conv => whnf)))); done)))
     | (rw [if_pos (Or.inr (decide_eq_true ⟨by first | rfl | assumption, by assumption⟩))]; (refine ah.mv3 rfl rfl ?_ ?_ <;> first | ((conv => whnf); exact .rfl _) | (((conv => whnf); repeat' (first | exact zA9 | ((with_reducible refine And.intro ?_ ?_) <;> (conv => whnf)))); done)))
     | (rw [if_neg (by rintro (h | h) <;> first | (simp_all; done) | (have := of_decide_eq_true h; omega)), if_pos ⟨rfl, by assumption⟩]; (refine ah.mv3 rfl rfl ?_ ?_ <;> first | ((conv => whnf); exact .rfl _) | (((conv => whnf); repeat' (first | exact zA9 | ((with_reducible refine And.intro ?_ ?_) <;> (conv => whnf)))); done)))
     | (rw [if_neg (by rintro (h | h) <;> first | (simp_all; done) | (have := of_decide_eq_true h; omega)), if_neg (by rintro ⟨h, h2⟩; first | (cases h; done) | exact absurd h2 (by assumption) | omega)]; (refine ah.of [0, 1, 2, 57] rfl (fun i hi => by have : i = 0 ∨ i = 1 ∨ i = 2 := (by omega); rcases this with h | h | h <;> subst h <;> rfl) rfl ?_ ?_ <;> first | ((conv => whnf); exact .rfl _) | (((conv => whnf); repeat' (first | exact zA9 | ((with_reducible refine And.intro ?_ ?_) <;> (conv => whnf)))); done)))
   ·rw [if_neg (by decide), fC rfl]
    dsimp only
    have hW := ei xs P pol key 0 (dP (ps.getD pol.toNat default) (aw pol key) serial).held (by omega) hkl.1 hpos
    rw [show (⟨pol, key, 0, (dP (ps.getD pol.toNat default) (aw pol key) serial).held⟩ : Cel) = dP (ps.getD pol.toNat default) (aw pol key) serial by unfold dP; split <;> rfl] at hW
    have hA := iY (ps.getD pol.toNat default) pol key serial
    refine Fun.mk' Tryz.func8 rfl rfl zN (by decide) ?_
    (repeat' (first | ((first | refine Wp.any aa rfl ?_ | (with_reducible first | refine Go.mk ?_ | apply ak.of) | refine zV ?_ | with_reducible refine And.intro zC ?_); conv => whnf) | ((refine ab.fn (hCk) [0,1,2] rfl rfl rfl rfl rfl ?ha ?hh ?_); (case ha => exact zz1); (case hh => exact zH); (conv => whnf)) | ((refine ag.fn (hF) [1,2] [1,2] rfl rfl rfl rfl rfl ?ha ?hh ?hs ?_); (case ha => exact zA); (case hh => exact zH); (case hs => exact zK); (conv => whnf)) | ((refine ab.fn (hA) [2] rfl rfl rfl rfl rfl ?ha ?hh ?_); (case ha => exact zz1); (case hh => exact zH); (conv => whnf)) | ((refine ag.new (hW) [1,2] [1,2] rfl rfl rfl rfl rfl rfl ?ha ?hh ?hs ?_); (case ha => exact zz1); (case hh => exact zH); (case hs => exact zK); (conv => whnf)) | ((refine am (fun hc => ?_) (fun hc => ?_)) <;> (try simp only [wz9] at hc) <;> (try (exfalso; omega)) <;> (conv => whnf))))
    all_goals first
     | (rw [if_pos (Or.inl (by assumption))]; (refine ah.mv3 rfl rfl ?_ ?_ <;> first | ((conv => whnf); exact .rfl _) | (((conv => whnf); repeat' (first | exact zA9 | ((with_reducible refine And.intro ?_ ?_) <;> (conv => whnf)))); done)))
     | (rw [if_pos (Or.inr (decide_eq_true ⟨by first | rfl | assumption, by assumption⟩))]; (refine ah.mv3 rfl rfl ?_ ?_ <;> first | ((conv => whnf); exact .rfl _) | (((conv => whnf); repeat' (first | exact zA9)); done)))
     | (rw [if_neg (by rintro (h | h) <;> first | (simp_all; done) | (have := of_decide_eq_true h; omega)), if_pos ⟨rfl, by assumption⟩]; (refine ah.mv3 rfl rfl ?_ ?_ <;> first | ((conv => whnf); exact .rfl _) | (((conv => whnf); repeat' (first | exact zA9 | ((with_reducible refine And.intro ?_ ?_) <;> (conv => whnf)))); done)))
     | (rw [if_neg (by rintro (h | h) <;> first | (simp_all; done) | (have := of_decide_eq_true h; omega)), if_neg (by rintro ⟨h, h2⟩; first | (cases h; done) | exact absurd h2 (by assumption) | omega)]; (refine ah.of [0, 1, 2, 57] rfl (fun i hi => by have : i = 0 ∨ i = 1 ∨ i = 2 := (by omega); rcases this with h | h | h <;> subst h <;> rfl) rfl ?_ ?_ <;> first | ((conv => whnf); exact .rfl _) | (((conv => whnf); repeat' (first | exact zA9 | ((with_reducible refine And.intro ?_ ?_) <;> (conv => whnf)))); done)))
   ·rw [if_neg (by decide), fB rfl]
    dsimp only
    have hW := ei xs P pol key 0 (ew (ps.getD pol.toNat default) (aw pol key) n).held (by omega) hkl.1 hpos
    rw [show (⟨pol, key, 0, (ew (ps.getD pol.toNat default) (aw pol key) n).held⟩ : Cel) = ew (ps.getD pol.toNat default) (aw pol key) n by unfold ew; split <;> rfl] at hW
    have hA := iV (ps.getD pol.toNat default) pol key n
    refine Fun.mk' Tryz.func8 rfl rfl zN (by decide) ?_
    (repeat' (first | ((first | refine Wp.any aa rfl ?_ | (with_reducible first | refine Go.mk ?_ | apply ak.of) | refine zV ?_ | with_reducible refine And.intro zC ?_); conv => whnf) | ((refine ab.fn (hCk) [0,1,2] rfl rfl rfl rfl rfl ?ha ?hh ?_); (case ha => exact zz1); (case hh => exact zH); (conv => whnf)) | ((refine ag.fn (hF) [1,2] [1,2] rfl rfl rfl rfl rfl ?ha ?hh ?hs ?_); (case ha => exact zA); (case hh => exact zH); (case hs => exact zK); (conv => whnf)) | ((refine ab.fn (hA) [2] rfl rfl rfl rfl rfl ?ha ?hh ?_); (case ha => exact zz1); (case hh => exact zH); (conv => whnf)) | ((refine ag.new (hW) [1,2] [1,2] rfl rfl rfl rfl rfl rfl ?ha ?hh ?hs ?_); (case ha => exact zz1); (case hh => exact zH); (case hs => exact zK); (conv => whnf)) | ((refine am (fun hc => ?_) (fun hc => ?_)) <;> (try simp only [wz9] at hc) <;> (try (exfalso; omega)) <;> (conv => whnf))))
    all_goals first
     | (rw [if_pos (Or.inl (by assumption))]; (refine ah.mv3 rfl rfl ?_ ?_ <;> first | ((conv => whnf); exact .rfl _) | (((conv => whnf); repeat' (first | exact zA9 | ((with_reducible refine And.intro ?_ ?_) <;> (conv => whnf)))); done)))
     | (rw [if_pos (Or.inr (decide_eq_true ⟨by first | rfl | assumption, by assumption⟩))]; (refine ah.mv3 rfl rfl ?_ ?_ <;> first | ((conv => whnf); exact .rfl _) | (((conv => whnf); repeat' (first | exact zA9)); done)))
     | (rw [if_neg (by rintro (h | h) <;> first | (simp_all; done) | (have := of_decide_eq_true h; omega)), if_pos ⟨rfl, by assumption⟩]; (refine ah.mv3 rfl rfl ?_ ?_ <;> first | ((conv => whnf); exact .rfl _) | (((conv => whnf); repeat' (first | exact zA9 | ((with_reducible refine And.intro ?_ ?_) <;> (conv => whnf)))); done)))
     | (rw [if_neg (by rintro (h | h) <;> first | (simp_all; done) | (have := of_decide_eq_true h; omega)), if_neg (by rintro ⟨h, h2⟩; first | (cases h; done) | exact absurd h2 (by assumption) | omega)]; (refine ah.of [0, 1, 2, 57] rfl (fun i hi => by have : i = 0 ∨ i = 1 ∨ i = 2 := (by omega); rcases this with h | h | h <;> subst h <;> rfl) rfl ?_ ?_ <;> first | ((conv => whnf); exact .rfl _) | (((conv => whnf); repeat' (first | exact zA9 | ((with_reducible refine And.intro ?_ ?_) <;> (conv => whnf)))); done)))
   ·rw [if_pos rfl]
    have hPk : Fun TC 23 1 [(ps.getD pol.toNat default).S, ke 0 pol key, .i .i64 now] [(0, some (c5 key))] 1 (bZ (ps.getD pol.toNat default) (aw pol key) now).S [(0, some (c5 key))] := by
     refine Fun.ofPure (f5 (ps.getD pol.toNat default) (aw pol key) now hperm (by show 0 ≤ _; omega)) rfl ?_
     conv => whnf
     refine ⟨by rw [er]; omega, ?_⟩
     exact .cons (.rfl _) (.cons (.agg (.cons (.rfl _) (.cons (kJ key) (.cons (.rfl _) (.cons .nil .nil))))) (.cons (.rfl _) .nil))
    refine Fun.mk' Tryz.func8 rfl rfl zN (by decide) ?_
    (repeat' (first | ((first | refine Wp.any aa rfl ?_ | (with_reducible first | refine Go.mk ?_ | apply ak.of) | refine zV ?_ | with_reducible refine And.intro zC ?_); conv => whnf) | ((refine ab.fn (hCk) [0,1,2] rfl rfl rfl rfl rfl ?ha ?hh ?_); (case ha => exact zz1); (case hh => exact zH); (conv => whnf)) | ((refine ag.fn (hF) [1,2] [1,2] rfl rfl rfl rfl rfl ?ha ?hh ?hs ?_); (case ha => exact zA); (case hh => exact zH); (case hs => exact zK); (conv => whnf)) | ((refine ab.fn (hPk) [2] rfl rfl rfl rfl rfl ?ha ?hh ?_); (case ha => exact zz1); (case hh => exact zH); (conv => whnf))))
    all_goals (refine ah.mv3 rfl rfl ?_ ?_ <;> first | ((conv => whnf); exact .rfl _) | (((conv => whnf); repeat' (first | exact zA9 | ((with_reducible refine And.intro ?_ ?_) <;> (conv => whnf)))); done))
 ·have hD : doS ps room xs op pol key n now serial = (dG (aR ps op pol key n now serial), xs) := by unfold doS; rw [if_pos hE]
  rw [hD]
  have hCk := f4 ps room xs op pol key n now serial
  generalize aR ps op pol key n now serial = e at *
  refine Fun.mk' Tryz.func8 rfl rfl zN (by decide) ?_
  (repeat' (first | ((first | refine Wp.any aa rfl ?_ | (with_reducible first | refine Go.mk ?_ | apply ak.of)); conv => whnf) | ((refine ab.fn (hCk) [0,1,2] rfl rfl rfl rfl rfl ?ha ?hh ?_); (case ha => exact zz1); (case hh => exact zH); (conv => whnf)) | ((refine am (fun hc => ?_) (fun hc => ?_)) <;> (try simp only [wz9] at hc) <;> (try (exfalso; omega)) <;> (conv => whnf))))
  all_goals first
   | exact absurd (by assumption) hE
   | skip
  (refine ah.mv3 rfl rfl ?_ ?_ <;> first | ((conv => whnf); exact .rfl _) | (((conv => whnf); repeat' (first | exact zA9 | ((with_reducible refine And.intro ?_ ?_) <;> (conv => whnf)))); done))
def Env.pi (E : Env) (π : Nat → Nat) : Env := ⟨fun i => E.ρ (π i), fun i => E.κ (π i), E.Im⟩
structure nW (π : Nat → Nat) (nx' : Nat) (x y : SV) : Prop where
 out : ∀ E nx w v, RS E nx w x v → RS (E.pi π) nx' w y v
theorem nW.any {π : Nat → Nat} {nx' : Nat} {x : SV} : nW π nx' x .any := ⟨fun _ _ _ _ _ => .any _⟩
theorem nW.sl {π : Nat → Nat} {nx' l l' z o n : Nat} (h : π l' = l) (hl : l' < nx') : nW π nx' (.sl l z o n) (.sl l' z o n) := ⟨fun E nx w v hv => by
 subst h
 cases hv with
 | sl _ _ _ _ a cap hlx hc hm ha h0 => exact .sl _ _ _ _ a cap hl hc hm ha h0⟩
theorem nW.mono {π : Nat → Nat} {nx' : Nat} {x y z : SV} (h : SV.Le x y) (k : nW π nx' y z) : nW π nx' x z := ⟨fun E nx w v hv => k.out E nx w v (h.out E nx w v hv)⟩
structure PiBlk (π : Nat → Nat) (nx nx' : Nat) (l k : Nat) (b b' : Blk) : Prop where
 real : ∀ κ, b'.real κ → b.real κ
 bs : ∀ E w, BS E nx w l b → BS (E.pi π) nx' w k b'
theorem PiBlk.row {π : Nat → Nat} {nx nx' k e z n : Nat} {f : Nat → List D} : PiBlk π nx nx' (π k) k (.row e z n f) (.row e z n f) :=
 ⟨fun _ h => h, fun E w hb => by
  obtain ⟨h1, h2, h3, h4, h5⟩ := hb
  exact ⟨h1, h2, h3, h4, h5⟩⟩
def qk (π : Nat → Nat) (nx' : Nat) : List SV → List SV → Prop
 | [], [] => True
 | x :: r, y :: s => nW π nx' x y ∧ qk π nx' r s
 | _, _ => False
theorem qk.out {π : Nat → Nat} {nx' : Nat} : ∀ {xs ys : List SV}, qk π nx' xs ys → xs.length = ys.length ∧ ∀ (j : Nat) (hx : j < xs.length) (hy : j < ys.length), nW π nx' xs[j] ys[j]
 | [], [], _ => ⟨rfl, fun j hx => by simp at hx⟩
 | x :: r, y :: s, ⟨h1, h2⟩ => by
  obtain ⟨g1, g2⟩ := qk.out h2
  refine ⟨by simp [g1], fun j hx hy => ?_⟩
  cases j with
  | zero => exact h1
  | succ j => exact g2 j (by simpa using hx) (by simpa using hy)
 | [], _ :: _, h => h.elim
 | _ :: _, [], h => h.elim
theorem nX.look {C : Cx} {t : Nat} {m i : Operand} {S : St} {k : St → SV → Prop} (h : LookD C t (ev S m) (ev S i) S.hp fun v _ => k S v) : nX C S (.lookup t m i false) k :=
 ⟨fun O E a w o ho hs => by
  obtain ⟨z, v, l, h1, h2, h3⟩ := lh hs (aA hs m) (aA hs i) h
  exact .val (m := Instr.lookup t (a.eval m) (a.eval i) false) ⟨_, _, _, _, _, h1, h2, hs, h3⟩ (by simp [execOp, ho])⟩
def cC (lo hi : Nat) (T : List (Nat × Option Blk)) : Prop := ∀ k b, lkh T k = some b → lo ≤ k ∧ k < hi ∧ ∃ e z n f, b = .row e z n f
theorem Le.nx {nt : NT} {nx nx' : Nat} {fr : List (Nat × SV)} {hp : List (Nat × Option Blk)} (h : nx ≤ nx') : Le ⟨nt, nx, fr, hp⟩ ⟨nt, nx', fr, hp⟩ :=
 ⟨fun O E a w hs => ⟨E, fun n => RS.mono (E := E) (fun _ _ => ⟨rfl, rfl⟩) h (fun _ h => h) (fun _ _ => rfl) (hs.fr n), hs.nt, hs.df, fun l b hb => BS.mono (E := E) (hs.nx l b hb) (fun _ _ => ⟨rfl, rfl⟩) h (fun _ h => h) (fun _ _ => rfl) (fun _ => rfl) (hs.hp l b hb), fun l b hb => Nat.lt_of_lt_of_le (hs.nx l b hb) h, hs.inj, hs.im, hs.own, hs.kq, hs.lab, Nat.le_trans hs.nl h, hs.imo⟩⟩
def PiFr (π : Nat → Nat) (nx' : Nat) (fr : List (Nat × SV)) : List (Nat × SV) → Prop
 | [] => True
 | p :: r => nW π nx' (lk fr p.1) p.2 ∧ PiFr π nx' fr r
theorem PiFr.out {π : Nat → Nat} {nx' : Nat} {fr : List (Nat × SV)} : ∀ {l : List (Nat × SV)}, PiFr π nx' fr l → ∀ p ∈ l, nW π nx' (lk fr p.1) p.2
 | [], _, p, h => by cases h
 | q :: r, h, p, hp => by
  rcases Q22 hp with rfl | hp
  ·exact h.1
  ·exact PiFr.out h.2 p hp
section
theorem SV.Le.low {b : Nat} {x : D} : SV.Le (.d (.low b x)) (.d x) := ⟨fun E nx w v h => by
 cases h with | d _ _ h => cases h with | low _ _ _ _ h => exact .d _ _ h⟩
structure DL (x y : D) : Prop where
 out : ∀ w Im v, RD w Im x v → RD w Im y v
theorem DL.rfl {x : D} : DL x x := ⟨fun _ _ _ h => h⟩
theorem DL.low {b : Nat} {x : D} : DL (.low b x) x := ⟨fun _ _ _ h => by cases h with | low _ _ _ _ h => exact h⟩
theorem DL.fsl {lo e z n : Nat} {f : Nat → List D} : DL (.fsl lo e z n f) (.sl z n f) := ⟨fun _ _ _ h => h.fsl_sl⟩
theorem SV.Le.dle {x y : D} (h : DL x y) : SV.Le (.d x) (.d y) := ⟨fun E nx w v hv => by cases hv with | d _ _ hv => exact .d _ _ (h.out _ _ _ hv)⟩
theorem DL.sl {z n : Nat} {f g : Nat → List D} (hl : ∀ i, i < n → (f i).length = (g i).length) (h : ∀ i, i < n → ∀ j (hj : j < (f i).length) (hj' : j < (g i).length), DL (f i)[j] (g i)[j]) : DL (.sl z n f) (.sl z n g) := ⟨fun w Im v hv => by
 cases hv with
 | sl _ _ _ a cap q hc hm hl0 ha hg =>
  refine .sl _ _ _ a cap q hc hm (fun i hi => by rw [← hl i hi]; exact hl0 i hi) ha fun i j hi hj => ?_
  have hj0 : j < (f i).length := by rw [hl i hi]; exact hj
  exact (h i hi j hj0 hj).out _ _ _ (hg i j hi hj0)⟩
theorem Fun.leA {C : Cx} {g m m' : Nat} {args args0 : List SV} {r : SV} {H H' : List (Nat × Option Blk)} (h : Fun C g m args0 H m' r H') (hl : Les args args0) : Fun C g m args H m' r H' :=
 ⟨h.ent, h.le, fun E w vs hS hsz hargs => h.out E w vs hS (by rw [hsz, hl.len]) fun j hj => (hl.out j (by rw [hl.len]; exact hj) hj).out _ _ _ _ (hargs j (by rw [hl.len]; exact hj))⟩
theorem Fun.fresh {C : Cx} {g b e z n : Nat} {args : List SV} {f : Nat → List D} (h : Fun C g 0 args [] 1 (.sl 0 z 0 n) [(0, some (.row e z n f))])
  (hlow : ∀ (E : Env) (w : World) (vs : Array Value), (∀ j (hj : j < args.length), RS E 0 w args[j] (vs.getD j undef)) → 0 < n → E.Im b) : Pure C g args (.d (.fsl (b + 1) e z n f)) := by
 refine ⟨h.ent, fun E w vs hI hsz hargs => (h.out E w vs (i7.mk (fun l b hb => absurd hb (by simp [lkh])) (fun l b hb => absurd hb (by simp [lkh])) (fun l l' b b' hb => absurd hb (by simp [lkh])) (fun b hb => ⟨hI b hb, fun l x hl => absurd hl (by simp [lkh])⟩)) hsz hargs).mono ?_⟩
 rintro ex w' ⟨v, E', rfl, hkq, hlab, hS, hnew, him, himo, hv⟩
 have hH : ∀ b, ¬ HB E [] b := by rintro b ⟨l, x, hl, _⟩; simp [lkh] at hl
 have hkp : Kp w w' := ⟨hkq.os, hkq.tape, hkq.output, hkq.size, fun b hb => hkq.block b hb (hH b)⟩
 refine ⟨v, rfl, hkp, .d _ _ ?_⟩
 obtain ⟨h1, h2, h3, h4, h5⟩ := hS.hp 0 _ rfl
 cases hv with
 | sl _ _ _ _ a cap hl hc hm ha h0 =>
  obtain ⟨q1, q2⟩ := h0 rfl
  by_cases hz : 0 < n * z
  ·have hn : 0 < n := Nat.pos_of_ne_zero fun e => by rw [e, Nat.zero_mul] at hz; omega
   have hk : 0 < E'.κ 0 := by omega
   obtain ⟨us, g1, g2, g3, g4⟩ := h5 hk
   have hb : w.heap.size ≤ E'.ρ 0 := by
    rcases hnew _ ⟨0, _, rfl, hk, rfl⟩ with h9 | h9
    ·exact absurd h9 (hH _)
    ·exact h9
   have hlt : E'.ρ 0 < w'.heap.size := (Q17 g1).1
   have hbI := hI _ (hlow E w vs hargs hn)
   have hm2 : n * z ≤ E'.κ 0 * z := Q8 _ h1
   refine .fsl _ _ _ _ _ a cap (fun i j => us.getD (i * z + j) undef) hc hm h4 (fun _ => ⟨E'.ρ 0, us, q2 (by omega), ⟨Or.inr ⟨hb, hlt⟩, by omega⟩, g1, by omega, fun i j _ _ => rfl⟩) fun i j hi hj => ?_
   refine (g4 i j hi hj).mono (fun b hb => ?_) fun _ _ => rfl
   rcases him b hb with h9 | h9 | h9
   ·exact Or.inl h9
   ·exact absurd h9 (hH b)
   ·exact Or.inr ⟨h9, (hS.im b hb).1⟩
  ·refine .fsl _ _ _ _ _ a cap (fun _ _ => undef) hc hm h4 (fun h => absurd h hz) fun i j hi hj => ?_
   have : 0 < n := by omega
   have h9 : 0 < n * z := Nat.mul_pos this h3
   exact absurd h9 hz
def mf (x y : Value) : Prop := x = y ∨ ∃ k m m', x = .int k m ∧ y = .int k m'
theorem mf.int {k : IntKind} {m : Int} {y : Value} (h : mf (.int k m) y) : ∃ m', y = .int k m' := by
 rcases h with rfl | ⟨k', a, b, e, rfl⟩
 ·exact ⟨_, rfl⟩
 ·cases e; exact ⟨_, rfl⟩
theorem mf.slice {a : Option Addr} {n c : Nat} {y : Value} (h : mf (.slice a n c) y) : y = .slice a n c := by
 rcases h with rfl | ⟨k', m, b, e, rfl⟩
 ·rfl
 ·cases e
structure ZR (N : Nat) (w1 w : World) : Prop where
 os : w.os = w1.os ∧ w.tape = w1.tape ∧ w.output = w1.output
 size : w.heap.size = w1.heap.size
 low : ∀ b, b < N → w.heap[b]? = w1.heap[b]?
 cells : ∀ (b : Nat) (us : Array Value) (e : TypeId), w1.heap[b]? = some (Obj.cells us e (0, 0)) → ∃ us' : Array Value, w.heap[b]? = some (.cells us' e (0, 0)) ∧ us'.size = us.size ∧ ∀ q : Nat, mf (us.getD q undef) (us'.getD q undef)
theorem ZR.refl (N : Nat) (w : World) : ZR N w w := ⟨⟨rfl, rfl, rfl⟩, rfl, fun _ _ => rfl, fun b us e h => ⟨us, h, rfl, fun q => .inl rfl⟩⟩
theorem ZR.store {C : Cx} {N t b e o : Nat} {w1 w : World} {i : TI} {us : Array Value} {k : IntKind} {m m' : Int} (h : ZR N w1 w) (hN : N ≤ b) (hi : C.tt t = some i) (hs : i.size = 1) (hb : w1.heap[b]? = some (.cells us e (0, 0))) (ho : o < us.size) (hv : us.getD o undef = .int k m) :
  ∃ w', (Instr.storeAt t (.pointer (some ⟨b, o, none⟩)) (.int k m')).run C.P w = .ok () w' ∧ ZR N w1 w' := by
 obtain ⟨cur, g1, g2, g3⟩ := h.cells b us e hb
 have hrun := aK (C := C) hi (v := .int k m') (b := b) (o := o) g1 (by rw [hs]; rfl) (by intro u hu; simp [Value.cells] at hu; subst hu; rfl) (by show o + 1 ≤ cur.size; omega)
 refine ⟨_, hrun, h.os, (setRow_size _ _ _).trans h.size, fun k hk => by rw [setRow_other w _ _ _ (by omega)]; exact h.low k hk, fun b' us' e' hb' => ?_⟩
 by_cases eb : b' = b
 ·subst eb
  rw [hb] at hb'
  cases hb'
  refine ⟨_, setRow_heap w _ cur _ e _ g1, ?_, fun q => ?_⟩
  ·rw [List.size_toArray, aG _ _ _ (by show o + 1 ≤ _; simp; omega)]; simpa using g2
  ·have eg : (cur.toList.take o ++ (Value.int k m').cells.toList ++ cur.toList.drop (o + (Value.int k m').cells.toList.length)).toArray.getD q undef = if o ≤ q ∧ q < o + 1 then .int k m' else cur.getD q undef := by
    rw [bm, aH _ _ _ (by show o + 1 ≤ cur.toList.length; simp; omega)]
    show ((if o ≤ q ∧ q < o + 1 then _ else _ : Option Value)).getD undef = _
    by_cases eq : o ≤ q ∧ q < o + 1
    ·rw [if_pos eq, if_pos eq, show q - o = 0 by omega]; rfl
    ·rw [if_neg eq, if_neg eq, ← ax]
   rw [eg]
   by_cases eq : o ≤ q ∧ q < o + 1
   ·have : q = o := by omega
    subst this
    rw [if_pos eq, hv]
    exact .inr ⟨k, m, m', rfl, rfl⟩
   ·rw [if_neg eq]; exact g3 q
 ·rw [setRow_other w _ _ _ eb]; exact h.cells b' us' e' hb'
def lkv : List (Nat × Value) → Nat → Option Value
 | [], _ => none
 | (n, v) :: r, k => bif Nat.beq n k then some v else lkv r k
theorem iG (n : Nat) (v : Value) (r : List (Nat × Value)) (k : Nat) : lkv ((n, v) :: r) k = if n = k then some v else lkv r k := by
 show (bif Nat.beq n k then some v else lkv r k) = _
 by_cases h : n = k
 ·subst h; simp
 ·have : Nat.beq n k = false := by cases hb : Nat.beq n k with | true => exact absurd (Q2 hb) h | false => rfl
  simp [this, h]
structure Fr (n0 : Nat) (D : Nat → Prop) (a0 : Act) (l : List (Nat × Value)) (a : Act) : Prop where
 sz : a.tmps.size = n0
 df : a.defers = a0.defers
 at_ : ∀ n v, lkv l n = some v → a.tmps.getD n undef = v
 old : ∀ n, ¬ D n → a.tmps.getD n undef = a0.tmps.getD n undef
theorem Fr.put {n0 d : Nat} {D : Nat → Prop} {a0 a : Act} {l : List (Nat × Value)} {v : Value} (h : Fr n0 D a0 l a) (hd : d < n0) (hD : D d) : Fr n0 D a0 ((d, v) :: l) (a.put (some d) v) := by
 refine ⟨by simp [Act.put, h.sz], h.df, fun n u hn => ?_, fun n hn => ?_⟩
 ·rw [iu a d n v (by rw [h.sz]; exact hd)]
  rw [iG] at hn
  by_cases e : d = n
  ·rw [if_pos e] at hn ⊢; exact (Option.some.inj hn)
  ·rw [if_neg e] at hn ⊢; exact h.at_ n u hn
 ·rw [iu a d n v (by rw [h.sz]; exact hd), if_neg (fun e => hn (by rw [← e]; exact hD))]
  exact h.old n hn
def evl (l : List (Nat × Value)) : Operand → Option Value
 | .const v => some v
 | .tmp n => lkv l n
 | _ => none
theorem Fr.ev {n0 : Nat} {D : Nat → Prop} {a0 a : Act} {l : List (Nat × Value)} (h : Fr n0 D a0 l a) {x : Operand} {v : Value} (hx : evl l x = some v) : a.eval x = v := by
 cases x with
 | const u => cases hx; rfl
 | tmp n => exact h.at_ n v hx
 | _ => cases hx
structure ZX where
 C : Cx
 N : Nat
 n0 : Nat
 D : Nat → Prop
 a0 : Act
 w1 : World
abbrev ZQ := Exit → List (Nat × Value) → Prop
def ZP (X : ZX) (Q : ZQ) (e : Exit) (a : Act) (w : World) : Prop := ∃ l, Q e l ∧ Fr X.n0 X.D X.a0 l a ∧ ZR X.N X.w1 w
structure ZL (X : ZX) (ops : Array Oper) (r : List Oper) (l : List (Nat × Value)) (Q : ZQ) : Prop where
 out : ∀ a w, Fr X.n0 X.D X.a0 l a → ZR X.N X.w1 w → wpList X.C.P ops (ZP X Q) r a w
section
variable {X : ZX} {ops : Array Oper} {r : List Oper} {l : List (Nat × Value)} {Q : ZQ} {o : Oper}
theorem ZL.nil (h : Q .normal l) : ZL X ops [] l Q := ⟨fun a w ha hw => ⟨l, h, ha, hw⟩⟩
theorem fc {d : Nat} {o : Oper} {v : Value} {a : Act} {w : World} (hg : o.guard = none) (hd : o.dst = some d) (hd0 : d < X.n0) (hD : X.D d) (hr : (execOp a.eval o).run X.C.P w = .ok (.value v) w) (ha : Fr X.n0 X.D X.a0 l a) (hw : ZR X.N X.w1 w)
  (h : ZL X ops r ((d, v) :: l) Q) : wpList X.C.P ops (ZP X Q) (o :: r) a w := by
 unfold wpList
 rw [if_pos (by simp [Region.wanted, hg])]
 refine Or.inl ?_
 unfold Oper.wp
 rw [hr, Oper.upon_value, hd]
 exact h.out _ _ (ha.put hd0 hD) hw
theorem ZL.mv {d : Nat} {x : Operand} {v : Value} (ho : o.op = .move x) (hdst : o.dst = some d) (hg : o.guard = none) (hx : evl l x = some v) (hd : d < X.n0) (hD : X.D d) (h : ZL X ops r ((d, v) :: l) Q) : ZL X ops (o :: r) l Q :=
 ⟨fun a w ha hw => fc hg hdst hd hD (by simp [execOp, ho, ha.ev hx]) ha hw h⟩
theorem ZL.as {d : Nat} {x : Operand} {v : Value} (ho : o.op = .assign x) (hdst : o.dst = some d) (hg : o.guard = none) (hx : evl l x = some v) (hd : d < X.n0) (hD : X.D d) (h : ZL X ops r ((d, v) :: l) Q) : ZL X ops (o :: r) l Q :=
 ⟨fun a w ha hw => fc hg hdst hd hD (by simp [execOp, ho, ha.ev hx]) ha hw h⟩
theorem ZL.ix {d t b off n c z j : Nat} {kd : IntKind} {x y : Operand} (ho : o.op = .indexAddr t x y) (hdst : o.dst = some d) (hg : o.guard = none) (hx : evl l x = some (.slice (some ⟨b, off, none⟩) n c)) (hy : evl l y = some (.int kd (j : Int))) (hz : fP X.C t z True) (hj : j < n) (hd : d < X.n0) (hD : X.D d)
  (h : ZL X ops r ((d, .pointer (some ⟨b, off + j * z, none⟩)) :: l) Q) : ZL X ops (o :: r) l Q :=
 ⟨fun a w ha hw => by
  obtain ⟨e, ht, h1, h2, _⟩ := cK hz
  refine fc hg hdst hd hD ?_ ha hw h
  simp [execOp, ho, ha.ev hx, ha.ev hy, Instr.indexAt, run_underlying ht, asIntOf, hj, h1 w, Addr.add_mid]⟩
theorem ZL.fa {d t f b p : Nat} {x : Operand} (ho : o.op = .fieldAddr t x f) (hdst : o.dst = some d) (hg : o.guard = none) (hx : evl l x = some (.pointer (some ⟨b, p, none⟩))) (hd : d < X.n0) (hD : X.D d) (h : cn X.C t f fun q => ZL X ops r ((d, .pointer (some ⟨b, p + q, none⟩)) :: l) Q) : ZL X ops (o :: r) l Q :=
 ⟨fun a w ha hw => by
  obtain ⟨q, h1, h2⟩ := bG (w := w) h
  refine fc hg hdst hd hD ?_ ha hw h1
  simp [execOp, ho, ha.ev hx, h2]⟩
theorem ZL.ld {d t b e p : Nat} {i : TI} {x : Operand} {us : Array Value} (ho : o.op = .load t x) (hdst : o.dst = some d) (hg : o.guard = none) (hx : evl l x = some (.pointer (some ⟨b, p, none⟩))) (hi : X.C.tt t = some i) (hag : i.k.agg = false) (hb : X.w1.heap[b]? = some (.cells us e (0, 0))) (hp : p < us.size) (hd : d < X.n0) (hD : X.D d)
  (h : ∀ v, mf (us.getD p undef) v → ZL X ops r ((d, v) :: l) Q) : ZL X ops (o :: r) l Q :=
 ⟨fun a w ha hw => by
  obtain ⟨us', g1, g2, g3⟩ := hw.cells b us e hb
  have hag2 := (X.C.ok t i hi).isAgg w
  refine fc (v := us'.getD p undef) hg hdst hd hD ?_ ha hw (h _ (g3 p))
  have hp' : p < us'.size := by omega
  simp [execOp, ho, ha.ev hx, Instr.loadAt, Instr.sureAddr, loadVar, hag2, hag, World.cell?, g1, Array.getD, hp']⟩
theorem ZL.st {t b e p : Nat} {i : TI} {x y : Operand} {us : Array Value} {k : IntKind} {m m' : Int} (ho : o.op = .store t x y) (hdst : o.dst = none) (hg : o.guard = none) (hx : evl l x = some (.pointer (some ⟨b, p, none⟩))) (hy : evl l y = some (.int k m')) (hi : X.C.tt t = some i) (hz : i.size = 1) (hN : X.N ≤ b) (hb : X.w1.heap[b]? = some (.cells us e (0, 0))) (hp : p < us.size) (hv : us.getD p undef = .int k m)
  (h : ZL X ops r l Q) : ZL X ops (o :: r) l Q :=
 ⟨fun a w ha hw => by
  obtain ⟨w', g1, g2⟩ := hw.store (C := X.C) (t := t) (m' := m') hN hi hz hb hp hv
  unfold wpList
  rw [if_pos (by simp [Region.wanted, hg])]
  refine Or.inl ?_
  unfold Oper.wp
  rw [show (execOp a.eval o).run X.C.P w = .ok .skip w' by simp [execOp, ho, ha.ev hx, ha.ev hy, g1], Oper.upon_skip, hdst]
  exact h.out _ _ ha g2⟩
theorem ZL.len {d n c : Nat} {t : Nat} {x : Operand} {ad : Option Addr} {i : TI} {e : TypeId} (ho : o.op = .call ⟨.builtin .len, #[x], #[t]⟩) (hdst : o.dst = some d) (hg : o.guard = none) (hx : evl l x = some (.slice ad n c)) (hi : X.C.tt t = some i) (hk : i.k = .slice e) (hd : d < X.n0) (hD : X.D d)
  (h : ZL X ops r ((d, .int .i64 n) :: l) Q) : ZL X ops (o :: r) l Q :=
 ⟨fun a w ha hw => by
  have ht := (X.C.ok _ _ hi).slice hk
  refine fc hg hdst hd hD ?_ ha hw h
  simp [execOp, ho, resolve, invoke, builtin, ha.ev hx, Builtin.len_, run_underlying ht, goInt]⟩
theorem ZL.bin {d t t2 : Nat} {op : BinOp} {x y : Operand} {u v : Value} (hu : u.oneCell' = true) (hv : v.oneCell' = true) (ho : o.op = .binOp op t x y t2) (hdst : o.dst = some d) (hg : o.guard = none) (hx : evl l x = some u) (hy : evl l y = some v) (hd : d < X.n0) (hD : X.D d)
  (h : binX X.C op t (.d (.val u)) (.d (.val v)) fun s => ∃ q, s = .d (.val q) ∧ ZL X ops r ((d, q) :: l) Q) : ZL X ops (o :: r) l Q :=
 ⟨fun a w ha hw => by
  obtain ⟨q, s, h1, ⟨q', rfl, h2⟩, h3⟩ := nQ (C := X.C) (E := ⟨fun _ => 0, fun _ => 0, fun _ => False⟩) (nx := 0) (w := w) (x := x) (y := y) (.d _ _ (.val u hu)) (.d _ _ (.val v hv)) h
  obtain rfl := h3.val_inv
  refine fc hg hdst hd hD ?_ ha hw h2
  have e : (execOp a.eval o).run X.C.P w = ((do eqGuard op t x y u v; binOp op t u v : Sem Value).run X.C.P w).andThen fun v w' => .ok (.value v) w' := by
   simp [execOp, ho, ha.ev hx, ha.ev hy]
   generalize Sem.run X.C.P (eqGuard op t x y u v) w = r
   cases r <;> simp
  rw [e, h1]; rfl⟩
end
structure ZW (X : ZX) (c : Code) (l : List (Nat × Value)) (Q : ZQ) : Prop where
 out : ∀ a w, Fr X.n0 X.D X.a0 l a → ZR X.N X.w1 w → c.wp X.C.P (ZP X Q) a w
def zThen (X : ZX) (c : Code) (Q : ZQ) : ZQ
 | .normal, l => ZW X c l Q
 | e, l => Q e l
def zBlk (id : Nat) (Q : ZQ) : ZQ
 | .exit i, l => if i = id then Q .normal l else Q (.exit i) l
 | e, l => Q e l
section
variable {X : ZX} {c y : Code} {l : List (Nat × Value)} {Q : ZQ}
theorem ZW.seq (h : ZW X c l (zThen X y Q)) : ZW X (.seq c y) l Q := ⟨fun a w ha hw => wp_seq (wp_mono (h.out a w ha hw) fun e a' w' ⟨l', h1, h2, h3⟩ => by
 cases e with
 | normal => exact h1.out a' w' h2 h3
 | _ => exact ⟨l', h1, h2, h3⟩)⟩
theorem ZW.block {id : Nat} (h : ZW X c l (zBlk id Q)) : ZW X (.block id c) l Q := ⟨fun a w ha hw => wp_block (wp_mono (h.out a w ha hw) fun e a' w' ⟨l', h1, h2, h3⟩ => by
 cases e with
 | exit i =>
  simp only [zBlk] at h1
  by_cases hi : i = id
  ·rw [if_pos hi] at h1; simp only [Exit.inBlock, hi, if_true]; exact ⟨l', h1, h2, h3⟩
  ·rw [if_neg hi] at h1; simp only [Exit.inBlock, hi, if_false]; exact ⟨l', h1, h2, h3⟩
 | _ => exact ⟨l', h1, h2, h3⟩)⟩
theorem ZW.skip (h : Q .normal l) : ZW X .skip l Q := ⟨fun _ _ ha hw => wp_skip ⟨l, h, ha, hw⟩⟩
theorem ZW.exit {id : Nat} (h : Q (.exit id) l) : ZW X (.exit id) l Q := ⟨fun _ _ ha hw => wp_exit ⟨l, h, ha, hw⟩⟩
theorem ZW.region {id : Nat} {ops : List Oper} (h : ZL X ops.toArray ops l Q) : ZW X (.region id ops.toArray false) l Q := ⟨fun a w ha hw => wp_region_lit (h.out a w ha hw)⟩
theorem ZW.cond {x : Operand} {b : Bool} (hx : evl l x = some (.bool b)) (h : bif b then ZW X c l Q else ZW X y l Q) : ZW X (.cond x c y) l Q :=
 ⟨fun a w ha hw => wp_cond_split (ha.ev hx) (fun e => by subst e; exact h.out a w ha hw) (fun e => by subst e; exact h.out a w ha hw)⟩
theorem Fr.le {n0 : Nat} {D : Nat → Prop} {a0 a : Act} {l l' : List (Nat × Value)} (h : ∀ p ∈ l', lkv l p.1 = some p.2) (ha : Fr n0 D a0 l a) : Fr n0 D a0 l' a := by
 refine ⟨ha.sz, ha.df, fun n v hn => ?_, ha.old⟩
 have key : ∀ q : List (Nat × Value), (∀ p ∈ q, lkv l p.1 = some p.2) → lkv q n = some v → lkv l n = some v := by
  intro q
  induction q with
  | nil => intro _ h; cases h
  | cons p q ih =>
   intro hq h9
   obtain ⟨m, u⟩ := p
   rw [iG] at h9
   by_cases e : m = n
   ·rw [if_pos e] at h9; cases h9; subst e; exact hq (m, v) (by simp)
   ·rw [if_neg e] at h9; exact ih (fun p hp => hq p (by simp [hp])) h9
 exact ha.at_ n v (key l' h hn)
theorem ZW.loop {n : Nat} (I : Nat → List (Nat × Value)) (h0 : ∀ p ∈ I 0, lkv l p.1 = some p.2) (h : ∀ j, j ≤ n → ZW X c (I j) fun e l' => match e with | .normal => j < n ∧ ∀ p ∈ I (j + 1), lkv l' p.1 = some p.2 | e => Q e l') : ZW X (.loop c) l Q :=
 ⟨fun a w ha hw => by
  have hdet : ∀ a : Act, ∃ f : Nat → Nat, True := fun _ => ⟨id, trivial⟩
  refine wp_loop (fun a w => ∃ j, j ≤ n ∧ Fr X.n0 X.D X.a0 (I j) a ∧ ZR X.N X.w1 w) (fun a w => open Classical in if hx : ∃ m, ∃ j, j ≤ n ∧ n - j = m ∧ Fr X.n0 X.D X.a0 (I j) a ∧ ZR X.N X.w1 w then Classical.choose (pO (fun m => ∃ j, j ≤ n ∧ n - j = m ∧ Fr X.n0 X.D X.a0 (I j) a ∧ ZR X.N X.w1 w) _ (Classical.choose_spec hx)) else 0) ⟨0, Nat.zero_le _, Fr.le h0 ha, hw⟩ fun a w hI => ?_
  have hx : ∃ m, ∃ j, j ≤ n ∧ n - j = m ∧ Fr X.n0 X.D X.a0 (I j) a ∧ ZR X.N X.w1 w := by obtain ⟨j, h1, h2, h3⟩ := hI; exact ⟨_, j, h1, rfl, h2, h3⟩
  have hc := Classical.choose_spec (pO (fun m => ∃ j, j ≤ n ∧ n - j = m ∧ Fr X.n0 X.D X.a0 (I j) a ∧ ZR X.N X.w1 w) _ (Classical.choose_spec hx))
  obtain ⟨⟨j, hj, e1, ha1, hw1⟩, _⟩ := hc
  refine wp_mono ((h j hj).out a w ha1 hw1) fun e a' w' ⟨l', h1, h2, h3⟩ => ?_
  cases e with
  | normal =>
   obtain ⟨hlt, h4⟩ := h1
   have h5 := Fr.le h4 h2
   refine ⟨⟨j + 1, hlt, h5, h3⟩, ?_⟩
   have hx' : ∃ m, ∃ j, j ≤ n ∧ n - j = m ∧ Fr X.n0 X.D X.a0 (I j) a' ∧ ZR X.N X.w1 w' := ⟨_, j + 1, hlt, rfl, h5, h3⟩
   have hc' := (Classical.choose_spec (pO (fun m => ∃ j, j ≤ n ∧ n - j = m ∧ Fr X.n0 X.D X.a0 (I j) a' ∧ ZR X.N X.w1 w') _ (Classical.choose_spec hx'))).2 (n - (j + 1)) ⟨j + 1, hlt, rfl, h5, h3⟩
   simp only [dif_pos hx, dif_pos hx']
   omega
  | _ => exact ⟨l', h1, h2, h3⟩⟩
end
end
def celB (b : Nat) (c : Cel) : List D := [.val (.int .i64 c.pol), .low b (aj 1 (ao .u8) c.key), .val (.int .i64 c.tat), .low b (aj 1 (ao .i64) c.held)]
def nG (b : Nat) (c : Cel) : List D := [.val (.int .i64 c.pol), .fsl (b + 1) 5 1 c.key.length fun i => ao .u8 (c.key.getD i default), .val (.int .i64 c.tat), .fsl (b + 1) 2 1 c.held.length fun i => ao .i64 (c.held.getD i default)]
theorem eE (b : Nat) (xs : List Int) (hn : xs.length ≤ 16777216) : Pure TC 51 [.d (.low b (aj 1 (ao .u8) xs))] (.d (.fsl (b + 1) 5 1 xs.length fun i => ao .u8 (xs.getD i default))) :=
 Fun.fresh (h := (km xs hn).leA (.cons .low .nil)) fun E w vs h _ => by
  have := h 0 Nat.zero_lt_one
  cases this with | d _ _ h => cases h with | low _ _ _ hb _ => exact hb
theorem gI (b : Nat) (xs : List Int) (hn : xs.length ≤ 16777216) : Pure TC 64 [.d (.low b (aj 1 (ao .i64) xs))] (.d (.fsl (b + 1) 2 1 xs.length fun i => ao .i64 (xs.getD i default))) :=
 Fun.fresh (h := (bF xs hn).leA (.cons .low .nil)) fun E w vs h _ => by
  have := h 0 Nat.zero_lt_one
  cases this with | d _ _ h => cases h with | low _ _ _ hb _ => exact hb
theorem ma (b : Nat) (xs : List Cel) (hlen : xs.length ≤ 1000000) (hk : ∀ k, (xs.getD k default).key.length ≤ 16777216 ∧ (xs.getD k default).held.length ≤ 16777216) :
  Fun TC 36 0 [.d (aj 4 (celB b) xs)] [] 1 (.sl 0 4 0 xs.length) [(0, some (ap 56 4 (nG b) xs))] := by
 refine Fun.mk' Tryz.func36 rfl rfl zN (by decide) ?_
 (repeat' (first | ((first | refine Wp.any aa rfl ?_ | (with_reducible first | refine Go.mk ?_ | apply ak.of)); conv => whnf) | with_reducible exact rfl | ((with_reducible refine Ov.ok zO ?_); conv => whnf) | (with_reducible refine Ov.sh1 (by with_unfolding_all exact rfl) ?_) | ((first | with_reducible refine Ov.quo (by omega) (by omega) (by omega) (fun _ _ => ?_) | refine zV ?_ | with_reducible refine And.intro zC ?_); conv => whnf) | ((with_reducible refine And.intro ?hb ?_); (case hb => exact zz0); (conv => whnf)) | ((refine ae.a rfl rfl rfl rfl rfl rfl ?hb ?_); (case hb => exact zB); (conv => whnf)) | ((refine ae.b rfl rfl rfl rfl rfl rfl rfl rfl ?hb ?ho ?_); (case hb => exact zB); (case ho => omega); (conv => whnf)) | ((refine ae.c rfl rfl rfl rfl rfl ?hb ?_); (case hb => exact zB); (conv => whnf)) | ((refine ae.d rfl rfl rfl rfl rfl rfl ?hb ?ho ?_); (case hb => exact zB); (case ho => omega); (conv => whnf)) | (with_reducible refine Or.inl ?_) | ((with_reducible refine IxA.ptr ?_); conv => whnf) | ((with_reducible refine nil_no (by omega) ?_); (conv => whnf)) | ((with_reducible refine af ?_ (fun hn0 => ?_)) <;> (conv => whnf)) | ((refine am (fun hc => ?_) (fun hc => ?_)) <;> (try simp only [wz9] at hc) <;> (try (exfalso; omega)) <;> (conv => whnf))))
 refine Wp.le (Le.virt 3 56 4 (fun i => nG b (xs.getD i default)) (by decide) rfl) ?_
 refine Wp.loopP (ι := Nat) (fun i => i ≤ xs.length) (fun i => ⟨⟨Tryz.f36.ntmps, 0⟩, 1, [(3, .sl 0 4 0 i), (6, .d (aj 4 (celB b) xs)), (7, .i .i64 xs.length), (8, .i .i64 i)], [(0, some (.row 56 4 i fun i => nG b (xs.getD i default)))]⟩) (fun i => xs.length - i) 0 (by simp) ?_ ?_
 ·(refine Le.by [0] rfl rfl rfl rfl ?_ ?_ <;> (conv => whnf) <;> (repeat' (first | exact trivial | exact ac.rfl rfl | exact ac.ptr rfl | exact ac.sl rfl | ((with_reducible refine ac.fn ?_); (conv => whnf)) | ((refine ac.iref ?_); (conv => whnf)) | exact ⟨rfl, rfl, rfl⟩ | exact fun i hi => rfl | ((with_reducible refine And.intro ?_ ?_) <;> (conv => whnf)))))
 ·rintro i h1
  (repeat' (first | ((first | refine Wp.any aa rfl ?_ | (with_reducible first | refine Go.mk ?_ | apply ak.of)); conv => whnf) | with_reducible exact rfl | ((with_reducible refine Ov.ok zO ?_); conv => whnf) | (with_reducible refine Ov.sh1 (by with_unfolding_all exact rfl) ?_) | ((first | with_reducible refine Ov.quo (by omega) (by omega) (by omega) (fun _ _ => ?_) | refine zV ?_ | with_reducible refine And.intro zC ?_); conv => whnf) | ((with_reducible refine And.intro ?hb ?_); (case hb => exact zz0); (conv => whnf)) | ((refine ae.a rfl rfl rfl rfl rfl rfl ?hb ?_); (case hb => exact zB); (conv => whnf)) | ((refine ae.b rfl rfl rfl rfl rfl rfl rfl rfl ?hb ?ho ?_); (case hb => exact zB); (case ho => omega); (conv => whnf)) | ((refine ae.c rfl rfl rfl rfl rfl ?hb ?_); (case hb => exact zB); (conv => whnf)) | ((refine ae.d rfl rfl rfl rfl rfl rfl ?hb ?ho ?_); (case hb => exact zB); (case ho => omega); (conv => whnf)) | (with_reducible refine Or.inl ?_) | ((with_reducible refine IxA.ptr ?_); conv => whnf) | ((with_reducible refine nil_no (by omega) ?_); (conv => whnf)) | ((with_reducible refine af ?_ (fun hn0 => ?_)) <;> (conv => whnf)) | ((with_reducible first | refine ab.pure (eE b _ (hk _).1) rfl rfl ?_ | refine ag.pure (eE b _ (hk _).1) rfl rfl ?_ | refine ab.pure (gI b _ (hk _).2) rfl rfl ?_ | refine ag.pure (gI b _ (hk _).2) rfl rfl ?_); conv => whnf) | ((refine am (fun hc => ?_) (fun hc => ?_)) <;> (try simp only [wz9] at hc) <;> (try (exfalso; omega)) <;> (conv => whnf))))
  ·refine ⟨i + 1, by dsimp only; omega, by dsimp only; omega, ?_⟩
   (refine Le.by [15] rfl rfl rfl rfl ?_ ?_ <;> (conv => whnf) <;> (repeat' (first | exact trivial | exact ac.rfl rfl | exact ac.ptr rfl | exact ac.sl rfl | ((with_reducible refine ac.fn ?_); (conv => whnf)) | ((refine ac.iref ?_); (conv => whnf)) | exact ⟨rfl, rfl, rfl⟩ | exact fun i hi => rfl | ((with_reducible refine And.intro ?_ ?_) <;> (conv => whnf)))))
   intro k hk
   simp only [bh]
   by_cases e : k < i
   ·rw [if_pos e]
   ·rw [if_neg e]
    obtain rfl : k = i := by omega
    rw [Q13, Nat.sub_self]
    rfl
  ·obtain rfl : i = xs.length := by omega
   refine ah.of [0] rfl (by simp) rfl ?_ ?_
   ·exact .rfl _
   ·((conv => whnf); repeat' (first | exact trivial | exact SV.Le.rfl _ | exact ⟨rfl, rfl, rfl⟩ | exact fun i hi => rfl | ((with_reducible refine And.intro ?_ ?_) <;> (conv => whnf))))
theorem gT (b : Nat) (xs : List Cel) (hlen : xs.length ≤ 1000000) (hk : ∀ k, (xs.getD k default).key.length ≤ 16777216 ∧ (xs.getD k default).held.length ≤ 16777216) :
  Pure TC 36 [.d (.low b (aj 4 (celB b) xs))] (.d (.fsl (b + 1) 56 4 xs.length fun i => nG b (xs.getD i default))) :=
 Fun.fresh (h := (ma b xs hlen hk).leA (.cons .low .nil)) fun E w vs h _ => by
  have := h 0 Nat.zero_lt_one
  cases this with | d _ _ h => cases h with | low _ _ _ hb _ => exact hb
@[reducible] def jS (b : Nat) (ps : List Pol) (room : Int) (xs : List Cel) : D := .ref [aj 4 Pol.D ps, .val (.int .i64 room), .low b (aj 4 (celB b) xs)] 0
theorem kw (b : Nat) (ps : List Pol) (room : Int) (xs : List Cel) (hlen : xs.length ≤ 1000000) (hk : ∀ k, (xs.getD k default).key.length ≤ 16777216 ∧ (xs.getD k default).held.length ≤ 16777216) :
  Pure TC 11 [.d (jS b ps room xs)] (.d (.fsl (b + 1) 56 4 xs.length fun i => nG b (xs.getD i default))) := by
 refine Pure.mk' Tryz.func11 rfl rfl zN ?_
 (repeat' (first | ((first | refine Wp.any aa rfl ?_ | (with_reducible first | refine Go.mk ?_ | apply ak.of)); conv => whnf) | with_reducible exact rfl | ((with_reducible refine Ov.ok zO ?_); conv => whnf) | (with_reducible refine Ov.sh1 (by with_unfolding_all exact rfl) ?_) | ((first | with_reducible refine Ov.quo (by omega) (by omega) (by omega) (fun _ _ => ?_) | refine zV ?_ | with_reducible refine And.intro zC ?_); conv => whnf) | ((with_reducible refine And.intro ?hb ?_); (case hb => exact zz0); (conv => whnf)) | ((refine ae.a rfl rfl rfl rfl rfl rfl ?hb ?_); (case hb => exact zB); (conv => whnf)) | ((refine ae.b rfl rfl rfl rfl rfl rfl rfl rfl ?hb ?ho ?_); (case hb => exact zB); (case ho => omega); (conv => whnf)) | ((refine ae.c rfl rfl rfl rfl rfl ?hb ?_); (case hb => exact zB); (conv => whnf)) | ((refine ae.d rfl rfl rfl rfl rfl rfl ?hb ?ho ?_); (case hb => exact zB); (case ho => omega); (conv => whnf)) | (with_reducible refine Or.inl ?_) | ((with_reducible refine IxA.ptr ?_); conv => whnf) | ((with_reducible refine nil_no (by omega) ?_); (conv => whnf)) | ((with_reducible refine af ?_ (fun hn0 => ?_)) <;> (conv => whnf)) | ((with_reducible first | refine ab.pure (gT b xs hlen hk) rfl rfl ?_ | refine ag.pure (gT b xs hlen hk) rfl rfl ?_); conv => whnf) | ((refine am (fun hc => ?_) (fun hc => ?_)) <;> (try simp only [wz9] at hc) <;> (try (exfalso; omega)) <;> (conv => whnf))))
 exact .rfl _
theorem DL.trans {x y z : D} (h : DL x y) (k : DL y z) : DL x z := ⟨fun _ _ _ a => k.out _ _ _ (h.out _ _ _ a)⟩
theorem DL.ref {cs ds : List D} {o : Nat} (hl : cs.length = ds.length) (h : ∀ j (hj : j < cs.length) (hj' : j < ds.length), DL cs[j] ds[j]) : DL (.ref cs o) (.ref ds o) := ⟨fun w Im v hv => by
 cases hv with
 | ref _ _ b p g hb hc hg => exact .ref _ _ b p g hb (fun j hj => hc j (by omega)) fun j hj => (h j (by omega) hj).out _ _ _ (hg j (by omega))⟩
theorem celB_le {b : Nat} {xs : List Cel} : DL (aj 4 (celB b) xs) (aj 4 Cel.D xs) := DL.sl (fun _ _ => rfl) fun i _ j hj hj' => by
 have hj : j < 4 := hj
 rcases (by omega : j = 0 ∨ j = 1 ∨ j = 2 ∨ j = 3) with rfl | rfl | rfl | rfl
 ·exact .rfl
 ·exact .low
 ·exact .rfl
 ·exact .low
theorem celF_le {b : Nat} {xs : List Cel} : DL (.fsl (b + 1) 56 4 xs.length fun i => nG b (xs.getD i default)) (aj 4 Cel.D xs) := DL.fsl.trans (DL.sl (fun _ _ => rfl) fun i _ j hj hj' => by
 have hj : j < 4 := hj
 rcases (by omega : j = 0 ∨ j = 1 ∨ j = 2 ∨ j = 3) with rfl | rfl | rfl | rfl
 ·exact .rfl
 ·exact .fsl
 ·exact .rfl
 ·exact .fsl)
theorem nM (b : Nat) (ps : List Pol) (room : Int) (xs : List Cel) : Pure TC 13 [.d (jS b ps room xs)] (.i .i64 xs.length) := by
 have h : Pure TC 13 [.d (.ref [aj 4 Pol.D ps, .val (.int .i64 room), aj 4 Cel.D xs] 0)] (.i .i64 xs.length) := by
  refine Pure.mk' Tryz.func13 rfl rfl zN ?_
  (repeat' (first | ((first | refine Wp.any aa rfl ?_ | (with_reducible first | refine Go.mk ?_ | apply ak.of)); conv => whnf) | with_reducible exact rfl | ((with_reducible refine Ov.ok zO ?_); conv => whnf) | (with_reducible refine Ov.sh1 (by with_unfolding_all exact rfl) ?_) | ((first | with_reducible refine Ov.quo (by omega) (by omega) (by omega) (fun _ _ => ?_) | refine zV ?_ | with_reducible refine And.intro zC ?_); conv => whnf) | ((with_reducible refine And.intro ?hb ?_); (case hb => exact zz0); (conv => whnf)) | ((refine ae.a rfl rfl rfl rfl rfl rfl ?hb ?_); (case hb => exact zB); (conv => whnf)) | ((refine ae.b rfl rfl rfl rfl rfl rfl rfl rfl ?hb ?ho ?_); (case hb => exact zB); (case ho => omega); (conv => whnf)) | ((refine ae.c rfl rfl rfl rfl rfl ?hb ?_); (case hb => exact zB); (conv => whnf)) | ((refine ae.d rfl rfl rfl rfl rfl rfl ?hb ?ho ?_); (case hb => exact zB); (case ho => omega); (conv => whnf)) | (with_reducible refine Or.inl ?_) | ((with_reducible refine IxA.ptr ?_); conv => whnf) | ((with_reducible refine nil_no (by omega) ?_); (conv => whnf)) | ((with_reducible refine af ?_ (fun hn0 => ?_)) <;> (conv => whnf)) | ((refine am (fun hc => ?_) (fun hc => ?_)) <;> (try simp only [wz9] at hc) <;> (try (exfalso; omega)) <;> (conv => whnf))))
  exact .rfl _
 refine h.le (.cons (.dle (.ref rfl fun j hj hj' => ?_)) .nil)
 have hj : j < 3 := hj
 rcases (by omega : j = 0 ∨ j = 1 ∨ j = 2) with rfl | rfl | rfl
 ·exact .rfl
 ·exact .rfl
 ·exact DL.low.trans celB_le
theorem mN (b : Nat) (xs : List Cel) : Pure TC 12 [.d (.fsl (b + 1) 56 4 xs.length fun i => nG b (xs.getD i default)), .d (aj 4 Cel.D xs)] (.b true) := by
 have h := pD xs xs
 rw [decide_eq_true rfl] at h
 exact h.le (.cons (.dle celF_le) (.cons (.rfl _) .nil))
end Go.Proofs.YtcbpkdhoibemcaaGreat
