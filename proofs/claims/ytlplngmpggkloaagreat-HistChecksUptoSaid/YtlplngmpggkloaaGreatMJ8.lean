/- Lemmas of SlLibCell, Bk11, Bk12, Bk13, Bk14, Bk15. No condition. -/
import Derived.Test.YtlplngmpggkloaaGreatMJ7
import Derived.Test.YtlplngmpggkloaaGreatRows
import Derived.WalkKit
import Derived.WalkSpells
import Derived.WalkLawsBesides
import Derived.IntWalk
import Derived.BigQuiet
import Derived.Deep.QuietTactic
import Derived.StillTailTactics
import Derived.Deep.RegionWith
import Derived.Deep.RegionHeld3
import Derived.Lib.Hide
import Derived.Laws.Externs
set_option linter.unusedVariables false
set_option linter.unusedSimpArgs false
set_option maxHeartbeats 80000000
set_option maxRecDepth 100000
namespace Go.Proofs.YtlplngmpggkloaaGreat
open Go.RowKit
theorem pL : (Tryz.prog.info? 65).map (fun i => (i.zero, i.size, i.bytes)) = some (some (.agg #[.int .i64 0, .slice none 0 0, .int .i64 0, .slice none 0 0]), 4, 64) := by kernel_rfl
theorem pK (w : World) : (sizeOf 65).run Tryz.prog w = .ok 4 w := by kernel_rfl
theorem lE (B : Nat) (v : Value) (n i vb cv : Nat) (vcur : Array Value) (xs vs : List Value) (w : World) (hin : i ≤ n) (hown : w.ownsRow B 65 4 v n xs) (hB : B ≤ w.heap.size) (hn : n ≤ 16777216)
    (hvl : vs.length = 4) (hvb : w.heap[vb]? = some (.cells vcur 65 (0, 0))) (hvc : ∀ (j : Nat) (u : Value), vs[j]? = some u → vcur[j]? = some u) (hne : v.ownBlock ≠ some vb) (hv1 : ∀ u ∈ vs, u.oneCell' = true) (hx1 : ∀ u ∈ xs, u.oneCell' = true) :
    Calls Tryz.prog 67 #[v, .int .i64 i, .slice (some ⟨vb, 0, none⟩) 1 cv] w fun e w' =>
      ∃ v', e = .returned v' ∧ w'.ownsRow B 65 4 v' (n + 1) (xs.take (i * 4) ++ vs ++ xs.drop (i * 4)) ∧ w.grownBy w' v.ownBlock ∧ ∀ k, v'.ownBlock = some k → v.ownBlock = some k ∨ w.heap.size ≤ k := by
  have hv2 := hown.2
  obtain ⟨i0, hi0, hz0, hz1, hz2⟩ := info_parts pL
  have hxl := hown.1
  have hvcell : ∀ j u, vs[j]? = some u → w.cell? ⟨vb, j, none⟩ = some u := fun j u hj => by simp [World.cell?, hvb]; exact hvc j u hj
  have hvlt : vb < w.heap.size := (Q17 hvb).1
  have append_end : ∀ (W : World), W = w → n = i → Calls Tryz.prog 67 #[v, .int .i64 i, .slice (some ⟨vb, 0, none⟩) 1 cv] w fun e w' =>
      ∃ v', e = .returned v' ∧ w'.ownsRow B 65 4 v' (n + 1) (xs ++ vs) ∧ w.grownBy w' v.ownBlock ∧ ∀ k, v'.ownBlock = some k → v.ownBlock = some k ∨ w.heap.size ≤ k := by
    intro W _ hni
    subst hni
    have Hown := Lib.hid hown
    have hva : ∀ j u, vs[j]? = some u → w.cell? ((⟨vb, 0, none⟩ : Addr).add j) = some u := fun j u hj => by
      have := hvcell j u hj
      unfold Addr.add; split
      · rename_i h; subst h; exact this
      · simpa using this
    have Hva := Lib.hid hva; have Hl := Lib.hid hvl; have Hne := Lib.hid hne
    clear hva hvcell hvb hvc hvl hne hxl
    rcases hv2 with ⟨rfl, rfl⟩ | ⟨g, cap, cur, rfl, hBg, hg, hnc, hcm, hcs, htk⟩
    · clear hown
      go_enter Tryz.func67, Tryz.ntmps67
      go_wp2_with (first | (at_builtin; refine bh _ rfl _ _ 90 rfl B 65 i0 (.agg #[.int .i64 0, .slice none 0 0, .int .i64 0, .slice none 0 0]) 4 64 Tryz.underlying90 hi0 hz0 hz1 hz2 rfl (by decide) _ _ _ rfl Hown.out ⟨vb, 0, none⟩ 1 _ vs rfl (by rw [Hl.out]) Hva.out hv1 (by unfold maxLen; omega) (by omega) hB ?_; intro v' w1 hown1 hg1 hloc1))
      go_ret
      exact ⟨_, rfl, hown1, hg1, hloc1⟩
    · unfold maxLen at hcm
      have Hg := Lib.hid hg; clear hg
      have Hcs := Lib.hid hcs; have Htk := Lib.hid htk; clear hcs htk hown
      go_enter Tryz.func67, Tryz.ntmps67
      go_wp2_with (first | (at_builtin; refine bh _ rfl _ _ 90 rfl B 65 i0 (.agg #[.int .i64 0, .slice none 0 0, .int .i64 0, .slice none 0 0]) 4 64 Tryz.underlying90 hi0 hz0 hz1 hz2 rfl (by decide) _ _ _ rfl Hown.out ⟨vb, 0, none⟩ 1 _ vs rfl (by rw [Hl.out]) Hva.out hv1 (by unfold maxLen; omega) (by omega) hB ?_; intro v' w1 hown1 hg1 hloc1))
      all_goals (go_ret; exact ⟨_, rfl, hown1, hg1, hloc1⟩)
  by_cases hi : n = i
  · have h := append_end w rfl hi
    rw [Q21 (by rw [hxl, hi]; exact Q4 _), List.drop_of_length_le (by rw [hxl, hi]; exact Q4 _), List.append_nil]
    exact h
  · clear append_end
    have hlt : i < n := by omega
    rcases hv2 with ⟨rfl, rfl⟩ | ⟨g, cap, cur, rfl, hBg, hg, hnc, hcm, hcs, htk⟩
    · omega
    · unfold maxLen at hcm
      have hd0 : ((i : Int) == n) = false := by simp; omega
      have hcu : ∀ j, j < cap * 4 → ∃ u, cur[j]? = some u := fun j hj => ⟨cur[j]'(by omega), by rw [Array.getElem?_eq_getElem (by omega)]⟩
      by_cases hroom : n + 1 ≤ cap
      · have hov : ∀ lb cb, (callFunc 82 #[.slice (some ⟨vb, 0, none⟩) 1 cv, .slice (some ⟨g, (i + 1) * 4, none⟩) lb cb]).run Tryz.prog w = .ok (.value (.bool false)) w := fun lb cb => by
          rw [run_callFunc_extern Tryz.func82 (by kernel_rfl) (by kernel_rfl) (by kernel_rfl) (e := Extern.SlicesOverlaps.overlaps #[90, 90] #[4]) (by kernel_rfl),
            Lib.run_overlaps_apart w 90 4 65 Tryz.underlying90 4 pK ⟨vb, 0, none⟩ ⟨g, (i + 1) * 4, none⟩ 1 cv lb cb (by intro h; apply hne; simp only at h; rw [h]; rfl) 65 65 vcur.size cur.size
              (by simp [World.shape?, hvb]) (by simp [World.shape?, hg]) (by omega) (by simp [World.frozen?, hvb]) (by simp [World.frozen?, hvb])]
          rfl
        go_enter Tryz.func67, Tryz.ntmps67
        go_wp2_with (simp only [hov])
        have hsrc1 : ∀ j u, (xs.drop (i * 4))[j]? = some u → w.drew.cell? ((⟨g, i * 4, none⟩ : Addr).add j) = some u := fun j u hj => by
          show w.cell? _ = _
          rw [Addr.add_lit, show w.cell? ⟨g, i * 4 + j, none⟩ = cur[i * 4 + j]? from by simp [World.cell?, hg], ← Array.getElem?_toList]
          rw [List.getElem?_drop, ← htk, Q15] at hj
          split at hj
          · simpa using hj
          · cases hj
        have hw1 : IntKind.i64.wrap ((i : Int) + 1) = (i : Int) + 1 := IntWalk.i64_in _ (by omega)
        have hb1 : (0 : Int) ≤ (i : Int) + 1 := by omega
        have htn : ((i : Int) + 1).toNat = i + 1 := by omega
        have hb2 : ¬ (cap = i + 1) := by omega
        have hb3 : (i : Int) ≤ (n : Int) + 1 := by omega
        have hb4 : ¬ (cap = i) := by omega
        have hmul : i * 4 + 4 ≤ n * 4 := by omega
        have hdl : (xs.drop (i * 4)).length = (n - i) * 4 := by rw [List.length_drop, hxl]; omega
        have L := mo cur.toList xs vs (i * 4) (n * 4) 4 (cap * 4) (by simpa using hcs) htk hvl (by omega) (by omega)
        obtain ⟨C1, hC1⟩ : ∃ C1 : Array Value, C1 = (cur.toList.take ((i + 1) * 4) ++ xs.drop (i * 4) ++ cur.toList.drop ((i + 1) * 4 + (xs.drop (i * 4)).length)).toArray := ⟨_, rfl⟩
        obtain ⟨C2, hC2⟩ : ∃ C2 : Array Value, C2 = (C1.toList.take (i * 4) ++ vs ++ C1.toList.drop (i * 4 + vs.length)).toArray := ⟨_, rfl⟩
        have hC1s : C1.size = cap * 4 := by rw [hC1]; simp; omega
        have HC1 := Lib.hid hC1; have HC2 := Lib.hid hC2
        have hcp2 : ∀ ty dc, (Builtin.copy_ #[90, 90] ty #[.slice (some ⟨g, i * 4, none⟩) (n + 1 - i) dc, .slice (some ⟨vb, 0, none⟩) 1 cv]).run Tryz.prog (w.drew.setRow g C1) = .ok (goInt ((1 : Nat) : Int)) ((w.drew.setRow g C1).setRow g C2) := by
          intro ty dc
          have hm : Nat.min 1 (n + 1 - i) = 1 := by simp only [Nat.min_def]; split <;> omega
          have hgn : vb ≠ g := by intro h; apply hne; rw [h]; rfl
          have := bH (P := Tryz.prog) (w.drew.setRow g C1) 90 90 ty 65 i0 g (i * 4) (n + 1 - i) dc ⟨vb, 0, none⟩ 1 cv C1 65 vs Tryz.underlying90 hi0 (setRow_heap _ g _ _ _ _ hg) (by rw [hvl, hm, hz1])
            (fun j u hj => by rw [Addr.add_lit, cell_setRow_other _ _ _ _ hgn]; simpa using hvcell j u hj) (by rw [hvl, hC1s]; omega) hv1
          rw [hm] at this
          rw [this, hC2]; try simp only [Nat.mul_one]
        have Hcp2 := Lib.hid hcp2; clear hcp2
        have hcp1 : ∀ ty dc sc, (Builtin.copy_ #[90, 90] ty #[.slice (some ⟨g, (i + 1) * 4, none⟩) (n - i) dc, .slice (some ⟨g, i * 4, none⟩) (n + 1 - i) sc]).run Tryz.prog w.drew = .ok (goInt ((n - i : Nat) : Int)) (w.drew.setRow g C1) := by
          intro ty dc sc
          have hm : Nat.min (n + 1 - i) (n - i) = n - i := by simp only [Nat.min_def]; split <;> omega
          have := bH (P := Tryz.prog) w.drew 90 90 ty 65 i0 g ((i + 1) * 4) (n - i) dc ⟨g, i * 4, none⟩ (n + 1 - i) sc cur 65 (xs.drop (i * 4)) Tryz.underlying90 hi0 hg (by rw [hdl, hm, hz1]) hsrc1 (by rw [hdl]; omega) (fun u hu => hx1 u (List.mem_of_mem_drop hu))
          rw [hm] at this; rw [this, hC1]
        have Hcp1 := Lib.hid hcp1; clear hcp1 hC1 hC2
        go_region_law (refine bL rfl _ _ 90 90 rfl _ _ (by simp [Act.eval, Act.put]) (by simp [Act.eval, Act.put]) (Hcp1.out _ (cap - (i + 1)) (cap - i)) ?_)
        go_wp2_with (refine bo _ rfl _ _ 90 90 rfl _ _ rfl rfl (Hcp2.out _ (cap - i)) ?_)
        go_ret
        have e1 : (i + 1) * 4 = i * 4 + 4 := by omega
        have h1 := HC1.out; have h2 := HC2.out
        rw [e1] at h1
        rw [h1] at h2
        simp only [List.toList_toArray] at h2
        obtain ⟨L1, L2⟩ := L
        refine ⟨_, rfl, ⟨?_, Or.inr ⟨g, cap, C2, rfl, hBg, setRow_heap _ g _ _ _ _ (setRow_heap _ g _ _ _ _ hg), hroom, by unfold maxLen; omega, ?_, ?_⟩⟩, ?_⟩
        · simp only [Q9, Q10, List.length_drop, hxl, hvl]; omega
        · rw [h2]; simpa using L1
        · rw [h2, show (n + 1) * 4 = n * 4 + 4 from by omega]; simpa using L2
        · exact ⟨av (av bF (be _) (fun x hx => by cases hx; exact Or.inl rfl)) (be _) (fun x hx => by cases hx; exact Or.inl rfl), fun k hk => Or.inl hk⟩
      · have hcap : cap = n := by omega
        have hk1 : 0 < n + 1 - i := by omega
        have holds : (Builtin.firstCells i0.size i (.slice (some ⟨g, 0, none⟩) i cap)).run Tryz.prog w.drew = .ok (xs.take (i * 4)).toArray w.drew := by
          have := run_firstCells_some (P := Tryz.prog) w.drew i0.size i ⟨g, 0, none⟩ i cap (xs.take (i * 4)) (by rw [Q10, hz1]; omega) (fun j u hj => by
            show w.cell? _ = _
            rw [Addr.add_lit, show w.cell? ⟨g, 0 + j, none⟩ = cur[0 + j]? from by simp [World.cell?, hg], ← Array.getElem?_toList]
            rw [← htk, Q15, Q15] at hj
            split at hj
            · split at hj
              · simpa using hj
              · cases hj
            · cases hj)
          exact this
        obtain ⟨gc, hgc⟩ : ∃ gc, gc = grownCap w (i + (n + 1 - i)) cap 65 := ⟨_, rfl⟩
        have hgc1 : n + 1 ≤ gc := by have := grownCap_ge w (i + (n + 1 - i)) cap 65; omega
        have hgc2 : gc ≤ 9223372036854775807 := by have := grownCap_le_maxLen w (i + (n + 1 - i)) cap 65 (by unfold maxLen; omega); unfold maxLen at this; omega
        obtain ⟨Zs, hZs⟩ : ∃ Zs : List Value, Zs = (Builtin.zeroCells (.agg #[.int .i64 0, .slice none 0 0, .int .i64 0, .slice none 0 0] : Value).cells (n + 1 - i)).toList ++ (Builtin.zeroCells (.agg #[.int .i64 0, .slice none 0 0, .int .i64 0, .slice none 0 0] : Value).cells (gc - (n + 1))).toList := ⟨_, rfl⟩
        have hzc : (.agg #[.int .i64 0, .slice none 0 0, .int .i64 0, .slice none 0 0] : Value).cells.size = 4 := rfl
        have hZl : Zs.length = (gc - i) * 4 := by rw [hZs]; simp only [Q9, Array.length_toList, size_zeroCells, hzc]; omega
        obtain ⟨W1, hW1⟩ : ∃ W1, W1 = w.drew.alloc (.cells (xs.take (i * 4) ++ Zs).toArray 65) := ⟨_, rfl⟩
        have happ : ∀ ty, (Builtin.append_ #[90, 3] ty #[.slice (some ⟨g, 0, none⟩) i cap, .int .i64 ((n : Int) + 1 - (i : Int))]).run Tryz.prog w = .ok (.slice (some ⟨w.heap.size, 0, none⟩) (n + 1) gc) W1 := by
          intro ty
          have := Lib.run_append_grow_zeros (P := Tryz.prog) w 90 3 ty 65 i0 (.agg #[.int .i64 0, .slice none 0 0, .int .i64 0, .slice none 0 0]) .i64 .i64 Tryz.underlying90 Tryz.underlying3 hi0 hz0 (some ⟨g, 0, none⟩) i cap (xs.take (i * 4)) holds (n + 1 - i) hk1 (by rw [hz1]; decide) (by omega) (by omega) (by rw [hz2]; omega) (growslice_fits (by omega) (by rw [hz2]; omega))
          rw [show ((n : Int) + 1 - (i : Int)) = ((n + 1 - i : Nat) : Int) from by omega, this, hW1, ← hgc, hZs, show i + (n + 1 - i) = n + 1 from by omega]
          congr 3
          apply Array.ext'
          simp [List.append_assoc]
        have hW1a : W1.heap[w.heap.size]? = some (.cells (xs.take (i * 4) ++ Zs).toArray 65 (0, 0)) := by rw [hW1]; exact au w.drew _
        have hW1b : ∀ k, k < w.heap.size → W1.heap[k]? = w.heap[k]? := fun k hk => by rw [hW1]; exact heap_alloc_old w.drew _ hk
        have hW1g : w.grownBy W1 none := by rw [hW1]; exact av bF (World.grownBy_alloc _ _ none) (fun x hx => by cases hx)
        have hglt : g < w.heap.size := (Q17 hg).1
        obtain ⟨A1, hA1⟩ : ∃ A1 : Array Value, A1 = ((xs.take (i * 4) ++ Zs).take (i * 4) ++ vs ++ (xs.take (i * 4) ++ Zs).drop (i * 4 + vs.length)).toArray := ⟨_, rfl⟩
        obtain ⟨W2, hW2⟩ : ∃ W2, W2 = W1.setRow w.heap.size A1 := ⟨_, rfl⟩
        have hcpA : ∀ ty dc, (Builtin.copy_ #[90, 90] ty #[.slice (some ⟨w.heap.size, i * 4, none⟩) (n + 1 - i) dc, .slice (some ⟨vb, 0, none⟩) 1 cv]).run Tryz.prog W1 = .ok (goInt ((1 : Nat) : Int)) W2 := by
          intro ty dc
          have hm : Nat.min 1 (n + 1 - i) = 1 := by simp only [Nat.min_def]; split <;> omega
          have := bH (P := Tryz.prog) W1 90 90 ty 65 i0 w.heap.size (i * 4) (n + 1 - i) dc ⟨vb, 0, none⟩ 1 cv _ 65 vs Tryz.underlying90 hi0 hW1a (by rw [hvl, hm, hz1])
            (fun j u hj => by rw [Addr.add_lit, World.cell?_of_block (hW1b vb hvlt)]; simpa using hvcell j u hj) (by rw [hvl]; simp only [List.size_toArray, Q9, Q10, hZl, hxl]; omega) hv1
          rw [hm] at this
          rw [this, hW2, hA1]
        have hA1s : A1.size = gc * 4 := by rw [hA1]; simp only [List.size_toArray, Q9, Q10, List.length_drop, hZl, hxl, hvl]; omega
        have hW2a : W2.heap[w.heap.size]? = some (.cells A1 65 (0, 0)) := by rw [hW2]; exact setRow_heap _ _ _ _ _ _ hW1a
        have hW2b : ∀ k, k < w.heap.size → W2.heap[k]? = w.heap[k]? := fun k hk => by rw [hW2, setRow_other _ _ _ _ (by omega)]; exact hW1b k hk
        have hdl : (xs.drop (i * 4)).length = (n - i) * 4 := by rw [List.length_drop, hxl]; omega
        obtain ⟨A2, hA2⟩ : ∃ A2 : Array Value, A2 = (A1.toList.take ((i + 1) * 4) ++ xs.drop (i * 4) ++ A1.toList.drop ((i + 1) * 4 + (xs.drop (i * 4)).length)).toArray := ⟨_, rfl⟩
        obtain ⟨W3, hW3⟩ : ∃ W3, W3 = W2.drew.setRow w.heap.size A2 := ⟨_, rfl⟩
        have hcpB : ∀ ty dc sc, (Builtin.copy_ #[90, 90] ty #[.slice (some ⟨w.heap.size, (i + 1) * 4, none⟩) (n - i) dc, .slice (some ⟨g, i * 4, none⟩) (n - i) sc]).run Tryz.prog W2.drew = .ok (goInt ((n - i : Nat) : Int)) W3 := by
          intro ty dc sc
          have hm : Nat.min (n - i) (n - i) = n - i := Nat.min_self _
          have := bH (P := Tryz.prog) W2.drew 90 90 ty 65 i0 w.heap.size ((i + 1) * 4) (n - i) dc ⟨g, i * 4, none⟩ (n - i) sc A1 65 (xs.drop (i * 4)) Tryz.underlying90 hi0 hW2a (by rw [hdl, hm, hz1])
            (fun j u hj => by
              show W2.cell? _ = _
              rw [Addr.add_lit, World.cell?_of_block (hW2b g hglt), show w.cell? ⟨g, i * 4 + j, none⟩ = cur[i * 4 + j]? from by simp [World.cell?, hg], ← Array.getElem?_toList]
              rw [List.getElem?_drop, ← htk, Q15] at hj
              split at hj
              · simpa using hj
              · cases hj) (by rw [hdl, hA1s]; omega) (fun u hu => hx1 u (List.mem_of_mem_drop hu))
          rw [hm] at this
          rw [this, hW3, hA2]
        have L := oM xs vs Zs (i * 4) (n * 4) 4 (by rw [hxl]) hvl (by omega) (by rw [hZl]; omega)
        have hW3a : W3.heap[w.heap.size]? = some (.cells A2 65 (0, 0)) := by rw [hW3]; exact setRow_heap _ _ _ _ _ _ hW2a
        have hW3g : w.grownBy W3 (some g) := by
          rw [hW3, hW2]
          exact av (av (av (r := some g) (⟨hW1g.os, hW1g.tape, hW1g.output, hW1g.size, fun k hk _ => hW1b k hk⟩) (be _) (fun x hx => by cases hx; exact Or.inr (Q4 _))) bF (s := none) (fun x hx => by cases hx)) (be _) (fun x hx => by cases hx; exact Or.inr (Q4 _))
        have HA1 := Lib.hid hA1; have HA2 := Lib.hid hA2; have Happ := Lib.hid happ; have HcpA := Lib.hid hcpA; have HcpB := Lib.hid hcpB; have HL := Lib.hid L; have HW3a := Lib.hid hW3a; have HW3g := Lib.hid hW3g; have Hxl := Lib.hid hxl; have Hvl := Lib.hid hvl; have HZl := Lib.hid hZl
        clear hA1 hA2 happ hcpA hcpB L hW3a hW3g hW1 hW2 hW3 hZs hgc holds hW1a hW1b hW1g hA1s hW2a hW2b hdl hzc hZl hxl hvl hown htk hcs hcu hvb hvc hvcell hx1 hv1 hne hg
        have hw1 : IntKind.i64.wrap ((i : Int) + 1) = (i : Int) + 1 := IntWalk.i64_in _ (by omega)
        have hb1 : (0 : Int) ≤ (i : Int) + 1 := by omega
        have htn : ((i : Int) + 1).toNat = i + 1 := by omega
        have hb2 : ¬ (gc = i + 1) := by omega
        have hb3 : (i : Int) ≤ (n : Int) + 1 := by omega
        have hb4 : ¬ (gc = i) := by omega
        have hb5 : ¬ (cap = i) := by omega
        clear hcap
        go_enter Tryz.func67, Tryz.ntmps67
        go_wp2_with (first | (at_builtin; refine Lib.wpList_append_run _ rfl _ _ 90 3 rfl _ _ rfl rfl _ _ (Happ.out _) ?_) | (refine bo _ rfl _ _ 90 90 rfl _ _ rfl rfl (HcpA.out _ (gc - i)) ?_))
        go_region_law (refine bL rfl _ _ 90 90 rfl _ _ (by simp [Act.eval, Act.put]) (by simp [Act.eval, Act.put]) (HcpB.out _ (gc - (i + 1)) (cap - i)) ?_)
        go_wp2
        go_ret
        have e1 : (i + 1) * 4 = i * 4 + 4 := by omega
        have h1 : A1 = ((xs.take (i * 4) ++ Zs).take (i * 4) ++ vs ++ (xs.take (i * 4) ++ Zs).drop (i * 4 + vs.length)).toArray := by have := HA1.out; simpa only [Nat.mul_one] using this
        have h2 := HA2.out
        rw [e1, h1] at h2
        simp only [List.toList_toArray] at h2
        obtain ⟨L1, L2⟩ := HL.out
        refine ⟨_, rfl, ⟨?_, Or.inr ⟨w.heap.size, gc, A2, rfl, hB, HW3a.out, hgc1, by unfold maxLen; omega, ?_, ?_⟩⟩, HW3g.out, fun k hk => by cases hk; exact Or.inr (Q4 _)⟩
        · simp only [Q9, Q10, List.length_drop, Hxl.out, Hvl.out]; omega
        · rw [h2]; simp only [List.size_toArray]; rw [L1, HZl.out]; omega
        · rw [h2, show (n + 1) * 4 = n * 4 + 4 from by omega]; simpa using L2
theorem cz (xs : List Int) (i : Nat) (x : Int) (hi : i ≤ xs.length) (hn : xs.length ≤ 16777215) :
    Fun TC 79 2 [.sl 0 1 0 xs.length, .i .i64 i, .sl 1 1 0 1] [(0, some (aN 2 1 (ar .i64) xs)), (1, some (aN 2 1 (ar .i64) [x]))] 3 (.sl 2 1 0 (bE xs i x).length) [(0, none), (1, none), (2, some (aN 2 1 (ar .i64) (bE xs i x)))] := by
  by_cases hlt : i < xs.length
  · refine sS (C := TC) (z := 1) (enc := (ar .i64)) (zzb rfl) (.mk Tryz.func79 rfl rfl) (fun x => rfl) xs i x hlt ?_
    intro v vb cv vcur F vs w h1 h2 h3 h4 h5 h6 h7
    exact nC 0 v xs.length i vb cv vcur F vs w hi h1 (Nat.zero_le _) (by omega) h2 h3 h4 h5 h6 h7
  · obtain rfl : i = xs.length := by omega
    refine Fun.mk' Tryz.func79 rfl rfl (zzb rfl) (by decide) ?_
    (repeat' (first
    | with_reducible refine Wp.seq ?_
    | with_reducible refine Wp.block ?_
    | ((with_reducible first | refine Wp.region ?_ | refine Wp.drawL ac ?_ | refine Wp.cond ?_ | refine Wp.ret ?_ | refine Wp.skip ?_ | refine Wp.exit ?_ | refine Go.mk ?_ | apply ao.of); conv => whnf)
    | with_reducible exact rfl
    | ((with_reducible refine Ov.ok zO ?_); conv => whnf)
    | (with_reducible refine Ov.sh1 (by with_unfolding_all exact rfl) ?_)
    | ((with_reducible refine Ov.quo (by omega) (by omega) (by omega) (fun _ _ => ?_)); conv => whnf)
    | ((with_reducible refine And.intro (show ah _ _ _ _ = true by kernel_rfl) ?_); conv => whnf)
    | ((with_reducible refine And.intro zC ?_); conv => whnf)
    | ((with_reducible refine And.intro ?hb ?_); (case hb => exact ae (zzb rfl) (by omega)); (conv => whnf))
    | ((refine af.a rfl rfl rfl rfl rfl rfl ?hb ?_); (case hb => exact zB); (conv => whnf))
    | ((refine af.b rfl rfl rfl rfl rfl rfl rfl rfl ?hb ?ho ?_); (case hb => exact zB); (case ho => omega); (conv => whnf))
    | ((refine af.c rfl rfl rfl rfl rfl ?hb ?_); (case hb => exact zB); (conv => whnf))
    | ((refine af.d rfl rfl rfl rfl rfl rfl ?hb ?ho ?_); (case hb => exact zB); (case ho => omega); (conv => whnf))
    | (with_reducible refine Or.inl ?_)
    | ((with_reducible refine IxA.ptr ?_); conv => whnf)
    | ((with_reducible refine nil_no (by omega) ?_); (conv => whnf))
    | ((with_reducible refine ag ?_ (fun hn0 => ?_)) <;> (conv => whnf))
    
    | ((refine ap (fun hc => ?_) (fun hc => ?_)) <;> (try simp only [decide_eq_true_eq, decide_eq_false_iff_not, Q5, Q20, Bool.and_eq_false_iff, Bool.or_eq_false_iff, Bool.not_eq_true', Bool.not_eq_false', beq_iff_eq, bne_iff_ne, ne_eq, beq_eq_false_iff_ne, bne_eq_false_iff_eq, Bool.not_eq_true, Bool.not_eq_false] at hc) <;> (try (exfalso; omega)) <;> (conv => whnf))))
    all_goals try exact absurd trivial hc
    refine aq.of [0, 1, 2] rfl (fun i hi => by have : i = 0 ∨ i = 1 := (by omega); rcases this with h | h <;> subst h <;> rfl) rfl ?_ ?_
    · exact .of_eq (congrArg (SV.sl _ _ _) (aD xs _ x (by omega)).symm)
    · refine ⟨⟨⟨rfl, rfl, (aD xs _ x (by omega)).symm⟩, fun i hi => ?_⟩, trivial⟩
      dsimp only
      rw [eT xs _ x (by omega)]
      simp only [cq]
      by_cases h : i < xs.length
      · rw [if_pos h, if_pos h]
      · rw [if_neg h, if_neg h, if_pos (by omega), show i - xs.length = 0 by omega]; rfl
theorem cG (xs : List Cel) (i : Nat) (x : Cel) (hi : i ≤ xs.length) (hn : xs.length ≤ 16777215) :
    Fun TC 67 2 [.sl 0 4 0 xs.length, .i .i64 i, .sl 1 4 0 1] [(0, some (aN 65 4 Cel.D xs)), (1, some (aN 65 4 Cel.D [x]))] 3 (.sl 2 4 0 (bE xs i x).length) [(0, none), (1, none), (2, some (aN 65 4 Cel.D (bE xs i x)))] := by
  by_cases hlt : i < xs.length
  · refine sS (C := TC) (z := 4) (enc := Cel.D) (zzb rfl) (.mk Tryz.func67 rfl rfl) (fun x => rfl) xs i x hlt ?_
    intro v vb cv vcur F vs w h1 h2 h3 h4 h5 h6 h7
    exact lE 0 v xs.length i vb cv vcur F vs w hi h1 (Nat.zero_le _) (by omega) h2 h3 h4 h5 h6 h7
  · obtain rfl : i = xs.length := by omega
    refine Fun.mk' Tryz.func67 rfl rfl (zzb rfl) (by decide) ?_
    (repeat' (first
    | with_reducible refine Wp.seq ?_
    | with_reducible refine Wp.block ?_
    | ((with_reducible first | refine Wp.region ?_ | refine Wp.drawL ac ?_ | refine Wp.cond ?_ | refine Wp.ret ?_ | refine Wp.skip ?_ | refine Wp.exit ?_ | refine Go.mk ?_ | apply ao.of); conv => whnf)
    | with_reducible exact rfl
    | ((with_reducible refine Ov.ok zO ?_); conv => whnf)
    | (with_reducible refine Ov.sh1 (by with_unfolding_all exact rfl) ?_)
    | ((with_reducible refine Ov.quo (by omega) (by omega) (by omega) (fun _ _ => ?_)); conv => whnf)
    | ((with_reducible refine And.intro (show ah _ _ _ _ = true by kernel_rfl) ?_); conv => whnf)
    | ((with_reducible refine And.intro zC ?_); conv => whnf)
    | ((with_reducible refine And.intro ?hb ?_); (case hb => exact ae (zzb rfl) (by omega)); (conv => whnf))
    | ((refine af.a rfl rfl rfl rfl rfl rfl ?hb ?_); (case hb => exact zB); (conv => whnf))
    | ((refine af.b rfl rfl rfl rfl rfl rfl rfl rfl ?hb ?ho ?_); (case hb => exact zB); (case ho => omega); (conv => whnf))
    | ((refine af.c rfl rfl rfl rfl rfl ?hb ?_); (case hb => exact zB); (conv => whnf))
    | ((refine af.d rfl rfl rfl rfl rfl rfl ?hb ?ho ?_); (case hb => exact zB); (case ho => omega); (conv => whnf))
    | (with_reducible refine Or.inl ?_)
    | ((with_reducible refine IxA.ptr ?_); conv => whnf)
    | ((with_reducible refine nil_no (by omega) ?_); (conv => whnf))
    | ((with_reducible refine ag ?_ (fun hn0 => ?_)) <;> (conv => whnf))
    
    | ((refine ap (fun hc => ?_) (fun hc => ?_)) <;> (try simp only [decide_eq_true_eq, decide_eq_false_iff_not, Q5, Q20, Bool.and_eq_false_iff, Bool.or_eq_false_iff, Bool.not_eq_true', Bool.not_eq_false', beq_iff_eq, bne_iff_ne, ne_eq, beq_eq_false_iff_ne, bne_eq_false_iff_eq, Bool.not_eq_true, Bool.not_eq_false] at hc) <;> (try (exfalso; omega)) <;> (conv => whnf))))
    all_goals try exact absurd trivial hc
    refine aq.of [0, 1, 2] rfl (fun i hi => by have : i = 0 ∨ i = 1 := (by omega); rcases this with h | h <;> subst h <;> rfl) rfl ?_ ?_
    · exact .of_eq (congrArg (SV.sl _ _ _) (aD xs _ x (by omega)).symm)
    · refine ⟨⟨⟨rfl, rfl, (aD xs _ x (by omega)).symm⟩, fun i hi => ?_⟩, trivial⟩
      dsimp only
      rw [eT xs _ x (by omega)]
      simp only [cq]
      by_cases h : i < xs.length
      · rw [if_pos h, if_pos h]
      · rw [if_neg h, if_neg h, if_pos (by omega), show i - xs.length = 0 by omega]; rfl
theorem cA (xs : List Int) (i : Nat) (hi : i < xs.length) (hn : xs.length ≤ 16777215) :
    Fun TC 81 1 [.sl 0 1 0 xs.length, .i .i64 i, .i .i64 ((i : Int) + 1)] [(0, some (aN 2 1 (ar .i64) xs))] 2 (.sl 1 1 0 (bY xs i).length) [(0, none), (1, some (aN 2 1 (ar .i64) (bY xs i)))] := by
  refine delFun (C := TC) (z := 1) (enc := ar .i64) (zzb rfl) (.mk Tryz.func81 rfl rfl) (fun x => rfl) xs i hi (by unfold maxLen; omega) ?_
  intro v F w h1 h2
  exact nD 0 v xs.length i F w hi h1 (by omega) h2
theorem pt (lt : Nat → Bool) : ∀ (q i j : Nat), i ≤ j → i ≤ bsF lt q i j ∧ bsF lt q i j ≤ j
  | 0, i, j, h => ⟨Q4 _, h⟩
  | q + 1, i, j, h => by
    unfold bsF
    split
    · split
      · have := pt lt q ((i + j) / 2 + 1) j (by omega); omega
      · have := pt lt q i ((i + j) / 2) (by omega); omega
    · omega
theorem bs_le (lt : Nat → Bool) (n : Nat) : bs lt n ≤ n := (pt lt (n + 1) 0 n (Nat.zero_le _)).2
theorem gn (xs : List Int) (n : Int) : bW xs n ≤ xs.length := bs_le _ _
theorem lg (xs : List Cel) (t : Cel) : a8 xs t ≤ xs.length := bs_le _ _
theorem lu {xs : List Int} {n : Int} (h : gw xs n = true) : bW xs n < xs.length := by simp [gw] at h; exact h.1
theorem iV (p : Int) (xs : List Int) : dQ p xs = 0 → 1 ≤ p ∧ p ≤ 64 ∧ (xs.length : Int) ≤ p := by
  unfold dQ; split
  · intro _; omega
  · intro h; omega
def aM (p : Int) (xs : List Int) (n : Int) : Int := if dI n = false then 1 else if dQ p xs ≠ 0 then dQ p xs else if gw xs n = true then 8 else if (xs.length : Int) = p then 9 else 0
def dC (p : Int) (xs : List Int) (n : Int) : List Int := if aM p xs n = 0 then bE xs (bW xs n) n else []
def m8 (p : Int) (xs : List Int) (n : Int) : Int := if aM p xs n = 0 then p else 0
theorem j9 (p : Int) (xs : List Int) (n : Int) : Pure TC 63 [.agg [.i .i64 p, .d (ak 1 (ar .i64) xs)], .i .i64 n] (.tup [.agg [.i .i64 (m8 p xs n), .d (ak 1 (ar .i64) (dC p xs n))], .i .i64 (aM p xs n)]) := by
  have hb := iV p xs
  have hp := gn xs n
  refine Pure.mk' Tryz.func63 rfl rfl (zzb rfl) ?_
  (repeat' (first
    | with_reducible refine Wp.seq ?_
    | with_reducible refine Wp.block ?_
    | ((with_reducible first | refine Wp.region ?_ | refine Wp.drawL ac ?_ | refine Wp.cond ?_ | refine Wp.ret ?_ | refine Wp.skip ?_ | refine Wp.exit ?_ | refine Go.mk ?_ | apply ao.of); conv => whnf)
    | with_reducible exact rfl
    | ((with_reducible refine Ov.ok zO ?_); conv => whnf)
    | (with_reducible refine Ov.sh1 (by with_unfolding_all exact rfl) ?_)
    | ((with_reducible refine Ov.quo (by omega) (by omega) (by omega) (fun _ _ => ?_)); conv => whnf)
    | ((with_reducible refine And.intro (show ah _ _ _ _ = true by kernel_rfl) ?_); conv => whnf)
    | ((with_reducible refine And.intro zC ?_); conv => whnf)
    | ((with_reducible refine And.intro ?hb ?_); (case hb => exact ae (zzb rfl) (by omega)); (conv => whnf))
    | ((refine af.a rfl rfl rfl rfl rfl rfl ?hb ?_); (case hb => exact zB); (conv => whnf))
    | ((refine af.b rfl rfl rfl rfl rfl rfl rfl rfl ?hb ?ho ?_); (case hb => exact zB); (case ho => omega); (conv => whnf))
    | ((refine af.c rfl rfl rfl rfl rfl ?hb ?_); (case hb => exact zB); (conv => whnf))
    | ((refine af.d rfl rfl rfl rfl rfl rfl ?hb ?ho ?_); (case hb => exact zB); (case ho => omega); (conv => whnf))
    | (with_reducible refine Or.inl ?_)
    | ((with_reducible refine IxA.ptr ?_); conv => whnf)
    | ((with_reducible refine nil_no (by omega) ?_); (conv => whnf))
    | ((with_reducible refine ag ?_ (fun hn0 => ?_)) <;> (conv => whnf))
    | ((with_reducible refine ab.pure (cO _) rfl rfl ?_); conv => whnf) | ((with_reducible refine ai.pure (cO _) rfl rfl ?_); conv => whnf)
    | ((with_reducible refine ab.pure (du _ _) rfl rfl ?_); conv => whnf) | ((with_reducible refine ai.pure (du _ _) rfl rfl ?_); conv => whnf)
    | ((with_reducible refine ab.pure (dq _ _ (by omega)) rfl rfl ?_); conv => whnf) | ((with_reducible refine ai.pure (dq _ _ (by omega)) rfl rfl ?_); conv => whnf)
    | ((refine ab.fn (cB xs (by omega)) [] rfl rfl rfl rfl rfl ?ha ?hh ?_); (case ha => exact zA); (case hh => exact zH); (conv => whnf))
    | ((refine ai.fn (cB xs (by omega)) [] [] rfl rfl rfl rfl rfl ?ha ?hh ?hs ?_); (case ha => exact zA); (case hh => exact zH); (case hs => exact zK); (conv => whnf)) | ((refine ai.new (cB xs (by omega)) [] [] rfl rfl rfl rfl rfl rfl ?ha ?hh ?hs ?_); (case ha => exact zA); (case hh => exact zH); (case hs => exact zK); (conv => whnf))
    | ((refine ab.fn (cz xs (bW xs n) n (by omega) (by omega)) [6,9] rfl rfl rfl rfl rfl ?ha ?hh ?_); (case ha => exact zA); (case hh => exact zH); (conv => whnf))
    | ((refine ai.fn (cz xs (bW xs n) n (by omega) (by omega)) [6,9] [6,9] rfl rfl rfl rfl rfl ?ha ?hh ?hs ?_); (case ha => exact zA); (case hh => exact zH); (case hs => exact zK); (conv => whnf)) | ((refine ai.new (cz xs (bW xs n) n (by omega) (by omega)) [6,9] [6,9] rfl rfl rfl rfl rfl rfl ?ha ?hh ?hs ?_); (case ha => exact zA); (case hh => exact zH); (case hs => exact zK); (conv => whnf))
    | ((refine ai.fn (cz xs (bW xs n) n (by omega) (by omega)) [6,9] [] rfl rfl rfl rfl rfl ?ha ?hh ?hs ?_); (case ha => exact zA); (case hh => exact zH); (case hs => exact zK); (conv => whnf)) | ((refine ai.new (cz xs (bW xs n) n (by omega) (by omega)) [6,9] [] rfl rfl rfl rfl rfl rfl ?ha ?hh ?hs ?_); (case ha => exact zA); (case hh => exact zH); (case hs => exact zK); (conv => whnf))
    | ((refine ap (fun hc => ?_) (fun hc => ?_)) <;> (try simp only [decide_eq_true_eq, decide_eq_false_iff_not, Q5, Q20, Bool.and_eq_false_iff, Bool.or_eq_false_iff, Bool.not_eq_true', Bool.not_eq_false', beq_iff_eq, bne_iff_ne, ne_eq, beq_eq_false_iff_ne, bne_eq_false_iff_eq, Bool.not_eq_true, Bool.not_eq_false] at hc) <;> (try (exfalso; omega)) <;> (conv => whnf))))
  · have h : aM p xs n = 1 := by simp [aM, hc]
    rw [m8, dC, h]; exact .tup (.cons (.agg (.cons (.rfl _) (.cons .nil .nil))) (.cons (.rfl _) .nil))
  · rename_i h1
    have h : aM p xs n = dQ p xs := by simp [aM, hc, h1]
    rw [m8, dC, h, if_neg hc, if_neg hc]; exact .tup (.cons (.agg (.cons (.rfl _) (.cons .nil .nil))) (.cons (.rfl _) .nil))
  · rename_i h1 h2
    have h : aM p xs n = 8 := by simp [aM, hc, h1, h2]
    rw [m8, dC, h]; exact .tup (.cons (.agg (.cons (.rfl _) (.cons .nil .nil))) (.cons (.rfl _) .nil))
  · rename_i h1 h2 h3
    have h : aM p xs n = 9 := by simp [aM, hc, h1, h2, h3]
    rw [m8, dC, h]; exact .tup (.cons (.agg (.cons (.rfl _) (.cons .nil .nil))) (.cons (.rfl _) .nil))
  · rename_i h1 h2 h3
    have h : aM p xs n = 0 := by simp [aM, hc, h1, h2, h3]
    rw [m8, dC, h, if_pos rfl, if_pos rfl]
    exact .tup (.cons (.agg (.cons (.rfl _) (.cons (SV.Le.sl fun i hi => by rw [Q19]) .nil))) (.cons (.rfl _) .nil))
def ck (p : Int) (xs : List Int) (n : Int) : Int := if dQ p xs ≠ 0 then dQ p xs else if gw xs n = true then 0 else 11
def eb (p : Int) (xs : List Int) (n : Int) : List Int := if ck p xs n = 0 then bY xs (bW xs n) else []
def rP (p : Int) (xs : List Int) (n : Int) : Int := if ck p xs n = 0 then p else 0
theorem kc (p : Int) (xs : List Int) (n : Int) : Pure TC 64 [.agg [.i .i64 p, .d (ak 1 (ar .i64) xs)], .i .i64 n] (.tup [.agg [.i .i64 (rP p xs n), .d (ak 1 (ar .i64) (eb p xs n))], .i .i64 (ck p xs n)]) := by
  have hb := iV p xs
  have hp := gn xs n
  have hl := lu (xs := xs) (n := n)
  refine Pure.mk' Tryz.func64 rfl rfl (zzb rfl) ?_
  (repeat' (first
    | with_reducible refine Wp.seq ?_
    | with_reducible refine Wp.block ?_
    | ((with_reducible first | refine Wp.region ?_ | refine Wp.drawL ac ?_ | refine Wp.cond ?_ | refine Wp.ret ?_ | refine Wp.skip ?_ | refine Wp.exit ?_ | refine Go.mk ?_ | apply ao.of); conv => whnf)
    | with_reducible exact rfl
    | ((with_reducible refine Ov.ok zO ?_); conv => whnf)
    | (with_reducible refine Ov.sh1 (by with_unfolding_all exact rfl) ?_)
    | ((with_reducible refine Ov.quo (by omega) (by omega) (by omega) (fun _ _ => ?_)); conv => whnf)
    | ((with_reducible refine And.intro (show ah _ _ _ _ = true by kernel_rfl) ?_); conv => whnf)
    | ((with_reducible refine And.intro zC ?_); conv => whnf)
    | ((with_reducible refine And.intro ?hb ?_); (case hb => exact ae (zzb rfl) (by omega)); (conv => whnf))
    | ((refine af.a rfl rfl rfl rfl rfl rfl ?hb ?_); (case hb => exact zB); (conv => whnf))
    | ((refine af.b rfl rfl rfl rfl rfl rfl rfl rfl ?hb ?ho ?_); (case hb => exact zB); (case ho => omega); (conv => whnf))
    | ((refine af.c rfl rfl rfl rfl rfl ?hb ?_); (case hb => exact zB); (conv => whnf))
    | ((refine af.d rfl rfl rfl rfl rfl rfl ?hb ?ho ?_); (case hb => exact zB); (case ho => omega); (conv => whnf))
    | (with_reducible refine Or.inl ?_)
    | ((with_reducible refine IxA.ptr ?_); conv => whnf)
    | ((with_reducible refine nil_no (by omega) ?_); (conv => whnf))
    | ((with_reducible refine ag ?_ (fun hn0 => ?_)) <;> (conv => whnf))
    | ((with_reducible refine ab.pure (du _ _) rfl rfl ?_); conv => whnf) | ((with_reducible refine ai.pure (du _ _) rfl rfl ?_); conv => whnf)
    | ((with_reducible refine ab.pure (dq _ _ (by omega)) rfl rfl ?_); conv => whnf) | ((with_reducible refine ai.pure (dq _ _ (by omega)) rfl rfl ?_); conv => whnf)
    | ((refine ab.fn (cB xs (by omega)) [] rfl rfl rfl rfl rfl ?ha ?hh ?_); (case ha => exact zA); (case hh => exact zH); (conv => whnf))
    | ((refine ai.fn (cB xs (by omega)) [] [] rfl rfl rfl rfl rfl ?ha ?hh ?hs ?_); (case ha => exact zA); (case hh => exact zH); (case hs => exact zK); (conv => whnf)) | ((refine ai.new (cB xs (by omega)) [] [] rfl rfl rfl rfl rfl rfl ?ha ?hh ?hs ?_); (case ha => exact zA); (case hh => exact zH); (case hs => exact zK); (conv => whnf))
    | ((refine ab.fn (cA xs (bW xs n) (hl (by assumption)) (by omega)) [6] rfl rfl rfl rfl rfl ?ha ?hh ?_); (case ha => exact zA); (case hh => exact zH); (conv => whnf))
    | ((refine ai.fn (cA xs (bW xs n) (hl (by assumption)) (by omega)) [6] [6] rfl rfl rfl rfl rfl ?ha ?hh ?hs ?_); (case ha => exact zA); (case hh => exact zH); (case hs => exact zK); (conv => whnf)) | ((refine ai.new (cA xs (bW xs n) (hl (by assumption)) (by omega)) [6] [6] rfl rfl rfl rfl rfl rfl ?ha ?hh ?hs ?_); (case ha => exact zA); (case hh => exact zH); (case hs => exact zK); (conv => whnf))
    | ((refine ai.fn (cA xs (bW xs n) (hl (by assumption)) (by omega)) [6] [] rfl rfl rfl rfl rfl ?ha ?hh ?hs ?_); (case ha => exact zA); (case hh => exact zH); (case hs => exact zK); (conv => whnf)) | ((refine ai.new (cA xs (bW xs n) (hl (by assumption)) (by omega)) [6] [] rfl rfl rfl rfl rfl rfl ?ha ?hh ?hs ?_); (case ha => exact zA); (case hh => exact zH); (case hs => exact zK); (conv => whnf))
    | ((refine ap (fun hc => ?_) (fun hc => ?_)) <;> (try simp only [decide_eq_true_eq, decide_eq_false_iff_not, Q5, Q20, Bool.and_eq_false_iff, Bool.or_eq_false_iff, Bool.not_eq_true', Bool.not_eq_false', beq_iff_eq, bne_iff_ne, ne_eq, beq_eq_false_iff_ne, bne_eq_false_iff_eq, Bool.not_eq_true, Bool.not_eq_false] at hc) <;> (try (exfalso; omega)) <;> (conv => whnf))))
  · have h : ck p xs n = dQ p xs := by simp [ck, hc]
    have h0 : ¬ ck p xs n = 0 := by rw [h]; exact hc
    rw [rP, eb, if_neg h0, if_neg h0, h]; exact .tup (.cons (.agg (.cons (.rfl _) (.cons .nil .nil))) (.cons (.rfl _) .nil))
  · rename_i h1
    have h : ck p xs n = 11 := by simp [ck, hc, h1]
    rw [rP, eb, h]; exact .tup (.cons (.agg (.cons (.rfl _) (.cons .nil .nil))) (.cons (.rfl _) .nil))
  · rename_i h1
    have h : ck p xs n = 0 := by simp [ck, hc, h1]
    rw [rP, eb, h, if_pos rfl, if_pos rfl]
    exact .tup (.cons (.agg (.cons (.rfl _) (.cons (SV.Le.sl fun i hi => by rw [Q19]) .nil))) (.cons (.rfl _) .nil))
def fS (p : Pol) (c : Cel) (n : Int) : Rpl := if aM p.permits c.held n = 0 then ⟨0, true, p.permits - (dC p.permits c.held n).length, 0, n, 0⟩ else ⟨aM p.permits c.held n, false, 0, 0, 0, 0⟩
def ff (p : Pol) (c : Cel) (n : Int) : Cel := if aM p.permits c.held n = 0 then ⟨c.pol, c.key, c.tat, dC p.permits c.held n⟩ else c
def jU (p : Pol) (c : Cel) (n : Int) : Rpl := if ck p.permits c.held n = 0 then ⟨0, true, p.permits - (eb p.permits c.held n).length, 0, 0, 0⟩ else ⟨ck p.permits c.held n, false, 0, 0, 0, 0⟩
def fA (p : Pol) (c : Cel) (n : Int) : Cel := if ck p.permits c.held n = 0 then ⟨c.pol, c.key, c.tat, eb p.permits c.held n⟩ else c
theorem k8 {p : Int} {xs : List Int} {n : Int} : aM p xs n = 0 ↔ dI n = true ∧ dQ p xs = 0 ∧ gw xs n = false ∧ ¬ (xs.length : Int) = p := by
  unfold aM
  by_cases h1 : dI n = false
  · rw [if_pos h1]; simp [h1]
  · rw [if_neg h1]
    by_cases h2 : dQ p xs = 0
    · rw [if_neg (fun h => h h2)]
      by_cases h3 : gw xs n = true
      · rw [if_pos h3]; simp [h3]
      · rw [if_neg h3]
        by_cases h4 : (xs.length : Int) = p
        · rw [if_pos h4]; simp [h4]
        · rw [if_neg h4]; simp_all
    · rw [if_pos h2]; simp [h2]
theorem jo {p : Int} {xs : List Int} {n : Int} : ck p xs n = 0 ↔ dQ p xs = 0 ∧ gw xs n = true := by
  unfold ck
  by_cases h2 : dQ p xs = 0
  · rw [if_neg (fun h => h h2)]
    by_cases h3 : gw xs n = true
    · rw [if_pos h3]; simp [h2, h3]
    · rw [if_neg h3]; simp [h3]
  · rw [if_pos h2]; simp [h2]
theorem lO {p : Int} {xs : List Int} {n : Int} (h : aM p xs n = 0) : 1 ≤ p ∧ p ≤ 64 ∧ ((dC p xs n).length : Int) ≤ p := by
  obtain ⟨_, h1, _, h2⟩ := k8.1 h
  have hb := iV p xs h1
  rw [dC, if_pos h, aD _ _ _ (gn _ _)]
  omega
theorem mz {p : Int} {xs : List Int} {n : Int} (h : ck p xs n = 0) : 1 ≤ p ∧ p ≤ 64 ∧ ((eb p xs n).length : Int) < p := by
  obtain ⟨h1, hh⟩ := jo.1 h
  have hb := iV p xs h1
  have := lu hh
  rw [eb, if_pos h, dj _ _ this]
  omega
theorem fw (p : Pol) (c : Cel) (n : Int) : Pure TC 46 [p.S, c.S, .i .i64 n] (.tup [(fS p c n).S, (ff p c n).S]) := by
  have hb := lO (p := p.permits) (xs := c.held) (n := n)
  refine Pure.mk' Tryz.func46 rfl rfl (zzb rfl) ?_
  (repeat' (first
    | with_reducible refine Wp.seq ?_
    | with_reducible refine Wp.block ?_
    | ((with_reducible first | refine Wp.region ?_ | refine Wp.drawL ac ?_ | refine Wp.cond ?_ | refine Wp.ret ?_ | refine Wp.skip ?_ | refine Wp.exit ?_ | refine Go.mk ?_ | apply ao.of); conv => whnf)
    | with_reducible exact rfl
    | ((with_reducible refine Ov.ok zO ?_); conv => whnf)
    | (with_reducible refine Ov.sh1 (by with_unfolding_all exact rfl) ?_)
    | ((with_reducible refine Ov.quo (by omega) (by omega) (by omega) (fun _ _ => ?_)); conv => whnf)
    | ((with_reducible refine And.intro (show ah _ _ _ _ = true by kernel_rfl) ?_); conv => whnf)
    | ((with_reducible refine And.intro zC ?_); conv => whnf)
    | ((with_reducible refine And.intro ?hb ?_); (case hb => exact ae (zzb rfl) (by omega)); (conv => whnf))
    | ((refine af.a rfl rfl rfl rfl rfl rfl ?hb ?_); (case hb => exact zB); (conv => whnf))
    | ((refine af.b rfl rfl rfl rfl rfl rfl rfl rfl ?hb ?ho ?_); (case hb => exact zB); (case ho => omega); (conv => whnf))
    | ((refine af.c rfl rfl rfl rfl rfl ?hb ?_); (case hb => exact zB); (conv => whnf))
    | ((refine af.d rfl rfl rfl rfl rfl rfl ?hb ?ho ?_); (case hb => exact zB); (case ho => omega); (conv => whnf))
    | (with_reducible refine Or.inl ?_)
    | ((with_reducible refine IxA.ptr ?_); conv => whnf)
    | ((with_reducible refine nil_no (by omega) ?_); (conv => whnf))
    | ((with_reducible refine ag ?_ (fun hn0 => ?_)) <;> (conv => whnf))
    | ((with_reducible refine ab.pure (j9 _ _ _) rfl rfl ?_); conv => whnf) | ((with_reducible refine ai.pure (j9 _ _ _) rfl rfl ?_); conv => whnf)
    | ((refine ap (fun hc => ?_) (fun hc => ?_)) <;> (try simp only [decide_eq_true_eq, decide_eq_false_iff_not, Q5, Q20, Bool.and_eq_false_iff, Bool.or_eq_false_iff, Bool.not_eq_true', Bool.not_eq_false', beq_iff_eq, bne_iff_ne, ne_eq, beq_eq_false_iff_ne, bne_eq_false_iff_eq, Bool.not_eq_true, Bool.not_eq_false] at hc) <;> (try (exfalso; omega)) <;> (conv => whnf))))
  · rw [fS, ff, if_neg hc, if_neg hc]; exact .rfl _
  · rw [fS, ff, if_pos hc, if_pos hc]; exact .rfl _
theorem fv (p : Pol) (c : Cel) (n : Int) : Pure TC 47 [p.S, c.S, .i .i64 n] (.tup [(jU p c n).S, (fA p c n).S]) := by
  have hb := mz (p := p.permits) (xs := c.held) (n := n)
  refine Pure.mk' Tryz.func47 rfl rfl (zzb rfl) ?_
  (repeat' (first
    | with_reducible refine Wp.seq ?_
    | with_reducible refine Wp.block ?_
    | ((with_reducible first | refine Wp.region ?_ | refine Wp.drawL ac ?_ | refine Wp.cond ?_ | refine Wp.ret ?_ | refine Wp.skip ?_ | refine Wp.exit ?_ | refine Go.mk ?_ | apply ao.of); conv => whnf)
    | with_reducible exact rfl
    | ((with_reducible refine Ov.ok zO ?_); conv => whnf)
    | (with_reducible refine Ov.sh1 (by with_unfolding_all exact rfl) ?_)
    | ((with_reducible refine Ov.quo (by omega) (by omega) (by omega) (fun _ _ => ?_)); conv => whnf)
    | ((with_reducible refine And.intro (show ah _ _ _ _ = true by kernel_rfl) ?_); conv => whnf)
    | ((with_reducible refine And.intro zC ?_); conv => whnf)
    | ((with_reducible refine And.intro ?hb ?_); (case hb => exact ae (zzb rfl) (by omega)); (conv => whnf))
    | ((refine af.a rfl rfl rfl rfl rfl rfl ?hb ?_); (case hb => exact zB); (conv => whnf))
    | ((refine af.b rfl rfl rfl rfl rfl rfl rfl rfl ?hb ?ho ?_); (case hb => exact zB); (case ho => omega); (conv => whnf))
    | ((refine af.c rfl rfl rfl rfl rfl ?hb ?_); (case hb => exact zB); (conv => whnf))
    | ((refine af.d rfl rfl rfl rfl rfl rfl ?hb ?ho ?_); (case hb => exact zB); (case ho => omega); (conv => whnf))
    | (with_reducible refine Or.inl ?_)
    | ((with_reducible refine IxA.ptr ?_); conv => whnf)
    | ((with_reducible refine nil_no (by omega) ?_); (conv => whnf))
    | ((with_reducible refine ag ?_ (fun hn0 => ?_)) <;> (conv => whnf))
    | ((with_reducible refine ab.pure (kc _ _ _) rfl rfl ?_); conv => whnf) | ((with_reducible refine ai.pure (kc _ _ _) rfl rfl ?_); conv => whnf)
    | ((refine ap (fun hc => ?_) (fun hc => ?_)) <;> (try simp only [decide_eq_true_eq, decide_eq_false_iff_not, Q5, Q20, Bool.and_eq_false_iff, Bool.or_eq_false_iff, Bool.not_eq_true', Bool.not_eq_false', beq_iff_eq, bne_iff_ne, ne_eq, beq_eq_false_iff_ne, bne_eq_false_iff_eq, Bool.not_eq_true, Bool.not_eq_false] at hc) <;> (try (exfalso; omega)) <;> (conv => whnf))))
  · rw [jU, fA, if_neg hc, if_neg hc]; exact .rfl _
  · rw [jU, fA, if_pos hc, if_pos hc]; exact .rfl _
theorem fu (xs : List Int) (hn : xs.length ≤ 16777216) : Pure TC 66 [.d (ak 1 (ar .u8) xs)] (.d (ak 1 (ar .u8) xs)) := by
  refine Pure.mk' Tryz.func66 rfl rfl (zzb rfl) ?_
  (repeat' (first
    | with_reducible refine Wp.seq ?_
    | with_reducible refine Wp.block ?_
    | ((with_reducible first | refine Wp.region ?_ | refine Wp.drawL ac ?_ | refine Wp.cond ?_ | refine Wp.ret ?_ | refine Wp.skip ?_ | refine Wp.exit ?_ | refine Go.mk ?_ | apply ao.of); conv => whnf)
    | with_reducible exact rfl
    | ((with_reducible refine Ov.ok zO ?_); conv => whnf)
    | (with_reducible refine Ov.sh1 (by with_unfolding_all exact rfl) ?_)
    | ((with_reducible refine Ov.quo (by omega) (by omega) (by omega) (fun _ _ => ?_)); conv => whnf)
    | ((with_reducible refine And.intro (show ah _ _ _ _ = true by kernel_rfl) ?_); conv => whnf)
    | ((with_reducible refine And.intro zC ?_); conv => whnf)
    | ((with_reducible refine And.intro ?hb ?_); (case hb => exact ae (zzb rfl) (by omega)); (conv => whnf))
    | ((refine af.a rfl rfl rfl rfl rfl rfl ?hb ?_); (case hb => exact zB); (conv => whnf))
    | ((refine af.b rfl rfl rfl rfl rfl rfl rfl rfl ?hb ?ho ?_); (case hb => exact zB); (case ho => omega); (conv => whnf))
    | ((refine af.c rfl rfl rfl rfl rfl ?hb ?_); (case hb => exact zB); (conv => whnf))
    | ((refine af.d rfl rfl rfl rfl rfl rfl ?hb ?ho ?_); (case hb => exact zB); (case ho => omega); (conv => whnf))
    | (with_reducible refine Or.inl ?_)
    | ((with_reducible refine IxA.ptr ?_); conv => whnf)
    | ((with_reducible refine nil_no (by omega) ?_); (conv => whnf))
    | ((with_reducible refine ag ?_ (fun hn0 => ?_)) <;> (conv => whnf))
    
    | ((refine ap (fun hc => ?_) (fun hc => ?_)) <;> (try simp only [decide_eq_true_eq, decide_eq_false_iff_not, Q5, Q20, Bool.and_eq_false_iff, Bool.or_eq_false_iff, Bool.not_eq_true', Bool.not_eq_false', beq_iff_eq, bne_iff_ne, ne_eq, beq_eq_false_iff_ne, bne_eq_false_iff_eq, Bool.not_eq_true, Bool.not_eq_false] at hc) <;> (try (exfalso; omega)) <;> (conv => whnf))))
  · rw [Q19]; exact SV.Le.sl fun i hi => by simp [cq]
  · obtain rfl := List.eq_nil_of_length_eq_zero hn0
    exact SV.Le.nil
theorem io (xs : List Pol) (hn : xs.length ≤ 16777216) : Pure TC 38 [.d (ak 4 Pol.D xs)] (.d (ak 4 Pol.D xs)) := by
  refine Pure.mk' Tryz.func38 rfl rfl (zzb rfl) ?_
  (repeat' (first
    | with_reducible refine Wp.seq ?_
    | with_reducible refine Wp.block ?_
    | ((with_reducible first | refine Wp.region ?_ | refine Wp.drawL ac ?_ | refine Wp.cond ?_ | refine Wp.ret ?_ | refine Wp.skip ?_ | refine Wp.exit ?_ | refine Go.mk ?_ | apply ao.of); conv => whnf)
    | with_reducible exact rfl
    | ((with_reducible refine Ov.ok zO ?_); conv => whnf)
    | (with_reducible refine Ov.sh1 (by with_unfolding_all exact rfl) ?_)
    | ((with_reducible refine Ov.quo (by omega) (by omega) (by omega) (fun _ _ => ?_)); conv => whnf)
    | ((with_reducible refine And.intro (show ah _ _ _ _ = true by kernel_rfl) ?_); conv => whnf)
    | ((with_reducible refine And.intro zC ?_); conv => whnf)
    | ((with_reducible refine And.intro ?hb ?_); (case hb => exact ae (zzb rfl) (by omega)); (conv => whnf))
    | ((refine af.a rfl rfl rfl rfl rfl rfl ?hb ?_); (case hb => exact zB); (conv => whnf))
    | ((refine af.b rfl rfl rfl rfl rfl rfl rfl rfl ?hb ?ho ?_); (case hb => exact zB); (case ho => omega); (conv => whnf))
    | ((refine af.c rfl rfl rfl rfl rfl ?hb ?_); (case hb => exact zB); (conv => whnf))
    | ((refine af.d rfl rfl rfl rfl rfl rfl ?hb ?ho ?_); (case hb => exact zB); (case ho => omega); (conv => whnf))
    | (with_reducible refine Or.inl ?_)
    | ((with_reducible refine IxA.ptr ?_); conv => whnf)
    | ((with_reducible refine nil_no (by omega) ?_); (conv => whnf))
    | ((with_reducible refine ag ?_ (fun hn0 => ?_)) <;> (conv => whnf))
    
    | ((refine ap (fun hc => ?_) (fun hc => ?_)) <;> (try simp only [decide_eq_true_eq, decide_eq_false_iff_not, Q5, Q20, Bool.and_eq_false_iff, Bool.or_eq_false_iff, Bool.not_eq_true', Bool.not_eq_false', beq_iff_eq, bne_iff_ne, ne_eq, beq_eq_false_iff_ne, bne_eq_false_iff_eq, Bool.not_eq_true, Bool.not_eq_false] at hc) <;> (try (exfalso; omega)) <;> (conv => whnf))))
  · rw [Q19]; exact SV.Le.sl fun i hi => by simp [cq]
  · obtain rfl := List.eq_nil_of_length_eq_zero hn0
    exact SV.Le.nil
def c5 (xs : List Cel) (at' : Nat) (there : Bool) (c : Cel) : List Cel := if there = true then xs.set at' c else bE xs at' c
theorem aF (xs : List Cel) (at' : Nat) (there : Bool) (c : Cel) (hn : xs.length ≤ 16777215) (hk : c.key.length ≤ 16777216) (h1 : at' ≤ xs.length) (h2 : there = true → at' < xs.length) :
    Fun TC 48 1 [.sl 0 4 0 xs.length, .i .i64 at', .b there, c.S] [(0, some (aN 65 4 Cel.D xs))] 2 (.sl 1 4 0 (c5 xs at' there c).length) [(0, some (aN 65 4 Cel.D xs)), (1, some (aN 65 4 Cel.D (c5 xs at' there c)))] := by
  cases there with
  | true =>
    have h2 := h2 rfl
    refine Fun.mk' Tryz.func48 rfl rfl (zzb rfl) (by decide) ?_
    (repeat' (first
    | with_reducible refine Wp.seq ?_
    | with_reducible refine Wp.block ?_
    | ((with_reducible first | refine Wp.region ?_ | refine Wp.drawL ac ?_ | refine Wp.cond ?_ | refine Wp.ret ?_ | refine Wp.skip ?_ | refine Wp.exit ?_ | refine Go.mk ?_ | apply ao.of); conv => whnf)
    | with_reducible exact rfl
    | ((with_reducible refine Ov.ok zO ?_); conv => whnf)
    | (with_reducible refine Ov.sh1 (by with_unfolding_all exact rfl) ?_)
    | ((with_reducible refine Ov.quo (by omega) (by omega) (by omega) (fun _ _ => ?_)); conv => whnf)
    | ((with_reducible refine And.intro (show ah _ _ _ _ = true by kernel_rfl) ?_); conv => whnf)
    | ((with_reducible refine And.intro zC ?_); conv => whnf)
    | ((with_reducible refine And.intro ?hb ?_); (case hb => exact ae (zzb rfl) (by omega)); (conv => whnf))
    | ((refine af.a rfl rfl rfl rfl rfl rfl ?hb ?_); (case hb => exact zB); (conv => whnf))
    | ((refine af.b rfl rfl rfl rfl rfl rfl rfl rfl ?hb ?ho ?_); (case hb => exact zB); (case ho => omega); (conv => whnf))
    | ((refine af.c rfl rfl rfl rfl rfl ?hb ?_); (case hb => exact zB); (conv => whnf))
    | ((refine af.d rfl rfl rfl rfl rfl rfl ?hb ?ho ?_); (case hb => exact zB); (case ho => omega); (conv => whnf))
    | (with_reducible refine Or.inl ?_)
    | ((with_reducible refine IxA.ptr ?_); conv => whnf)
    | ((with_reducible refine nil_no (by omega) ?_); (conv => whnf))
    | ((with_reducible refine ag ?_ (fun hn0 => ?_)) <;> (conv => whnf))
    | ((refine ab.fn (az xs (by omega)) [0] rfl rfl rfl rfl rfl ?ha ?hh ?_); (case ha => exact zA); (case hh => exact zH); (conv => whnf))
    | ((refine ai.fn (az xs (by omega)) [0] [0] rfl rfl rfl rfl rfl ?ha ?hh ?hs ?_); (case ha => exact zA); (case hh => exact zH); (case hs => exact zK); (conv => whnf)) | ((refine ai.new (az xs (by omega)) [0] [0] rfl rfl rfl rfl rfl rfl ?ha ?hh ?hs ?_); (case ha => exact zA); (case hh => exact zH); (case hs => exact zK); (conv => whnf))
    | ((refine ai.fn (az xs (by omega)) [0] [] rfl rfl rfl rfl rfl ?ha ?hh ?hs ?_); (case ha => exact zA); (case hh => exact zH); (case hs => exact zK); (conv => whnf)) | ((refine ai.new (az xs (by omega)) [0] [] rfl rfl rfl rfl rfl rfl ?ha ?hh ?hs ?_); (case ha => exact zA); (case hh => exact zH); (case hs => exact zK); (conv => whnf))
    | ((refine ap (fun hc => ?_) (fun hc => ?_)) <;> (try simp only [decide_eq_true_eq, decide_eq_false_iff_not, Q5, Q20, Bool.and_eq_false_iff, Bool.or_eq_false_iff, Bool.not_eq_true', Bool.not_eq_false', beq_iff_eq, bne_iff_ne, ne_eq, beq_eq_false_iff_ne, bne_eq_false_iff_eq, Bool.not_eq_true, Bool.not_eq_false] at hc) <;> (try (exfalso; omega)) <;> (conv => whnf))))
    refine aq.of [0, 2] rfl (fun i hi => by obtain rfl : i = 0 := (by omega); rfl) rfl ?_ ?_
    · exact .of_eq (congrArg (SV.sl _ _ _) (by simp [c5]))
    · refine ⟨⟨⟨rfl, rfl, rfl⟩, fun i hi => rfl⟩, ⟨⟨rfl, rfl, by simp [c5]⟩, fun i hi => ?_⟩, trivial⟩
      simp only [c5, if_true, Q1, List.getElem?_set]
      by_cases h : at' = i
      · subst h; simp [h2]; rfl
      · rw [if_neg h, if_neg (fun e => h (by omega))]
  | false =>
    refine Fun.mk' Tryz.func48 rfl rfl (zzb rfl) (by decide) ?_
    (repeat' (first
    | with_reducible refine Wp.seq ?_
    | with_reducible refine Wp.block ?_
    | ((with_reducible first | refine Wp.region ?_ | refine Wp.drawL ac ?_ | refine Wp.cond ?_ | refine Wp.ret ?_ | refine Wp.skip ?_ | refine Wp.exit ?_ | refine Go.mk ?_ | apply ao.of); conv => whnf)
    | with_reducible exact rfl
    | ((with_reducible refine Ov.ok zO ?_); conv => whnf)
    | (with_reducible refine Ov.sh1 (by with_unfolding_all exact rfl) ?_)
    | ((with_reducible refine Ov.quo (by omega) (by omega) (by omega) (fun _ _ => ?_)); conv => whnf)
    | ((with_reducible refine And.intro (show ah _ _ _ _ = true by kernel_rfl) ?_); conv => whnf)
    | ((with_reducible refine And.intro zC ?_); conv => whnf)
    | ((with_reducible refine And.intro ?hb ?_); (case hb => exact ae (zzb rfl) (by omega)); (conv => whnf))
    | ((refine af.a rfl rfl rfl rfl rfl rfl ?hb ?_); (case hb => exact zB); (conv => whnf))
    | ((refine af.b rfl rfl rfl rfl rfl rfl rfl rfl ?hb ?ho ?_); (case hb => exact zB); (case ho => omega); (conv => whnf))
    | ((refine af.c rfl rfl rfl rfl rfl ?hb ?_); (case hb => exact zB); (conv => whnf))
    | ((refine af.d rfl rfl rfl rfl rfl rfl ?hb ?ho ?_); (case hb => exact zB); (case ho => omega); (conv => whnf))
    | (with_reducible refine Or.inl ?_)
    | ((with_reducible refine IxA.ptr ?_); conv => whnf)
    | ((with_reducible refine nil_no (by omega) ?_); (conv => whnf))
    | ((with_reducible refine ag ?_ (fun hn0 => ?_)) <;> (conv => whnf))
    | ((refine ab.fn (az xs (by omega)) [0] rfl rfl rfl rfl rfl ?ha ?hh ?_); (case ha => exact zA); (case hh => exact zH); (conv => whnf))
    | ((refine ai.fn (az xs (by omega)) [0] [0] rfl rfl rfl rfl rfl ?ha ?hh ?hs ?_); (case ha => exact zA); (case hh => exact zH); (case hs => exact zK); (conv => whnf)) | ((refine ai.new (az xs (by omega)) [0] [0] rfl rfl rfl rfl rfl rfl ?ha ?hh ?hs ?_); (case ha => exact zA); (case hh => exact zH); (case hs => exact zK); (conv => whnf))
    | ((refine ai.fn (az xs (by omega)) [0] [] rfl rfl rfl rfl rfl ?ha ?hh ?hs ?_); (case ha => exact zA); (case hh => exact zH); (case hs => exact zK); (conv => whnf)) | ((refine ai.new (az xs (by omega)) [0] [] rfl rfl rfl rfl rfl rfl ?ha ?hh ?hs ?_); (case ha => exact zA); (case hh => exact zH); (case hs => exact zK); (conv => whnf))
    | ((with_reducible refine ab.pure (fu _ (by omega)) rfl rfl ?_); conv => whnf) | ((with_reducible refine ai.pure (fu _ (by omega)) rfl rfl ?_); conv => whnf)
    | ((refine ab.fn (cG xs at' c (by omega) (by omega)) [2,3] rfl rfl rfl rfl rfl ?ha ?hh ?_); (case ha => exact zA); (case hh => exact zH); (conv => whnf))
    | ((refine ai.fn (cG xs at' c (by omega) (by omega)) [2,3] [2,3] rfl rfl rfl rfl rfl ?ha ?hh ?hs ?_); (case ha => exact zA); (case hh => exact zH); (case hs => exact zK); (conv => whnf)) | ((refine ai.new (cG xs at' c (by omega) (by omega)) [2,3] [2,3] rfl rfl rfl rfl rfl rfl ?ha ?hh ?hs ?_); (case ha => exact zA); (case hh => exact zH); (case hs => exact zK); (conv => whnf))
    | ((refine ai.fn (cG xs at' c (by omega) (by omega)) [2,3] [] rfl rfl rfl rfl rfl ?ha ?hh ?hs ?_); (case ha => exact zA); (case hh => exact zH); (case hs => exact zK); (conv => whnf)) | ((refine ai.new (cG xs at' c (by omega) (by omega)) [2,3] [] rfl rfl rfl rfl rfl rfl ?ha ?hh ?hs ?_); (case ha => exact zA); (case hh => exact zH); (case hs => exact zK); (conv => whnf))
    | ((refine ap (fun hc => ?_) (fun hc => ?_)) <;> (try simp only [decide_eq_true_eq, decide_eq_false_iff_not, Q5, Q20, Bool.and_eq_false_iff, Bool.or_eq_false_iff, Bool.not_eq_true', Bool.not_eq_false', beq_iff_eq, bne_iff_ne, ne_eq, beq_eq_false_iff_ne, bne_eq_false_iff_eq, Bool.not_eq_true, Bool.not_eq_false] at hc) <;> (try (exfalso; omega)) <;> (conv => whnf))))
    refine aq.of [0, 4] rfl (fun i hi => by obtain rfl : i = 0 := (by omega); rfl) rfl ?_ ?_
    · exact .rfl _
    · exact ⟨⟨⟨rfl, rfl, rfl⟩, fun i hi => rfl⟩, ⟨⟨rfl, rfl, rfl⟩, fun i hi => rfl⟩, trivial⟩
@[reducible] def evH (ps : List Pol) (room now : Int) (k n : Nat) (xs : List Cel) : List (Nat × Option Blk) :=
  [(0, some (.row 65 4 n fun i => (xs.getD i default).D)), (1, some (.cells [.d (ak 4 Pol.D ps), .i .i64 room, .sl 0 4 0 k])), (2, some (.cells [.ptr 1 0])), (3, some (.cells [.i .i64 now]))]
theorem cn (ps : List Pol) (room now : Int) (k n : Nat) (xs : List Cel) (c : Cel) (h0 : 0 ≤ c.pol) (h1 : c.pol < ps.length) :
    Fun TC 41 4 [c.S, .ptr 2 0, .ptr 3 0] (evH ps room now k n xs) 4 (.b (aQ ps c now)) (evH ps room now k n xs) := by
  refine Fun.mk' Tryz.func41 rfl rfl (zzb rfl) (by decide) ?_
  (repeat' (first
    | with_reducible refine Wp.seq ?_
    | with_reducible refine Wp.block ?_
    | ((with_reducible first | refine Wp.region ?_ | refine Wp.drawL ac ?_ | refine Wp.cond ?_ | refine Wp.ret ?_ | refine Wp.skip ?_ | refine Wp.exit ?_ | refine Go.mk ?_ | apply ao.of); conv => whnf)
    | with_reducible exact rfl
    | ((with_reducible refine Ov.ok zO ?_); conv => whnf)
    | (with_reducible refine Ov.sh1 (by with_unfolding_all exact rfl) ?_)
    | ((with_reducible refine Ov.quo (by omega) (by omega) (by omega) (fun _ _ => ?_)); conv => whnf)
    | ((with_reducible refine And.intro (show ah _ _ _ _ = true by kernel_rfl) ?_); conv => whnf)
    | ((with_reducible refine And.intro zC ?_); conv => whnf)
    | ((with_reducible refine And.intro ?hb ?_); (case hb => exact ae (zzb rfl) (by omega)); (conv => whnf))
    | ((refine af.a rfl rfl rfl rfl rfl rfl ?hb ?_); (case hb => exact zB); (conv => whnf))
    | ((refine af.b rfl rfl rfl rfl rfl rfl rfl rfl ?hb ?ho ?_); (case hb => exact zB); (case ho => omega); (conv => whnf))
    | ((refine af.c rfl rfl rfl rfl rfl ?hb ?_); (case hb => exact zB); (conv => whnf))
    | ((refine af.d rfl rfl rfl rfl rfl rfl ?hb ?ho ?_); (case hb => exact zB); (case ho => omega); (conv => whnf))
    | (with_reducible refine Or.inl ?_)
    | ((with_reducible refine IxA.ptr ?_); conv => whnf)
    | ((with_reducible refine nil_no (by omega) ?_); (conv => whnf))
    | ((with_reducible refine ag ?_ (fun hn0 => ?_)) <;> (conv => whnf))
    | ((with_reducible refine ab.pure (kT ps c now h0 h1) rfl rfl ?_); conv => whnf) | ((with_reducible refine ai.pure (kT ps c now h0 h1) rfl rfl ?_); conv => whnf)
    | ((refine ap (fun hc => ?_) (fun hc => ?_)) <;> (try simp only [decide_eq_true_eq, decide_eq_false_iff_not, Q5, Q20, Bool.and_eq_false_iff, Bool.or_eq_false_iff, Bool.not_eq_true', Bool.not_eq_false', beq_iff_eq, bne_iff_ne, ne_eq, beq_eq_false_iff_ne, bne_eq_false_iff_eq, Bool.not_eq_true, Bool.not_eq_false] at hc) <;> (try (exfalso; omega)) <;> (conv => whnf))))
  refine aq.of [0, 1, 2, 3] rfl (fun i hi => by have : i = 0 ∨ i = 1 ∨ i = 2 ∨ i = 3 := (by omega); rcases this with h | h | h | h <;> subst h <;> rfl) rfl ?_ ?_
  · exact .rfl _
  · ((conv => whnf); repeat' (first | exact trivial | exact SV.Le.rfl _ | exact ⟨rfl, rfl, rfl⟩ | exact fun i hi => rfl | ((with_reducible refine And.intro ?_ ?_) <;> (conv => whnf))))
def fst (p : Cel → Bool) : List Cel → Nat
  | [] => 0
  | c :: r => if p c = true then 0 else fst p r + 1
theorem sY (p : Cel → Bool) : ∀ xs : List Cel, fst p xs ≤ xs.length
  | [] => Q4 _
  | c :: r => by unfold fst; split <;> simp [sY p r]
theorem jq (p : Cel → Bool) : ∀ (xs : List Cel) (k : Nat), k ≤ xs.length → (∀ j, j < k → p (xs.getD j default) = false) → fst p xs = k + fst p (xs.drop k)
  | xs, 0, _, _ => by simp
  | [], k + 1, h, _ => by simp at h
  | c :: r, k + 1, h, hp => by
    have h0 := hp 0 (by omega)
    rw [fst, if_neg (by simpa using h0), List.drop_succ_cons, jq p r k (by simpa using h) (fun j hj => by simpa using hp (j + 1) (by omega))]
    omega
theorem mB (p : Cel → Bool) : ∀ (xs : List Cel) (j : Nat), j < fst p xs → p (xs.getD j default) = false
  | [], j, h => by simp [fst] at h
  | c :: r, j, h => by
    unfold fst at h
    split at h
    · omega
    · cases j with
      | zero => simpa using (by assumption : ¬ p c = true)
      | succ j => simpa using mB p r j (by omega)
theorem oV (p : Cel → Bool) : ∀ (xs : List Cel), fst p xs < xs.length → p (xs.getD (fst p xs) default) = true
  | [], h => by simp at h
  | c :: r, h => by
    unfold fst at h ⊢
    split
    · simpa
    · rename_i hc; rw [if_neg hc] at h; simpa using oV p r (by simpa using h)
theorem lN (p : Cel → Bool) (xs : List Cel) : ∀ k, k ≤ fst p xs → (xs.take k).filter (fun c => !p c) = xs.take k := by
  intro k hk
  rw [List.filter_eq_self]
  intro c hc
  obtain ⟨j, hj, rfl⟩ := List.getElem_of_mem hc
  simp at hj
  have := mB p xs j (by omega)
  rw [Q1, Q0 (by omega)] at this
  simpa using this
theorem bA (ps : List Pol) (room now : Int) (k : Nat) (xs : List Cel) (hp : ∀ j, j < xs.length → 0 ≤ (xs.getD j default).pol ∧ (xs.getD j default).pol < ps.length) (hlen : xs.length ≤ 4611686018427387903) :
    Fun TC 57 4 [.sl 0 4 0 xs.length, .fn (.func 41) [.ptr 2 0, .ptr 3 0]] (evH ps room now k xs.length xs) 4 (.i .i64 (if fst (fun c => aQ ps c now) xs < xs.length then fst (fun c => aQ ps c now) xs else -1)) (evH ps room now k xs.length xs) := by
  refine Fun.mk' Tryz.func57 rfl rfl (zzb rfl) (by decide) ?_
  (repeat' (first
    | with_reducible refine Wp.seq ?_
    | with_reducible refine Wp.block ?_
    | ((with_reducible first | refine Wp.region ?_ | refine Wp.drawL ac ?_ | refine Wp.cond ?_ | refine Wp.ret ?_ | refine Wp.skip ?_ | refine Wp.exit ?_ | refine Go.mk ?_ | apply ao.of); conv => whnf)
    | with_reducible exact rfl
    | ((with_reducible refine Ov.ok zO ?_); conv => whnf)
    | (with_reducible refine Ov.sh1 (by with_unfolding_all exact rfl) ?_)
    | ((with_reducible refine Ov.quo (by omega) (by omega) (by omega) (fun _ _ => ?_)); conv => whnf)
    | ((with_reducible refine And.intro (show ah _ _ _ _ = true by kernel_rfl) ?_); conv => whnf)
    | ((with_reducible refine And.intro zC ?_); conv => whnf)
    | ((with_reducible refine And.intro ?hb ?_); (case hb => exact ae (zzb rfl) (by omega)); (conv => whnf))
    | ((refine af.a rfl rfl rfl rfl rfl rfl ?hb ?_); (case hb => exact zB); (conv => whnf))
    | ((refine af.b rfl rfl rfl rfl rfl rfl rfl rfl ?hb ?ho ?_); (case hb => exact zB); (case ho => omega); (conv => whnf))
    | ((refine af.c rfl rfl rfl rfl rfl ?hb ?_); (case hb => exact zB); (conv => whnf))
    | ((refine af.d rfl rfl rfl rfl rfl rfl ?hb ?ho ?_); (case hb => exact zB); (case ho => omega); (conv => whnf))
    | (with_reducible refine Or.inl ?_)
    | ((with_reducible refine IxA.ptr ?_); conv => whnf)
    | ((with_reducible refine nil_no (by omega) ?_); (conv => whnf))
    | ((with_reducible refine ag ?_ (fun hn0 => ?_)) <;> (conv => whnf))
    
    | ((refine ap (fun hc => ?_) (fun hc => ?_)) <;> (try simp only [decide_eq_true_eq, decide_eq_false_iff_not, Q5, Q20, Bool.and_eq_false_iff, Bool.or_eq_false_iff, Bool.not_eq_true', Bool.not_eq_false', beq_iff_eq, bne_iff_ne, ne_eq, beq_eq_false_iff_ne, bne_eq_false_iff_eq, Bool.not_eq_true, Bool.not_eq_false] at hc) <;> (try (exfalso; omega)) <;> (conv => whnf))))
  refine Wp.loopP (ι := Nat) (fun i => i ≤ xs.length ∧ ∀ j, j < i → aQ ps (xs.getD j default) now = false) (fun i => ⟨⟨Tryz.f57.ntmps, 4⟩, 4, [(0, .sl 0 4 0 xs.length), (1, .fn (.func 41) [.ptr 2 0, .ptr 3 0]), (7, .i .i64 xs.length), (8, .i .i64 i)], evH ps room now k xs.length xs⟩) (fun i => xs.length - i) 0 ⟨by simp, by simp⟩ ?_ ?_
  · (refine Le.by [0,1,2,3] rfl rfl rfl rfl ?_ ?_ <;> (conv => whnf) <;> (repeat' (first | exact trivial | exact aa.rfl rfl | exact aa.ptr rfl | exact aa.sl rfl | ((with_reducible refine aa.fn ?_); (conv => whnf)) | ((refine aa.iref ?_); (conv => whnf)) | exact ⟨rfl, rfl, rfl⟩ | exact fun i hi => rfl | ((with_reducible refine And.intro ?_ ?_) <;> (conv => whnf)))))
  · rintro i ⟨h1, h2⟩
    (repeat' (first
    | with_reducible refine Wp.seq ?_
    | with_reducible refine Wp.block ?_
    | ((with_reducible first | refine Wp.region ?_ | refine Wp.drawL ac ?_ | refine Wp.cond ?_ | refine Wp.ret ?_ | refine Wp.skip ?_ | refine Wp.exit ?_ | refine Go.mk ?_ | apply ao.of); conv => whnf)
    | with_reducible exact rfl
    | ((with_reducible refine Ov.ok zO ?_); conv => whnf)
    | (with_reducible refine Ov.sh1 (by with_unfolding_all exact rfl) ?_)
    | ((with_reducible refine Ov.quo (by omega) (by omega) (by omega) (fun _ _ => ?_)); conv => whnf)
    | ((with_reducible refine And.intro (show ah _ _ _ _ = true by kernel_rfl) ?_); conv => whnf)
    | ((with_reducible refine And.intro zC ?_); conv => whnf)
    | ((with_reducible refine And.intro ?hb ?_); (case hb => exact ae (zzb rfl) (by omega)); (conv => whnf))
    | ((refine af.a rfl rfl rfl rfl rfl rfl ?hb ?_); (case hb => exact zB); (conv => whnf))
    | ((refine af.b rfl rfl rfl rfl rfl rfl rfl rfl ?hb ?ho ?_); (case hb => exact zB); (case ho => omega); (conv => whnf))
    | ((refine af.c rfl rfl rfl rfl rfl ?hb ?_); (case hb => exact zB); (conv => whnf))
    | ((refine af.d rfl rfl rfl rfl rfl rfl ?hb ?ho ?_); (case hb => exact zB); (case ho => omega); (conv => whnf))
    | (with_reducible refine Or.inl ?_)
    | ((with_reducible refine IxA.ptr ?_); conv => whnf)
    | ((with_reducible refine nil_no (by omega) ?_); (conv => whnf))
    | ((with_reducible refine ag ?_ (fun hn0 => ?_)) <;> (conv => whnf))
    | ((refine ab.fn (cn ps room now k xs.length xs (xs.getD (0 + (i : Int).toNat) default) (hp _ (by omega)).1 (hp _ (by omega)).2) [0,1,2,3] rfl rfl rfl rfl rfl ?ha ?hh ?_); (case ha => exact zA); (case hh => exact zH); (conv => whnf))
    | ((refine ai.fn (cn ps room now k xs.length xs (xs.getD (0 + (i : Int).toNat) default) (hp _ (by omega)).1 (hp _ (by omega)).2) [0,1,2,3] [0,1,2,3] rfl rfl rfl rfl rfl ?ha ?hh ?hs ?_); (case ha => exact zA); (case hh => exact zH); (case hs => exact zK); (conv => whnf)) | ((refine ai.new (cn ps room now k xs.length xs (xs.getD (0 + (i : Int).toNat) default) (hp _ (by omega)).1 (hp _ (by omega)).2) [0,1,2,3] [0,1,2,3] rfl rfl rfl rfl rfl rfl ?ha ?hh ?hs ?_); (case ha => exact zA); (case hh => exact zH); (case hs => exact zK); (conv => whnf))
    | ((refine ai.fn (cn ps room now k xs.length xs (xs.getD (0 + (i : Int).toNat) default) (hp _ (by omega)).1 (hp _ (by omega)).2) [0,1,2,3] [] rfl rfl rfl rfl rfl ?ha ?hh ?hs ?_); (case ha => exact zA); (case hh => exact zH); (case hs => exact zK); (conv => whnf)) | ((refine ai.new (cn ps room now k xs.length xs (xs.getD (0 + (i : Int).toNat) default) (hp _ (by omega)).1 (hp _ (by omega)).2) [0,1,2,3] [] rfl rfl rfl rfl rfl rfl ?ha ?hh ?hs ?_); (case ha => exact zA); (case hh => exact zH); (case hs => exact zK); (conv => whnf))
    | ((refine ap (fun hc => ?_) (fun hc => ?_)) <;> (try simp only [decide_eq_true_eq, decide_eq_false_iff_not, Q5, Q20, Bool.and_eq_false_iff, Bool.or_eq_false_iff, Bool.not_eq_true', Bool.not_eq_false', beq_iff_eq, bne_iff_ne, ne_eq, beq_eq_false_iff_ne, bne_eq_false_iff_eq, Bool.not_eq_true, Bool.not_eq_false] at hc) <;> (try (exfalso; omega)) <;> (conv => whnf))))
    · simp only [Q13, Q19] at hc
      have hf : fst (fun c => aQ ps c now) xs = i := by
        rw [jq _ xs i h1 h2, eo (by omega), fst, if_pos hc]; rfl
      refine aq.of [0, 1, 2, 3] rfl (fun i hi => by have : i = 0 ∨ i = 1 ∨ i = 2 ∨ i = 3 := (by omega); rcases this with h | h | h | h <;> subst h <;> rfl) rfl ?_ ?_
      · exact .i (by rw [hf, if_pos (by omega)])
      · ((conv => whnf); repeat' (first | exact trivial | exact SV.Le.rfl _ | exact ⟨rfl, rfl, rfl⟩ | exact fun i hi => rfl | ((with_reducible refine And.intro ?_ ?_) <;> (conv => whnf))))
    · simp only [Q13, Q19] at hc
      refine ⟨i + 1, ⟨by omega, fun j hj => ?_⟩, by dsimp only; omega, ?_⟩
      · by_cases e : j = i
        · subst e; exact hc
        · exact h2 j (by omega)
      · (refine Le.by [0,1,2,3] rfl rfl rfl rfl ?_ ?_ <;> (conv => whnf) <;> (repeat' (first | exact trivial | exact aa.rfl rfl | exact aa.ptr rfl | exact aa.sl rfl | ((with_reducible refine aa.fn ?_); (conv => whnf)) | ((refine aa.iref ?_); (conv => whnf)) | exact ⟨rfl, rfl, rfl⟩ | exact fun i hi => rfl | ((with_reducible refine And.intro ?_ ?_) <;> (conv => whnf)))))
    · have hf : fst (fun c => aQ ps c now) xs = xs.length := by
        rw [jq _ xs i h1 h2, List.drop_eq_nil_of_le (by omega), fst]; omega
      refine aq.of [0, 1, 2, 3] rfl (fun i hi => by have : i = 0 ∨ i = 1 ∨ i = 2 ∨ i = 3 := (by omega); rcases this with h | h | h | h <;> subst h <;> rfl) rfl ?_ ?_
      · exact .i (by rw [hf, if_neg (by omega)])
      · ((conv => whnf); repeat' (first | exact trivial | exact SV.Le.rfl _ | exact ⟨rfl, rfl, rfl⟩ | exact fun i hi => rfl | ((with_reducible refine And.intro ?_ ?_) <;> (conv => whnf))))
def stay (ps : List Pol) (now : Int) (xs : List Cel) : List Cel := xs.filter fun c => !aQ ps c now
theorem bG {xs : List Cel} {k : Nat} (h : k < xs.length) : xs.take (k + 1) = xs.take k ++ [xs.getD k default] := by
  rw [List.take_add_one, Q0 h]; simp [List.getD, Q0 h]
theorem co (ps : List Pol) (room now : Int) (xs : List Cel) (hp : ∀ j, j < xs.length → 0 ≤ (xs.getD j default).pol ∧ (xs.getD j default).pol < ps.length) (hlen : xs.length ≤ 4611686018427387903) :
    Fun TC 40 4 [.sl 0 4 0 xs.length, .fn (.func 41) [.ptr 2 0, .ptr 3 0]] (evH ps room now xs.length xs.length xs) 4 (.sl 0 4 0 (stay ps now xs).length) (evH ps room now xs.length (stay ps now xs).length (stay ps now xs)) := by
  refine Fun.mk' Tryz.func40 rfl rfl (zzb rfl) (by decide) ?_
  have hfl := sY (fun c => aQ ps c now) xs
  (repeat' (first
    | with_reducible refine Wp.seq ?_
    | with_reducible refine Wp.block ?_
    | ((with_reducible first | refine Wp.region ?_ | refine Wp.drawL ac ?_ | refine Wp.cond ?_ | refine Wp.ret ?_ | refine Wp.skip ?_ | refine Wp.exit ?_ | refine Go.mk ?_ | apply ao.of); conv => whnf)
    | with_reducible exact rfl
    | ((with_reducible refine Ov.ok zO ?_); conv => whnf)
    | (with_reducible refine Ov.sh1 (by with_unfolding_all exact rfl) ?_)
    | ((with_reducible refine Ov.quo (by omega) (by omega) (by omega) (fun _ _ => ?_)); conv => whnf)
    | ((with_reducible refine And.intro (show ah _ _ _ _ = true by kernel_rfl) ?_); conv => whnf)
    | ((with_reducible refine And.intro zC ?_); conv => whnf)
    | ((with_reducible refine And.intro ?hb ?_); (case hb => exact ae (zzb rfl) (by omega)); (conv => whnf))
    | ((refine af.a rfl rfl rfl rfl rfl rfl ?hb ?_); (case hb => exact zB); (conv => whnf))
    | ((refine af.b rfl rfl rfl rfl rfl rfl rfl rfl ?hb ?ho ?_); (case hb => exact zB); (case ho => omega); (conv => whnf))
    | ((refine af.c rfl rfl rfl rfl rfl ?hb ?_); (case hb => exact zB); (conv => whnf))
    | ((refine af.d rfl rfl rfl rfl rfl rfl ?hb ?ho ?_); (case hb => exact zB); (case ho => omega); (conv => whnf))
    | (with_reducible refine Or.inl ?_)
    | ((with_reducible refine IxA.ptr ?_); conv => whnf)
    | ((with_reducible refine nil_no (by omega) ?_); (conv => whnf))
    | ((with_reducible refine ag ?_ (fun hn0 => ?_)) <;> (conv => whnf))
    | ((refine ab.fn (bA ps room now xs.length xs hp hlen) [0,1,2,3] rfl rfl rfl rfl rfl ?ha ?hh ?_); (case ha => exact zA); (case hh => exact zH); (conv => whnf))
    | ((refine ai.fn (bA ps room now xs.length xs hp hlen) [0,1,2,3] [0,1,2,3] rfl rfl rfl rfl rfl ?ha ?hh ?hs ?_); (case ha => exact zA); (case hh => exact zH); (case hs => exact zK); (conv => whnf)) | ((refine ai.new (bA ps room now xs.length xs hp hlen) [0,1,2,3] [0,1,2,3] rfl rfl rfl rfl rfl rfl ?ha ?hh ?hs ?_); (case ha => exact zA); (case hh => exact zH); (case hs => exact zK); (conv => whnf))
    | ((refine ai.fn (bA ps room now xs.length xs hp hlen) [0,1,2,3] [] rfl rfl rfl rfl rfl ?ha ?hh ?hs ?_); (case ha => exact zA); (case hh => exact zH); (case hs => exact zK); (conv => whnf)) | ((refine ai.new (bA ps room now xs.length xs hp hlen) [0,1,2,3] [] rfl rfl rfl rfl rfl rfl ?ha ?hh ?hs ?_); (case ha => exact zA); (case hh => exact zH); (case hs => exact zK); (conv => whnf))
    | ((refine ap (fun hc => ?_) (fun hc => ?_)) <;> (try simp only [decide_eq_true_eq, decide_eq_false_iff_not, Q5, Q20, Bool.and_eq_false_iff, Bool.or_eq_false_iff, Bool.not_eq_true', Bool.not_eq_false', beq_iff_eq, bne_iff_ne, ne_eq, beq_eq_false_iff_ne, bne_eq_false_iff_eq, Bool.not_eq_true, Bool.not_eq_false] at hc) <;> (try (exfalso; omega)) <;> (conv => whnf))))
  · have hf : fst (fun c => aQ ps c now) xs = xs.length := by
      by_cases h : fst (fun c => aQ ps c now) xs < xs.length
      · rw [if_pos h] at hc; omega
      · omega
    have hst : stay ps now xs = xs := by
      have := lN (fun c => aQ ps c now) xs xs.length (by omega)
      rw [List.take_length] at this; exact this
    rw [hst]
    refine aq.of [0, 1, 2, 3] rfl (fun i hi => by have : i = 0 ∨ i = 1 ∨ i = 2 ∨ i = 3 := (by omega); rcases this with h | h | h | h <;> subst h <;> rfl) rfl ?_ ?_
    · exact .rfl _
    · ((conv => whnf); repeat' (first | exact trivial | exact SV.Le.rfl _ | exact ⟨rfl, rfl, rfl⟩ | exact fun i hi => rfl | ((with_reducible refine And.intro ?_ ?_) <;> (conv => whnf))))
  · have hlt : fst (fun c => aQ ps c now) xs < xs.length := by
      by_cases h : fst (fun c => aQ ps c now) xs < xs.length
      · exact h
      · rw [if_neg h] at hc; exact absurd rfl hc
    rw [if_pos hlt]
    have h0 : stay ps now (xs.take (fst (fun c => aQ ps c now) xs + 1)) = xs.take (fst (fun c => aQ ps c now) xs) := by
      rw [bG hlt, stay, List.filter_append, lN (fun c => aQ ps c now) xs _ (Q4 _)]
      have := oV (fun c => aQ ps c now) xs hlt
      simp only [List.filter_cons, List.filter_nil]
      rw [if_neg (by simpa using this), List.append_nil]
    generalize fst (fun c => aQ ps c now) xs = q at *
    refine Wp.loopP (ι := Nat × Nat × List Cel) (fun k => k.1 < k.2.1 ∧ k.2.1 ≤ xs.length ∧ k.2.2.length = xs.length ∧ k.2.2.take k.1 = stay ps now (xs.take k.2.1) ∧ ∀ j, k.2.1 ≤ j → k.2.2.getD j default = xs.getD j default) (fun k => ⟨⟨Tryz.f40.ntmps, 4⟩, 4, [(0, .sl 0 4 0 xs.length), (1, .fn (.func 41) [.ptr 2 0, .ptr 3 0]), (5, .i .i64 k.1), (6, .i .i64 k.2.1)], evH ps room now xs.length xs.length k.2.2⟩) (fun k => xs.length - k.2.1) (q, q + 1, xs) ⟨by simp, hlt, rfl, h0.symm, fun _ _ => rfl⟩ ?_ ?_
    · (refine Le.by [0,1,2,3] rfl rfl rfl rfl ?_ ?_ <;> (conv => whnf) <;> (repeat' (first | exact trivial | exact aa.rfl rfl | exact aa.ptr rfl | exact aa.sl rfl | ((with_reducible refine aa.fn ?_); (conv => whnf)) | ((refine aa.iref ?_); (conv => whnf)) | exact ⟨rfl, rfl, rfl⟩ | exact fun i hi => rfl | ((with_reducible refine And.intro ?_ ?_) <;> (conv => whnf)))))
    · rintro ⟨i, j, zs⟩ ⟨h1, h2, h3, h4, h5⟩
      dsimp only at h1 h2 h3 h4 h5 ⊢
      have hpz : ∀ m, j ≤ m → m < xs.length → 0 ≤ (zs.getD m default).pol ∧ (zs.getD m default).pol < ps.length := fun m hm hm2 => by rw [h5 m hm]; exact hp m hm2
      (repeat' (first
    | with_reducible refine Wp.seq ?_
    | with_reducible refine Wp.block ?_
    | ((with_reducible first | refine Wp.region ?_ | refine Wp.drawL ac ?_ | refine Wp.cond ?_ | refine Wp.ret ?_ | refine Wp.skip ?_ | refine Wp.exit ?_ | refine Go.mk ?_ | apply ao.of); conv => whnf)
    | with_reducible exact rfl
    | ((with_reducible refine Ov.ok zO ?_); conv => whnf)
    | (with_reducible refine Ov.sh1 (by with_unfolding_all exact rfl) ?_)
    | ((with_reducible refine Ov.quo (by omega) (by omega) (by omega) (fun _ _ => ?_)); conv => whnf)
    | ((with_reducible refine And.intro (show ah _ _ _ _ = true by kernel_rfl) ?_); conv => whnf)
    | ((with_reducible refine And.intro zC ?_); conv => whnf)
    | ((with_reducible refine And.intro ?hb ?_); (case hb => exact ae (zzb rfl) (by omega)); (conv => whnf))
    | ((refine af.a rfl rfl rfl rfl rfl rfl ?hb ?_); (case hb => exact zB); (conv => whnf))
    | ((refine af.b rfl rfl rfl rfl rfl rfl rfl rfl ?hb ?ho ?_); (case hb => exact zB); (case ho => omega); (conv => whnf))
    | ((refine af.c rfl rfl rfl rfl rfl ?hb ?_); (case hb => exact zB); (conv => whnf))
    | ((refine af.d rfl rfl rfl rfl rfl rfl ?hb ?ho ?_); (case hb => exact zB); (case ho => omega); (conv => whnf))
    | (with_reducible refine Or.inl ?_)
    | ((with_reducible refine IxA.ptr ?_); conv => whnf)
    | ((with_reducible refine nil_no (by omega) ?_); (conv => whnf))
    | ((with_reducible refine ag ?_ (fun hn0 => ?_)) <;> (conv => whnf))
    | ((refine ab.fn (cn ps room now xs.length xs.length zs (zs.getD (0 + (j : Int).toNat) default) (hpz _ (by omega) (by omega)).1 (hpz _ (by omega) (by omega)).2) [0,1,2,3] rfl rfl rfl rfl rfl ?ha ?hh ?_); (case ha => exact zA); (case hh => exact zH); (conv => whnf))
    | ((refine ai.fn (cn ps room now xs.length xs.length zs (zs.getD (0 + (j : Int).toNat) default) (hpz _ (by omega) (by omega)).1 (hpz _ (by omega) (by omega)).2) [0,1,2,3] [0,1,2,3] rfl rfl rfl rfl rfl ?ha ?hh ?hs ?_); (case ha => exact zA); (case hh => exact zH); (case hs => exact zK); (conv => whnf)) | ((refine ai.new (cn ps room now xs.length xs.length zs (zs.getD (0 + (j : Int).toNat) default) (hpz _ (by omega) (by omega)).1 (hpz _ (by omega) (by omega)).2) [0,1,2,3] [0,1,2,3] rfl rfl rfl rfl rfl rfl ?ha ?hh ?hs ?_); (case ha => exact zA); (case hh => exact zH); (case hs => exact zK); (conv => whnf))
    | ((refine ai.fn (cn ps room now xs.length xs.length zs (zs.getD (0 + (j : Int).toNat) default) (hpz _ (by omega) (by omega)).1 (hpz _ (by omega) (by omega)).2) [0,1,2,3] [] rfl rfl rfl rfl rfl ?ha ?hh ?hs ?_); (case ha => exact zA); (case hh => exact zH); (case hs => exact zK); (conv => whnf)) | ((refine ai.new (cn ps room now xs.length xs.length zs (zs.getD (0 + (j : Int).toNat) default) (hpz _ (by omega) (by omega)).1 (hpz _ (by omega) (by omega)).2) [0,1,2,3] [] rfl rfl rfl rfl rfl rfl ?ha ?hh ?hs ?_); (case ha => exact zA); (case hh => exact zH); (case hs => exact zK); (conv => whnf))
    | ((refine ap (fun hc => ?_) (fun hc => ?_)) <;> (try simp only [decide_eq_true_eq, decide_eq_false_iff_not, Q5, Q20, Bool.and_eq_false_iff, Bool.or_eq_false_iff, Bool.not_eq_true', Bool.not_eq_false', beq_iff_eq, bne_iff_ne, ne_eq, beq_eq_false_iff_ne, bne_eq_false_iff_eq, Bool.not_eq_true, Bool.not_eq_false] at hc) <;> (try (exfalso; omega)) <;> (conv => whnf))))
      all_goals simp only [Q13, Q19] at *
      · rename_i hj hc0
        have hx : aQ ps (xs.getD j default) now = false := by rw [← h5 j (Q4 _)]; exact hc
        have hg : ∀ m, (zs.set i (zs.getD j default)).getD m default = if i = m then zs.getD j default else zs.getD m default := fun m => by
          simp only [Q1, List.getElem?_set]
          by_cases e : i = m
          · subst e; rw [if_pos rfl, if_pos (by omega), if_pos rfl]; rfl
          · rw [if_neg e, if_neg e]
        refine ⟨(i + 1, j + 1, zs.set i (zs.getD j default)), ⟨by dsimp only; omega, by dsimp only; omega, by simpa using h3, ?_, fun m hm => ?_⟩, by dsimp only; omega, ?_⟩
        · dsimp only
          rw [bG (by rw [List.length_set]; omega), List.take_set_of_le (Q4 _), h4, hg, if_pos rfl, bG (xs := xs) (by omega), stay, stay, List.filter_append, h5 j (Q4 _)]
          congr 1
          simp only [List.filter_cons, List.filter_nil]
          rw [if_pos (by rw [hx]; rfl)]
        · dsimp only at hm ⊢
          rw [hg, if_neg (by omega)]; exact h5 m (by omega)
        · (refine Le.by [0,1,2,3] rfl rfl rfl rfl ?_ ?_ <;> (conv => whnf) <;> (repeat' (first | exact trivial | exact aa.rfl rfl | exact aa.ptr rfl | exact aa.sl rfl | ((with_reducible refine aa.fn ?_); (conv => whnf)) | ((refine aa.iref ?_); (conv => whnf)) | exact ⟨rfl, rfl, rfl⟩ | exact fun i hi => rfl | ((with_reducible refine And.intro ?_ ?_) <;> (conv => whnf)))))
          intro m hm
          dsimp only
          rw [hg]
          by_cases e : i = m
          · subst e; simp; rfl
          · rw [if_neg e, if_neg (fun h => e (by omega))]
      · rename_i hj hc0
        have hx : aQ ps (xs.getD j default) now = true := by rw [← h5 j (Q4 _)]; exact hc
        refine ⟨(i, j + 1, zs), ⟨by dsimp only; omega, by dsimp only; omega, h3, ?_, fun m hm => ?_⟩, by dsimp only; omega, ?_⟩
        · dsimp only
          rw [h4, bG (xs := xs) (by omega), stay, stay, List.filter_append]
          simp only [List.filter_cons, List.filter_nil]
          rw [if_neg (by rw [hx]; simp), List.append_nil]
        · exact h5 m (by dsimp only at hm; omega)
        · (refine Le.by [0,1,2,3] rfl rfl rfl rfl ?_ ?_ <;> (conv => whnf) <;> (repeat' (first | exact trivial | exact aa.rfl rfl | exact aa.ptr rfl | exact aa.sl rfl | ((with_reducible refine aa.fn ?_); (conv => whnf)) | ((refine aa.iref ?_); (conv => whnf)) | exact ⟨rfl, rfl, rfl⟩ | exact fun i hi => rfl | ((with_reducible refine And.intro ?_ ?_) <;> (conv => whnf)))))
      · have hj : j = xs.length := by omega
        subst hj
        rw [List.take_length] at h4
        have hl : (stay ps now xs).length = i := by rw [← h4, Q10, h3]; omega
        refine aq.of [0, 1, 2, 3] rfl (fun i hi => by have : i = 0 ∨ i = 1 ∨ i = 2 ∨ i = 3 := (by omega); rcases this with h | h | h | h <;> subst h <;> rfl) rfl ?_ ?_
        · exact .of_eq (by rw [hl]; simp)
        · ((conv => whnf); repeat' (first | exact trivial | exact SV.Le.rfl _ | exact ⟨rfl, rfl, rfl⟩ | exact fun i hi => rfl | ((with_reducible refine And.intro ?_ ?_) <;> (conv => whnf))))
          · exact hl.symm
          · intro m hm
            dsimp only
            rw [← h4]
            simp only [Q1, Q15]
            rw [if_pos (by omega)]
theorem cw {ps : List Pol} (h : aG ps = 0) : ps.length ≤ 32 := by
  unfold aG at h
  split at h <;> omega
def newE (ps : List Pol) (cells : Int) : Int := if cells < 1 ∨ 4096 < cells then 1 else aG ps
theorem jA (ps : List Pol) (cells : Int) (h : newE ps cells = 0) : Fun TC 31 0 [.d (ak 4 Pol.D ps), .i .i64 cells] [] 2 (.tup [.ptr 0 0, .i .i64 0]) (sk ps cells []) := by
  have hc1 : 1 ≤ cells ∧ cells ≤ 4096 := by
    unfold newE at h
    split at h
    · omega
    · omega
  have hp : aG ps = 0 := by
    unfold newE at h
    split at h
    · omega
    · exact h
  have hl := cw hp
  refine Fun.mk' Tryz.func31 rfl rfl (zzb rfl) (by decide) ?_
  (repeat' (first
    | with_reducible refine Wp.seq ?_
    | with_reducible refine Wp.block ?_
    | ((with_reducible first | refine Wp.region ?_ | refine Wp.drawL ac ?_ | refine Wp.cond ?_ | refine Wp.ret ?_ | refine Wp.skip ?_ | refine Wp.exit ?_ | refine Go.mk ?_ | apply ao.of); conv => whnf)
    | with_reducible exact rfl
    | ((with_reducible refine Ov.ok zO ?_); conv => whnf)
    | (with_reducible refine Ov.sh1 (by with_unfolding_all exact rfl) ?_)
    | ((with_reducible refine Ov.quo (by omega) (by omega) (by omega) (fun _ _ => ?_)); conv => whnf)
    | ((with_reducible refine And.intro (show ah _ _ _ _ = true by kernel_rfl) ?_); conv => whnf)
    | ((with_reducible refine And.intro zC ?_); conv => whnf)
    | ((with_reducible refine And.intro ?hb ?_); (case hb => exact ae (zzb rfl) (by omega)); (conv => whnf))
    | ((refine af.a rfl rfl rfl rfl rfl rfl ?hb ?_); (case hb => exact zB); (conv => whnf))
    | ((refine af.b rfl rfl rfl rfl rfl rfl rfl rfl ?hb ?ho ?_); (case hb => exact zB); (case ho => omega); (conv => whnf))
    | ((refine af.c rfl rfl rfl rfl rfl ?hb ?_); (case hb => exact zB); (conv => whnf))
    | ((refine af.d rfl rfl rfl rfl rfl rfl ?hb ?ho ?_); (case hb => exact zB); (case ho => omega); (conv => whnf))
    | (with_reducible refine Or.inl ?_)
    | ((with_reducible refine IxA.ptr ?_); conv => whnf)
    | ((with_reducible refine nil_no (by omega) ?_); (conv => whnf))
    | ((with_reducible refine ag ?_ (fun hn0 => ?_)) <;> (conv => whnf))
    | ((with_reducible refine ab.pure (bz _) rfl rfl ?_); conv => whnf) | ((with_reducible refine ai.pure (bz _) rfl rfl ?_); conv => whnf)
    | ((with_reducible refine ab.pure (io ps (by omega)) rfl rfl ?_); conv => whnf) | ((with_reducible refine ai.pure (io ps (by omega)) rfl rfl ?_); conv => whnf)
    | ((refine ap (fun hc => ?_) (fun hc => ?_)) <;> (try simp only [decide_eq_true_eq, decide_eq_false_iff_not, Q5, Q20, Bool.and_eq_false_iff, Bool.or_eq_false_iff, Bool.not_eq_true', Bool.not_eq_false', beq_iff_eq, bne_iff_ne, ne_eq, beq_eq_false_iff_ne, bne_eq_false_iff_eq, Bool.not_eq_true, Bool.not_eq_false] at hc) <;> (try (exfalso; omega)) <;> (conv => whnf))))
  all_goals try (exfalso; omega)
  refine aq.virtC 0 2 65 4 (fun _ => []) (by decide) rfl rfl (by decide) ?_
  refine aq.of [0, 1] rfl (fun i hi => by omega) rfl ?_ ?_
  · exact .rfl _
  · ((conv => whnf); repeat' (first | exact trivial | exact SV.Le.rfl _ | exact ⟨rfl, rfl, rfl⟩ | exact fun i hi => rfl | ((with_reducible refine And.intro ?_ ?_) <;> (conv => whnf))))
    exact fun i hi => absurd hi (Nat.not_lt_zero _)
end Go.Proofs.YtlplngmpggkloaaGreat
