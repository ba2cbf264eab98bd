/- Parts of the proof, one behind the other: SlLibEnt, Dr2, Dr3, Dr4. Lemmas and contracts of functions; no condition of its own. -/
import Derived.Test.YtbdclkjelhlfbaaGreatM7
import Derived.Test.YtbdclkjelhlfbaaGreatRows
import Derived.WalkKit
import Derived.WalkSpells
import Derived.WalkLawsBesides
import Derived.IntWalk
import Derived.BigQuiet
import Derived.Deep.QuietTactic
import Derived.StillTailTactics
import Derived.Deep.RegionWith
import Derived.Deep.RegionHeld3
import Derived.Lib.Hide
import Derived.Laws.Externs
set_option linter.unusedVariables false
set_option linter.unusedSimpArgs false
set_option maxHeartbeats 1000000
namespace Go.Proofs.YtbdclkjelhlfbaaGreat
open Go.RowKit
theorem Ent_info : (Tryz.prog.info? 86).map (fun i => (i.zero, i.size, i.bytes)) = some (some (.agg #[.slice none 0 0, .int .i64 0]), 2, 32) := by kernel_rfl
theorem Ent_size (w : World) : (sizeOf 86).run Tryz.prog w = .ok 2 w := by kernel_rfl
set_option maxHeartbeats 1000000 in
set_option maxRecDepth 100000 in
theorem Ent_Insert (B : Nat) (v : Value) (n i vb cv : Nat) (vcur : Array Value) (xs vs : List Value) (w : World) (hin : i ≤ n) (hown : w.ownsRow B 86 2 v n xs) (hB : B ≤ w.heap.size) (hn : n ≤ 16777216)
    (hvl : vs.length = 2) (hvb : w.heap[vb]? = some (.cells vcur 86 (0, 0))) (hvc : ∀ (j : Nat) (u : Value), vs[j]? = some u → vcur[j]? = some u) (hne : v.ownBlock ≠ some vb) (hv1 : ∀ u ∈ vs, u.oneCell' = true) (hx1 : ∀ u ∈ xs, u.oneCell' = true) :
    Calls Tryz.prog 95 #[v, .int .i64 i, .slice (some ⟨vb, 0, none⟩) 1 cv] w fun e w' =>
      ∃ v', e = .returned v' ∧ w'.ownsRow B 86 2 v' (n + 1) (xs.take (i * 2) ++ vs ++ xs.drop (i * 2)) ∧ w.grownBy w' v.ownBlock ∧ ∀ k, v'.ownBlock = some k → v.ownBlock = some k ∨ w.heap.size ≤ k := by
  have hv2 := hown.2
  obtain ⟨i0, hi0, hz0, hz1, hz2⟩ := info_parts Ent_info
  have hxl := hown.1
  have hvcell : ∀ j u, vs[j]? = some u → w.cell? ⟨vb, j, none⟩ = some u := fun j u hj => by simp [World.cell?, hvb]; exact hvc j u hj
  have hvlt : vb < w.heap.size := (Array.getElem?_eq_some_iff.1 hvb).1
  have append_end : ∀ (W : World), W = w → n = i → Calls Tryz.prog 95 #[v, .int .i64 i, .slice (some ⟨vb, 0, none⟩) 1 cv] w fun e w' =>
      ∃ v', e = .returned v' ∧ w'.ownsRow B 86 2 v' (n + 1) (xs ++ vs) ∧ w.grownBy w' v.ownBlock ∧ ∀ k, v'.ownBlock = some k → v.ownBlock = some k ∨ w.heap.size ≤ k := by
    intro W _ hni
    subst hni
    have Hown := Lib.hid hown
    have hva : ∀ j u, vs[j]? = some u → w.cell? ((⟨vb, 0, none⟩ : Addr).add j) = some u := fun j u hj => by
      have := hvcell j u hj
      unfold Addr.add; split
      · rename_i h; subst h; exact this
      · simpa using this
    have Hva := Lib.hid hva; have Hl := Lib.hid hvl; have Hne := Lib.hid hne
    clear hva hvcell hvb hvc hvl hne hxl
    rcases hv2 with ⟨rfl, rfl⟩ | ⟨g, cap, cur, rfl, hBg, hg, hnc, hcm, hcs, htk⟩
    · clear hown
      go_enter Tryz.func95, Tryz.ntmps95
      go_wp2_with (first | (at_builtin; refine wpList_append_at _ rfl _ _ 80 rfl B 86 i0 (.agg #[.slice none 0 0, .int .i64 0]) 2 32 Tryz.underlying80 hi0 hz0 hz1 hz2 rfl (by decide) _ _ _ rfl Hown.out ⟨vb, 0, none⟩ 1 _ vs rfl (by rw [Hl.out]) Hva.out hv1 (by unfold maxLen; omega) (by omega) hB ?_; intro v' w1 hown1 hg1 hloc1))
      go_ret
      exact ⟨_, rfl, hown1, hg1, hloc1⟩
    · unfold maxLen at hcm
      have Hg := Lib.hid hg; clear hg
      have Hcs := Lib.hid hcs; have Htk := Lib.hid htk; clear hcs htk hown
      go_enter Tryz.func95, Tryz.ntmps95
      go_wp2_with (first | (at_builtin; refine wpList_append_at _ rfl _ _ 80 rfl B 86 i0 (.agg #[.slice none 0 0, .int .i64 0]) 2 32 Tryz.underlying80 hi0 hz0 hz1 hz2 rfl (by decide) _ _ _ rfl Hown.out ⟨vb, 0, none⟩ 1 _ vs rfl (by rw [Hl.out]) Hva.out hv1 (by unfold maxLen; omega) (by omega) hB ?_; intro v' w1 hown1 hg1 hloc1))
      all_goals (go_ret; exact ⟨_, rfl, hown1, hg1, hloc1⟩)
  by_cases hi : n = i
  · have h := append_end w rfl hi
    rw [List.take_of_length_le (by rw [hxl, hi]; exact Nat.le_refl _), List.drop_of_length_le (by rw [hxl, hi]; exact Nat.le_refl _), List.append_nil]
    exact h
  · clear append_end
    have hlt : i < n := by omega
    rcases hv2 with ⟨rfl, rfl⟩ | ⟨g, cap, cur, rfl, hBg, hg, hnc, hcm, hcs, htk⟩
    · omega
    · unfold maxLen at hcm
      have hd0 : ((i : Int) == n) = false := by simp; omega
      have hcu : ∀ j, j < cap * 2 → ∃ u, cur[j]? = some u := fun j hj => ⟨cur[j]'(by omega), by rw [Array.getElem?_eq_getElem (by omega)]⟩
      by_cases hroom : n + 1 ≤ cap
      · have hov : ∀ lb cb, (callFunc 138 #[.slice (some ⟨vb, 0, none⟩) 1 cv, .slice (some ⟨g, (i + 1) * 2, none⟩) lb cb]).run Tryz.prog w = .ok (.value (.bool false)) w := fun lb cb => by
          rw [run_callFunc_extern Tryz.func138 (by kernel_rfl) (by kernel_rfl) (by kernel_rfl) (e := Extern.SlicesOverlaps.overlaps #[80, 80] #[4]) (by kernel_rfl),
            Lib.run_overlaps_apart w 80 4 86 Tryz.underlying80 2 Ent_size ⟨vb, 0, none⟩ ⟨g, (i + 1) * 2, none⟩ 1 cv lb cb (by intro h; apply hne; simp only at h; rw [h]; rfl) 86 86 vcur.size cur.size
              (by simp [World.shape?, hvb]) (by simp [World.shape?, hg]) (by omega) (by simp [World.frozen?, hvb]) (by simp [World.frozen?, hvb])]
          rfl
        go_enter Tryz.func95, Tryz.ntmps95
        go_wp2_with (simp only [hov])
        have hsrc1 : ∀ j u, (xs.drop (i * 2))[j]? = some u → w.drew.cell? ((⟨g, i * 2, none⟩ : Addr).add j) = some u := fun j u hj => by
          show w.cell? _ = _
          rw [Addr.add_lit, show w.cell? ⟨g, i * 2 + j, none⟩ = cur[i * 2 + j]? from by simp [World.cell?, hg], ← Array.getElem?_toList]
          rw [List.getElem?_drop, ← htk, List.getElem?_take] at hj
          split at hj
          · simpa using hj
          · cases hj
        have hw1 : IntKind.i64.wrap ((i : Int) + 1) = (i : Int) + 1 := IntWalk.i64_in _ (by omega)
        have hb1 : (0 : Int) ≤ (i : Int) + 1 := by omega
        have htn : ((i : Int) + 1).toNat = i + 1 := by omega
        have hb2 : ¬ (cap = i + 1) := by omega
        have hb3 : (i : Int) ≤ (n : Int) + 1 := by omega
        have hb4 : ¬ (cap = i) := by omega
        have hmul : i * 2 + 2 ≤ n * 2 := by omega
        have hdl : (xs.drop (i * 2)).length = (n - i) * 2 := by rw [List.length_drop, hxl]; omega
        have L := ins_list cur.toList xs vs (i * 2) (n * 2) 2 (cap * 2) (by simpa using hcs) htk hvl (by omega) (by omega)
        obtain ⟨C1, hC1⟩ : ∃ C1 : Array Value, C1 = (cur.toList.take ((i + 1) * 2) ++ xs.drop (i * 2) ++ cur.toList.drop ((i + 1) * 2 + (xs.drop (i * 2)).length)).toArray := ⟨_, rfl⟩
        obtain ⟨C2, hC2⟩ : ∃ C2 : Array Value, C2 = (C1.toList.take (i * 2) ++ vs ++ C1.toList.drop (i * 2 + vs.length)).toArray := ⟨_, rfl⟩
        have hC1s : C1.size = cap * 2 := by rw [hC1]; simp; omega
        have HC1 := Lib.hid hC1; have HC2 := Lib.hid hC2
        have hcp2 : ∀ ty dc, (Builtin.copy_ #[80, 80] ty #[.slice (some ⟨g, i * 2, none⟩) (n + 1 - i) dc, .slice (some ⟨vb, 0, none⟩) 1 cv]).run Tryz.prog (w.drew.setRow g C1) = .ok (goInt ((1 : Nat) : Int)) ((w.drew.setRow g C1).setRow g C2) := by
          intro ty dc
          have hm : Nat.min 1 (n + 1 - i) = 1 := by simp only [Nat.min_def]; split <;> omega
          have hgn : vb ≠ g := by intro h; apply hne; rw [h]; rfl
          have := run_copyZ (P := Tryz.prog) (w.drew.setRow g C1) 80 80 ty 86 i0 g (i * 2) (n + 1 - i) dc ⟨vb, 0, none⟩ 1 cv C1 86 vs Tryz.underlying80 hi0 (setRow_heap _ g _ _ _ _ hg) (by rw [hvl, hm, hz1])
            (fun j u hj => by rw [Addr.add_lit, cell_setRow_other _ _ _ _ hgn]; simpa using hvcell j u hj) (by rw [hvl, hC1s]; omega) hv1
          rw [hm] at this
          rw [this, hC2]; try simp only [Nat.mul_one]
        have Hcp2 := Lib.hid hcp2; clear hcp2
        have hcp1 : ∀ ty dc sc, (Builtin.copy_ #[80, 80] ty #[.slice (some ⟨g, (i + 1) * 2, none⟩) (n - i) dc, .slice (some ⟨g, i * 2, none⟩) (n + 1 - i) sc]).run Tryz.prog w.drew = .ok (goInt ((n - i : Nat) : Int)) (w.drew.setRow g C1) := by
          intro ty dc sc
          have hm : Nat.min (n + 1 - i) (n - i) = n - i := by simp only [Nat.min_def]; split <;> omega
          have := run_copyZ (P := Tryz.prog) w.drew 80 80 ty 86 i0 g ((i + 1) * 2) (n - i) dc ⟨g, i * 2, none⟩ (n + 1 - i) sc cur 86 (xs.drop (i * 2)) Tryz.underlying80 hi0 hg (by rw [hdl, hm, hz1]) hsrc1 (by rw [hdl]; omega) (fun u hu => hx1 u (List.mem_of_mem_drop hu))
          rw [hm] at this; rw [this, hC1]
        have Hcp1 := Lib.hid hcp1; clear hcp1 hC1 hC2
        go_region_law (refine step_copy_run rfl _ _ 80 80 rfl _ _ (by simp [Act.eval, Act.put]) (by simp [Act.eval, Act.put]) (Hcp1.out _ (cap - (i + 1)) (cap - i)) ?_)
        go_wp2_with (refine wpList_copy_run _ rfl _ _ 80 80 rfl _ _ rfl rfl (Hcp2.out _ (cap - i)) ?_)
        go_ret
        have e1 : (i + 1) * 2 = i * 2 + 2 := by omega
        have h1 := HC1.out; have h2 := HC2.out
        rw [e1] at h1
        rw [h1] at h2
        simp only [List.toList_toArray] at h2
        obtain ⟨L1, L2⟩ := L
        refine ⟨_, rfl, ⟨?_, Or.inr ⟨g, cap, C2, rfl, hBg, setRow_heap _ g _ _ _ _ (setRow_heap _ g _ _ _ _ hg), hroom, by unfold maxLen; omega, ?_, ?_⟩⟩, ?_⟩
        · simp only [List.length_append, List.length_take, List.length_drop, hxl, hvl]; omega
        · rw [h2]; simpa using L1
        · rw [h2, show (n + 1) * 2 = n * 2 + 2 from by omega]; simpa using L2
        · exact ⟨grown_trans (grown_trans grown_drew (grown_row _) (fun x hx => by cases hx; exact Or.inl rfl)) (grown_row _) (fun x hx => by cases hx; exact Or.inl rfl), fun k hk => Or.inl hk⟩
      · have hcap : cap = n := by omega
        have hk1 : 0 < n + 1 - i := by omega
        have holds : (Builtin.firstCells i0.size i (.slice (some ⟨g, 0, none⟩) i cap)).run Tryz.prog w.drew = .ok (xs.take (i * 2)).toArray w.drew := by
          have := run_firstCells_some (P := Tryz.prog) w.drew i0.size i ⟨g, 0, none⟩ i cap (xs.take (i * 2)) (by rw [List.length_take, hz1]; omega) (fun j u hj => by
            show w.cell? _ = _
            rw [Addr.add_lit, show w.cell? ⟨g, 0 + j, none⟩ = cur[0 + j]? from by simp [World.cell?, hg], ← Array.getElem?_toList]
            rw [← htk, List.getElem?_take, List.getElem?_take] at hj
            split at hj
            · split at hj
              · simpa using hj
              · cases hj
            · cases hj)
          exact this
        obtain ⟨gc, hgc⟩ : ∃ gc, gc = grownCap w (i + (n + 1 - i)) cap 86 := ⟨_, rfl⟩
        have hgc1 : n + 1 ≤ gc := by have := grownCap_ge w (i + (n + 1 - i)) cap 86; omega
        have hgc2 : gc ≤ 9223372036854775807 := by have := grownCap_le_maxLen w (i + (n + 1 - i)) cap 86 (by unfold maxLen; omega); unfold maxLen at this; omega
        obtain ⟨Zs, hZs⟩ : ∃ Zs : List Value, Zs = (Builtin.zeroCells (.agg #[.slice none 0 0, .int .i64 0] : Value).cells (n + 1 - i)).toList ++ (Builtin.zeroCells (.agg #[.slice none 0 0, .int .i64 0] : Value).cells (gc - (n + 1))).toList := ⟨_, rfl⟩
        have hzc : (.agg #[.slice none 0 0, .int .i64 0] : Value).cells.size = 2 := rfl
        have hZl : Zs.length = (gc - i) * 2 := by rw [hZs]; simp only [List.length_append, Array.length_toList, size_zeroCells, hzc]; omega
        obtain ⟨W1, hW1⟩ : ∃ W1, W1 = w.drew.alloc (.cells (xs.take (i * 2) ++ Zs).toArray 86) := ⟨_, rfl⟩
        have happ : ∀ ty, (Builtin.append_ #[80, 3] ty #[.slice (some ⟨g, 0, none⟩) i cap, .int .i64 ((n : Int) + 1 - (i : Int))]).run Tryz.prog w = .ok (.slice (some ⟨w.heap.size, 0, none⟩) (n + 1) gc) W1 := by
          intro ty
          have := Lib.run_append_grow_zeros (P := Tryz.prog) w 80 3 ty 86 i0 (.agg #[.slice none 0 0, .int .i64 0]) .i64 .i64 Tryz.underlying80 Tryz.underlying3 hi0 hz0 (some ⟨g, 0, none⟩) i cap (xs.take (i * 2)) holds (n + 1 - i) hk1 (by rw [hz1]; decide) (by omega) (by omega) (by rw [hz2]; omega) (growslice_fits (by omega) (by rw [hz2]; omega))
          rw [show ((n : Int) + 1 - (i : Int)) = ((n + 1 - i : Nat) : Int) from by omega, this, hW1, ← hgc, hZs, show i + (n + 1 - i) = n + 1 from by omega]
          congr 3
          apply Array.ext'
          simp [List.append_assoc]
        have hW1a : W1.heap[w.heap.size]? = some (.cells (xs.take (i * 2) ++ Zs).toArray 86 (0, 0)) := by rw [hW1]; exact heap_alloc_new w.drew _
        have hW1b : ∀ k, k < w.heap.size → W1.heap[k]? = w.heap[k]? := fun k hk => by rw [hW1]; exact heap_alloc_old w.drew _ hk
        have hW1g : w.grownBy W1 none := by rw [hW1]; exact grown_trans grown_drew (World.grownBy_alloc _ _ none) (fun x hx => by cases hx)
        have hglt : g < w.heap.size := (Array.getElem?_eq_some_iff.1 hg).1
        obtain ⟨A1, hA1⟩ : ∃ A1 : Array Value, A1 = ((xs.take (i * 2) ++ Zs).take (i * 2) ++ vs ++ (xs.take (i * 2) ++ Zs).drop (i * 2 + vs.length)).toArray := ⟨_, rfl⟩
        obtain ⟨W2, hW2⟩ : ∃ W2, W2 = W1.setRow w.heap.size A1 := ⟨_, rfl⟩
        have hcpA : ∀ ty dc, (Builtin.copy_ #[80, 80] ty #[.slice (some ⟨w.heap.size, i * 2, none⟩) (n + 1 - i) dc, .slice (some ⟨vb, 0, none⟩) 1 cv]).run Tryz.prog W1 = .ok (goInt ((1 : Nat) : Int)) W2 := by
          intro ty dc
          have hm : Nat.min 1 (n + 1 - i) = 1 := by simp only [Nat.min_def]; split <;> omega
          have := run_copyZ (P := Tryz.prog) W1 80 80 ty 86 i0 w.heap.size (i * 2) (n + 1 - i) dc ⟨vb, 0, none⟩ 1 cv _ 86 vs Tryz.underlying80 hi0 hW1a (by rw [hvl, hm, hz1])
            (fun j u hj => by rw [Addr.add_lit, World.cell?_of_block (hW1b vb hvlt)]; simpa using hvcell j u hj) (by rw [hvl]; simp only [List.size_toArray, List.length_append, List.length_take, hZl, hxl]; omega) hv1
          rw [hm] at this
          rw [this, hW2, hA1]
        have hA1s : A1.size = gc * 2 := by rw [hA1]; simp only [List.size_toArray, List.length_append, List.length_take, List.length_drop, hZl, hxl, hvl]; omega
        have hW2a : W2.heap[w.heap.size]? = some (.cells A1 86 (0, 0)) := by rw [hW2]; exact setRow_heap _ _ _ _ _ _ hW1a
        have hW2b : ∀ k, k < w.heap.size → W2.heap[k]? = w.heap[k]? := fun k hk => by rw [hW2, setRow_other _ _ _ _ (by omega)]; exact hW1b k hk
        have hdl : (xs.drop (i * 2)).length = (n - i) * 2 := by rw [List.length_drop, hxl]; omega
        obtain ⟨A2, hA2⟩ : ∃ A2 : Array Value, A2 = (A1.toList.take ((i + 1) * 2) ++ xs.drop (i * 2) ++ A1.toList.drop ((i + 1) * 2 + (xs.drop (i * 2)).length)).toArray := ⟨_, rfl⟩
        obtain ⟨W3, hW3⟩ : ∃ W3, W3 = W2.drew.setRow w.heap.size A2 := ⟨_, rfl⟩
        have hcpB : ∀ ty dc sc, (Builtin.copy_ #[80, 80] ty #[.slice (some ⟨w.heap.size, (i + 1) * 2, none⟩) (n - i) dc, .slice (some ⟨g, i * 2, none⟩) (n - i) sc]).run Tryz.prog W2.drew = .ok (goInt ((n - i : Nat) : Int)) W3 := by
          intro ty dc sc
          have hm : Nat.min (n - i) (n - i) = n - i := Nat.min_self _
          have := run_copyZ (P := Tryz.prog) W2.drew 80 80 ty 86 i0 w.heap.size ((i + 1) * 2) (n - i) dc ⟨g, i * 2, none⟩ (n - i) sc A1 86 (xs.drop (i * 2)) Tryz.underlying80 hi0 hW2a (by rw [hdl, hm, hz1])
            (fun j u hj => by
              show W2.cell? _ = _
              rw [Addr.add_lit, World.cell?_of_block (hW2b g hglt), show w.cell? ⟨g, i * 2 + j, none⟩ = cur[i * 2 + j]? from by simp [World.cell?, hg], ← Array.getElem?_toList]
              rw [List.getElem?_drop, ← htk, List.getElem?_take] at hj
              split at hj
              · simpa using hj
              · cases hj) (by rw [hdl, hA1s]; omega) (fun u hu => hx1 u (List.mem_of_mem_drop hu))
          rw [hm] at this
          rw [this, hW3, hA2]
        have L := ins_new xs vs Zs (i * 2) (n * 2) 2 (by rw [hxl]) hvl (by omega) (by rw [hZl]; omega)
        have hW3a : W3.heap[w.heap.size]? = some (.cells A2 86 (0, 0)) := by rw [hW3]; exact setRow_heap _ _ _ _ _ _ hW2a
        have hW3g : w.grownBy W3 (some g) := by
          rw [hW3, hW2]
          exact grown_trans (grown_trans (grown_trans (r := some g) (⟨hW1g.os, hW1g.tape, hW1g.output, hW1g.size, fun k hk _ => hW1b k hk⟩) (grown_row _) (fun x hx => by cases hx; exact Or.inr (Nat.le_refl _))) grown_drew (s := none) (fun x hx => by cases hx)) (grown_row _) (fun x hx => by cases hx; exact Or.inr (Nat.le_refl _))
        have HA1 := Lib.hid hA1; have HA2 := Lib.hid hA2; have Happ := Lib.hid happ; have HcpA := Lib.hid hcpA; have HcpB := Lib.hid hcpB; have HL := Lib.hid L; have HW3a := Lib.hid hW3a; have HW3g := Lib.hid hW3g; have Hxl := Lib.hid hxl; have Hvl := Lib.hid hvl; have HZl := Lib.hid hZl
        clear hA1 hA2 happ hcpA hcpB L hW3a hW3g hW1 hW2 hW3 hZs hgc holds hW1a hW1b hW1g hA1s hW2a hW2b hdl hzc hZl hxl hvl hown htk hcs hcu hvb hvc hvcell hx1 hv1 hne hg
        have hw1 : IntKind.i64.wrap ((i : Int) + 1) = (i : Int) + 1 := IntWalk.i64_in _ (by omega)
        have hb1 : (0 : Int) ≤ (i : Int) + 1 := by omega
        have htn : ((i : Int) + 1).toNat = i + 1 := by omega
        have hb2 : ¬ (gc = i + 1) := by omega
        have hb3 : (i : Int) ≤ (n : Int) + 1 := by omega
        have hb4 : ¬ (gc = i) := by omega
        have hb5 : ¬ (cap = i) := by omega
        clear hcap
        go_enter Tryz.func95, Tryz.ntmps95
        go_wp2_with (first | (at_builtin; refine Lib.wpList_append_run _ rfl _ _ 80 3 rfl _ _ rfl rfl _ _ (Happ.out _) ?_) | (refine wpList_copy_run _ rfl _ _ 80 80 rfl _ _ rfl rfl (HcpA.out _ (gc - i)) ?_))
        go_region_law (refine step_copy_run rfl _ _ 80 80 rfl _ _ (by simp [Act.eval, Act.put]) (by simp [Act.eval, Act.put]) (HcpB.out _ (gc - (i + 1)) (cap - i)) ?_)
        go_wp2
        go_ret
        have e1 : (i + 1) * 2 = i * 2 + 2 := by omega
        have h1 : A1 = ((xs.take (i * 2) ++ Zs).take (i * 2) ++ vs ++ (xs.take (i * 2) ++ Zs).drop (i * 2 + vs.length)).toArray := by have := HA1.out; simpa only [Nat.mul_one] using this
        have h2 := HA2.out
        rw [e1, h1] at h2
        simp only [List.toList_toArray] at h2
        obtain ⟨L1, L2⟩ := HL.out
        refine ⟨_, rfl, ⟨?_, Or.inr ⟨w.heap.size, gc, A2, rfl, hB, HW3a.out, hgc1, by unfold maxLen; omega, ?_, ?_⟩⟩, HW3g.out, fun k hk => by cases hk; exact Or.inr (Nat.le_refl _)⟩
        · simp only [List.length_append, List.length_take, List.length_drop, Hxl.out, Hvl.out]; omega
        · rw [h2]; simp only [List.size_toArray]; rw [L1, HZl.out]; omega
        · rw [h2, show (n + 1) * 2 = n * 2 + 2 from by omega]; simpa using L2
set_option maxHeartbeats 1000000 in
set_option maxRecDepth 100000 in
theorem Ent_Delete (B : Nat) (v : Value) (n i : Nat) (xs : List Value) (w : World) (hin : i < n) (hown : w.ownsRow B 86 2 v n xs) (hn : n ≤ 16777216) (hx1 : ∀ u ∈ xs, u.oneCell' = true) :
    Calls Tryz.prog 94 #[v, .int .i64 i, .int .i64 ((i : Int) + 1)] w fun e w' =>
      ∃ v', e = .returned v' ∧ w'.ownsRow B 86 2 v' (n - 1) (xs.take (i * 2) ++ xs.drop (i * 2 + 2)) ∧ w.grownBy w' v.ownBlock ∧ ∃ cap, v' = .slice (v.ownBlock.map fun k => ⟨k, 0, none⟩) (n - 1) cap ∧ 0 < cap := by
  have hv2 := hown.2
  obtain ⟨i0, hi0, hz0, hz1, hz2⟩ := info_parts Ent_info
  have hxl := hown.1
  rcases hv2 with ⟨rfl, rfl⟩ | ⟨g, cap, cur, rfl, hBg, hg, hnc, hcm, hcs, htk⟩
  · omega
  · unfold maxLen at hcm
    have hd0 : ((i : Int) == (i : Int) + 1) = false := by simp; omega
    obtain ⟨Zs, hZs⟩ : ∃ Zs : List Value, Zs = (Builtin.zeroCells (.agg #[.slice none 0 0, .int .i64 0] : Value).cells 1).toList := ⟨_, rfl⟩
    have hzc : (.agg #[.slice none 0 0, .int .i64 0] : Value).cells.size = 2 := rfl
    have hZl : Zs.length = 2 := by rw [hZs]; simp only [Array.length_toList, size_zeroCells, hzc]
    have hdl : (xs.drop (i * 2 + 2)).length = (n - (i + 1)) * 2 := by rw [List.length_drop, hxl]; omega
    have L := del_list cur.toList xs Zs (i * 2) (n * 2) 2 (cap * 2) (by simpa using hcs) htk hZl (by omega) (by omega)
    obtain ⟨C1, hC1⟩ : ∃ C1 : Array Value, C1 = (cur.toList.take (i * 2) ++ xs.drop (i * 2 + 2) ++ cur.toList.drop (i * 2 + (xs.drop (i * 2 + 2)).length)).toArray := ⟨_, rfl⟩
    have hC1s : C1.size = cap * 2 := by rw [hC1]; simp only [List.size_toArray, List.length_append, List.length_take, List.length_drop, Array.length_toList, hdl, hxl]; omega
    obtain ⟨W1, hW1⟩ : ∃ W1, W1 = w.drew.setRow g C1 := ⟨_, rfl⟩
    have happ : ∀ ty (a : Addr) c, (n - (i + 1) ≠ 0 → a = ⟨g, (i + 1) * 2, none⟩) → (Builtin.append_ #[80, 80] ty #[.slice (some ⟨g, 0, none⟩) i cap, .slice (some a) (n - (i + 1)) c]).run Tryz.prog w.drew = .ok (.slice (some ⟨g, 0, none⟩) (n - 1) cap) W1 := by
      intro ty a c ha
      have := run_append_room (P := Tryz.prog) w.drew 80 ty 86 i0 Tryz.underlying80 hi0 g i cap cur hg a (n - (i + 1)) c (xs.drop (i * 2 + 2)) (by rw [hdl, hz1]) (fun j u hj => by
          have hjl := (List.getElem?_eq_some_iff.1 hj).1
          rw [hdl] at hjl
          rw [ha (by omega)]
          show w.cell? _ = _
          rw [Addr.add_lit, show w.cell? ⟨g, (i + 1) * 2 + j, none⟩ = cur[(i + 1) * 2 + j]? from by simp [World.cell?, hg], ← Array.getElem?_toList]
          rw [List.getElem?_drop, ← htk, List.getElem?_take] at hj
          split at hj
          · rw [← hj]; congr 1; omega
          · cases hj) (fun u hu => hx1 u (List.mem_of_mem_drop hu)) (by omega) (by rw [hdl, hz1, hcs]; omega)
      rw [this, hW1, hC1, hz1, show i + (n - (i + 1)) = n - 1 from by omega]
    obtain ⟨C2, hC2⟩ : ∃ C2 : Array Value, C2 = (C1.toList.take ((n - 1) * 2) ++ Zs ++ C1.toList.drop ((n - 1) * 2 + 2)).toArray := ⟨_, rfl⟩
    obtain ⟨W2, hW2⟩ : ∃ W2, W2 = W1.setRow g C2 := ⟨_, rfl⟩
    have hclr : ∀ ty c, (Builtin.clear_ #[80] ty #[.slice (some ⟨g, (n - 1) * 2, none⟩) (n - (n - 1)) c]).run Tryz.prog W1 = .ok (.tuple #[]) W2 := by
      intro ty c
      have hW1g : W1.heap[g]? = some (.cells C1 86 (0, 0)) := by rw [hW1]; exact setRow_heap _ _ _ _ _ _ hg
      have := run_clearZ (P := Tryz.prog) W1 80 ty 86 i0 (.agg #[.slice none 0 0, .int .i64 0]) g ((n - 1) * 2) 1 c C1 86 Tryz.underlying80 hi0 hz0 (by rw [hz1]; rfl) (by decide) hW1g (by rw [hz1, hC1s]; omega)
      rw [show n - (n - 1) = 1 from by omega, this, hW2, hC2, hZs, hz1]; try simp only [Nat.mul_one, Nat.one_mul]
    have hgr : w.grownBy W2 (some g) := by
      rw [hW2, hW1]
      exact grown_trans (grown_trans grown_drew (grown_row _) (fun x hx => by cases hx; exact Or.inl rfl)) (grown_row _) (fun x hx => by cases hx; exact Or.inl rfl)
    have hW2a : W2.heap[g]? = some (.cells C2 86 (0, 0)) := by rw [hW2]; exact setRow_heap _ _ _ _ _ _ (by rw [hW1]; exact setRow_heap _ _ _ _ _ _ hg)
    have fin : W2.ownsRow B 86 2 (.slice (some ⟨g, 0, none⟩) (n - 1) cap) (n - 1) (xs.take (i * 2) ++ xs.drop (i * 2 + 2)) := by
      rw [hC1] at hC2
      simp only [List.toList_toArray] at hC2
      rw [show (n - 1) * 2 = n * 2 - 2 from by omega] at hC2
      obtain ⟨L1, L2⟩ := L
      refine ⟨?_, Or.inr ⟨g, cap, C2, rfl, hBg, hW2a, by omega, by unfold maxLen; omega, ?_, ?_⟩⟩
      · rw [List.length_append, hdl, List.length_take, hxl]; omega
      · rw [hC2]; simpa using L1
      · rw [hC2, show (n - 1) * 2 = n * 2 - 2 from by omega]; simpa using L2
    have Happ := Lib.hid happ; have Hclr := Lib.hid hclr; have Hgr := Lib.hid hgr; have Hfin := Lib.hid fin
    clear happ hclr hgr fin hW1 hW2 hC1 hC2 hW2a L hZs hZl hdl hzc hC1s hxl hx1 hown htk hcs hg
    have hw1 : IntKind.i64.wrap ((i : Int) + 1) = (i : Int) + 1 := IntWalk.i64_in _ (by omega)
    have hb1 : (0 : Int) ≤ (i : Int) + 1 := by omega
    have htn : ((i : Int) + 1).toNat = i + 1 := by omega
    have hb3 : (i : Int) + 1 ≤ (n : Int) := by omega
    have hb4 : ¬ (cap = n - 1) := by omega
    have hb6 : ¬ (n = i) := by omega
    have hb7 : ¬ (cap = i) := by omega
    have hb8 : ((n - 1 : Nat) : Int) ≤ (n : Int) := by omega
    have hb9 : (n : Int) ≤ (cap : Int) := by omega
    have hb10 : (i : Int) ≤ (cap : Int) := by omega
    have hb11 : (i : Int) + 1 ≤ (cap : Int) := by omega
    have hb12 : (i : Int) < (n : Int) := by omega
    by_cases hb2 : cap = i + 1
    · have Happ2 := fun ty c => Happ.out ty ⟨g, 0, none⟩ c (fun h => absurd h (by omega))
      have hn0 : n - (i + 1) = 0 := by omega
      rw [hn0] at Happ2
      have HA := Lib.hid Happ2; clear Happ Happ2 hn0
      subst hb2
      have hb13 : (i : Int) ≤ (i : Int) + 1 := by omega
      go_enter Tryz.func94, Tryz.ntmps94
      go_wp2_with fail
      go_region_law (refine step_append_run rfl _ _ 80 80 rfl _ _ (by simp [Act.eval, Act.put]) (by simp [Act.eval, Act.put]) (HA.out _ 0) ?_)
      go_wp2_with (refine wpList_clear_run _ rfl _ 80 rfl _ rfl (Hclr.out _ (i + 1 - (n - 1))) ?_)
      go_ret
      exact ⟨_, rfl, Hfin.out, Hgr.out, _, rfl, by omega⟩
    · have Happ2 := fun ty c => Happ.out ty ⟨g, (i + 1) * 2, none⟩ c (fun _ => rfl)
      have HA := Lib.hid Happ2; clear Happ Happ2
      go_enter Tryz.func94, Tryz.ntmps94
      go_wp2_with fail
      go_region_law (refine step_append_run rfl _ _ 80 80 rfl _ _ (by simp [Act.eval, Act.put]) (by simp [Act.eval, Act.put]) (HA.out _ (cap - (i + 1))) ?_)
      go_wp2_with (refine wpList_clear_run _ rfl _ 80 rfl _ rfl (Hclr.out _ (cap - (n - 1))) ?_)
      go_ret
      exact ⟨_, rfl, Hfin.out, Hgr.out, _, rfl, by omega⟩
end Go.Proofs.YtbdclkjelhlfbaaGreat

namespace Go.Proofs.YtbdclkjelhlfbaaGreat
open Go.RowKit
set_option maxRecDepth 100000
theorem app_rowE (zs : List Dir.Ent) (c : Dir.Ent) : ∀ k, k < zs.length + 1 → catF zs.length (fun i => entD (zs.getD i default)) (fun i => chunkD (entD c) 2 (0 + i)) k = entD ((zs ++ [c]).getD k default) := fun k hk => by
  simp only [catF]
  by_cases e : k < zs.length
  · rw [if_pos e, List.getD_eq_getElem?_getD, List.getD_eq_getElem?_getD, List.getElem?_append_left e]
  · rw [if_neg e]
    obtain rfl : k = zs.length := by omega
    have : (zs ++ [c]).getD zs.length default = c := by simp
    rw [Nat.sub_self, this]; rfl
theorem getE {xs : List Dir.Ent} {k : Nat} (h : k < xs.length) : xs.getD (k : Int).toNat default = xs[k] := by
  rw [Int.toNat_natCast, List.getD_eq_getElem?_getD, List.getElem?_eq_getElem h]; rfl
def inSh (lv sh : Nat) (e : Dir.Ent) : Bool := decide (sumK e.key % 2 ^ lv = (sh : Int))
def cutL (xs : List Dir.Ent) (lv sh : Nat) : List Dir.Ent := xs.filter (inSh lv sh)
theorem cut_take {xs : List Dir.Ent} {lv sh j : Nat} (h : j < xs.length) : cutL (xs.take (j + 1)) lv sh = if sumK (xs.getD (j : Int).toNat default).key % 2 ^ lv = (sh : Int) then cutL (xs.take j) lv sh ++ [xs.getD (j : Int).toNat default] else cutL (xs.take j) lv sh := by
  rw [getE h]
  unfold cutL
  rw [List.take_succ_eq_append_getElem h, List.filter_append]
  split
  · rename_i e; rw [List.filter_cons_of_pos (by simpa [inSh] using e)]; simp
  · rename_i e; rw [List.filter_cons_of_neg (by simpa [inSh] using e)]; simp
theorem dir_cut (xs : List Dir.Ent) (lv sh : Nat) (hlv : lv ≤ 4) (hl : xs.length ≤ 16777216) : Pure TC 46 [.d (slOf 2 entD xs), .i .i64 lv, .i .i64 sh] (.d (slOf 2 entD (cutL xs lv sh))) := by
  refine Pure.mk' Tryz.func46 rfl rfl (Nat.le_of_ble_eq_true rfl) ?_
  (repeat' (first
    | with_reducible refine Wp.seq ?_
    | with_reducible refine Wp.block ?_
    | ((with_reducible first | refine Wp.region ?_ | refine Wp.drawL TC_mixed ?_ | refine Wp.cond ?_ | refine Wp.ret ?_ | refine Wp.skip ?_ | refine Wp.exit ?_ | refine Go.mk ?_ | apply Eff1.of); conv => whnf)
    | with_reducible exact rfl
    | ((with_reducible refine Ov.ok zO ?_); conv => whnf)
    | (with_reducible refine Ov.sh1 (by with_unfolding_all exact rfl) ?_)
    | ((with_reducible refine Ov.quo (by omega) (by omega) (by omega) (fun _ _ => ?_)); conv => whnf)
    | ((with_reducible refine And.intro (show drawOK _ _ _ _ = true by kernel_rfl) ?_); conv => whnf)
    | ((with_reducible refine And.intro zC ?_); conv => whnf)
    | ((with_reducible refine And.intro ?hb ?_); (case hb => exact bytes_bd (Nat.le_of_ble_eq_true rfl) (by omega)); (conv => whnf))
    | ((refine DApp.a rfl rfl rfl rfl rfl rfl ?hb ?_); (case hb => exact zB); (conv => whnf))
    | ((refine DApp.b rfl rfl rfl rfl rfl rfl rfl rfl ?hb ?ho ?_); (case hb => exact zB); (case ho => omega); (conv => whnf))
    | ((refine DApp.c rfl rfl rfl rfl rfl ?hb ?_); (case hb => exact zB); (conv => whnf))
    | ((refine DApp.d rfl rfl rfl rfl rfl rfl ?hb ?ho ?_); (case hb => exact zB); (case ho => omega); (conv => whnf))
    | ((with_reducible refine nil_no (by omega) ?_); (conv => whnf))
    | ((with_reducible refine nil_any ?_ (fun hn0 => ?_)) <;> (conv => whnf))
    
    | ((refine ways (fun hc => ?_) (fun hc => ?_)) <;> (try simp only [decide_eq_true_eq, decide_eq_false_iff_not, Bool.and_eq_true, Bool.or_eq_true, Bool.and_eq_false_iff, Bool.or_eq_false_iff, Bool.not_eq_true', Bool.not_eq_false', beq_iff_eq, bne_iff_ne, ne_eq, beq_eq_false_iff_ne, bne_eq_false_iff_eq, Bool.not_eq_true, Bool.not_eq_false] at hc) <;> (try (exfalso; omega)) <;> (conv => whnf))))
  refine Wp.le (Le.virt 7 86 2 (fun i => entD (([] : List Dir.Ent).getD i default)) (by decide) rfl) ?_
  refine Wp.loopP (ι := Nat) (fun j => j ≤ xs.length) (fun j => ⟨⟨Tryz.f46.ntmps, 0⟩, 1, [(1, .i .i64 lv), (2, .i .i64 sh), (7, .sl 0 2 0 (cutL (xs.take j) lv sh).length), (12, .d (slOf 2 entD xs)), (13, .i .i64 xs.length), (14, .i .i64 j)], [(0, some (rowOf 86 2 entD (cutL (xs.take j) lv sh)))]⟩) (fun j => xs.length - j) 0 (Nat.zero_le _) ?_ ?_
  · (refine Le.by [0] rfl rfl rfl rfl ?_ ?_ <;> (conv => whnf) <;> (repeat' (first | exact trivial | exact ArgLe.rfl rfl | exact ArgLe.ptr rfl | exact ArgLe.sl rfl | ((with_reducible refine ArgLe.fn ?_); (conv => whnf)) | ((refine ArgLe.iref ?_); (conv => whnf)) | exact ⟨rfl, rfl, rfl⟩ | exact fun i hi => rfl | ((with_reducible refine And.intro ?_ ?_) <;> (conv => whnf)))))
  · rintro j h1
    have hfl : (cutL (xs.take j) lv sh).length ≤ 16777216 := by
      have q1 := List.length_filter_le (inSh lv sh) (xs.take j)
      rw [List.length_take] at q1
      unfold cutL; omega
    (repeat' (first
    | with_reducible refine Wp.seq ?_
    | with_reducible refine Wp.block ?_
    | ((with_reducible first | refine Wp.region ?_ | refine Wp.drawL TC_mixed ?_ | refine Wp.cond ?_ | refine Wp.ret ?_ | refine Wp.skip ?_ | refine Wp.exit ?_ | refine Go.mk ?_ | apply Eff1.of); conv => whnf)
    | with_reducible exact rfl
    | ((with_reducible refine Ov.ok zO ?_); conv => whnf)
    | (with_reducible refine Ov.sh1 (by with_unfolding_all exact rfl) ?_)
    | ((with_reducible refine Ov.quo (by omega) (by omega) (by omega) (fun _ _ => ?_)); conv => whnf)
    | ((with_reducible refine And.intro (show drawOK _ _ _ _ = true by kernel_rfl) ?_); conv => whnf)
    | ((with_reducible refine And.intro zC ?_); conv => whnf)
    | ((with_reducible refine And.intro ?hb ?_); (case hb => exact bytes_bd (Nat.le_of_ble_eq_true rfl) (by omega)); (conv => whnf))
    | ((refine DApp.a rfl rfl rfl rfl rfl rfl ?hb ?_); (case hb => exact zB); (conv => whnf))
    | ((refine DApp.b rfl rfl rfl rfl rfl rfl rfl rfl ?hb ?ho ?_); (case hb => exact zB); (case ho => omega); (conv => whnf))
    | ((refine DApp.c rfl rfl rfl rfl rfl ?hb ?_); (case hb => exact zB); (conv => whnf))
    | ((refine DApp.d rfl rfl rfl rfl rfl rfl ?hb ?ho ?_); (case hb => exact zB); (case ho => omega); (conv => whnf))
    | ((with_reducible refine nil_no (by omega) ?_); (conv => whnf))
    | ((with_reducible refine nil_any ?_ (fun hn0 => ?_)) <;> (conv => whnf))
    | ((with_reducible refine CallStop.pure (hash_Shard _ lv hlv) rfl rfl ?_); conv => whnf) | ((with_reducible refine DCall.pure (hash_Shard _ lv hlv) rfl rfl ?_); conv => whnf)
    | ((refine ways (fun hc => ?_) (fun hc => ?_)) <;> (try simp only [decide_eq_true_eq, decide_eq_false_iff_not, Bool.and_eq_true, Bool.or_eq_true, Bool.and_eq_false_iff, Bool.or_eq_false_iff, Bool.not_eq_true', Bool.not_eq_false', beq_iff_eq, bne_iff_ne, ne_eq, beq_eq_false_iff_ne, bne_eq_false_iff_eq, Bool.not_eq_true, Bool.not_eq_false] at hc) <;> (try (exfalso; omega)) <;> (conv => whnf))))
    · refine ⟨j + 1, by dsimp only; omega, by dsimp only; omega, ?_⟩
      dsimp only
      rw [cut_take (by omega), if_pos hc]
      (refine Le.by [3] rfl rfl rfl rfl ?_ ?_ <;> (conv => whnf) <;> (repeat' (first | exact trivial | exact ArgLe.rfl rfl | exact ArgLe.ptr rfl | exact ArgLe.sl rfl | ((with_reducible refine ArgLe.fn ?_); (conv => whnf)) | ((refine ArgLe.iref ?_); (conv => whnf)) | exact ⟨rfl, rfl, rfl⟩ | exact fun i hi => rfl | ((with_reducible refine And.intro ?_ ?_) <;> (conv => whnf)))))
      · rw [List.length_append]; exact ArgLe.sl rfl
      · rfl
      · simp
      · exact app_rowE _ _
    · refine ⟨j + 1, by dsimp only; omega, by dsimp only; omega, ?_⟩
      dsimp only
      rw [cut_take (by omega), if_neg hc]
      (refine Le.by [0] rfl rfl rfl rfl ?_ ?_ <;> (conv => whnf) <;> (repeat' (first | exact trivial | exact ArgLe.rfl rfl | exact ArgLe.ptr rfl | exact ArgLe.sl rfl | ((with_reducible refine ArgLe.fn ?_); (conv => whnf)) | ((refine ArgLe.iref ?_); (conv => whnf)) | exact ⟨rfl, rfl, rfl⟩ | exact fun i hi => rfl | ((with_reducible refine And.intro ?_ ?_) <;> (conv => whnf)))))
    · obtain rfl : j = xs.length := by omega
      rw [List.take_length]
      exact SV.Le.sl fun j hj => by simp only [Nat.zero_add]
def posE (xs : List Dir.Ent) (key : List Int) : Nat := bs (fun k => decide (cmpI (xs.getD k default).key key < 0)) xs.length
def hasE (xs : List Dir.Ent) (key : List Int) : Bool := decide (posE xs key < xs.length) && decide (cmpI (xs.getD (posE xs key) default).key key = 0)
theorem find_1 (e : Dir.Ent) (key : List Int) (h1 : IsB e.key) (h2 : IsB key) : Pure TC 137 [.agg [.d (slOf 1 (encI .u8) e.key), .i .i64 e.val], .d (slOf 1 (encI .u8) key)] (.i .i64 (cmpI e.key key)) := by
  refine Pure.mk' Tryz.func137 rfl rfl (Nat.le_of_ble_eq_true rfl) ?_
  (repeat' (first
    | with_reducible refine Wp.seq ?_
    | with_reducible refine Wp.block ?_
    | ((with_reducible first | refine Wp.region ?_ | refine Wp.drawL TC_mixed ?_ | refine Wp.cond ?_ | refine Wp.ret ?_ | refine Wp.skip ?_ | refine Wp.exit ?_ | refine Go.mk ?_ | apply Eff1.of); conv => whnf)
    | with_reducible exact rfl
    | ((with_reducible refine Ov.ok zO ?_); conv => whnf)
    | (with_reducible refine Ov.sh1 (by with_unfolding_all exact rfl) ?_)
    | ((with_reducible refine Ov.quo (by omega) (by omega) (by omega) (fun _ _ => ?_)); conv => whnf)
    | ((with_reducible refine And.intro (show drawOK _ _ _ _ = true by kernel_rfl) ?_); conv => whnf)
    | ((with_reducible refine And.intro zC ?_); conv => whnf)
    | ((with_reducible refine And.intro ?hb ?_); (case hb => exact bytes_bd (Nat.le_of_ble_eq_true rfl) (by omega)); (conv => whnf))
    | ((refine DApp.a rfl rfl rfl rfl rfl rfl ?hb ?_); (case hb => exact zB); (conv => whnf))
    | ((refine DApp.b rfl rfl rfl rfl rfl rfl rfl rfl ?hb ?ho ?_); (case hb => exact zB); (case ho => omega); (conv => whnf))
    | ((refine DApp.c rfl rfl rfl rfl rfl ?hb ?_); (case hb => exact zB); (conv => whnf))
    | ((refine DApp.d rfl rfl rfl rfl rfl rfl ?hb ?ho ?_); (case hb => exact zB); (case ho => omega); (conv => whnf))
    | ((with_reducible refine nil_no (by omega) ?_); (conv => whnf))
    | ((with_reducible refine nil_any ?_ (fun hn0 => ?_)) <;> (conv => whnf))
    | ((with_reducible refine CallStop.pure (hash_Order _ _ h1 h2) rfl rfl ?_); conv => whnf) | ((with_reducible refine DCall.pure (hash_Order _ _ h1 h2) rfl rfl ?_); conv => whnf)
    | ((refine ways (fun hc => ?_) (fun hc => ?_)) <;> (try simp only [decide_eq_true_eq, decide_eq_false_iff_not, Bool.and_eq_true, Bool.or_eq_true, Bool.and_eq_false_iff, Bool.or_eq_false_iff, Bool.not_eq_true', Bool.not_eq_false', beq_iff_eq, bne_iff_ne, ne_eq, beq_eq_false_iff_ne, bne_eq_false_iff_eq, Bool.not_eq_true, Bool.not_eq_false] at hc) <;> (try (exfalso; omega)) <;> (conv => whnf))))
  exact .i rfl
theorem search_ent (xs : List Dir.Ent) (key : List Int) (hlen : xs.length ≤ 4611686018427387903) (hx : ∀ k, IsB (xs.getD k default).key) (ht : IsB key) :
    Pure TC 136 [.d (slOf 2 entD xs), .d (slOf 1 (encI .u8) key), .d (.fn (.func 137) [])] (.tup [.i .i64 (posE xs key), .b (hasE xs key)]) := by
  refine Pure.mk' Tryz.func136 rfl rfl (Nat.le_of_ble_eq_true rfl) ?_
  (repeat' (first
    | with_reducible refine Wp.seq ?_
    | with_reducible refine Wp.block ?_
    | ((with_reducible first | refine Wp.region ?_ | refine Wp.drawL TC_mixed ?_ | refine Wp.cond ?_ | refine Wp.ret ?_ | refine Wp.skip ?_ | refine Wp.exit ?_ | refine Go.mk ?_ | apply Eff1.of); conv => whnf)
    | with_reducible exact rfl
    | ((with_reducible refine Ov.ok zO ?_); conv => whnf)
    | (with_reducible refine Ov.sh1 (by with_unfolding_all exact rfl) ?_)
    | ((with_reducible refine Ov.quo (by omega) (by omega) (by omega) (fun _ _ => ?_)); conv => whnf)
    | ((with_reducible refine And.intro (show drawOK _ _ _ _ = true by kernel_rfl) ?_); conv => whnf)
    | ((with_reducible refine And.intro zC ?_); conv => whnf)
    | ((with_reducible refine And.intro ?hb ?_); (case hb => exact bytes_bd (Nat.le_of_ble_eq_true rfl) (by omega)); (conv => whnf))
    | ((refine DApp.a rfl rfl rfl rfl rfl rfl ?hb ?_); (case hb => exact zB); (conv => whnf))
    | ((refine DApp.b rfl rfl rfl rfl rfl rfl rfl rfl ?hb ?ho ?_); (case hb => exact zB); (case ho => omega); (conv => whnf))
    | ((refine DApp.c rfl rfl rfl rfl rfl ?hb ?_); (case hb => exact zB); (conv => whnf))
    | ((refine DApp.d rfl rfl rfl rfl rfl rfl ?hb ?ho ?_); (case hb => exact zB); (case ho => omega); (conv => whnf))
    | ((with_reducible refine nil_no (by omega) ?_); (conv => whnf))
    | ((with_reducible refine nil_any ?_ (fun hn0 => ?_)) <;> (conv => whnf))
    
    | ((refine ways (fun hc => ?_) (fun hc => ?_)) <;> (try simp only [decide_eq_true_eq, decide_eq_false_iff_not, Bool.and_eq_true, Bool.or_eq_true, Bool.and_eq_false_iff, Bool.or_eq_false_iff, Bool.not_eq_true', Bool.not_eq_false', beq_iff_eq, bne_iff_ne, ne_eq, beq_eq_false_iff_ne, bne_eq_false_iff_eq, Bool.not_eq_true, Bool.not_eq_false] at hc) <;> (try (exfalso; omega)) <;> (conv => whnf))))
  refine Wp.loopP (ι := Nat × Nat × Nat) (fun k => k.1 ≤ k.2.1 ∧ k.2.1 ≤ xs.length ∧ k.2.1 - k.1 < k.2.2 ∧ bsF (fun k => decide (cmpI (xs.getD k default).key key < 0)) k.2.2 k.1 k.2.1 = posE xs key) (fun k => ⟨⟨Tryz.f136.ntmps, 0⟩, 0, [(0, .d (slOf 2 entD xs)), (1, .d (slOf 1 (encI .u8) key)), (2, .d (.fn (.func 137) [])), (8, .i .i64 xs.length), (9, .i .i64 k.1), (10, .i .i64 k.2.1)], []⟩) (fun k => k.2.1 - k.1) (0, xs.length, xs.length + 1) ⟨by simp, by simp, by simp, rfl⟩ ?_ ?_
  · (refine Le.by [] rfl rfl rfl rfl ?_ ?_ <;> (conv => whnf) <;> (repeat' (first | exact trivial | exact ArgLe.rfl rfl | exact ArgLe.ptr rfl | exact ArgLe.sl rfl | ((with_reducible refine ArgLe.fn ?_); (conv => whnf)) | ((refine ArgLe.iref ?_); (conv => whnf)) | exact ⟨rfl, rfl, rfl⟩ | exact fun i hi => rfl | ((with_reducible refine And.intro ?_ ?_) <;> (conv => whnf)))))
  · rintro ⟨i, j, q⟩ ⟨h1, h2, h3, h4⟩
    dsimp only at h1 h2 h3 h4 ⊢
    (repeat' (first
    | with_reducible refine Wp.seq ?_
    | with_reducible refine Wp.block ?_
    | ((with_reducible first | refine Wp.region ?_ | refine Wp.drawL TC_mixed ?_ | refine Wp.cond ?_ | refine Wp.ret ?_ | refine Wp.skip ?_ | refine Wp.exit ?_ | refine Go.mk ?_ | apply Eff1.of); conv => whnf)
    | with_reducible exact rfl
    | ((with_reducible refine Ov.ok zO ?_); conv => whnf)
    | (with_reducible refine Ov.sh1 (by with_unfolding_all exact rfl) ?_)
    | ((with_reducible refine Ov.quo (by omega) (by omega) (by omega) (fun _ _ => ?_)); conv => whnf)
    | ((with_reducible refine And.intro (show drawOK _ _ _ _ = true by kernel_rfl) ?_); conv => whnf)
    | ((with_reducible refine And.intro zC ?_); conv => whnf)
    | ((with_reducible refine And.intro ?hb ?_); (case hb => exact bytes_bd (Nat.le_of_ble_eq_true rfl) (by omega)); (conv => whnf))
    | ((refine DApp.a rfl rfl rfl rfl rfl rfl ?hb ?_); (case hb => exact zB); (conv => whnf))
    | ((refine DApp.b rfl rfl rfl rfl rfl rfl rfl rfl ?hb ?ho ?_); (case hb => exact zB); (case ho => omega); (conv => whnf))
    | ((refine DApp.c rfl rfl rfl rfl rfl ?hb ?_); (case hb => exact zB); (conv => whnf))
    | ((refine DApp.d rfl rfl rfl rfl rfl rfl ?hb ?ho ?_); (case hb => exact zB); (case ho => omega); (conv => whnf))
    | ((with_reducible refine nil_no (by omega) ?_); (conv => whnf))
    | ((with_reducible refine nil_any ?_ (fun hn0 => ?_)) <;> (conv => whnf))
    | ((with_reducible refine CallStop.pure (find_1 (xs.getD _ default) key (hx _) ht) rfl rfl ?_); conv => whnf) | ((with_reducible refine DCall.pure (find_1 (xs.getD _ default) key (hx _) ht) rfl rfl ?_); conv => whnf)
    | ((refine ways (fun hc => ?_) (fun hc => ?_)) <;> (try simp only [decide_eq_true_eq, decide_eq_false_iff_not, Bool.and_eq_true, Bool.or_eq_true, Bool.and_eq_false_iff, Bool.or_eq_false_iff, Bool.not_eq_true', Bool.not_eq_false', beq_iff_eq, bne_iff_ne, ne_eq, beq_eq_false_iff_ne, bne_eq_false_iff_eq, Bool.not_eq_true, Bool.not_eq_false] at hc) <;> (try (exfalso; omega)) <;> (conv => whnf))))
    · rw [show (((i : Int) + j) / 2).toNat = (i + j) / 2 by omega] at hc
      have hh : decide (cmpI (xs.getD ((i + j) / 2) default).key key < 0) = true := by simpa using hc
      refine ⟨((i + j) / 2 + 1, j, q - 1), ⟨by dsimp only; omega, h2, by dsimp only; omega, ?_⟩, by dsimp only; omega, ?_⟩
      · rw [← h4]
        obtain ⟨q, rfl⟩ : ∃ r, q = r + 1 := ⟨q - 1, by omega⟩
        rw [bsF, if_pos (by omega), if_pos hh]; rfl
      · (refine Le.by [] rfl rfl rfl rfl ?_ ?_ <;> (conv => whnf) <;> (repeat' (first | exact trivial | exact ArgLe.rfl rfl | exact ArgLe.ptr rfl | exact ArgLe.sl rfl | ((with_reducible refine ArgLe.fn ?_); (conv => whnf)) | ((refine ArgLe.iref ?_); (conv => whnf)) | exact ⟨rfl, rfl, rfl⟩ | exact fun i hi => rfl | ((with_reducible refine And.intro ?_ ?_) <;> (conv => whnf)))))
    · rw [show (((i : Int) + j) / 2).toNat = (i + j) / 2 by omega] at hc
      have hh : ¬ decide (cmpI (xs.getD ((i + j) / 2) default).key key < 0) = true := by simpa using hc
      refine ⟨(i, (i + j) / 2, q - 1), ⟨by dsimp only; omega, by dsimp only; omega, by dsimp only; omega, ?_⟩, by dsimp only; omega, ?_⟩
      · rw [← h4]
        obtain ⟨q, rfl⟩ : ∃ r, q = r + 1 := ⟨q - 1, by omega⟩
        rw [bsF, if_pos (by omega), if_neg hh]; rfl
      · (refine Le.by [] rfl rfl rfl rfl ?_ ?_ <;> (conv => whnf) <;> (repeat' (first | exact trivial | exact ArgLe.rfl rfl | exact ArgLe.ptr rfl | exact ArgLe.sl rfl | ((with_reducible refine ArgLe.fn ?_); (conv => whnf)) | ((refine ArgLe.iref ?_); (conv => whnf)) | exact ⟨rfl, rfl, rfl⟩ | exact fun i hi => rfl | ((with_reducible refine And.intro ?_ ?_) <;> (conv => whnf)))))
    all_goals rw [bsF_end (by omega)] at h4
    all_goals subst h4
    · rw [Int.toNat_natCast]
      exact .of_eq (by rw [show hasE xs key = (cmpI (xs.getD (posE xs key) default).key key == 0) by
        unfold hasE; rw [decide_eq_true (by omega), Bool.true_and]; rfl])
    · exact .of_eq (by rw [show hasE xs key = false by unfold hasE; rw [decide_eq_false (by omega), Bool.false_and]])
theorem dir_find (xs : List Dir.Ent) (key : List Int) (hlen : xs.length ≤ 4611686018427387903) (hx : ∀ k, IsB (xs.getD k default).key) (ht : IsB key) :
    Pure TC 92 [.d (slOf 2 entD xs), .d (slOf 1 (encI .u8) key)] (.tup [.i .i64 (posE xs key), .b (hasE xs key)]) := by
  refine Pure.mk' Tryz.func92 rfl rfl (Nat.le_of_ble_eq_true rfl) ?_
  (repeat' (first
    | with_reducible refine Wp.seq ?_
    | with_reducible refine Wp.block ?_
    | ((with_reducible first | refine Wp.region ?_ | refine Wp.drawL TC_mixed ?_ | refine Wp.cond ?_ | refine Wp.ret ?_ | refine Wp.skip ?_ | refine Wp.exit ?_ | refine Go.mk ?_ | apply Eff1.of); conv => whnf)
    | with_reducible exact rfl
    | ((with_reducible refine Ov.ok zO ?_); conv => whnf)
    | (with_reducible refine Ov.sh1 (by with_unfolding_all exact rfl) ?_)
    | ((with_reducible refine Ov.quo (by omega) (by omega) (by omega) (fun _ _ => ?_)); conv => whnf)
    | ((with_reducible refine And.intro (show drawOK _ _ _ _ = true by kernel_rfl) ?_); conv => whnf)
    | ((with_reducible refine And.intro zC ?_); conv => whnf)
    | ((with_reducible refine And.intro ?hb ?_); (case hb => exact bytes_bd (Nat.le_of_ble_eq_true rfl) (by omega)); (conv => whnf))
    | ((refine DApp.a rfl rfl rfl rfl rfl rfl ?hb ?_); (case hb => exact zB); (conv => whnf))
    | ((refine DApp.b rfl rfl rfl rfl rfl rfl rfl rfl ?hb ?ho ?_); (case hb => exact zB); (case ho => omega); (conv => whnf))
    | ((refine DApp.c rfl rfl rfl rfl rfl ?hb ?_); (case hb => exact zB); (conv => whnf))
    | ((refine DApp.d rfl rfl rfl rfl rfl rfl ?hb ?ho ?_); (case hb => exact zB); (case ho => omega); (conv => whnf))
    | ((with_reducible refine nil_no (by omega) ?_); (conv => whnf))
    | ((with_reducible refine nil_any ?_ (fun hn0 => ?_)) <;> (conv => whnf))
    | ((with_reducible refine CallStop.pure (search_ent xs key hlen hx ht) rfl rfl ?_); conv => whnf) | ((with_reducible refine DCall.pure (search_ent xs key hlen hx ht) rfl rfl ?_); conv => whnf)
    | ((refine ways (fun hc => ?_) (fun hc => ?_)) <;> (try simp only [decide_eq_true_eq, decide_eq_false_iff_not, Bool.and_eq_true, Bool.or_eq_true, Bool.and_eq_false_iff, Bool.or_eq_false_iff, Bool.not_eq_true', Bool.not_eq_false', beq_iff_eq, bne_iff_ne, ne_eq, beq_eq_false_iff_ne, bne_eq_false_iff_eq, Bool.not_eq_true, Bool.not_eq_false] at hc) <;> (try (exfalso; omega)) <;> (conv => whnf))))
  exact .of_eq rfl
theorem ent_Clone (xs : List Dir.Ent) (hn : xs.length ≤ 16777216) : Fun TC 93 0 [.d (slOf 2 entD xs)] [] 1 (.sl 0 2 0 xs.length) [(0, some (rowOf 86 2 entD xs))] := by
  refine Fun.mk' Tryz.func93 rfl rfl (Nat.le_of_ble_eq_true rfl) (by decide) ?_
  (repeat' (first
    | with_reducible refine Wp.seq ?_
    | with_reducible refine Wp.block ?_
    | ((with_reducible first | refine Wp.region ?_ | refine Wp.drawL TC_mixed ?_ | refine Wp.cond ?_ | refine Wp.ret ?_ | refine Wp.skip ?_ | refine Wp.exit ?_ | refine Go.mk ?_ | apply Eff1.of); conv => whnf)
    | with_reducible exact rfl
    | ((with_reducible refine Ov.ok zO ?_); conv => whnf)
    | (with_reducible refine Ov.sh1 (by with_unfolding_all exact rfl) ?_)
    | ((with_reducible refine Ov.quo (by omega) (by omega) (by omega) (fun _ _ => ?_)); conv => whnf)
    | ((with_reducible refine And.intro (show drawOK _ _ _ _ = true by kernel_rfl) ?_); conv => whnf)
    | ((with_reducible refine And.intro zC ?_); conv => whnf)
    | ((with_reducible refine And.intro ?hb ?_); (case hb => exact bytes_bd (Nat.le_of_ble_eq_true rfl) (by omega)); (conv => whnf))
    | ((refine DApp.a rfl rfl rfl rfl rfl rfl ?hb ?_); (case hb => exact zB); (conv => whnf))
    | ((refine DApp.b rfl rfl rfl rfl rfl rfl rfl rfl ?hb ?ho ?_); (case hb => exact zB); (case ho => omega); (conv => whnf))
    | ((refine DApp.c rfl rfl rfl rfl rfl ?hb ?_); (case hb => exact zB); (conv => whnf))
    | ((refine DApp.d rfl rfl rfl rfl rfl rfl ?hb ?ho ?_); (case hb => exact zB); (case ho => omega); (conv => whnf))
    | ((with_reducible refine nil_no (by omega) ?_); (conv => whnf))
    | ((with_reducible refine nil_any ?_ (fun hn0 => ?_)) <;> (conv => whnf))
    
    | ((refine ways (fun hc => ?_) (fun hc => ?_)) <;> (try simp only [decide_eq_true_eq, decide_eq_false_iff_not, Bool.and_eq_true, Bool.or_eq_true, Bool.and_eq_false_iff, Bool.or_eq_false_iff, Bool.not_eq_true', Bool.not_eq_false', beq_iff_eq, bne_iff_ne, ne_eq, beq_eq_false_iff_ne, bne_eq_false_iff_eq, Bool.not_eq_true, Bool.not_eq_false] at hc) <;> (try (exfalso; omega)) <;> (conv => whnf))))
  · refine FinLe.of [1] rfl (by simp) rfl ?_ ?_
    · exact .of_eq (congrArg (SV.sl _ _ _) (Nat.zero_add _))
    · refine ⟨⟨⟨rfl, rfl, Nat.zero_add _⟩, fun i hi => ?_⟩, trivial⟩
      simp [catF]
  · obtain rfl := List.eq_nil_of_length_eq_zero hn0
    refine FinLe.virt 86 2 (fun i => entD (([] : List Dir.Ent).getD i default)) (by decide) (by decide) ?_
    refine FinLe.of [0] rfl (by simp) rfl ?_ ?_
    · exact .of_eq rfl
    · exact ⟨⟨⟨rfl, rfl, rfl⟩, fun i hi => rfl⟩, trivial⟩
theorem ent_Insert (xs : List Dir.Ent) (i : Nat) (x : Dir.Ent) (hi : i ≤ xs.length) (hn : xs.length ≤ 16777215) :
    Fun TC 95 2 [.sl 0 2 0 xs.length, .i .i64 i, .sl 1 2 0 1] [(0, some (rowOf 86 2 entD xs)), (1, some (rowOf 86 2 entD [x]))] 3 (.sl 2 2 0 (insAt xs i x).length) [(0, none), (1, none), (2, some (rowOf 86 2 entD (insAt xs i x)))] := by
  by_cases hlt : i < xs.length
  · refine insFun (C := TC) (z := 2) (enc := entD) (Nat.le_of_ble_eq_true rfl) (.mk Tryz.func95 rfl rfl) (fun x => rfl) xs i x hlt ?_
    intro v vb cv vcur F vs w h1 h2 h3 h4 h5 h6 h7
    exact Ent_Insert 0 v xs.length i vb cv vcur F vs w hi h1 (Nat.zero_le _) (by omega) h2 h3 h4 h5 h6 h7
  · obtain rfl : i = xs.length := by omega
    refine Fun.mk' Tryz.func95 rfl rfl (Nat.le_of_ble_eq_true rfl) (by decide) ?_
    (repeat' (first
    | with_reducible refine Wp.seq ?_
    | with_reducible refine Wp.block ?_
    | ((with_reducible first | refine Wp.region ?_ | refine Wp.drawL TC_mixed ?_ | refine Wp.cond ?_ | refine Wp.ret ?_ | refine Wp.skip ?_ | refine Wp.exit ?_ | refine Go.mk ?_ | apply Eff1.of); conv => whnf)
    | with_reducible exact rfl
    | ((with_reducible refine Ov.ok zO ?_); conv => whnf)
    | (with_reducible refine Ov.sh1 (by with_unfolding_all exact rfl) ?_)
    | ((with_reducible refine Ov.quo (by omega) (by omega) (by omega) (fun _ _ => ?_)); conv => whnf)
    | ((with_reducible refine And.intro (show drawOK _ _ _ _ = true by kernel_rfl) ?_); conv => whnf)
    | ((with_reducible refine And.intro zC ?_); conv => whnf)
    | ((with_reducible refine And.intro ?hb ?_); (case hb => exact bytes_bd (Nat.le_of_ble_eq_true rfl) (by omega)); (conv => whnf))
    | ((refine DApp.a rfl rfl rfl rfl rfl rfl ?hb ?_); (case hb => exact zB); (conv => whnf))
    | ((refine DApp.b rfl rfl rfl rfl rfl rfl rfl rfl ?hb ?ho ?_); (case hb => exact zB); (case ho => omega); (conv => whnf))
    | ((refine DApp.c rfl rfl rfl rfl rfl ?hb ?_); (case hb => exact zB); (conv => whnf))
    | ((refine DApp.d rfl rfl rfl rfl rfl rfl ?hb ?ho ?_); (case hb => exact zB); (case ho => omega); (conv => whnf))
    | ((with_reducible refine nil_no (by omega) ?_); (conv => whnf))
    | ((with_reducible refine nil_any ?_ (fun hn0 => ?_)) <;> (conv => whnf))
    
    | ((refine ways (fun hc => ?_) (fun hc => ?_)) <;> (try simp only [decide_eq_true_eq, decide_eq_false_iff_not, Bool.and_eq_true, Bool.or_eq_true, Bool.and_eq_false_iff, Bool.or_eq_false_iff, Bool.not_eq_true', Bool.not_eq_false', beq_iff_eq, bne_iff_ne, ne_eq, beq_eq_false_iff_ne, bne_eq_false_iff_eq, Bool.not_eq_true, Bool.not_eq_false] at hc) <;> (try (exfalso; omega)) <;> (conv => whnf))))
    all_goals try exact absurd trivial hc
    refine FinLe.of [0, 1, 2] rfl (fun i hi => by have : i = 0 ∨ i = 1 := (by omega); rcases this with h | h <;> subst h <;> rfl) rfl ?_ ?_
    · exact .of_eq (congrArg (SV.sl _ _ _) (insAt_length xs _ x (by omega)).symm)
    · refine ⟨⟨⟨rfl, rfl, (insAt_length xs _ x (by omega)).symm⟩, fun i hi => ?_⟩, trivial⟩
      dsimp only
      rw [insAt_getD xs _ x (by omega)]
      simp only [catF]
      by_cases h : i < xs.length
      · rw [if_pos h, if_pos h]
      · rw [if_neg h, if_neg h, if_pos (by omega), show i - xs.length = 0 by omega]; rfl
theorem ent_Delete (xs : List Dir.Ent) (i : Nat) (hi : i < xs.length) (hn : xs.length ≤ 16777215) :
    Fun TC 94 1 [.sl 0 2 0 xs.length, .i .i64 i, .i .i64 ((i : Int) + 1)] [(0, some (rowOf 86 2 entD xs))] 2 (.sl 1 2 0 (delAt xs i).length) [(0, none), (1, some (rowOf 86 2 entD (delAt xs i)))] := by
  refine delFun (C := TC) (z := 2) (enc := entD) (Nat.le_of_ble_eq_true rfl) (.mk Tryz.func94 rfl rfl) (fun x => rfl) xs i hi (by unfold maxLen; omega) ?_
  intro v F w h1 h2
  exact Ent_Delete 0 v xs.length i F w hi h1 (by omega) h2
end Go.Proofs.YtbdclkjelhlfbaaGreat

namespace Go.Proofs.YtbdclkjelhlfbaaGreat
open Go.RowKit
set_option maxRecDepth 100000
def machB (lw ll nw nl : Nat) (clk cnt : Int) : Blk := .cells [.sl lw 1 0 nw, .i .i64 clk, .i .i64 cnt, .sl ll 6 0 nl]
def wordB (nw : Nat) (W : Nat → Int) : Blk := .row 67 1 nw fun i => encI .u64 (W i)
def lastB (nl : Nat) (f : Nat → List D) : Blk := .row 274 6 nl f
def accD (who kind word old new : Int) (done : Bool) : List D := [.val (.int .i64 who), .val (.int .u8 kind), .val (.int .i64 word), .val (.int .u64 old), .val (.int .u64 new), .val (.bool done)]
def noteN (nl : Nat) : Nat := if nl + 1 ≤ 128 then nl + 1 else 64
def noteF (nl : Nat) (f : Nat → List D) (a : List D) : Nat → List D := if nl + 1 ≤ 128 then catF nl f fun _ => a else fun i => catF nl f (fun _ => a) (nl + 1 - 64 + i)
theorem noteN_le {nl : Nat} (h : nl ≤ 128) : noteN nl ≤ 128 := by unfold noteN; split <;> omega
theorem acc_Clone (n o m : Nat) (f : Nat → List D) (hn : n ≤ 1000) (ho : o + m ≤ n) (hm : 0 < m) : Fun TC 201 1 [.sl 0 6 o m] [(0, some (lastB n f))] 2 (.sl 1 6 0 m) [(0, some (lastB n f)), (1, some (lastB m fun i => f (o + i)))] := by
  refine Fun.mk' Tryz.func201 rfl rfl (Nat.le_of_ble_eq_true rfl) (by decide) ?_
  (repeat' (first
    | with_reducible refine Wp.seq ?_
    | with_reducible refine Wp.block ?_
    | ((with_reducible first | refine Wp.region ?_ | refine Wp.drawL TC_mixed ?_ | refine Wp.cond ?_ | refine Wp.ret ?_ | refine Wp.skip ?_ | refine Wp.exit ?_ | refine Go.mk ?_ | apply Eff1.of); conv => whnf)
    | with_reducible exact rfl
    | ((with_reducible refine Ov.ok zO ?_); conv => whnf)
    | (with_reducible refine Ov.sh1 (by with_unfolding_all exact rfl) ?_)
    | ((with_reducible refine Ov.quo (by omega) (by omega) (by omega) (fun _ _ => ?_)); conv => whnf)
    | ((with_reducible refine And.intro (show drawOK _ _ _ _ = true by kernel_rfl) ?_); conv => whnf)
    | ((with_reducible refine And.intro zC ?_); conv => whnf)
    | ((with_reducible refine And.intro ?hb ?_); (case hb => exact bytes_bd (Nat.le_of_ble_eq_true rfl) (by omega)); (conv => whnf))
    | ((refine DApp.a rfl rfl rfl rfl rfl rfl ?hb ?_); (case hb => exact zB); (conv => whnf))
    | ((refine DApp.b rfl rfl rfl rfl rfl rfl rfl rfl ?hb ?ho ?_); (case hb => exact zB); (case ho => omega); (conv => whnf))
    | ((refine DApp.c rfl rfl rfl rfl rfl ?hb ?_); (case hb => exact zB); (conv => whnf))
    | ((refine DApp.d rfl rfl rfl rfl rfl rfl ?hb ?ho ?_); (case hb => exact zB); (case ho => omega); (conv => whnf))
    | ((with_reducible refine nil_no (by omega) ?_); (conv => whnf))
    | ((with_reducible refine nil_any ?_ (fun hn0 => ?_)) <;> (conv => whnf))
    
    | ((refine ways (fun hc => ?_) (fun hc => ?_)) <;> (try simp only [decide_eq_true_eq, decide_eq_false_iff_not, Bool.and_eq_true, Bool.or_eq_true, Bool.and_eq_false_iff, Bool.or_eq_false_iff, Bool.not_eq_true', Bool.not_eq_false', beq_iff_eq, bne_iff_ne, ne_eq, beq_eq_false_iff_ne, bne_eq_false_iff_eq, Bool.not_eq_true, Bool.not_eq_false] at hc) <;> (try (exfalso; omega)) <;> (conv => whnf))))
  all_goals try exact absurd trivial hc
  refine FinLe.of [0, 2] rfl (fun i hi => by have : i = 0 := (by omega); subst this; rfl) rfl ?_ ?_
  · exact .of_eq (congrArg (SV.sl _ _ _) (Nat.zero_add _))
  · refine ⟨⟨⟨rfl, rfl, rfl⟩, fun i hi => rfl⟩, ⟨⟨rfl, rfl, Nat.zero_add _⟩, fun i hi => ?_⟩, trivial⟩
    simp [catF]
theorem mach_note (nw nl : Nat) (W : Nat → Int) (f : Nat → List D) (clk cnt who kind word old new : Int) (done : Bool) (hl : nl ≤ 128) (hc0 : 0 ≤ cnt) (hc1 : cnt ≤ 4611686018427387903) :
    Fun TC 177 3 [.ptr 0 0, .agg [.i .i64 who, .i .u8 kind, .i .i64 word, .i .u64 old, .i .u64 new, .b done]] [(0, some (machB 1 2 nw nl clk cnt)), (1, some (wordB nw W)), (2, some (lastB nl f))]
      4 (.tup []) [(0, some (machB 1 3 nw (noteN nl) clk (cnt + 1))), (1, some (wordB nw W)), (2, none), (3, some (lastB (noteN nl) (noteF nl f (accD who kind word old new done))))] := by
  refine Fun.mk' Tryz.func177 rfl rfl (Nat.le_of_ble_eq_true rfl) (by decide) ?_
  (repeat' (first
    | with_reducible refine Wp.seq ?_
    | with_reducible refine Wp.block ?_
    | ((with_reducible first | refine Wp.region ?_ | refine Wp.drawL TC_mixed ?_ | refine Wp.cond ?_ | refine Wp.ret ?_ | refine Wp.skip ?_ | refine Wp.exit ?_ | refine Go.mk ?_ | apply Eff1.of); conv => whnf)
    | with_reducible exact rfl
    | ((with_reducible refine Ov.ok zO ?_); conv => whnf)
    | (with_reducible refine Ov.sh1 (by with_unfolding_all exact rfl) ?_)
    | ((with_reducible refine Ov.quo (by omega) (by omega) (by omega) (fun _ _ => ?_)); conv => whnf)
    | ((with_reducible refine And.intro (show drawOK _ _ _ _ = true by kernel_rfl) ?_); conv => whnf)
    | ((with_reducible refine And.intro zC ?_); conv => whnf)
    | ((with_reducible refine And.intro ?hb ?_); (case hb => exact bytes_bd (Nat.le_of_ble_eq_true rfl) (by omega)); (conv => whnf))
    | ((refine DApp.a rfl rfl rfl rfl rfl rfl ?hb ?_); (case hb => exact zB); (conv => whnf))
    | ((refine DApp.b rfl rfl rfl rfl rfl rfl rfl rfl ?hb ?ho ?_); (case hb => exact zB); (case ho => omega); (conv => whnf))
    | ((refine DApp.c rfl rfl rfl rfl rfl ?hb ?_); (case hb => exact zB); (conv => whnf))
    | ((refine DApp.d rfl rfl rfl rfl rfl rfl ?hb ?ho ?_); (case hb => exact zB); (case ho => omega); (conv => whnf))
    | ((with_reducible refine nil_no (by omega) ?_); (conv => whnf))
    | ((with_reducible refine nil_any ?_ (fun hn0 => ?_)) <;> (conv => whnf))
    | ((refine CallStop.fn (acc_Clone (nl + 1) (0 + (((nl + 1 : Nat) : Int) - 64).toNat) (nl + 1 - (((nl + 1 : Nat) : Int) - 64).toNat) (catF nl f fun i => chunkD (accD who kind word old new done) 6 (0 + i)) (by omega) (by omega) (by omega)) [11] rfl rfl rfl rfl rfl ?ha ?hh ?_); (case ha => exact zA); (case hh => exact zH); (conv => whnf))
    | ((refine DCall.fn (acc_Clone (nl + 1) (0 + (((nl + 1 : Nat) : Int) - 64).toNat) (nl + 1 - (((nl + 1 : Nat) : Int) - 64).toNat) (catF nl f fun i => chunkD (accD who kind word old new done) 6 (0 + i)) (by omega) (by omega) (by omega)) [11] [11] rfl rfl rfl rfl rfl ?ha ?hh ?hs ?_); (case ha => exact zA); (case hh => exact zH); (case hs => exact zK); (conv => whnf)) | ((refine DCall.new (acc_Clone (nl + 1) (0 + (((nl + 1 : Nat) : Int) - 64).toNat) (nl + 1 - (((nl + 1 : Nat) : Int) - 64).toNat) (catF nl f fun i => chunkD (accD who kind word old new done) 6 (0 + i)) (by omega) (by omega) (by omega)) [11] [11] rfl rfl rfl rfl rfl rfl ?ha ?hh ?hs ?_); (case ha => exact zA); (case hh => exact zH); (case hs => exact zK); (conv => whnf))
    | ((refine DCall.fn (acc_Clone (nl + 1) (0 + (((nl + 1 : Nat) : Int) - 64).toNat) (nl + 1 - (((nl + 1 : Nat) : Int) - 64).toNat) (catF nl f fun i => chunkD (accD who kind word old new done) 6 (0 + i)) (by omega) (by omega) (by omega)) [11] [] rfl rfl rfl rfl rfl ?ha ?hh ?hs ?_); (case ha => exact zA); (case hh => exact zH); (case hs => exact zK); (conv => whnf)) | ((refine DCall.new (acc_Clone (nl + 1) (0 + (((nl + 1 : Nat) : Int) - 64).toNat) (nl + 1 - (((nl + 1 : Nat) : Int) - 64).toNat) (catF nl f fun i => chunkD (accD who kind word old new done) 6 (0 + i)) (by omega) (by omega) (by omega)) [11] [] rfl rfl rfl rfl rfl rfl ?ha ?hh ?hs ?_); (case ha => exact zA); (case hh => exact zH); (case hs => exact zK); (conv => whnf))
    | ((refine ways (fun hc => ?_) (fun hc => ?_)) <;> (try simp only [decide_eq_true_eq, decide_eq_false_iff_not, Bool.and_eq_true, Bool.or_eq_true, Bool.and_eq_false_iff, Bool.or_eq_false_iff, Bool.not_eq_true', Bool.not_eq_false', beq_iff_eq, bne_iff_ne, ne_eq, beq_eq_false_iff_ne, bne_eq_false_iff_eq, Bool.not_eq_true, Bool.not_eq_false] at hc) <;> (try (exfalso; omega)) <;> (conv => whnf))))
  · have hN : noteN nl = nl + 1 - (((nl + 1 : Nat) : Int) - 64).toNat := by unfold noteN; rw [if_neg (by omega)]; omega
    rw [hN]
    refine FinLe.sealB [0, 1, 2, 27] rfl rfl rfl (Seal.tup trivial) ?_
    conv => whnf
    (repeat' (first | exact zE | ((refine Seal.ptr rfl rfl ?_); (conv => whnf)) | ((refine Seal.fn ?_); (conv => whnf)) | ((refine Seal.agg ?_); (conv => whnf)) | ((refine Seal.tup ?_); (conv => whnf)) | ((refine Seal.iref ?_); (conv => whnf)) | ((refine And.intro ?_ ?_) <;> (conv => whnf))))
    intro i hi
    refine DLes.of ?_
    unfold noteF
    rw [if_neg (by omega)]
    show catF nl f _ (0 + (((nl + 1 : Nat) : Int) - 64).toNat + i) = catF nl f _ (nl + 1 - 64 + i)
    rw [show 0 + (((nl + 1 : Nat) : Int) - 64).toNat + i = nl + 1 - 64 + i by omega]
    unfold catF
    by_cases h : nl + 1 - 64 + i < nl
    · rw [if_pos h, if_pos h]
    · rw [if_neg h, if_neg h, show nl + 1 - 64 + i - nl = 0 by omega]; rfl
  · have hN : noteN nl = nl + 1 := by unfold noteN; rw [if_pos (by omega)]
    rw [hN]
    refine FinLe.sealB [0, 1, 2, 11] rfl rfl rfl (Seal.tup trivial) ?_
    conv => whnf
    (repeat' (first | exact zE | ((refine Seal.ptr rfl rfl ?_); (conv => whnf)) | ((refine Seal.fn ?_); (conv => whnf)) | ((refine Seal.agg ?_); (conv => whnf)) | ((refine Seal.tup ?_); (conv => whnf)) | ((refine Seal.iref ?_); (conv => whnf)) | ((refine And.intro ?_ ?_) <;> (conv => whnf))))
    intro i hi
    refine DLes.of ?_
    unfold noteF
    rw [if_pos (by omega)]
    unfold catF
    by_cases h : i < nl
    · rw [if_pos h, if_pos h]
    · rw [if_neg h, if_neg h, show i - nl = 0 by omega]; rfl
theorem ite_row {i q : Nat} {k : IntKind} {x y : Int} : (if i = q then [D.val (.int k x)] else encI k y) = encI k (if i = q then x else y) := by split <;> rfl
theorem wat (w : Nat) : 0 + ((w : Nat) : Int).toNat = w := by omega
theorem mach_Load (nw nl : Nat) (W : Nat → Int) (f : Nat → List D) (clk cnt who : Int) (word : Nat) (hl : nl ≤ 128) (hc0 : 0 ≤ cnt) (hc1 : cnt ≤ 4611686018427387903) (hw0 : 0 ≤ who) (hw1 : who < 64) (hw : word < nw) :
    Fun TC 123 3 [.ptr 0 0, .i .i64 who, .i .i64 word] [(0, some (machB 1 2 nw nl clk cnt)), (1, some (wordB nw W)), (2, some (lastB nl f))]
      4 (.tup [.i .u64 (W word), .i .i64 0]) [(0, some (machB 1 3 nw (noteN nl) clk (cnt + 1))), (1, some (wordB nw W)), (2, none), (3, some (lastB (noteN nl) (noteF nl f (accD who 1 word (W word) 0 true))))] := by
  refine Fun.mk' Tryz.func123 rfl rfl (Nat.le_of_ble_eq_true rfl) (by decide) ?_
  (repeat' (first
    | with_reducible refine Wp.seq ?_
    | with_reducible refine Wp.block ?_
    | ((with_reducible first | refine Wp.region ?_ | refine Wp.drawL TC_mixed ?_ | refine Wp.cond ?_ | refine Wp.ret ?_ | refine Wp.skip ?_ | refine Wp.exit ?_ | refine Go.mk ?_ | apply Eff1.of); conv => whnf)
    | with_reducible exact rfl
    | ((with_reducible refine Ov.ok zO ?_); conv => whnf)
    | (with_reducible refine Ov.sh1 (by with_unfolding_all exact rfl) ?_)
    | ((with_reducible refine Ov.quo (by omega) (by omega) (by omega) (fun _ _ => ?_)); conv => whnf)
    | ((with_reducible refine And.intro (show drawOK _ _ _ _ = true by kernel_rfl) ?_); conv => whnf)
    | ((with_reducible refine And.intro zC ?_); conv => whnf)
    | ((with_reducible refine And.intro ?hb ?_); (case hb => exact bytes_bd (Nat.le_of_ble_eq_true rfl) (by omega)); (conv => whnf))
    | ((refine DApp.a rfl rfl rfl rfl rfl rfl ?hb ?_); (case hb => exact zB); (conv => whnf))
    | ((refine DApp.b rfl rfl rfl rfl rfl rfl rfl rfl ?hb ?ho ?_); (case hb => exact zB); (case ho => omega); (conv => whnf))
    | ((refine DApp.c rfl rfl rfl rfl rfl ?hb ?_); (case hb => exact zB); (conv => whnf))
    | ((refine DApp.d rfl rfl rfl rfl rfl rfl ?hb ?ho ?_); (case hb => exact zB); (case ho => omega); (conv => whnf))
    | ((with_reducible refine nil_no (by omega) ?_); (conv => whnf))
    | ((with_reducible refine nil_any ?_ (fun hn0 => ?_)) <;> (conv => whnf))
    | (with_reducible refine CallStop.inline Tryz.func176 rfl rfl rfl (Nat.le_of_ble_eq_true rfl) ?_)
    | ((with_reducible refine CallStop.pure (mach_worker _ _ _) rfl rfl ?_); conv => whnf) | ((with_reducible refine DCall.pure (mach_worker _ _ _) rfl rfl ?_); conv => whnf)
    | ((refine CallStop.fn (mach_note nw nl W f clk cnt who 1 word (W (0 + ((word : Nat) : Int).toNat)) 0 true hl hc0 hc1) [0,1,2] rfl rfl rfl rfl rfl ?ha ?hh ?_); (case ha => exact zA); (case hh => exact zH); (conv => whnf))
    | ((refine DCall.fn (mach_note nw nl W f clk cnt who 1 word (W (0 + ((word : Nat) : Int).toNat)) 0 true hl hc0 hc1) [0,1,2] [0,1,2] rfl rfl rfl rfl rfl ?ha ?hh ?hs ?_); (case ha => exact zA); (case hh => exact zH); (case hs => exact zK); (conv => whnf)) | ((refine DCall.new (mach_note nw nl W f clk cnt who 1 word (W (0 + ((word : Nat) : Int).toNat)) 0 true hl hc0 hc1) [0,1,2] [0,1,2] rfl rfl rfl rfl rfl rfl ?ha ?hh ?hs ?_); (case ha => exact zA); (case hh => exact zH); (case hs => exact zK); (conv => whnf))
    | ((refine DCall.fn (mach_note nw nl W f clk cnt who 1 word (W (0 + ((word : Nat) : Int).toNat)) 0 true hl hc0 hc1) [0,1,2] [] rfl rfl rfl rfl rfl ?ha ?hh ?hs ?_); (case ha => exact zA); (case hh => exact zH); (case hs => exact zK); (conv => whnf)) | ((refine DCall.new (mach_note nw nl W f clk cnt who 1 word (W (0 + ((word : Nat) : Int).toNat)) 0 true hl hc0 hc1) [0,1,2] [] rfl rfl rfl rfl rfl rfl ?ha ?hh ?hs ?_); (case ha => exact zA); (case hh => exact zH); (case hs => exact zK); (conv => whnf))
    | ((refine ways (fun hc => ?_) (fun hc => ?_)) <;> (try simp only [decide_eq_true_eq, decide_eq_false_iff_not, Bool.and_eq_true, Bool.or_eq_true, Bool.and_eq_false_iff, Bool.or_eq_false_iff, Bool.not_eq_true', Bool.not_eq_false', beq_iff_eq, bne_iff_ne, ne_eq, beq_eq_false_iff_ne, bne_eq_false_iff_eq, Bool.not_eq_true, Bool.not_eq_false] at hc) <;> (try (exfalso; omega)) <;> (conv => whnf))))
  simp only [wat]
  (refine FinLe.sealB [0,1,2,3] rfl rfl rfl ?_ ?_); (focus ((conv => whnf); (repeat' (first | exact zE | ((refine Seal.ptr rfl rfl ?_); (conv => whnf)) | ((refine Seal.fn ?_); (conv => whnf)) | ((refine Seal.agg ?_); (conv => whnf)) | ((refine Seal.tup ?_); (conv => whnf)) | ((refine Seal.iref ?_); (conv => whnf)) | ((refine And.intro ?_ ?_) <;> (conv => whnf)))))); (focus ((conv => whnf); (repeat' (first | exact zE | ((refine Seal.ptr rfl rfl ?_); (conv => whnf)) | ((refine Seal.fn ?_); (conv => whnf)) | ((refine Seal.agg ?_); (conv => whnf)) | ((refine Seal.tup ?_); (conv => whnf)) | ((refine Seal.iref ?_); (conv => whnf)) | ((refine And.intro ?_ ?_) <;> (conv => whnf))))))
theorem mach_Swap (nw nl : Nat) (W : Nat → Int) (f : Nat → List D) (clk cnt who old new : Int) (word : Nat) (hl : nl ≤ 128) (hc0 : 0 ≤ cnt) (hc1 : cnt ≤ 4611686018427387903) (hw0 : 0 ≤ who) (hw1 : who < 64) (hw : word < nw) :
    Fun TC 122 3 [.ptr 0 0, .i .i64 who, .i .i64 word, .i .u64 old, .i .u64 new] [(0, some (machB 1 2 nw nl clk cnt)), (1, some (wordB nw W)), (2, some (lastB nl f))]
      4 (.tup [.b (decide (W word = old)), .i .i64 0]) [(0, some (machB 1 3 nw (noteN nl) clk (cnt + 1))), (1, some (wordB nw (if W word = old then Dir.upd W word new else W))), (2, none), (3, some (lastB (noteN nl) (noteF nl f (accD who 2 word old new (decide (W word = old))))))] := by
  refine Fun.mk' Tryz.func122 rfl rfl (Nat.le_of_ble_eq_true rfl) (by decide) ?_
  (repeat' (first
    | with_reducible refine Wp.seq ?_
    | with_reducible refine Wp.block ?_
    | ((with_reducible first | refine Wp.region ?_ | refine Wp.drawL TC_mixed ?_ | refine Wp.cond ?_ | refine Wp.ret ?_ | refine Wp.skip ?_ | refine Wp.exit ?_ | refine Go.mk ?_ | apply Eff1.of); conv => whnf)
    | with_reducible exact rfl
    | ((with_reducible refine Ov.ok zO ?_); conv => whnf)
    | (with_reducible refine Ov.sh1 (by with_unfolding_all exact rfl) ?_)
    | ((with_reducible refine Ov.quo (by omega) (by omega) (by omega) (fun _ _ => ?_)); conv => whnf)
    | ((with_reducible refine And.intro (show drawOK _ _ _ _ = true by kernel_rfl) ?_); conv => whnf)
    | ((with_reducible refine And.intro zC ?_); conv => whnf)
    | ((with_reducible refine And.intro ?hb ?_); (case hb => exact bytes_bd (Nat.le_of_ble_eq_true rfl) (by omega)); (conv => whnf))
    | ((refine DApp.a rfl rfl rfl rfl rfl rfl ?hb ?_); (case hb => exact zB); (conv => whnf))
    | ((refine DApp.b rfl rfl rfl rfl rfl rfl rfl rfl ?hb ?ho ?_); (case hb => exact zB); (case ho => omega); (conv => whnf))
    | ((refine DApp.c rfl rfl rfl rfl rfl ?hb ?_); (case hb => exact zB); (conv => whnf))
    | ((refine DApp.d rfl rfl rfl rfl rfl rfl ?hb ?ho ?_); (case hb => exact zB); (case ho => omega); (conv => whnf))
    | ((with_reducible refine nil_no (by omega) ?_); (conv => whnf))
    | ((with_reducible refine nil_any ?_ (fun hn0 => ?_)) <;> (conv => whnf))
    | (with_reducible refine CallStop.inline Tryz.func176 rfl rfl rfl (Nat.le_of_ble_eq_true rfl) ?_)
    | ((with_reducible refine CallStop.pure (mach_worker _ _ _) rfl rfl ?_); conv => whnf) | ((with_reducible refine DCall.pure (mach_worker _ _ _) rfl rfl ?_); conv => whnf)
    | ((refine CallStop.fn (mach_note nw nl (fun j => if j = 0 + ((word : Nat) : Int).toNat then new else W j) f clk cnt who 2 word old new (W (0 + ((word : Nat) : Int).toNat) == old) hl hc0 hc1) [0,1,2] rfl rfl rfl rfl rfl ?ha ?hh ?_); (case ha => exact zA); (case hh => ((conv => whnf); repeat' (first | exact trivial | exact ArgLe.rfl rfl | exact ArgLe.ptr rfl | exact ArgLe.sl rfl | exact ⟨rfl, rfl, rfl⟩ | exact fun i hi => rfl | exact fun i hi => ite_row | ((refine ArgLe.iref ?_); (conv => whnf)) | ((with_reducible refine And.intro ?_ ?_) <;> (conv => whnf))))); (conv => whnf))
    | ((refine DCall.fn (mach_note nw nl (fun j => if j = 0 + ((word : Nat) : Int).toNat then new else W j) f clk cnt who 2 word old new (W (0 + ((word : Nat) : Int).toNat) == old) hl hc0 hc1) [0,1,2] [0,1,2] rfl rfl rfl rfl rfl ?ha ?hh ?hs ?_); (case ha => exact zA); (case hh => ((conv => whnf); repeat' (first | exact trivial | exact ArgLe.rfl rfl | exact ArgLe.ptr rfl | exact ArgLe.sl rfl | exact ⟨rfl, rfl, rfl⟩ | exact fun i hi => rfl | exact fun i hi => ite_row | ((refine ArgLe.iref ?_); (conv => whnf)) | ((with_reducible refine And.intro ?_ ?_) <;> (conv => whnf))))); (case hs => exact zK); (conv => whnf)) | ((refine DCall.new (mach_note nw nl (fun j => if j = 0 + ((word : Nat) : Int).toNat then new else W j) f clk cnt who 2 word old new (W (0 + ((word : Nat) : Int).toNat) == old) hl hc0 hc1) [0,1,2] [0,1,2] rfl rfl rfl rfl rfl rfl ?ha ?hh ?hs ?_); (case ha => exact zA); (case hh => ((conv => whnf); repeat' (first | exact trivial | exact ArgLe.rfl rfl | exact ArgLe.ptr rfl | exact ArgLe.sl rfl | exact ⟨rfl, rfl, rfl⟩ | exact fun i hi => rfl | exact fun i hi => ite_row | ((refine ArgLe.iref ?_); (conv => whnf)) | ((with_reducible refine And.intro ?_ ?_) <;> (conv => whnf))))); (case hs => exact zK); (conv => whnf))
    | ((refine DCall.fn (mach_note nw nl (fun j => if j = 0 + ((word : Nat) : Int).toNat then new else W j) f clk cnt who 2 word old new (W (0 + ((word : Nat) : Int).toNat) == old) hl hc0 hc1) [0,1,2] [] rfl rfl rfl rfl rfl ?ha ?hh ?hs ?_); (case ha => exact zA); (case hh => ((conv => whnf); repeat' (first | exact trivial | exact ArgLe.rfl rfl | exact ArgLe.ptr rfl | exact ArgLe.sl rfl | exact ⟨rfl, rfl, rfl⟩ | exact fun i hi => rfl | exact fun i hi => ite_row | ((refine ArgLe.iref ?_); (conv => whnf)) | ((with_reducible refine And.intro ?_ ?_) <;> (conv => whnf))))); (case hs => exact zK); (conv => whnf)) | ((refine DCall.new (mach_note nw nl (fun j => if j = 0 + ((word : Nat) : Int).toNat then new else W j) f clk cnt who 2 word old new (W (0 + ((word : Nat) : Int).toNat) == old) hl hc0 hc1) [0,1,2] [] rfl rfl rfl rfl rfl rfl ?ha ?hh ?hs ?_); (case ha => exact zA); (case hh => ((conv => whnf); repeat' (first | exact trivial | exact ArgLe.rfl rfl | exact ArgLe.ptr rfl | exact ArgLe.sl rfl | exact ⟨rfl, rfl, rfl⟩ | exact fun i hi => rfl | exact fun i hi => ite_row | ((refine ArgLe.iref ?_); (conv => whnf)) | ((with_reducible refine And.intro ?_ ?_) <;> (conv => whnf))))); (case hs => exact zK); (conv => whnf))
    | ((refine CallStop.fn (mach_note nw nl W f clk cnt who 2 word old new (W (0 + ((word : Nat) : Int).toNat) == old) hl hc0 hc1) [0,1,2] rfl rfl rfl rfl rfl ?ha ?hh ?_); (case ha => exact zA); (case hh => ((conv => whnf); repeat' (first | exact trivial | exact ArgLe.rfl rfl | exact ArgLe.ptr rfl | exact ArgLe.sl rfl | exact ⟨rfl, rfl, rfl⟩ | exact fun i hi => rfl | exact fun i hi => ite_row | ((refine ArgLe.iref ?_); (conv => whnf)) | ((with_reducible refine And.intro ?_ ?_) <;> (conv => whnf))))); (conv => whnf))
    | ((refine DCall.fn (mach_note nw nl W f clk cnt who 2 word old new (W (0 + ((word : Nat) : Int).toNat) == old) hl hc0 hc1) [0,1,2] [0,1,2] rfl rfl rfl rfl rfl ?ha ?hh ?hs ?_); (case ha => exact zA); (case hh => ((conv => whnf); repeat' (first | exact trivial | exact ArgLe.rfl rfl | exact ArgLe.ptr rfl | exact ArgLe.sl rfl | exact ⟨rfl, rfl, rfl⟩ | exact fun i hi => rfl | exact fun i hi => ite_row | ((refine ArgLe.iref ?_); (conv => whnf)) | ((with_reducible refine And.intro ?_ ?_) <;> (conv => whnf))))); (case hs => exact zK); (conv => whnf)) | ((refine DCall.new (mach_note nw nl W f clk cnt who 2 word old new (W (0 + ((word : Nat) : Int).toNat) == old) hl hc0 hc1) [0,1,2] [0,1,2] rfl rfl rfl rfl rfl rfl ?ha ?hh ?hs ?_); (case ha => exact zA); (case hh => ((conv => whnf); repeat' (first | exact trivial | exact ArgLe.rfl rfl | exact ArgLe.ptr rfl | exact ArgLe.sl rfl | exact ⟨rfl, rfl, rfl⟩ | exact fun i hi => rfl | exact fun i hi => ite_row | ((refine ArgLe.iref ?_); (conv => whnf)) | ((with_reducible refine And.intro ?_ ?_) <;> (conv => whnf))))); (case hs => exact zK); (conv => whnf))
    | ((refine DCall.fn (mach_note nw nl W f clk cnt who 2 word old new (W (0 + ((word : Nat) : Int).toNat) == old) hl hc0 hc1) [0,1,2] [] rfl rfl rfl rfl rfl ?ha ?hh ?hs ?_); (case ha => exact zA); (case hh => ((conv => whnf); repeat' (first | exact trivial | exact ArgLe.rfl rfl | exact ArgLe.ptr rfl | exact ArgLe.sl rfl | exact ⟨rfl, rfl, rfl⟩ | exact fun i hi => rfl | exact fun i hi => ite_row | ((refine ArgLe.iref ?_); (conv => whnf)) | ((with_reducible refine And.intro ?_ ?_) <;> (conv => whnf))))); (case hs => exact zK); (conv => whnf)) | ((refine DCall.new (mach_note nw nl W f clk cnt who 2 word old new (W (0 + ((word : Nat) : Int).toNat) == old) hl hc0 hc1) [0,1,2] [] rfl rfl rfl rfl rfl rfl ?ha ?hh ?hs ?_); (case ha => exact zA); (case hh => ((conv => whnf); repeat' (first | exact trivial | exact ArgLe.rfl rfl | exact ArgLe.ptr rfl | exact ArgLe.sl rfl | exact ⟨rfl, rfl, rfl⟩ | exact fun i hi => rfl | exact fun i hi => ite_row | ((refine ArgLe.iref ?_); (conv => whnf)) | ((with_reducible refine And.intro ?_ ?_) <;> (conv => whnf))))); (case hs => exact zK); (conv => whnf))
    | ((refine ways (fun hc => ?_) (fun hc => ?_)) <;> (try simp only [decide_eq_true_eq, decide_eq_false_iff_not, Bool.and_eq_true, Bool.or_eq_true, Bool.and_eq_false_iff, Bool.or_eq_false_iff, Bool.not_eq_true', Bool.not_eq_false', beq_iff_eq, bne_iff_ne, ne_eq, beq_eq_false_iff_ne, bne_eq_false_iff_eq, Bool.not_eq_true, Bool.not_eq_false] at hc) <;> (try (exfalso; omega)) <;> (conv => whnf))))
  all_goals simp only [wat] at hc ⊢
  all_goals rw [show (W word == old) = decide (W word = old) from rfl]
  · rw [if_pos hc]
    (refine FinLe.sealB [0,1,2,3] rfl rfl rfl ?_ ?_); (focus ((conv => whnf); (repeat' (first | exact zE | ((refine Seal.ptr rfl rfl ?_); (conv => whnf)) | ((refine Seal.fn ?_); (conv => whnf)) | ((refine Seal.agg ?_); (conv => whnf)) | ((refine Seal.tup ?_); (conv => whnf)) | ((refine Seal.iref ?_); (conv => whnf)) | ((refine And.intro ?_ ?_) <;> (conv => whnf)))))); (focus ((conv => whnf); (repeat' (first | exact zE | ((refine Seal.ptr rfl rfl ?_); (conv => whnf)) | ((refine Seal.fn ?_); (conv => whnf)) | ((refine Seal.agg ?_); (conv => whnf)) | ((refine Seal.tup ?_); (conv => whnf)) | ((refine Seal.iref ?_); (conv => whnf)) | ((refine And.intro ?_ ?_) <;> (conv => whnf))))))
  · rw [if_neg hc]
    (refine FinLe.sealB [0,1,2,3] rfl rfl rfl ?_ ?_); (focus ((conv => whnf); (repeat' (first | exact zE | ((refine Seal.ptr rfl rfl ?_); (conv => whnf)) | ((refine Seal.fn ?_); (conv => whnf)) | ((refine Seal.agg ?_); (conv => whnf)) | ((refine Seal.tup ?_); (conv => whnf)) | ((refine Seal.iref ?_); (conv => whnf)) | ((refine And.intro ?_ ?_) <;> (conv => whnf)))))); (focus ((conv => whnf); (repeat' (first | exact zE | ((refine Seal.ptr rfl rfl ?_); (conv => whnf)) | ((refine Seal.fn ?_); (conv => whnf)) | ((refine Seal.agg ?_); (conv => whnf)) | ((refine Seal.tup ?_); (conv => whnf)) | ((refine Seal.iref ?_); (conv => whnf)) | ((refine And.intro ?_ ?_) <;> (conv => whnf))))))
end Go.Proofs.YtbdclkjelhlfbaaGreat

namespace Go.Proofs.YtbdclkjelhlfbaaGreat
open Go.RowKit
set_option maxRecDepth 100000
def boardS (m h : Nat) : SV := .iref [.ptr m 0, .sl h 1 0 32] 0
def holdB (Hd : Nat → List Dir.Ent) : Blk := .row 80 1 32 fun i => [slOf 2 entD (Hd i)]
theorem ite_rowH {i q : Nat} {x : List Dir.Ent} {Hd : Nat → List Dir.Ent} : (if i = q then [slOf 2 entD x] else [slOf 2 entD (Hd i)]) = [slOf 2 entD (Dir.upd Hd q x i)] := by unfold Dir.upd; split <;> rfl
theorem board_Load (nl : Nat) (W : Nat → Int) (Hd : Nat → List Dir.Ent) (f : Nat → List D) (clk cnt who : Int) (word : Nat) (hl : nl ≤ 128) (hc0 : 0 ≤ cnt) (hc1 : cnt ≤ 4611686018427387903) (hw0 : 0 ≤ who) (hw1 : who < 64) (hw : word < 32) :
    Fun TC 86 4 [boardS 0 2, .i .i64 who, .i .i64 word] [(0, some (machB 1 3 32 nl clk cnt)), (1, some (wordB 32 W)), (2, some (holdB Hd)), (3, some (lastB nl f))]
      5 (.tup [.i .u64 (W word), .d (slOf 2 entD (Hd word))]) [(0, some (machB 1 4 32 (noteN nl) clk (cnt + 1))), (1, some (wordB 32 W)), (2, some (holdB Hd)), (3, none), (4, some (lastB (noteN nl) (noteF nl f (accD who 1 word (W word) 0 true))))] := by
  refine Fun.mk' Tryz.func86 rfl rfl (Nat.le_of_ble_eq_true rfl) (by decide) ?_
  (repeat' (first
    | with_reducible refine Wp.seq ?_
    | with_reducible refine Wp.block ?_
    | ((with_reducible first | refine Wp.region ?_ | refine Wp.drawL TC_mixed ?_ | refine Wp.cond ?_ | refine Wp.ret ?_ | refine Wp.skip ?_ | refine Wp.exit ?_ | refine Go.mk ?_ | apply Eff1.of); conv => whnf)
    | with_reducible exact rfl
    | ((with_reducible refine Ov.ok zO ?_); conv => whnf)
    | (with_reducible refine Ov.sh1 (by with_unfolding_all exact rfl) ?_)
    | ((with_reducible refine Ov.quo (by omega) (by omega) (by omega) (fun _ _ => ?_)); conv => whnf)
    | ((with_reducible refine And.intro (show drawOK _ _ _ _ = true by kernel_rfl) ?_); conv => whnf)
    | ((with_reducible refine And.intro zC ?_); conv => whnf)
    | ((with_reducible refine And.intro ?hb ?_); (case hb => exact bytes_bd (Nat.le_of_ble_eq_true rfl) (by omega)); (conv => whnf))
    | ((refine DApp.a rfl rfl rfl rfl rfl rfl ?hb ?_); (case hb => exact zB); (conv => whnf))
    | ((refine DApp.b rfl rfl rfl rfl rfl rfl rfl rfl ?hb ?ho ?_); (case hb => exact zB); (case ho => omega); (conv => whnf))
    | ((refine DApp.c rfl rfl rfl rfl rfl ?hb ?_); (case hb => exact zB); (conv => whnf))
    | ((refine DApp.d rfl rfl rfl rfl rfl rfl ?hb ?ho ?_); (case hb => exact zB); (case ho => omega); (conv => whnf))
    | ((with_reducible refine nil_no (by omega) ?_); (conv => whnf))
    | ((with_reducible refine nil_any ?_ (fun hn0 => ?_)) <;> (conv => whnf))
    | ((refine CallStop.fn (mach_Load 32 nl W f clk cnt who word hl hc0 hc1 hw0 hw1 hw) [0,1,3] rfl rfl rfl rfl rfl ?ha ?hh ?_); (case ha => exact zA); (case hh => exact zH); (conv => whnf))
    | ((refine DCall.fn (mach_Load 32 nl W f clk cnt who word hl hc0 hc1 hw0 hw1 hw) [0,1,3] [0,1,3] rfl rfl rfl rfl rfl ?ha ?hh ?hs ?_); (case ha => exact zA); (case hh => exact zH); (case hs => exact zK); (conv => whnf)) | ((refine DCall.new (mach_Load 32 nl W f clk cnt who word hl hc0 hc1 hw0 hw1 hw) [0,1,3] [0,1,3] rfl rfl rfl rfl rfl rfl ?ha ?hh ?hs ?_); (case ha => exact zA); (case hh => exact zH); (case hs => exact zK); (conv => whnf))
    | ((refine DCall.fn (mach_Load 32 nl W f clk cnt who word hl hc0 hc1 hw0 hw1 hw) [0,1,3] [] rfl rfl rfl rfl rfl ?ha ?hh ?hs ?_); (case ha => exact zA); (case hh => exact zH); (case hs => exact zK); (conv => whnf)) | ((refine DCall.new (mach_Load 32 nl W f clk cnt who word hl hc0 hc1 hw0 hw1 hw) [0,1,3] [] rfl rfl rfl rfl rfl rfl ?ha ?hh ?hs ?_); (case ha => exact zA); (case hh => exact zH); (case hs => exact zK); (conv => whnf))
    | ((refine ways (fun hc => ?_) (fun hc => ?_)) <;> (try simp only [decide_eq_true_eq, decide_eq_false_iff_not, Bool.and_eq_true, Bool.or_eq_true, Bool.and_eq_false_iff, Bool.or_eq_false_iff, Bool.not_eq_true', Bool.not_eq_false', beq_iff_eq, bne_iff_ne, ne_eq, beq_eq_false_iff_ne, bne_eq_false_iff_eq, Bool.not_eq_true, Bool.not_eq_false] at hc) <;> (try (exfalso; omega)) <;> (conv => whnf))))
  simp only [wat]
  (refine FinLe.sealB [0,1,2,3,4] rfl rfl rfl ?_ ?_); (focus ((conv => whnf); (repeat' (first | exact zE | ((refine Seal.ptr rfl rfl ?_); (conv => whnf)) | ((refine Seal.fn ?_); (conv => whnf)) | ((refine Seal.agg ?_); (conv => whnf)) | ((refine Seal.tup ?_); (conv => whnf)) | ((refine Seal.iref ?_); (conv => whnf)) | ((refine And.intro ?_ ?_) <;> (conv => whnf)))))); (focus ((conv => whnf); (repeat' (first | exact zE | ((refine Seal.ptr rfl rfl ?_); (conv => whnf)) | ((refine Seal.fn ?_); (conv => whnf)) | ((refine Seal.agg ?_); (conv => whnf)) | ((refine Seal.tup ?_); (conv => whnf)) | ((refine Seal.iref ?_); (conv => whnf)) | ((refine And.intro ?_ ?_) <;> (conv => whnf))))))
theorem board_Swap (nl : Nat) (W : Nat → Int) (Hd : Nat → List Dir.Ent) (f : Nat → List D) (clk cnt who old new : Int) (word : Nat) (h : List Dir.Ent) (hl : nl ≤ 128) (hc0 : 0 ≤ cnt) (hc1 : cnt ≤ 4611686018427387903) (hw0 : 0 ≤ who) (hw1 : who < 64) (hw : word < 32) :
    Fun TC 82 4 [boardS 0 2, .i .i64 who, .i .i64 word, .i .u64 old, .i .u64 new, .d (slOf 2 entD h)] [(0, some (machB 1 3 32 nl clk cnt)), (1, some (wordB 32 W)), (2, some (holdB Hd)), (3, some (lastB nl f))]
      5 (.b (decide (W word = old))) [(0, some (machB 1 4 32 (noteN nl) clk (cnt + 1))), (1, some (wordB 32 (if W word = old then Dir.upd W word new else W))), (2, some (holdB (if W word = old then Dir.upd Hd word h else Hd))), (3, none), (4, some (lastB (noteN nl) (noteF nl f (accD who 2 word old new (decide (W word = old))))))] := by
  refine Fun.mk' Tryz.func82 rfl rfl (Nat.le_of_ble_eq_true rfl) (by decide) ?_
  (repeat' (first
    | with_reducible refine Wp.seq ?_
    | with_reducible refine Wp.block ?_
    | ((with_reducible first | refine Wp.region ?_ | refine Wp.drawL TC_mixed ?_ | refine Wp.cond ?_ | refine Wp.ret ?_ | refine Wp.skip ?_ | refine Wp.exit ?_ | refine Go.mk ?_ | apply Eff1.of); conv => whnf)
    | with_reducible exact rfl
    | ((with_reducible refine Ov.ok zO ?_); conv => whnf)
    | (with_reducible refine Ov.sh1 (by with_unfolding_all exact rfl) ?_)
    | ((with_reducible refine Ov.quo (by omega) (by omega) (by omega) (fun _ _ => ?_)); conv => whnf)
    | ((with_reducible refine And.intro (show drawOK _ _ _ _ = true by kernel_rfl) ?_); conv => whnf)
    | ((with_reducible refine And.intro zC ?_); conv => whnf)
    | ((with_reducible refine And.intro ?hb ?_); (case hb => exact bytes_bd (Nat.le_of_ble_eq_true rfl) (by omega)); (conv => whnf))
    | ((refine DApp.a rfl rfl rfl rfl rfl rfl ?hb ?_); (case hb => exact zB); (conv => whnf))
    | ((refine DApp.b rfl rfl rfl rfl rfl rfl rfl rfl ?hb ?ho ?_); (case hb => exact zB); (case ho => omega); (conv => whnf))
    | ((refine DApp.c rfl rfl rfl rfl rfl ?hb ?_); (case hb => exact zB); (conv => whnf))
    | ((refine DApp.d rfl rfl rfl rfl rfl rfl ?hb ?ho ?_); (case hb => exact zB); (case ho => omega); (conv => whnf))
    | ((with_reducible refine nil_no (by omega) ?_); (conv => whnf))
    | ((with_reducible refine nil_any ?_ (fun hn0 => ?_)) <;> (conv => whnf))
    | ((refine CallStop.fn (mach_Swap 32 nl W f clk cnt who old new word hl hc0 hc1 hw0 hw1 hw) [0,1,3] rfl rfl rfl rfl rfl ?ha ?hh ?_); (case ha => exact zA); (case hh => exact zH); (conv => whnf))
    | ((refine DCall.fn (mach_Swap 32 nl W f clk cnt who old new word hl hc0 hc1 hw0 hw1 hw) [0,1,3] [0,1,3] rfl rfl rfl rfl rfl ?ha ?hh ?hs ?_); (case ha => exact zA); (case hh => exact zH); (case hs => exact zK); (conv => whnf)) | ((refine DCall.new (mach_Swap 32 nl W f clk cnt who old new word hl hc0 hc1 hw0 hw1 hw) [0,1,3] [0,1,3] rfl rfl rfl rfl rfl rfl ?ha ?hh ?hs ?_); (case ha => exact zA); (case hh => exact zH); (case hs => exact zK); (conv => whnf))
    | ((refine DCall.fn (mach_Swap 32 nl W f clk cnt who old new word hl hc0 hc1 hw0 hw1 hw) [0,1,3] [] rfl rfl rfl rfl rfl ?ha ?hh ?hs ?_); (case ha => exact zA); (case hh => exact zH); (case hs => exact zK); (conv => whnf)) | ((refine DCall.new (mach_Swap 32 nl W f clk cnt who old new word hl hc0 hc1 hw0 hw1 hw) [0,1,3] [] rfl rfl rfl rfl rfl rfl ?ha ?hh ?hs ?_); (case ha => exact zA); (case hh => exact zH); (case hs => exact zK); (conv => whnf))
    | ((refine ways (fun hc => ?_) (fun hc => ?_)) <;> (try simp only [decide_eq_true_eq, decide_eq_false_iff_not, Bool.and_eq_true, Bool.or_eq_true, Bool.and_eq_false_iff, Bool.or_eq_false_iff, Bool.not_eq_true', Bool.not_eq_false', beq_iff_eq, bne_iff_ne, ne_eq, beq_eq_false_iff_ne, bne_eq_false_iff_eq, Bool.not_eq_true, Bool.not_eq_false] at hc) <;> (try (exfalso; omega)) <;> (conv => whnf))))
  · try simp only [wat]
    rw [if_pos hc, if_pos hc]
    (refine FinLe.sealB [0,1,2,3,4] rfl rfl rfl ?_ ?_); (focus ((conv => whnf); (repeat' (first | exact zE | ((refine Seal.ptr rfl rfl ?_); (conv => whnf)) | ((refine Seal.fn ?_); (conv => whnf)) | ((refine Seal.agg ?_); (conv => whnf)) | ((refine Seal.tup ?_); (conv => whnf)) | ((refine Seal.iref ?_); (conv => whnf)) | ((refine And.intro ?_ ?_) <;> (conv => whnf)))))); (focus ((conv => whnf); (repeat' (first | exact zE | ((refine Seal.ptr rfl rfl ?_); (conv => whnf)) | ((refine Seal.fn ?_); (conv => whnf)) | ((refine Seal.agg ?_); (conv => whnf)) | ((refine Seal.tup ?_); (conv => whnf)) | ((refine Seal.iref ?_); (conv => whnf)) | ((refine And.intro ?_ ?_) <;> (conv => whnf))))))
    exact fun i hi => DLes.of ite_rowH
  · try simp only [wat]
    rw [if_neg hc, if_neg hc]
    (refine FinLe.sealB [0,1,2,3,4] rfl rfl rfl ?_ ?_); (focus ((conv => whnf); (repeat' (first | exact zE | ((refine Seal.ptr rfl rfl ?_); (conv => whnf)) | ((refine Seal.fn ?_); (conv => whnf)) | ((refine Seal.agg ?_); (conv => whnf)) | ((refine Seal.tup ?_); (conv => whnf)) | ((refine Seal.iref ?_); (conv => whnf)) | ((refine And.intro ?_ ?_) <;> (conv => whnf)))))); (focus ((conv => whnf); (repeat' (first | exact zE | ((refine Seal.ptr rfl rfl ?_); (conv => whnf)) | ((refine Seal.fn ?_); (conv => whnf)) | ((refine Seal.agg ?_); (conv => whnf)) | ((refine Seal.tup ?_); (conv => whnf)) | ((refine Seal.iref ?_); (conv => whnf)) | ((refine And.intro ?_ ?_) <;> (conv => whnf))))))
theorem board_Look (nl : Nat) (W : Nat → Int) (Hd : Nat → List Dir.Ent) (f : Nat → List D) (clk cnt : Int) (word : Nat) (hw : word < 32) :
    Fun TC 107 4 [boardS 0 2, .i .i64 word] [(0, some (machB 1 3 32 nl clk cnt)), (1, some (wordB 32 W)), (2, some (holdB Hd)), (3, some (lastB nl f))]
      4 (.tup [.i .u64 (W word), .d (slOf 2 entD (Hd word))]) [(0, some (machB 1 3 32 nl clk cnt)), (1, some (wordB 32 W)), (2, some (holdB Hd)), (3, some (lastB nl f))] := by
  refine Fun.mk' Tryz.func107 rfl rfl (Nat.le_of_ble_eq_true rfl) (by decide) ?_
  (repeat' (first
    | with_reducible refine Wp.seq ?_
    | with_reducible refine Wp.block ?_
    | ((with_reducible first | refine Wp.region ?_ | refine Wp.drawL TC_mixed ?_ | refine Wp.cond ?_ | refine Wp.ret ?_ | refine Wp.skip ?_ | refine Wp.exit ?_ | refine Go.mk ?_ | apply Eff1.of); conv => whnf)
    | with_reducible exact rfl
    | ((with_reducible refine Ov.ok zO ?_); conv => whnf)
    | (with_reducible refine Ov.sh1 (by with_unfolding_all exact rfl) ?_)
    | ((with_reducible refine Ov.quo (by omega) (by omega) (by omega) (fun _ _ => ?_)); conv => whnf)
    | ((with_reducible refine And.intro (show drawOK _ _ _ _ = true by kernel_rfl) ?_); conv => whnf)
    | ((with_reducible refine And.intro zC ?_); conv => whnf)
    | ((with_reducible refine And.intro ?hb ?_); (case hb => exact bytes_bd (Nat.le_of_ble_eq_true rfl) (by omega)); (conv => whnf))
    | ((refine DApp.a rfl rfl rfl rfl rfl rfl ?hb ?_); (case hb => exact zB); (conv => whnf))
    | ((refine DApp.b rfl rfl rfl rfl rfl rfl rfl rfl ?hb ?ho ?_); (case hb => exact zB); (case ho => omega); (conv => whnf))
    | ((refine DApp.c rfl rfl rfl rfl rfl ?hb ?_); (case hb => exact zB); (conv => whnf))
    | ((refine DApp.d rfl rfl rfl rfl rfl rfl ?hb ?ho ?_); (case hb => exact zB); (case ho => omega); (conv => whnf))
    | ((with_reducible refine nil_no (by omega) ?_); (conv => whnf))
    | ((with_reducible refine nil_any ?_ (fun hn0 => ?_)) <;> (conv => whnf))
    | (with_reducible refine CallStop.inline Tryz.func141 rfl rfl rfl (Nat.le_of_ble_eq_true rfl) ?_)
    | (with_reducible refine CallStop.inline Tryz.func176 rfl rfl rfl (Nat.le_of_ble_eq_true rfl) ?_)
    | ((with_reducible refine CallStop.pure (mach_worker _ _ _) rfl rfl ?_); conv => whnf) | ((with_reducible refine DCall.pure (mach_worker _ _ _) rfl rfl ?_); conv => whnf)
    | ((refine ways (fun hc => ?_) (fun hc => ?_)) <;> (try simp only [decide_eq_true_eq, decide_eq_false_iff_not, Bool.and_eq_true, Bool.or_eq_true, Bool.and_eq_false_iff, Bool.or_eq_false_iff, Bool.not_eq_true', Bool.not_eq_false', beq_iff_eq, bne_iff_ne, ne_eq, beq_eq_false_iff_ne, bne_eq_false_iff_eq, Bool.not_eq_true, Bool.not_eq_false] at hc) <;> (try (exfalso; omega)) <;> (conv => whnf))))
  simp only [wat]
  (refine FinLe.sealB [0,1,2,3] rfl rfl rfl ?_ ?_); (focus ((conv => whnf); (repeat' (first | exact zE | ((refine Seal.ptr rfl rfl ?_); (conv => whnf)) | ((refine Seal.fn ?_); (conv => whnf)) | ((refine Seal.agg ?_); (conv => whnf)) | ((refine Seal.tup ?_); (conv => whnf)) | ((refine Seal.iref ?_); (conv => whnf)) | ((refine And.intro ?_ ?_) <;> (conv => whnf)))))); (focus ((conv => whnf); (repeat' (first | exact zE | ((refine Seal.ptr rfl rfl ?_); (conv => whnf)) | ((refine Seal.fn ?_); (conv => whnf)) | ((refine Seal.agg ?_); (conv => whnf)) | ((refine Seal.tup ?_); (conv => whnf)) | ((refine Seal.iref ?_); (conv => whnf)) | ((refine And.intro ?_ ?_) <;> (conv => whnf))))))
end Go.Proofs.YtbdclkjelhlfbaaGreat
