/- Parts of the proof, one behind the other: Sx28, Cc1, Dr3, Cc2, Cc3, Cc4, Cc5. Lemmas and contracts of functions; no condition of its own. -/
import Derived.Test.YtplpofmnhcclbaaGreatMB8
set_option linter.unusedVariables false
set_option linter.unusedSimpArgs false
set_option maxHeartbeats 1000000
namespace Go.Proofs.YtplpofmnhcclbaaGreat
open Go.RowKit
mutual
theorem SV.ren_same {π : Nat → Nat} {m : Nat} (hπ : ∀ l, l < m → π l = l) : ∀ {x : SV}, SV.Lt m x → SV.ren π x = x
 | .any, _ => by unfold SV.ren; rfl
 | .d _, _ => by unfold SV.ren; rfl
 | .ptr _ _, h => by cases h with | ptr _ _ h => unfold SV.ren; rw [hπ _ h]
 | .rp _ _ _ _, h => by cases h with | rp _ _ _ _ h => unfold SV.ren; rw [hπ _ h]
 | .sl _ _ _ _, h => by cases h with | sl _ _ _ _ h => unfold SV.ren; rw [hπ _ h]
 | .agg vs, h => by cases h with | agg _ h => unfold SV.ren; rw [SV.renL_same hπ h]
 | .tup vs, h => by cases h with | tup _ h => unfold SV.ren; rw [SV.renL_same hπ h]
 | .fn _ vs, h => by cases h with | fn _ _ h => unfold SV.ren; rw [SV.renL_same hπ h]
 | .iref vs _, h => by cases h with | iref _ _ h => unfold SV.ren; rw [SV.renL_same hπ h]
theorem SV.renL_same {π : Nat → Nat} {m : Nat} (hπ : ∀ l, l < m → π l = l) : ∀ {xs : List SV}, (∀ x ∈ xs, SV.Lt m x) → SV.renL π xs = xs
 | [], _ => rfl
 | x :: r, h => by
  have h1 : SV.ren π x = x := SV.ren_same hπ (h x (by simp))
  have h2 : SV.renL π r = r := SV.renL_same hπ (fun y hy => h y (by simp [hy]))
  unfold SV.renL; rw [h1, h2]
end
theorem RS.unrenX {E : Env} {nx : Nat} {w : World} {π1 π2 : Nat → Nat} {L : List Nat} {m : Nat} (H : ∀ l, l < m → π2 l < L.length ∧ L.getD (π2 l) 0 = π1 l) :
  ∀ {x : SV}, SV.Lt m x → ∀ {v : Value}, RS E nx w (SV.ren π1 x) v → RS ⟨fun i => E.ρ (L.getD i 0), fun i => E.κ (L.getD i 0), E.Im⟩ L.length w (SV.ren π2 x) v := by
 intro x hx
 induction hx with
 | any => intro v _; exact .any v
 | d x => intro v h; cases h with | d _ _ h => exact .d _ _ h
 | ptr l off hl =>
  intro v h
  cases h with
  | ptr _ _ h =>
   obtain ⟨h1, h2⟩ := H l hl
   have := RS.ptr (E := ⟨fun i => E.ρ (L.getD i 0), fun i => E.κ (L.getD i 0), E.Im⟩) (w := w) (π2 l) off h1
   simp only [h2] at this; exact this
 | rp l esz i off hl =>
  intro v h
  cases h with
  | rp _ _ _ _ h =>
   obtain ⟨h1, h2⟩ := H l hl
   have := RS.rp (E := ⟨fun i => E.ρ (L.getD i 0), fun i => E.κ (L.getD i 0), E.Im⟩) (w := w) (π2 l) esz i off h1
   simp only [h2] at this; exact this
 | sl l esz off len hl =>
  intro v h
  cases h with
  | sl _ _ _ _ a cap h hc hm ha h0 =>
   obtain ⟨h1, h2⟩ := H l hl
   exact .sl _ _ _ _ a cap h1 hc hm (by simp only [h2]; exact ha) (by simp only [h2]; exact h0)
 | agg vs hv ih =>
  intro v h
  simp only [SV.ren, SV.renL_map] at h ⊢
  cases h with
  | agg _ us hs h1 hh =>
   refine .agg _ _ (by simpa using hs) h1 fun j hj => ?_
   have hj' : j < vs.length := by simpa using hj
   rw [List.getElem_map]
   refine ih _ (List.getElem_mem hj') ?_
   have := hh j (by simpa using hj')
   rwa [List.getElem_map] at this
 | tup vs hv ih =>
  intro v h
  simp only [SV.ren, SV.renL_map] at h ⊢
  cases h with
  | tup _ us hs hh =>
   refine .tup _ _ (by simpa using hs) fun j hj => ?_
   have hj' : j < vs.length := by simpa using hj
   rw [List.getElem_map]
   refine ih _ (List.getElem_mem hj') ?_
   have := hh j (by simpa using hj')
   rwa [List.getElem_map] at this
 | fn f vs hv ih =>
  intro v h
  simp only [SV.ren, SV.renL_map] at h ⊢
  cases h with
  | fn _ _ us hs hh =>
   refine .fn _ _ _ (by simpa using hs) fun j hj => ?_
   have hj' : j < vs.length := by simpa using hj
   rw [List.getElem_map]
   refine ih _ (List.getElem_mem hj') ?_
   have := hh j (by simpa using hj')
   rwa [List.getElem_map] at this
 | iref vs off hv ih =>
  intro v h
  simp only [SV.ren, SV.renL_map] at h ⊢
  cases h with
  | iref _ _ b o g hb hcell h1 hh =>
   refine .iref _ _ b o g hb (by simpa using hcell) (by simpa using h1) fun j hj => ?_
   have hj' : j < vs.length := by simpa using hj
   rw [List.getElem_map]
   refine ih _ (List.getElem_mem hj') ?_
   have := hh j (by simpa using hj')
   rwa [List.getElem_map] at this
theorem ArgLe.renX {π1 π2 : Nat → Nat} {L : List Nat} {m : Nat} {x : SV} (hx : SV.Lt m x) (H : ∀ l, l < m → π2 l < L.length ∧ L.getD (π2 l) 0 = π1 l) : ArgLe L (SV.ren π1 x) (SV.ren π2 x) := ⟨fun _ _ _ _ h => h.unrenX H hx⟩
theorem Seal.renX {S : St} {π1 π2 : Nat → Nat} {L : List Nat} {m : Nat} {x : SV} (hx : SV.Lt m x) (H : ∀ l, l < m → π2 l < L.length ∧ L.getD (π2 l) 0 = π1 l) : Seal S L (SV.ren π1 x) (SV.ren π2 x) :=
 ⟨fun O E a w v hs hv => RS.mono (E := ⟨fun i => E.ρ (L.getD i 0), fun i => E.κ (L.getD i 0), E.Im⟩) (E' := E.end S L) (w := w) (fun _ _ => ⟨rfl, rfl⟩) (Nat.le_refl _) (fun b hb => Or.inl hb) (fun _ _ => rfl) (hv.unrenX H hx)⟩
def heapC (S : St) (L V : List Nat) : List (Nat × Option Blk) → Prop
 | [] => True
 | (_, none) :: r => heapC S L V r
 | (i, some b) :: r => bif Nat.blt i L.length then (bif V.any (Nat.beq i) then (match b with | .cf m n _ => m ≤ L.length ∧ n = 0 | _ => False) else blkS S L (lkh S.hp (L.getD i 0)) b) ∧ heapC S L V r else False
def realL (L V : List Nat) : List (Nat × Option Blk) → List Nat
 | [] => []
 | (_, none) :: r => realL L V r
 | (i, some _) :: r => bif V.any (Nat.beq i) then realL L V r else L.getD i 0 :: realL L V r
theorem heapC_out {S : St} {L V : List Nat} : ∀ {H : List (Nat × Option Blk)}, heapC S L V H → ∀ i b, lkh H i = some b → i < L.length ∧ ((V.any (Nat.beq i) = true ∧ ∃ m g, b = .cf m 0 g ∧ m ≤ L.length) ∨ (V.any (Nat.beq i) = false ∧ blkS S L (lkh S.hp (L.getD i 0)) b))
 | [], _, i, b, h => by simp [lkh] at h
 | (j, none) :: r, hk, i, b, h => heapC_out (H := r) hk i b (lkh_dead h).2
 | (j, some b') :: r, hk, i, b, h => by
  unfold heapC at hk
  cases hb : Nat.blt j L.length with
  | false => simp [hb] at hk
  | true =>
   simp only [hb, cond_true] at hk
   rw [lkh_cons] at h
   by_cases e : j = i
   ·subst e; rw [if_pos rfl] at h; cases h
    refine ⟨by simpa using hb, ?_⟩
    cases hv : V.any (Nat.beq j) with
    | true =>
     left
     rw [hv, cond_true] at hk
     refine ⟨rfl, ?_⟩
     have h1 := hk.1
     split at h1
     ·obtain ⟨h2, rfl⟩ := h1; exact ⟨_, _, rfl, h2⟩
     ·exact h1.elim
    | false =>
     right
     rw [hv, cond_false] at hk
     exact ⟨rfl, hk.1⟩
   ·rw [if_neg e] at h; exact heapC_out hk.2 i b h
theorem lkh_mem : ∀ {H : List (Nat × Option Blk)} {i : Nat} {b : Blk}, lkh H i = some b → (i, some b) ∈ H
 | [], i, b, h => by simp [lkh] at h
 | (j, o) :: r, i, b, h => by
  rw [lkh_cons] at h
  by_cases e : j = i
  ·subst e; rw [if_pos rfl] at h; subst h; simp
  ·rw [if_neg e] at h; exact List.mem_cons_of_mem _ (lkh_mem h)
theorem realL_mem {L V : List Nat} : ∀ {H : List (Nat × Option Blk)} {i : Nat} {b : Blk}, (i, some b) ∈ H → V.any (Nat.beq i) = false → L.getD i 0 ∈ realL L V H
 | (j, none) :: r, i, b, h, hv => by
  unfold realL
  rcases List.mem_cons.1 h with h | h
  ·cases h
  ·exact realL_mem h hv
 | (j, some c) :: r, i, b, h, hv => by
  unfold realL
  rcases List.mem_cons.1 h with h | h
  ·cases h; rw [hv, cond_false]; simp
  ·have := realL_mem (L := L) (V := V) h hv
   cases V.any (Nat.beq j) with
   | true => exact this
   | false => exact List.mem_cons_of_mem _ this
theorem realL_ne {L V : List Nat} : ∀ {H : List (Nat × Option Blk)}, noDup (realL L V H) = true → ∀ {i j : Nat} {b c : Blk}, (i, some b) ∈ H → (j, some c) ∈ H → V.any (Nat.beq i) = false → V.any (Nat.beq j) = false → i ≠ j → L.getD i 0 ≠ L.getD j 0
 | (q, none) :: r, hd, i, j, b, c, hi, hj, vi, vj, hne => by
  unfold realL at hd
  rcases List.mem_cons.1 hi with hi | hi
  ·cases hi
  ·rcases List.mem_cons.1 hj with hj | hj
   ·cases hj
   ·exact realL_ne hd hi hj vi vj hne
 | (q, some d) :: r, hd, i, j, b, c, hi, hj, vi, vj, hne => by
  unfold realL at hd
  have key : ∀ {k : Nat} {e : Blk}, V.any (Nat.beq q) = false → (k, some e) ∈ r → V.any (Nat.beq k) = false → L.getD q 0 ≠ L.getD k 0 := by
   intro k e hq hk vk h
   rw [hq, cond_false] at hd
   unfold noDup at hd
   cases h1 : (realL L V r).any (Nat.beq (L.getD q 0)) with
   | true => rw [h1] at hd; exact absurd hd (by simp)
   | false =>
    rw [List.any_eq_false] at h1
    exact h1 _ (realL_mem (L := L) hk vk) (by rw [h]; exact Nat.beq_refl _)
  have hd' : noDup (realL L V r) = true := by
   cases hq : V.any (Nat.beq q) with
   | true => rw [hq, cond_true] at hd; exact hd
   | false =>
    rw [hq, cond_false] at hd
    unfold noDup at hd
    cases h1 : (realL L V r).any (Nat.beq (L.getD q 0)) with
    | true => rw [h1] at hd; exact absurd hd (by simp)
    | false => rw [h1] at hd; exact hd
  rcases List.mem_cons.1 hi with hi' | hi'
  ·cases hi'
   rcases List.mem_cons.1 hj with hj' | hj'
   ·cases hj'; exact absurd rfl hne
   ·exact key vi hj' vj
  ·rcases List.mem_cons.1 hj with hj' | hj'
   ·cases hj'; exact (key vj hi' vi).symm
   ·exact realL_ne hd' hi' hj' vi vj hne
theorem FinLe.sealC {m m' : Nat} {S : St} {x r : SV} {H' : List (Nat × Option Blk)} (L V : List Nat) (hlen : L.length = m') (hmm : idP L m = true) (hd : noDup (realL L V H') = true) (hx : Seal S L x r) (hH : heapC S L V H') : FinLe m S x m' r H' := by
 have hm : ∀ i, i < m → L.getD i 0 = i := fun i hi => by unfold idP at hmm; rw [List.all_eq_true] at hmm; exact Nat.eq_of_beq_eq_true (hmm i (by simpa using hi))
 refine ⟨fun O E a w v hO hs hv => ?_⟩
 subst hlen
 have hblk : ∀ i b, lkh H' i = some b → i < L.length ∧ (b.real (E.κ (L.getD i 0)) → ∃ b0, V.any (Nat.beq i) = false ∧ lkh S.hp (L.getD i 0) = some b0 ∧ b0.real (E.κ (L.getD i 0))) ∧ BS (E.end S L) L.length w i b := by
  intro i b hb
  obtain ⟨g1, g2⟩ := heapC_out hH i b hb
  rcases g2 with ⟨_, m, g, rfl, hm'⟩ | ⟨hV, g2⟩
  ·exact ⟨g1, fun h => absurd h (Nat.lt_irrefl 0), hm', fun h => absurd h (Nat.lt_irrefl 0)⟩
  unfold blkS at g2
  split at g2
  ·rename_i cs cs' hl
   refine ⟨g1, fun _ => ⟨_, hV, hl, trivial⟩, ?_⟩
   obtain ⟨vs, T, k1, k2, k3⟩ := hs.hp _ _ hl
   have hlen := g2.out.1
   refine ⟨vs, T, k1, by omega, fun j hj => ?_⟩
   obtain ⟨q1, q2⟩ := g2.at hj
   exact ⟨q2.out O E a w _ hs (k3 j q1).1, (k3 j q1).2⟩
  ·rename_i e z n f e' z' n' f' hl
   obtain ⟨⟨rfl, rfl, rfl⟩, g3⟩ := g2
   refine ⟨g1, fun h => ⟨_, hV, hl, h⟩, ?_⟩
   obtain ⟨k1, k2, k3, k4, k5⟩ := hs.hp _ _ hl
   refine ⟨k1, k2, k3, fun i hi => by rw [← (g3 i hi).out.1]; exact k4 i hi, fun hk => ?_⟩
   obtain ⟨vs, q1, q2, q3, q4⟩ := k5 hk
   refine ⟨vs, q1, q2, q3, fun i j hi hj => ?_⟩
   obtain ⟨p1, p2⟩ := (g3 i hi).out
   exact ((p2 j (by omega) hj).out _ _ _ (q4 i j hi (by omega))).mono (fun b hb => Or.inl hb) fun _ _ => rfl
  ·rename_i m n g m' n' g' hl
   obtain ⟨⟨rfl, hm'⟩, g3⟩ := g2
   refine ⟨g1, fun h => ⟨_, hV, hl, h⟩, ?_⟩
   obtain ⟨k0, hh⟩ := hs.hp _ _ hl
   refine ⟨hm', fun hp => ?_⟩
   obtain ⟨vs, T, k1, k2, k3⟩ := hh hp
   exact ⟨vs, T, k1, k2, fun j hj => ⟨(g3 j hj).2, (g3 j hj).1.out O E a w _ hs (k3 j hj).2.1, (k3 j hj).2.2⟩⟩
  ·rename_i cs m' n' g' hl
   obtain ⟨hm', g3, g4⟩ := g2
   refine ⟨g1, fun _ => ⟨_, hV, hl, trivial⟩, ?_⟩
   obtain ⟨vs, T, k1, k2, k3⟩ := hs.hp _ _ hl
   have hlen := g3.out.1
   refine ⟨hm', fun _ => ⟨vs, T, k1, by simp at hlen; omega, fun j hj => ?_⟩⟩
   obtain ⟨q1, q2⟩ := g3.at (j := j) (by simpa using hj)
   simp only [List.getElem_map, List.getElem_range] at q2
   exact ⟨g4 j hj, q2.out O E a w _ hs (k3 j q1).1, (k3 j q1).2⟩
  ·exact g2.elim
 have hmem : ∀ i, i < L.length → L.getD i 0 ∈ L := fun i hi => by simp [List.getD, List.getElem?_eq_getElem hi]
 refine ⟨E.end S L, ⟨fun i b hb => (hblk i b hb).2.2, fun i b hb => (hblk i b hb).1, ?_, ?_⟩, fun l hl => by simp only [Env.end]; rw [hm l hl]; exact ⟨rfl, rfl⟩, ?_, ?_, fun b hb => Or.inl hb, hx.out O E a w v hs hv⟩
 ·intro i j b b' hi hj hr hr' hne
  obtain ⟨b0, v0, g2, g3⟩ := (hblk i b hi).2.1 hr
  obtain ⟨b1, v1, g5, g6⟩ := (hblk j b' hj).2.1 hr'
  exact hs.inj _ _ _ _ g2 g5 g3 g6 (realL_ne hd (lkh_mem hi) (lkh_mem hj) v0 v1 hne)
 ·intro b hb
  rcases hb with hb | ⟨l, y, hl, hr, rfl, hn⟩
  ·obtain ⟨k1, _, k3⟩ := hs.im b hb
   refine ⟨k1, fun i z hz hzr => ?_⟩
   obtain ⟨b0, v0, g2, g3⟩ := (hblk i z hz).2.1 hzr
   exact k3 _ _ g2 g3
  ·refine ⟨(hs.hp _ _ hl).lt hr, fun i z hz hzr => ?_⟩
   obtain ⟨b0, v0, g2, g3⟩ := (hblk i z hz).2.1 hzr
   exact hs.inj _ _ _ _ g2 hl g3 hr (fun e => hn (e ▸ hmem i (hblk i z hz).1))
 ·rintro b ⟨i, z, hz, hzr, rfl⟩
  obtain ⟨b0, v0, g2, g3⟩ := (hblk i z hz).2.1 hzr
  exact ⟨_, _, g2, g3, rfl⟩
 ·rintro b (hb | ⟨l, y, hl, hr, rfl, hn⟩)
  ·exact Or.inl hb
  ·exact Or.inr ⟨l, y, hl, hr, rfl⟩
set_option maxRecDepth 100000
theorem SV.Le.sl' {z n m : Nat} {f g : Nat → List D} (e : n = m) (h : ∀ i, i < m → f i = g i) : SV.Le (.d (.sl z n f)) (.d (.sl z m g)) := by
 subst e; exact SV.Le.sl h
theorem core_sum (pol : Int) (key : List Int) : Pure TC 51 [.i .i64 pol, .d (slOf 1 (encI .u8) key)] (.i .u64 (sumK (identL pol key))) := by
 refine Pure.mk' Tryz.func51 rfl rfl zN ?_
 (repeat' (first | ((first | refine Wp.any TC_mixed rfl ?_ | (with_reducible first | refine Go.mk ?_ | apply Eff1.of | refine CallStop.pure (hash_Ident _ _) rfl rfl ?_ | refine CallStop.pure (hash_Sum _) rfl rfl ?_)); conv => whnf)))
 exact .i rfl
theorem app_rowC (zs : List Cel) (c : Cel) : ∀ k, k < zs.length + 1 → catF zs.length (fun i => Cel.D (zs.getD i default)) (fun i => chunkD (Cel.D c) 4 (0 + i)) k = Cel.D ((zs ++ [c]).getD k default) := fun k hk => by
 simp only [catF]
 by_cases e : k < zs.length
 ·rw [if_pos e, List.getD_eq_getElem?_getD, List.getD_eq_getElem?_getD, List.getElem?_append_left e]
 ·rw [if_neg e]
  obtain rfl : k = zs.length := by omega
  have : (zs ++ [c]).getD zs.length default = c := by simp
  rw [Nat.sub_self, this]; rfl
theorem getCC {xs : List Cel} {k : Nat} (h : k < xs.length) : xs.getD (k : Int).toNat default = xs[k] := by
 rw [Int.toNat_natCast, List.getD_eq_getElem?_getD, List.getElem?_eq_getElem h]; rfl
theorem cutC_take {xs : List Cel} {lv sh j : Nat} (h : j < xs.length) : cutC (xs.take (j + 1)) lv sh = if sumK (identL (xs.getD (j : Int).toNat default).pol (xs.getD (j : Int).toNat default).key) % 2 ^ lv = (sh : Int) then cutC (xs.take j) lv sh ++ [xs.getD (j : Int).toNat default] else cutC (xs.take j) lv sh := by
 rw [getCC h]
 unfold cutC
 rw [List.take_succ_eq_append_getElem h, List.filter_append]
 split
 ·rename_i e; rw [List.filter_cons_of_pos (by simpa [inShC] using e)]; simp
 ·rename_i e; rw [List.filter_cons_of_neg (by simpa [inShC] using e)]; simp
theorem core_cut (xs : List Cel) (lv sh : Nat) (hlv : lv ≤ 4) (hl : xs.length ≤ 16777216) : Pure TC 46 [.d (slOf 4 Cel.D xs), .i .i64 lv, .i .i64 sh] (.d (slOf 4 Cel.D (cutC xs lv sh))) := by
 refine Pure.mk' Tryz.func46 rfl rfl zN ?_
 (repeat' (first | ((first | refine Wp.any TC_mixed rfl ?_ | (with_reducible first | refine Go.mk ?_ | apply Eff1.of)); conv => whnf)))
 refine Wp.le (Le.virt 7 87 4 (fun i => Cel.D (([] : List Cel).getD i default)) (by decide) rfl) ?_
 refine Wp.loopP (ι := Nat) (fun j => j ≤ xs.length) (fun j => ⟨⟨Tryz.f46.ntmps, 0⟩, 1, [(1, .i .i64 lv), (2, .i .i64 sh), (7, .sl 0 4 0 (cutC (xs.take j) lv sh).length), (14, .d (slOf 4 Cel.D xs)), (15, .i .i64 xs.length), (16, .i .i64 j)], [(0, some (rowOf 87 4 Cel.D (cutC (xs.take j) lv sh)))]⟩) (fun j => xs.length - j) 0 (Nat.zero_le _) ?_ ?_
 ·(refine Le.by [0] rfl rfl rfl rfl ?_ ?_ <;> (conv => whnf) <;> (repeat' (first | exact trivial | exact ArgLe.rfl rfl | exact ArgLe.sl rfl | exact ⟨rfl, rfl, rfl⟩ | exact fun i hi => rfl | ((with_reducible refine And.intro ?_ ?_) <;> (conv => whnf)))))
 ·rintro j h1
  have hfl : (cutC (xs.take j) lv sh).length ≤ 16777216 := by
   have q1 := List.length_filter_le (inShC lv sh) (xs.take j)
   rw [List.length_take] at q1
   unfold cutC; omega
  (repeat' (first | ((first | refine Wp.any TC_mixed rfl ?_ | (with_reducible first | refine Go.mk ?_ | apply Eff1.of | refine Ov.ok zO ?_ | refine And.intro zC ?_)); conv => whnf) | ((with_reducible refine And.intro ?hb ?_); (case hb => exact zz3); (conv => whnf)) | ((with_reducible first | refine CallStop.pure (hash_Ident _ _) rfl rfl ?_ | refine CallStop.pure (hash_Shard _ lv hlv) rfl rfl ?_); conv => whnf) | ((refine ways (fun hc => ?_) (fun hc => ?_)) <;> (try simp only [wz9] at hc) <;> (try (exfalso; omega)) <;> (conv => whnf))))
  ·refine ⟨j + 1, by dsimp only; omega, by dsimp only; omega, ?_⟩
   dsimp only
   rw [cutC_take (by omega), if_pos hc]
   (refine Le.by [3] rfl rfl rfl rfl ?_ ?_ <;> (conv => whnf) <;> (repeat' (first | exact trivial | exact ArgLe.rfl rfl | ((with_reducible refine And.intro ?_ ?_) <;> (conv => whnf)))))
   ·rw [List.length_append]; exact ArgLe.sl rfl
   all_goals first | exact app_rowC _ _ | rfl | (simp; done)
  ·refine ⟨j + 1, by dsimp only; omega, by dsimp only; omega, ?_⟩
   dsimp only
   rw [cutC_take (by omega), if_neg hc]
   (refine Le.by [0] rfl rfl rfl rfl ?_ ?_ <;> (conv => whnf) <;> (repeat' (first | exact trivial | exact ArgLe.rfl rfl | exact ArgLe.sl rfl | exact ⟨rfl, rfl, rfl⟩ | exact fun i hi => rfl | ((with_reducible refine And.intro ?_ ?_) <;> (conv => whnf)))))
  ·obtain rfl : j = xs.length := by omega
   rw [List.take_length]
   exact SV.Le.sl fun j hj => by simp only [Nat.zero_add]
theorem search_celP (xs : List Cel) (t : Cel) (hlen : xs.length ≤ 4611686018427387903) (hx : ∀ k, IsB (xs.getD k default).key) (ht : IsB t.key) :
  Pure TC 109 [.d (slOf 4 Cel.D xs), t.S, .d (.fn (.func 60) [])] (.tup [.i .i64 (posC xs t), .b (hasC xs t)]) := by
 refine Pure.mk' Tryz.func109 rfl rfl zN ?_
 (repeat' (first | ((first | refine Wp.any TC_mixed rfl ?_ | (with_reducible first | refine Go.mk ?_ | apply Eff1.of)); conv => whnf)))
 refine Wp.loopP (ι := Nat × Nat × Nat) (fun k => k.1 ≤ k.2.1 ∧ k.2.1 ≤ xs.length ∧ k.2.1 - k.1 < k.2.2 ∧ bsF (fun k => decide (ordC (xs.getD k default) t < 0)) k.2.2 k.1 k.2.1 = posC xs t) (fun k => ⟨⟨Tryz.f109.ntmps, 0⟩, 1, [(0, .d (slOf 4 Cel.D xs)), (2, .d (.fn (.func 60) [])), (4, .ptr 0 0), (8, .i .i64 xs.length), (9, .i .i64 k.1), (10, .i .i64 k.2.1)], [(0, some (.cells [.i .i64 t.pol, .d (slOf 1 (encI .u8) t.key), .i .i64 t.tat, .d (slOf 1 (encI .i64) t.held)]))]⟩) (fun k => k.2.1 - k.1) (0, xs.length, xs.length + 1) ⟨by simp, by simp, by simp, rfl⟩ ?_ ?_
 ·(refine Le.by [0] rfl rfl rfl rfl ?_ ?_ <;> (conv => whnf) <;> (repeat' (first | exact trivial | exact ArgLe.rfl rfl | exact ArgLe.ptr rfl | ((with_reducible refine And.intro ?_ ?_) <;> (conv => whnf)))))
 ·rintro ⟨i, j, q⟩ ⟨h1, h2, h3, h4⟩
  dsimp only at h1 h2 h3 h4 ⊢
  (repeat' (first | ((first | refine Wp.any TC_mixed rfl ?_ | (with_reducible first | refine Go.mk ?_ | apply Eff1.of | refine Ov.ok zO ?_)); conv => whnf) | (with_reducible refine Ov.sh1 (by with_unfolding_all exact rfl) ?_) | ((first | refine zV ?_ | (with_reducible first | refine And.intro zC ?_ | refine DCall.pure (book_Order (xs.getD _ default) t (hx _) ht) rfl rfl ?_)); conv => whnf) | ((refine ways (fun hc => ?_) (fun hc => ?_)) <;> (try simp only [wz9] at hc) <;> (try (exfalso; omega)) <;> (conv => whnf))))
  ·rw [show (((i : Int) + j) / 2).toNat = (i + j) / 2 by omega] at hc
   have hh : decide (ordC (xs.getD ((i + j) / 2) default) t < 0) = true := by simpa using hc
   refine ⟨((i + j) / 2 + 1, j, q - 1), ⟨by dsimp only; omega, h2, by dsimp only; omega, ?_⟩, by dsimp only; omega, ?_⟩
   ·rw [← h4]
    obtain ⟨q, rfl⟩ : ∃ r, q = r + 1 := ⟨q - 1, by omega⟩
    rw [bsF, if_pos (by omega), if_pos hh]; rfl
   ·(refine Le.by [0] rfl rfl rfl rfl ?_ ?_ <;> (conv => whnf) <;> (repeat' (first | exact trivial | exact ArgLe.rfl rfl | exact ArgLe.ptr rfl | ((with_reducible refine And.intro ?_ ?_) <;> (conv => whnf)))))
  ·rw [show (((i : Int) + j) / 2).toNat = (i + j) / 2 by omega] at hc
   have hh : ¬ decide (ordC (xs.getD ((i + j) / 2) default) t < 0) = true := by simpa using hc
   refine ⟨(i, (i + j) / 2, q - 1), ⟨by dsimp only; omega, by dsimp only; omega, by dsimp only; omega, ?_⟩, by dsimp only; omega, ?_⟩
   ·rw [← h4]
    obtain ⟨q, rfl⟩ : ∃ r, q = r + 1 := ⟨q - 1, by omega⟩
    rw [bsF, if_pos (by omega), if_neg hh]; rfl
   ·(refine Le.by [0] rfl rfl rfl rfl ?_ ?_ <;> (conv => whnf) <;> (repeat' (first | exact trivial | exact ArgLe.rfl rfl | exact ArgLe.ptr rfl | ((with_reducible refine And.intro ?_ ?_) <;> (conv => whnf)))))
  all_goals rw [bsF_end (by omega)] at h4
  all_goals subst h4
  ·rw [show ((posC xs t : Nat) : Int).toNat = posC xs t by omega]
   exact .of_eq (by rw [show hasC xs t = (ordC (xs.getD (posC xs t) default) t == 0) by
    unfold hasC; rw [decide_eq_true (by omega), Bool.true_and]; rfl])
  ·exact .of_eq (by rw [show hasC xs t = false by unfold hasC; rw [decide_eq_false (by omega), Bool.false_and]])
theorem Pure.le' {C : Cx} {g : Nat} {args args' : List SV} {r : SV} (h : Pure C g args' r) (ha : Les args args') : Pure C g args r :=
 ⟨h.ent, fun E w vs hIm hsz hargs => h.out E w vs hIm (hsz.trans ha.len) fun j hj => (ha.out j (by rw [ha.len]; exact hj) hj).out _ _ _ _ (hargs j (by rw [ha.len]; exact hj))⟩
theorem book_FindP (xs : List Cel) (pol : Int) (key : List Int) (hlen : xs.length ≤ 4611686018427387903) (hx : ∀ k, IsB (xs.getD k default).key) (ht : IsB key) :
  Pure TC 70 [.d (slOf 4 Cel.D xs), .i .i64 pol, .d (slOf 1 (encI .u8) key)] (.tup [.i .i64 (posC xs (newC pol key)), .b (hasC xs (newC pol key)), (findC xs pol key).S]) := by
 refine Pure.mk' Tryz.func70 rfl rfl zN ?_
 have hS : Pure TC 109 [.d (slOf 4 Cel.D xs), .agg [.i .i64 pol, .d (slOf 1 (encI .u8) key), .i .i64 0, .d (.val (.slice none 0 0))], .d (.fn (.func 60) [])] (.tup [.i .i64 (posC xs (newC pol key)), .b (hasC xs (newC pol key))]) :=
  (search_celP xs (newC pol key) hlen hx ht).le' (.cons (.rfl _) (.cons (.agg (.cons (.rfl _) (.cons (.rfl _) (.cons (.rfl _) (.cons .nil .nil))))) (.cons (.rfl _) .nil)))
 (repeat' (first | ((first | refine Wp.any TC_mixed rfl ?_ | (with_reducible first | refine Go.mk ?_ | apply Eff1.of) | refine zV ?_ | (with_reducible first | refine And.intro zC ?_ | refine CallStop.pure (hS) rfl rfl ?_)); conv => whnf) | ((refine ways (fun hc => ?_) (fun hc => ?_)) <;> (try simp only [wz9, hasC_t, hasC_f] at hc) <;> (try (exfalso; omega)) <;> (conv => whnf))))
 ·rw [show ((posC xs (newC pol key) : Nat) : Int).toNat = posC xs (newC pol key) by omega, show findC xs pol key = xs.getD (posC xs (newC pol key)) default by rw [findC, if_pos ((hasC_t ..).2 hc)]]
  exact .rfl _
 ·rw [show findC xs pol key = newC pol key by rw [findC, if_neg (by rw [hasC_t]; exact hc)]]
  exact .tup (.cons (.rfl _) (.cons (.rfl _) (.cons (.agg (.cons (.rfl _) (.cons (.rfl _) (.cons (.rfl _) (.cons .nil .nil))))) .nil)))
theorem book_WithP (xs : List Cel) (at' : Nat) (there : Bool) (c : Cel) (hn : xs.length ≤ 16777215) (hk : c.key.length ≤ 16777216) (h1 : at' ≤ xs.length) (h2 : there = true → at' < xs.length) :
  Pure TC 75 [.d (slOf 4 Cel.D xs), .i .i64 at', .b there, c.S] (.d (slOf 4 Cel.D (withC xs at' there c))) := by
 cases there with
 | true =>
  have h2 := h2 rfl
  refine Pure.mk' Tryz.func75 rfl rfl zN ?_
  (repeat' (first | ((first | refine Wp.any TC_mixed rfl ?_ | (with_reducible first | refine Go.mk ?_ | apply Eff1.of | refine And.intro zC ?_)); conv => whnf) | ((refine CallStop.fn (cel_Clone xs (by omega)) [] rfl rfl rfl rfl rfl ?ha ?hh ?_); (case ha => exact zA); (case hh => exact zH); (conv => whnf))))
  have hl : xs.length = (withC xs at' true c).length := by simp [withC]
  refine SV.Le.sl' hl fun i hi => ?_
  simp only [Nat.zero_add, withC, if_true, List.getD_eq_getElem?_getD, List.getElem?_set]
  by_cases h : at' = i
  ·subst h; simp [h2]; rfl
  ·rw [if_neg h, if_neg (fun e => h (by omega))]
 | false =>
  refine Pure.mk' Tryz.func75 rfl rfl zN ?_
  (repeat' (first | ((first | refine Wp.any TC_mixed rfl ?_ | (with_reducible first | refine Go.mk ?_ | apply Eff1.of | refine And.intro zC ?_)); conv => whnf) | ((refine CallStop.fn (cel_Clone xs (by omega)) [] rfl rfl rfl rfl rfl ?ha ?hh ?_); (case ha => exact zA); (case hh => exact zH); (conv => whnf)) | ((with_reducible refine CallStop.pure (bytes_CloneP _ (by omega)) rfl rfl ?_); conv => whnf) | ((refine CallStop.fn (cel_Insert xs at' c (by omega) (by omega)) [1,2] rfl rfl rfl rfl rfl ?ha ?hh ?_); (case ha => exact zA); (case hh => exact zH); (conv => whnf))))
  exact SV.Le.sl fun i hi => by simp only [Nat.zero_add]; rfl
set_option maxRecDepth 100000
def machB (lw ll nw nl : Nat) (clk cnt : Int) : Blk := .cells [.sl lw 1 0 nw, .i .i64 clk, .i .i64 cnt, .sl ll 6 0 nl]
def wordB (nw : Nat) (W : Nat → Int) : Blk := .row 78 1 nw fun i => encI .u64 (W i)
def lastB (nl : Nat) (f : Nat → List D) : Blk := .row 272 6 nl f
def accD (who kind word old new : Int) (done : Bool) : List D := [.val (.int .i64 who), .val (.int .u8 kind), .val (.int .i64 word), .val (.int .u64 old), .val (.int .u64 new), .val (.bool done)]
def noteN (nl : Nat) : Nat := if nl + 1 ≤ 128 then nl + 1 else 64
def noteF (nl : Nat) (f : Nat → List D) (a : List D) : Nat → List D := if nl + 1 ≤ 128 then catF nl f fun _ => a else fun i => catF nl f (fun _ => a) (nl + 1 - 64 + i)
theorem noteN_le {nl : Nat} (h : nl ≤ 128) : noteN nl ≤ 128 := by unfold noteN; split <;> omega
theorem acc_Clone (n o m : Nat) (f : Nat → List D) (hn : n ≤ 1000) (ho : o + m ≤ n) (hm : 0 < m) : Fun TC 235 1 [.sl 0 6 o m] [(0, some (lastB n f))] 2 (.sl 1 6 0 m) [(0, some (lastB n f)), (1, some (lastB m fun i => f (o + i)))] := by
 refine Fun.mk' Tryz.func235 rfl rfl zN (by decide) ?_
 (repeat' (first | ((first | refine Wp.any TC_mixed rfl ?_ | (with_reducible first | refine Go.mk ?_ | apply Eff1.of | refine And.intro zC ?_)); conv => whnf) | ((with_reducible refine And.intro ?hb ?_); (case hb => exact zz3); (conv => whnf)) | ((with_reducible refine nil_no (by omega) ?_); (conv => whnf))))
 all_goals try exact absurd trivial hc
 refine FinLe.of [0, 2] rfl (fun i hi => by have : i = 0 := (by omega); subst this; rfl) rfl ?_ ?_
 ·exact .of_eq (congrArg (SV.sl _ _ _) (Nat.zero_add _))
 ·refine ⟨⟨⟨rfl, rfl, rfl⟩, fun i hi => rfl⟩, ⟨⟨rfl, rfl, Nat.zero_add _⟩, fun i hi => ?_⟩, trivial⟩
  simp [catF]
theorem mach_note (nw nl : Nat) (W : Nat → Int) (f : Nat → List D) (clk cnt who kind word old new : Int) (done : Bool) (hl : nl ≤ 128) (hc0 : 0 ≤ cnt) (hc1 : cnt ≤ 4611686018427387903) :
  Fun TC 188 3 [.ptr 0 0, .agg [.i .i64 who, .i .u8 kind, .i .i64 word, .i .u64 old, .i .u64 new, .b done]] [(0, some (machB 1 2 nw nl clk cnt)), (1, some (wordB nw W)), (2, some (lastB nl f))]
   4 (.tup []) [(0, some (machB 1 3 nw (noteN nl) clk (cnt + 1))), (1, some (wordB nw W)), (2, none), (3, some (lastB (noteN nl) (noteF nl f (accD who kind word old new done))))] := by
 refine Fun.mk' Tryz.func188 rfl rfl zN (by decide) ?_
 (repeat' (first | ((first | refine Wp.any TC_mixed rfl ?_ | (with_reducible first | refine Go.mk ?_ | apply Eff1.of | refine Ov.ok zO ?_) | refine zV ?_ | with_reducible refine And.intro zC ?_); conv => whnf) | ((refine DApp.b rfl rfl rfl rfl rfl rfl rfl rfl ?hb ?ho ?_); (case hb => exact zB); (case ho => omega); (conv => whnf)) | ((refine DCall.new (acc_Clone (nl + 1) (0 + (((nl + 1 : Nat) : Int) - 64).toNat) (nl + 1 - (((nl + 1 : Nat) : Int) - 64).toNat) (catF nl f fun i => chunkD (accD who kind word old new done) 6 (0 + i)) (by omega) (by omega) (by omega)) [11] [11] rfl rfl rfl rfl rfl rfl ?ha ?hh ?hs ?_); (case ha => exact zA); (case hh => exact zH); (case hs => exact zK); (conv => whnf)) | ((refine ways (fun hc => ?_) (fun hc => ?_)) <;> (try simp only [wz9] at hc) <;> (try (exfalso; omega)) <;> (conv => whnf))))
 ·have hN : noteN nl = nl + 1 - (((nl + 1 : Nat) : Int) - 64).toNat := by unfold noteN; rw [if_neg (by omega)]; omega
  rw [hN]
  refine FinLe.sealB [0, 1, 2, 27] rfl rfl rfl (Seal.tup trivial) ?_
  conv => whnf
  (repeat' (first | exact zE | ((refine And.intro ?_ ?_) <;> (conv => whnf))))
  intro i hi
  refine DLes.of ?_
  unfold noteF
  rw [if_neg (by omega)]
  show catF nl f _ (0 + (((nl + 1 : Nat) : Int) - 64).toNat + i) = catF nl f _ (nl + 1 - 64 + i)
  rw [show 0 + (((nl + 1 : Nat) : Int) - 64).toNat + i = nl + 1 - 64 + i by omega]
  unfold catF
  by_cases h : nl + 1 - 64 + i < nl
  ·rw [if_pos h, if_pos h]
  ·rw [if_neg h, if_neg h, show nl + 1 - 64 + i - nl = 0 by omega]; rfl
 ·have hN : noteN nl = nl + 1 := by unfold noteN; rw [if_pos (by omega)]
  rw [hN]
  refine FinLe.sealB [0, 1, 2, 11] rfl rfl rfl (Seal.tup trivial) ?_
  conv => whnf
  (repeat' (first | exact zE | ((refine And.intro ?_ ?_) <;> (conv => whnf))))
  intro i hi
  refine DLes.of ?_
  unfold noteF
  rw [if_pos (by omega)]
  unfold catF
  by_cases h : i < nl
  ·rw [if_pos h, if_pos h]
  ·rw [if_neg h, if_neg h, show i - nl = 0 by omega]; rfl
theorem ite_row {i q : Nat} {k : IntKind} {x y : Int} : (if i = q then [D.val (.int k x)] else encI k y) = encI k (if i = q then x else y) := by split <;> rfl
theorem wat (w : Nat) : 0 + ((w : Nat) : Int).toNat = w := by omega
theorem mach_Load (nw nl : Nat) (W : Nat → Int) (f : Nat → List D) (clk cnt who : Int) (word : Nat) (hl : nl ≤ 128) (hc0 : 0 ≤ cnt) (hc1 : cnt ≤ 4611686018427387903) (hw0 : 0 ≤ who) (hw1 : who < 64) (hw : word < nw) :
  Fun TC 189 3 [.ptr 0 0, .i .i64 who, .i .i64 word] [(0, some (machB 1 2 nw nl clk cnt)), (1, some (wordB nw W)), (2, some (lastB nl f))]
   4 (.tup [.i .u64 (W word), .i .i64 0]) [(0, some (machB 1 3 nw (noteN nl) clk (cnt + 1))), (1, some (wordB nw W)), (2, none), (3, some (lastB (noteN nl) (noteF nl f (accD who 1 word (W word) 0 true))))] := by
 refine Fun.mk' Tryz.func189 rfl rfl zN (by decide) ?_
 (repeat' (first | ((first | refine Wp.any TC_mixed rfl ?_ | (with_reducible first | refine Go.mk ?_ | apply Eff1.of | refine And.intro zC ?_)); conv => whnf) | (with_reducible refine CallStop.inline Tryz.func154 rfl rfl rfl (Nat.le_of_ble_eq_true rfl) ?_) | ((with_reducible refine CallStop.pure (mach_worker _ _ _) rfl rfl ?_); conv => whnf) | ((refine CallStop.fn (mach_note nw nl W f clk cnt who 1 word (W (0 + ((word : Nat) : Int).toNat)) 0 true hl hc0 hc1) [0,1,2] rfl rfl rfl rfl rfl ?ha ?hh ?_); (case ha => exact zA); (case hh => exact zH); (conv => whnf)) | ((refine ways (fun hc => ?_) (fun hc => ?_)) <;> (try simp only [wz9] at hc) <;> (try (exfalso; omega)) <;> (conv => whnf))))
 simp only [wat]
 (refine FinLe.sealB [0,1,2,3] rfl rfl rfl ?_ ?_); (focus ((conv => whnf); (repeat' (first | exact zE)))); (focus ((conv => whnf); (repeat' (first | exact zE | ((refine And.intro ?_ ?_) <;> (conv => whnf))))))
theorem mach_Swap (nw nl : Nat) (W : Nat → Int) (f : Nat → List D) (clk cnt who old new : Int) (word : Nat) (hl : nl ≤ 128) (hc0 : 0 ≤ cnt) (hc1 : cnt ≤ 4611686018427387903) (hw0 : 0 ≤ who) (hw1 : who < 64) (hw : word < nw) :
  Fun TC 128 3 [.ptr 0 0, .i .i64 who, .i .i64 word, .i .u64 old, .i .u64 new] [(0, some (machB 1 2 nw nl clk cnt)), (1, some (wordB nw W)), (2, some (lastB nl f))]
   4 (.tup [.b (decide (W word = old)), .i .i64 0]) [(0, some (machB 1 3 nw (noteN nl) clk (cnt + 1))), (1, some (wordB nw (if W word = old then Dir.upd W word new else W))), (2, none), (3, some (lastB (noteN nl) (noteF nl f (accD who 2 word old new (decide (W word = old))))))] := by
 refine Fun.mk' Tryz.func128 rfl rfl zN (by decide) ?_
 (repeat' (first | ((first | refine Wp.any TC_mixed rfl ?_ | (with_reducible first | refine Go.mk ?_ | apply Eff1.of | refine And.intro zC ?_)); conv => whnf) | (with_reducible refine CallStop.inline Tryz.func154 rfl rfl rfl (Nat.le_of_ble_eq_true rfl) ?_) | ((with_reducible refine CallStop.pure (mach_worker _ _ _) rfl rfl ?_); conv => whnf) | ((refine CallStop.fn (mach_note nw nl (fun j => if j = 0 + ((word : Nat) : Int).toNat then new else W j) f clk cnt who 2 word old new (W (0 + ((word : Nat) : Int).toNat) == old) hl hc0 hc1) [0,1,2] rfl rfl rfl rfl rfl ?ha ?hh ?_); (case ha => exact zA); (case hh => exact zz26); (conv => whnf)) | ((refine CallStop.fn (mach_note nw nl W f clk cnt who 2 word old new (W (0 + ((word : Nat) : Int).toNat) == old) hl hc0 hc1) [0,1,2] rfl rfl rfl rfl rfl ?ha ?hh ?_); (case ha => exact zA); (case hh => exact zz26); (conv => whnf)) | ((refine ways (fun hc => ?_) (fun hc => ?_)) <;> (try simp only [wz9] at hc) <;> (try (exfalso; omega)) <;> (conv => whnf))))
 all_goals simp only [wat] at hc ⊢
 all_goals rw [show (W word == old) = decide (W word = old) from rfl]
 ·rw [if_pos hc]
  (refine FinLe.sealB [0,1,2,3] rfl rfl rfl ?_ ?_); (focus ((conv => whnf); (repeat' (first | exact zE)))); (focus ((conv => whnf); (repeat' (first | exact zE | ((refine And.intro ?_ ?_) <;> (conv => whnf))))))
 ·rw [if_neg hc]
  (refine FinLe.sealB [0,1,2,3] rfl rfl rfl ?_ ?_); (focus ((conv => whnf); (repeat' (first | exact zE)))); (focus ((conv => whnf); (repeat' (first | exact zE | ((refine And.intro ?_ ?_) <;> (conv => whnf))))))
set_option maxRecDepth 100000
theorem mach_Clock (nw nl : Nat) (W : Nat → Int) (f : Nat → List D) (clk cnt who : Int) (hl : nl ≤ 128) (hc0 : 0 ≤ cnt) (hc1 : cnt ≤ 4611686018427387903) (hw0 : 0 ≤ who) (hw1 : who < 64) :
  Fun TC 201 3 [.ptr 0 0, .i .i64 who] [(0, some (machB 1 2 nw nl clk cnt)), (1, some (wordB nw W)), (2, some (lastB nl f))]
   4 (.tup [.i .i64 clk, .i .i64 0]) [(0, some (machB 1 3 nw (noteN nl) clk (cnt + 1))), (1, some (wordB nw W)), (2, none), (3, some (lastB (noteN nl) (noteF nl f (accD who 3 0 (IntKind.u64.wrap clk) 0 true))))] := by
 refine Fun.mk' Tryz.func201 rfl rfl zN (by decide) ?_
 (repeat' (first | ((first | refine Wp.any TC_mixed rfl ?_ | (with_reducible first | refine Go.mk ?_ | apply Eff1.of | refine CallStop.pure (mach_worker _ _ _) rfl rfl ?_)); conv => whnf) | ((refine CallStop.fn (mach_note nw nl W f clk cnt who 3 0 (IntKind.u64.wrap clk) 0 true hl hc0 hc1) [0,1,2] rfl rfl rfl rfl rfl ?ha ?hh ?_); (case ha => exact zA); (case hh => exact zH); (conv => whnf)) | ((with_reducible refine Ov.mk ?_); conv => whnf) | ((refine ways (fun hc => ?_) (fun hc => ?_)) <;> (try simp only [wz9] at hc) <;> (try (exfalso; omega)) <;> (conv => whnf))))
 (refine FinLe.sealB [0,1,2,3] rfl rfl rfl ?_ ?_); (focus ((conv => whnf); (repeat' (first | exact zE)))); (focus ((conv => whnf); (repeat' (first | exact zE | ((refine And.intro ?_ ?_) <;> (conv => whnf))))))
theorem tick_Add (a b : Int) (ha : 0 ≤ a) (hb : 0 ≤ b) (ha1 : a ≤ 4611686018427387903) (hb1 : b ≤ 4611686018427387903) : Pure TC 101 [.i .i64 a, .i .i64 b] (.tup [.i .i64 (min (a + b) 4611686018427387903), .i .i64 0]) := by
 have hE : bothE a b = 0 := by unfold bothE tickB; simp [ha, hb, ha1, hb1]
 refine Pure.mk' Tryz.func101 rfl rfl zN ?_
 have hB := tick_both a b
 rw [hE] at hB
 (repeat' (first | ((first | refine Wp.any TC_mixed rfl ?_ | (with_reducible first | refine Go.mk ?_ | apply Eff1.of | refine Ov.ok zO ?_ | refine CallStop.pure (hB) rfl rfl ?_ | refine CallStop.pure (tick_Clamp _) rfl rfl ?_)); conv => whnf)))
 exact .tup (.cons (.i (by unfold clampI; omega)) (.cons (.rfl _) .nil))
theorem mach_Tick (nw nl : Nat) (W : Nat → Int) (f : Nat → List D) (clk cnt n : Int) (h0 : 0 ≤ clk) (h1 : clk ≤ 4611686018427387903) (hn : 0 ≤ n) (hn1 : n ≤ 4611686018427387903) :
  Fun TC 55 3 [.ptr 0 0, .i .i64 n] [(0, some (machB 1 2 nw nl clk cnt)), (1, some (wordB nw W)), (2, some (lastB nl f))]
   3 (.tup [.i .i64 (min (clk + n) 4611686018427387903), .i .i64 0]) [(0, some (machB 1 2 nw nl (min (clk + n) 4611686018427387903) cnt)), (1, some (wordB nw W)), (2, some (lastB nl f))] := by
 have hT := tick_Form n
 rw [show tickB n = true by simp [tickB]; omega] at hT
 refine Fun.mk' Tryz.func55 rfl rfl zN (by decide) ?_
 (repeat' (first | ((first | refine Wp.any TC_mixed rfl ?_ | (with_reducible first | refine Go.mk ?_ | apply Eff1.of | refine CallStop.pure (hT) rfl rfl ?_ | refine CallStop.pure (tick_Add clk n h0 hn h1 hn1) rfl rfl ?_)); conv => whnf)))
 (refine FinLe.sealB [0,1,2] rfl rfl rfl ?_ ?_); (focus ((conv => whnf); (repeat' (first | exact zE)))); (focus ((conv => whnf); (repeat' (first | exact zE | ((refine And.intro ?_ ?_) <;> (conv => whnf))))))
def boardS (m h : Nat) : SV := .iref [.ptr m 0, .sl h 1 0 34] 0
def holdB (Hd : Nat → List Cel) : Blk := .row 60 1 34 fun i => [slOf 4 Cel.D (Hd i)]
theorem ite_rowH {i q : Nat} {x : List Cel} {Hd : Nat → List Cel} : (if i = q then [slOf 4 Cel.D x] else [slOf 4 Cel.D (Hd i)]) = [slOf 4 Cel.D (Dir.upd Hd q x i)] := by unfold Dir.upd; split <;> rfl
theorem board_Load (nl : Nat) (W : Nat → Int) (Hd : Nat → List Cel) (f : Nat → List D) (clk cnt who : Int) (word : Nat) (hl : nl ≤ 128) (hc0 : 0 ≤ cnt) (hc1 : cnt ≤ 4611686018427387903) (hw0 : 0 ≤ who) (hw1 : who < 64) (hw : word < 34) :
  Fun TC 133 4 [boardS 0 2, .i .i64 who, .i .i64 word] [(0, some (machB 1 3 34 nl clk cnt)), (1, some (wordB 34 W)), (2, some (holdB Hd)), (3, some (lastB nl f))]
   5 (.tup [.i .u64 (W word), .d (slOf 4 Cel.D (Hd word))]) [(0, some (machB 1 4 34 (noteN nl) clk (cnt + 1))), (1, some (wordB 34 W)), (2, some (holdB Hd)), (3, none), (4, some (lastB (noteN nl) (noteF nl f (accD who 1 word (W word) 0 true))))] := by
 refine Fun.mk' Tryz.func133 rfl rfl zN (by decide) ?_
 (repeat' (first | ((first | refine Wp.any TC_mixed rfl ?_ | (with_reducible first | refine Go.mk ?_ | apply Eff1.of) | refine zV ?_ | with_reducible refine And.intro zC ?_); conv => whnf) | ((refine CallStop.fn (mach_Load 34 nl W f clk cnt who word hl hc0 hc1 hw0 hw1 hw) [0,1,3] rfl rfl rfl rfl rfl ?ha ?hh ?_); (case ha => exact zA); (case hh => exact zH); (conv => whnf))))
 simp only [wat]
 (refine FinLe.sealB [0,1,2,3,4] rfl rfl rfl ?_ ?_); (focus ((conv => whnf); (repeat' (first | exact zE)))); (focus ((conv => whnf); (repeat' (first | exact zE | ((refine And.intro ?_ ?_) <;> (conv => whnf))))))
theorem board_Swap (nl : Nat) (W : Nat → Int) (Hd : Nat → List Cel) (f : Nat → List D) (clk cnt who old new : Int) (word : Nat) (h : List Cel) (hl : nl ≤ 128) (hc0 : 0 ≤ cnt) (hc1 : cnt ≤ 4611686018427387903) (hw0 : 0 ≤ who) (hw1 : who < 64) (hw : word < 34) :
  Fun TC 86 4 [boardS 0 2, .i .i64 who, .i .i64 word, .i .u64 old, .i .u64 new, .d (slOf 4 Cel.D h)] [(0, some (machB 1 3 34 nl clk cnt)), (1, some (wordB 34 W)), (2, some (holdB Hd)), (3, some (lastB nl f))]
   5 (.b (decide (W word = old))) [(0, some (machB 1 4 34 (noteN nl) clk (cnt + 1))), (1, some (wordB 34 (if W word = old then Dir.upd W word new else W))), (2, some (holdB (if W word = old then Dir.upd Hd word h else Hd))), (3, none), (4, some (lastB (noteN nl) (noteF nl f (accD who 2 word old new (decide (W word = old))))))] := by
 refine Fun.mk' Tryz.func86 rfl rfl zN (by decide) ?_
 (repeat' (first | ((first | refine Wp.any TC_mixed rfl ?_ | (with_reducible first | refine Go.mk ?_ | apply Eff1.of | refine And.intro zC ?_)); conv => whnf) | ((refine CallStop.fn (mach_Swap 34 nl W f clk cnt who old new word hl hc0 hc1 hw0 hw1 hw) [0,1,3] rfl rfl rfl rfl rfl ?ha ?hh ?_); (case ha => exact zA); (case hh => exact zH); (conv => whnf)) | ((refine ways (fun hc => ?_) (fun hc => ?_)) <;> (try simp only [wz9] at hc) <;> (try (exfalso; omega)) <;> (conv => whnf))))
 ·try simp only [wat]
  rw [if_pos hc, if_pos hc]
  (refine FinLe.sealB [0,1,2,3,4] rfl rfl rfl ?_ ?_); (focus ((conv => whnf); (repeat' (first | exact zE)))); (focus ((conv => whnf); (repeat' (first | exact zE | ((refine And.intro ?_ ?_) <;> (conv => whnf))))))
  exact fun i hi => DLes.of ite_rowH
 ·try simp only [wat]
  rw [if_neg hc, if_neg hc]
  (refine FinLe.sealB [0,1,2,3,4] rfl rfl rfl ?_ ?_); (focus ((conv => whnf); (repeat' (first | exact zE)))); (focus ((conv => whnf); (repeat' (first | exact zE | ((refine And.intro ?_ ?_) <;> (conv => whnf))))))
theorem board_Look (nl : Nat) (W : Nat → Int) (Hd : Nat → List Cel) (f : Nat → List D) (clk cnt : Int) (word : Nat) (hw : word < 34) :
  Fun TC 56 4 [boardS 0 2, .i .i64 word] [(0, some (machB 1 3 34 nl clk cnt)), (1, some (wordB 34 W)), (2, some (holdB Hd)), (3, some (lastB nl f))]
   4 (.tup [.i .u64 (W word), .d (slOf 4 Cel.D (Hd word))]) [(0, some (machB 1 3 34 nl clk cnt)), (1, some (wordB 34 W)), (2, some (holdB Hd)), (3, some (lastB nl f))] := by
 refine Fun.mk' Tryz.func56 rfl rfl zN (by decide) ?_
 (repeat' (first | ((first | refine Wp.any TC_mixed rfl ?_ | (with_reducible first | refine Go.mk ?_ | apply Eff1.of) | refine zV ?_ | with_reducible refine And.intro zC ?_); conv => whnf) | (with_reducible refine CallStop.inline Tryz.func102 rfl rfl rfl (Nat.le_of_ble_eq_true rfl) ?_) | (with_reducible refine CallStop.inline Tryz.func154 rfl rfl rfl (Nat.le_of_ble_eq_true rfl) ?_) | ((with_reducible refine CallStop.pure (mach_worker _ _ _) rfl rfl ?_); conv => whnf) | ((refine ways (fun hc => ?_) (fun hc => ?_)) <;> (try simp only [wz9] at hc) <;> (try (exfalso; omega)) <;> (conv => whnf))))
 simp only [wat]
 (refine FinLe.sealB [0,1,2,3] rfl rfl rfl ?_ ?_); (focus ((conv => whnf); (repeat' (first | exact zE)))); (focus ((conv => whnf); (repeat' (first | exact zE | ((refine And.intro ?_ ?_) <;> (conv => whnf))))))
end Go.Proofs.YtplpofmnhcclbaaGreat

namespace Go.Proofs.YtplpofmnhcclbaaGreat
open Go.RowKit
set_option maxRecDepth 100000
abbrev bx (x : SV) : SV := .iref [x] 0
def lanesS : SV := .iref [boardS 1 3, .d (.fn (.func 46) [])] 0
def res0 : SV := .iref [.b false, .i .i64 0, .b false, .i .i64 0, .i .i64 0, .i .i64 0, .i .i64 0] 0
def endS : SV := .d (.fn (.func 95) [])
def nilF : SV := .d (.val .nilFunc)
def xS : SV := bx (.ptr 4 0)
def polB (p : Pol) : SV := .iref [.i .u8 p.kind, .i .i64 p.T, .i .i64 p.tau, .i .i64 p.permits] 0
def celB (c : Cel) : SV := .iref [.i .i64 c.pol, .d (slOf 1 (encI .u8) c.key), .i .i64 c.tat, .d (slOf 1 (encI .i64) c.held)] 0
def rplB (r : Rpl) : SV := .iref [.i .i64 r.e, .b r.g, .i .i64 r.left, .i .i64 r.wait, .i .i64 r.serial, .i .i64 r.now] 0
def fdB (f : Core.Fd) : SV := .iref [.i .i64 f.w, .i .u64 f.v, .d (slOf 4 Cel.D f.h)] 0
def furS (j sh : Nat) : SV := .fn (.func 136) [bx (.i .i64 j), bx (.i .i64 sh), xS]
def thnS (p : Pol) : Core.Fc → SV
 | .key => .fn (.func 146) [xS, polB p]
 | .ev j sh g => .fn (.func 139) [bx (furS j sh), bx (.i .i64 g), xS]
def swapS (f : Core.Fd) (c : Cel) (r : Rpl) : SV := .fn (.func 209) [xS, fdB f, bx (.i .i64 f.at'), bx (.b f.there), celB c, rplB r]
def mvS (word by' stop : Int) (stopped thn : SV) : SV := .fn (.func 241) [xS, bx (.i .i64 word), bx (.i .u64 stop), bx stopped, bx (.i .u64 by'), bx thn]
def mwS (word v by' stop : Int) (stopped thn : SV) : SV := .fn (.func 242) [xS, bx (.i .i64 word), bx (.i .u64 v), bx (.i .u64 by'), bx (.i .u64 stop), bx stopped, bx thn]
def fullS : SV := .d (.fn (.func 210) [])
def rsvS (sw : SV) : SV := .fn (.func 211) [xS, bx sw]
def bkS (n : Int) : Core.Bk → SV
 | .lv r => .fn (.func 244) [rplB r]
 | .ev j sh g => .fn (.func 145) [bx (furS j sh), bx (.i .i64 g), bx (.i .i64 n)]
def backS (n : Int) (k : Core.Bk) : SV := .fn (.func 203) [bx (bkS n k)]
def acqS (p : Pol) (f : Core.Fd) : SV := .fn (.func 206) [polB p, celB f.cell, xS, fdB f, bx (.i .i64 f.at'), bx (.b f.there)]
def spentS : SV := .fn (.func 207) [xS]
def serS (p : Pol) (f : Core.Fd) : SV := .fn (.func 208) [xS, bx (acqS p f)]
def minusI (n : Int) : Int := IntKind.u64.wrap (0 - n)
abbrev NEVER : Int := 18446744073709551615
def findS (who s : Int) (t : SV) : SV := .fn (.func 196) [bx lanesS, bx (.i .i64 who), bx (.i .u64 s), bx t]
def enterS (who s : Int) (w : Nat) (t : SV) : SV := .fn (.func 240) [bx lanesS, bx (.i .i64 who), bx (.i .i64 w), bx (.i .u64 s), bx t]
def freezeS (who : Int) (w : Nat) (t : SV) : SV := .fn (.func 236) [bx lanesS, bx (.i .i64 who), bx (.i .i64 w), bx t]
def frozenS (who : Int) (w : Nat) (v : Int) (h : List Cel) (t : SV) : SV := .fn (.func 237) [bx lanesS, bx (.i .i64 who), bx (.i .i64 w), bx (.i .u64 v), bx (.d (slOf 4 Cel.D h)), bx t, res0]
def halfS (who : Int) (lv w : Nat) (h : List Cel) (t : SV) : SV := .fn (.func 238) [bx lanesS, bx (.i .i64 who), bx (.i .i64 w), bx t, bx (.d (slOf 4 Cel.D h)), bx (.i .i64 lv)]
def layS (who : Int) (lv w : Nat) (h : List Cel) (t : SV) : SV := .fn (.func 239) [bx lanesS, bx (.i .i64 who), bx (.i .i64 w), bx (.d (slOf 4 Cel.D h)), bx (.i .i64 lv), bx t, bx .any]
def tfK (who sm : Int) (lv : Nat) (t : SV) : SV := .fn (.func 198) [bx lanesS, bx (.i .i64 who), bx (.i .i64 lv), bx (.i .u64 sm), bx t, res0]
def thK (who sm : Int) (t : SV) : SV := .fn (.func 199) [bx lanesS, bx (.i .i64 who), bx (.i .u64 sm), bx t, res0]
def tfS (who : Int) (lv i : Nat) : SV := .fn (.func 192) [bx lanesS, bx (.i .i64 who), bx (.i .i64 lv), bx (.i .i64 i), bx endS, res0]
def thS (who : Int) (lv i : Nat) (up : Bool) (h : List Cel) : SV :=
 if up then .fn (.func 195) [bx lanesS, bx (.i .i64 who), bx (.i .i64 lv), bx (.i .i64 i), bx endS, res0]
 else .fn (.func 194) [bx lanesS, bx (.i .i64 who), bx (.i .i64 lv), bx (.i .i64 i), bx (.d (slOf 4 Cel.D h)), bx endS, res0]
section
variable (P : Core.Ops) (who : Int) (x : Core.X)
def thn (f : Core.Fc) : SV := thnS (P.pol x.pol) f
def cl : Core.CS → SV
 | .none => nilF
 | .k0 f => findS who (Core.sumF x f) (thn P x f)
 | .kE f w => enterS who (Core.sumF x f) w (thn P x f)
 | .kF f lv w => freezeS who w (tfK who (Core.sumF x f) lv (thn P x f))
 | .kG f lv w v h => frozenS who w v h (tfK who (Core.sumF x f) lv (thn P x f))
 | .kH f lv w h => halfS who lv w h (thK who (Core.sumF x f) (thn P x f))
 | .kL f lv w h => layS who lv w h (thK who (Core.sumF x f) (thn P x f))
 | .al f => .fn (.func 204) [polB (P.pol x.pol), celB f.cell, xS, fdB f, bx (.i .i64 f.at'), bx (.b f.there)]
 | .pk c => .fn (.func 150) [polB (P.pol x.pol), celB c, xS]
 | .a0 f => mvS 33 1 4611686018427387903 spentS (serS (P.pol x.pol) f)
 | .a1 f u => mwS 33 u 1 4611686018427387903 spentS (serS (P.pol x.pol) f)
 | .p0 f c r => mvS 32 1 P.room fullS (rsvS (swapS f c r))
 | .p1 f c r u => mwS 32 u 1 P.room fullS (rsvS (swapS f c r))
 | .pS f c r => swapS f c r
 | .b0 n k => mvS 32 (minusI n) NEVER nilF (backS n k)
 | .b1 n k u => mwS 32 u (minusI n) NEVER nilF (backS n k)
 | .e0 => .fn (.func 96) [xS]
 | .eC j sh g w v h => .fn (.func 140) [xS, bx (.d (slOf 4 Cel.D h)), bx (furS j sh), bx (.i .i64 g), bx (.i .i64 w), bx (.i .u64 v)]
 | .eS j sh g w v m n => .fn (.func 143) [xS, bx (.i .i64 w), bx (.i .u64 v), bx (.d (slOf 4 Cel.D m)), bx (furS j sh), bx (.i .i64 g), bx (.i .i64 n)]
 | .s0 => .fn (.func 132) [bx lanesS, bx (.i .i64 who), bx endS]
 | .sM lv => .fn (.func 135) [bx lanesS, bx (.i .i64 who), bx (.i .u64 (2 * lv)), bx endS, res0, bx (.i .i64 lv)]
 | .sF lv i => freezeS who (2 ^ lv + i) (tfS who lv i)
 | .sG lv i v h => frozenS who (2 ^ lv + i) v h (tfS who lv i)
 | .sH lv i up h => halfS who (lv + 1) (Dir.upW lv i up) h (thS who lv i up h)
 | .sL lv i up h => layS who (lv + 1) (Dir.upW lv i up) h (thS who lv i up h)
 | .sV lv => .fn (.func 190) [bx lanesS, bx (.i .i64 who), bx (.i .i64 lv), bx endS]
end
theorem cl_lt (P : Core.Ops) (who : Int) (x : Core.X) (s : Core.CS) : SV.Lt 5 (cl P who x s) := by
 cases s with
 | sH lv i up h => cases up <;> exact .of rfl
 | sL lv i up h => cases up <;> exact .of rfl
 | k0 f => cases f <;> exact .of rfl
 | kE f w => cases f <;> exact .of rfl
 | kF f lv w => cases f <;> exact .of rfl
 | kG f lv w v h => cases f <;> exact .of rfl
 | kH f lv w h => cases f <;> exact .of rfl
 | kL f lv w h => cases f <;> exact .of rfl
 | b0 n k => cases k <;> exact .of rfl
 | b1 n k u => cases k <;> exact .of rfl
 | _ => exact .of rfl
def xF (who : Int) (x : Core.X) : Nat → SV
 | 0 => .i .u8 x.op
 | 1 => .i .i64 x.pol
 | 2 => .d (slOf 1 (encI .u8) x.key)
 | 3 => .i .i64 x.n
 | 4 => .ptr 0 0
 | 5 => .i .i64 who
 | 6 => .i .u64 x.sum
 | 7 => .b x.res
 | _ => .i .i64 x.ser
structure XB where
 n : Nat
 f : Nat → SV
def coreF (ps : List Pol) (room : Int) (g : Nat → SV) : Nat → SV
 | 0 => .d (slOf 4 Pol.D ps)
 | 1 => .i .u64 room
 | 2 => lanesS
 | j + 3 => g j
def coreB (ps : List Pol) (room : Int) (g : Nat → SV) : Blk := .cf 13 67 (coreF ps room g)
def xB (o : XB) : Blk := .cf 1 o.n o.f
@[reducible] def coreT (ps : List Pol) (room : Int) (g : Nat → SV) (M : Core.Mc) (o : Nat → XB) (l nl : Nat) (cnt : Int) (r : List (Nat × Option Blk)) : List (Nat × Option Blk) :=
 [(0, some (coreB ps room g)), (1, some (machB 2 l 34 nl M.clk cnt)), (2, some (wordB 34 M.W)), (3, some (holdB M.Hd)), (4, some (xB (o 0))), (5, some (xB (o 1))), (6, some (xB (o 2))), (7, some (xB (o 3))), (8, some (xB (o 4))), (9, some (xB (o 5))), (10, some (xB (o 6))), (11, some (xB (o 7))), (12, some (xB (o 8)))] ++ r
def ownX (who : Int) (x : Core.X) (o : Nat → XB) : Nat → XB
 | 0 => ⟨9, xF who x⟩
 | i + 1 => o i
def coreH (ps : List Pol) (room : Int) (g : Nat → SV) (M : Core.Mc) (o : Nat → XB) (nl : Nat) (f : Nat → List D) (cnt : Int) : List (Nat × Option Blk) :=
 coreT ps room g M o 13 nl cnt [(13, some (lastB nl f))]
def coreN (ps : List Pol) (room : Int) (g : Nat → SV) (M : Core.Mc) (o : Nat → XB) (nl : Nat) (f : Nat → List D) (cnt : Int) (a : List D) : List (Nat × Option Blk) :=
 coreT ps room g M o 14 (noteN nl) (cnt + 1) [(13, none), (14, some (lastB (noteN nl) (noteF nl f a)))]
structure COK (ps : List Pol) (room who : Int) (g : Nat → SV) (M : Core.Mc) (o : Nat → XB) (nl : Nat) (cnt : Int) : Prop where
 w0 : 0 ≤ who
 w1 : who < 64
 nl : nl ≤ 128
 c0 : 0 ≤ cnt
 c1 : cnt ≤ 4611686018427387903
 g : ∀ j, SV.Lt 13 (g j)
 o : ∀ i j, SV.Lt 1 ((o i).f j)
 d0 : 0 ≤ M.W 0
 d1 : M.W 0 ≤ 8
 hd : ∀ w, Hc ps 16000000 (M.Hd w)
 ps : polsE ps = 0
 room : 1 ≤ room ∧ room ≤ 4096
 c32 : 0 ≤ M.W 32 ∧ M.W 32 ≤ 4096
 c33 : 0 ≤ M.W 33 ∧ M.W 33 ≤ 4611686018427387903
theorem xF_lt (who : Int) (x : Core.X) (j : Nat) : SV.Lt 1 (xF who x j) := by
 unfold xF
 split <;> first | exact .of rfl
theorem coreF_lt {ps : List Pol} {room : Int} {g : Nat → SV} (hg : ∀ j, SV.Lt 13 (g j)) (j : Nat) : SV.Lt 13 (coreF ps room g j) := by
 rcases j with _ | _ | _ | j
 ·exact .of rfl
 ·exact .of rfl
 ·exact .of rfl
 ·exact hg j
theorem id13 {L : List Nat} {i : Nat} (hi : i < 13) : (0 :: 1 :: 2 :: 3 :: 4 :: 5 :: 6 :: 7 :: 8 :: 9 :: 10 :: 11 :: 12 :: L).getD i 0 = i := by
 rcases i with _ | _ | _ | _ | _ | _ | _ | _ | _ | _ | _ | _ | _ | i <;> first | rfl | omega
theorem core_seal {S : St} {ps : List Pol} {room : Int} {g : Nat → SV} (hg : ∀ j, SV.Lt 13 (g j)) {L : List Nat} : ∀ j, j < 67 → Seal S (0 :: 1 :: 2 :: 3 :: 4 :: 5 :: 6 :: 7 :: 8 :: 9 :: 10 :: 11 :: 12 :: L) (coreF ps room g j) (coreF ps room g j) ∧ SV.Lt 13 (coreF ps room g j) :=
 fun j _ => ⟨.same (coreF_lt hg j) (by simp) fun i hi => id13 hi, coreF_lt hg j⟩
theorem core_sealR {S : St} {ps : List Pol} {room : Int} {g : Nat → SV} (hg : ∀ j, SV.Lt 13 (g j)) {L : List Nat} {π : Nat → Nat} (hπ : ∀ l, l < 13 → π l = l) : ∀ j, j < 67 → Seal S (0 :: 1 :: 2 :: 3 :: 4 :: 5 :: 6 :: 7 :: 8 :: 9 :: 10 :: 11 :: 12 :: L) (SV.ren π (coreF ps room g j)) (coreF ps room g j) ∧ SV.Lt 13 (coreF ps room g j) :=
 fun j hj => ⟨by rw [SV.ren_same hπ (coreF_lt hg j)]; exact (core_seal hg j hj).1, coreF_lt hg j⟩
theorem core_arg {ps : List Pol} {room : Int} {g : Nat → SV} (hg : ∀ j, SV.Lt 13 (g j)) {L : List Nat} : ∀ j, j < 67 → ArgLe (0 :: 1 :: 2 :: 3 :: 4 :: 5 :: 6 :: 7 :: 8 :: 9 :: 10 :: 11 :: 12 :: L) (coreF ps room g j) (coreF ps room g j) ∧ SV.Lt 13 (coreF ps room g j) :=
 fun j _ => ⟨.same (coreF_lt hg j) (by simp) fun i hi => id13 hi, coreF_lt hg j⟩
theorem core_argR {ps : List Pol} {room : Int} {g : Nat → SV} (hg : ∀ j, SV.Lt 13 (g j)) {L : List Nat} {π : Nat → Nat} (hπ : ∀ l, l < 13 → π l = l) : ∀ j, j < 67 → ArgLe (0 :: 1 :: 2 :: 3 :: 4 :: 5 :: 6 :: 7 :: 8 :: 9 :: 10 :: 11 :: 12 :: L) (SV.ren π (coreF ps room g j)) (coreF ps room g j) ∧ SV.Lt 13 (coreF ps room g j) :=
 fun j hj => ⟨by rw [SV.ren_same hπ (coreF_lt hg j)]; exact (core_arg hg j hj).1, coreF_lt hg j⟩
theorem x_seal {S : St} {n : Nat} {f : Nat → SV} (hf : ∀ j, SV.Lt 1 (f j)) {L : List Nat} : ∀ j, j < n → Seal S (0 :: L) (f j) (f j) ∧ SV.Lt 1 (f j) :=
 fun j _ => ⟨.same (hf j) (by simp) fun i hi => by obtain rfl : i = 0 := (by omega); rfl, hf j⟩
theorem x_sealR {S : St} {n : Nat} {f : Nat → SV} (hf : ∀ j, SV.Lt 1 (f j)) {L : List Nat} {π : Nat → Nat} (hπ : π 0 = 0) : ∀ j, j < n → Seal S (0 :: L) (SV.ren π (f j)) (f j) ∧ SV.Lt 1 (f j) :=
 fun j hj => ⟨by rw [SV.ren_same (m := 1) (fun l hl => by obtain rfl : l = 0 := (by omega); exact hπ) (hf j)]; exact (x_seal hf j hj).1, hf j⟩
theorem x_arg {n : Nat} {f : Nat → SV} (hf : ∀ j, SV.Lt 1 (f j)) {L : List Nat} : ∀ j, j < n → ArgLe (0 :: L) (f j) (f j) ∧ SV.Lt 1 (f j) :=
 fun j _ => ⟨.same (hf j) (by simp) fun i hi => by obtain rfl : i = 0 := (by omega); rfl, hf j⟩
theorem x_argR {n : Nat} {f : Nat → SV} (hf : ∀ j, SV.Lt 1 (f j)) {L : List Nat} {π : Nat → Nat} (hπ : π 0 = 0) : ∀ j, j < n → ArgLe (0 :: L) (SV.ren π (f j)) (f j) ∧ SV.Lt 1 (f j) :=
 fun j hj => ⟨by rw [SV.ren_same (m := 1) (fun l hl => by obtain rfl : l = 0 := (by omega); exact hπ) (hf j)]; exact (x_arg hf j hj).1, hf j⟩
theorem xres_seal {S : St} {who : Int} (x : Core.X) (π : Nat → Nat) {L : List Nat} (hπ : π 0 = 0 := by rfl) : ∀ j, j < 9 → Seal S (0 :: L) (bif Nat.beq j 7 then .b true else SV.ren π (xF who x j)) (xF who { x with res := true } j) ∧ SV.Lt 1 (xF who { x with res := true } j) := fun j hj => by
 have h := x_sealR (S := S) (n := 9) (xF_lt who x) (L := L) hπ
 refine ⟨?_, xF_lt _ _ _⟩
 by_cases e : j = 7
 ·subst e; exact Seal.lt0 (SV.Lt.of rfl)
 ·have e2 : Nat.beq j 7 = false := by
   cases h : Nat.beq j 7 with
   | false => rfl
   | true => exact absurd (Nat.eq_of_beq_eq_true h) e
  have e3 : xF who { x with res := true } j = xF who x j := by
   rcases j with _ | _ | _ | _ | _ | _ | _ | _ | j <;> first | rfl | exact absurd rfl e
  rw [e2, e3]; exact (h j hj).1
theorem FinLe.seal14 {S : St} {x r : SV} {H' : List (Nat × Option Blk)} {l : Nat} (hH : heapS S [0, 1, 2, 3, 4, 5, 6, 7, 8, 9, 10, 11, 12, 13, l] H') (hx : Seal S [0, 1, 2, 3, 4, 5, 6, 7, 8, 9, 10, 11, 12, 13, l] x r) (hd : noDup [0, 1, 2, 3, 4, 5, 6, 7, 8, 9, 10, 11, 12, 13, l] = true) : FinLe 14 S x 15 r H' :=
 FinLe.sealB _ rfl rfl hd hx hH
theorem Seal.sl14 {S : St} {l z o n : Nat} : Seal S [0, 1, 2, 3, 4, 5, 6, 7, 8, 9, 10, 11, 12, 13, l] (.sl l z o n) (.sl 14 z o n) :=
 ⟨fun O E a w v hs hv => by
  cases hv with
  | sl _ _ _ _ ad cap hl hc hm ha h0 => exact .sl _ _ _ _ _ _ (by simp) hc hm ha h0⟩
theorem ArgLe.sl13 {l z o n : Nat} : ArgLe [0, 1, 2, 3, 4, 5, 6, 7, 8, 9, 10, 11, 12, l] (.sl l z o n) (.sl 13 z o n) := by
 refine ⟨fun E nx w v hv => ?_⟩
 cases hv with
 | sl _ _ _ _ ad cap hl hc hm ha h0 => exact .sl _ _ _ _ _ _ (by simp) hc hm ha h0
theorem CallStop.fn14 {C : Cx} {nt : NT} {nx : Nat} {fr : List (Nat × SV)} {hp : List (Nat × Option Blk)} {g : Nat} {args : List SV} {k : St → SV → Prop} {m' : Nat} {args0 : List SV} {H H' : List (Nat × Option Blk)} {r : SV} {l : Nat} (h : Fun C g 14 args0 H m' r H')
  (hh : HeapLe hp [0, 1, 2, 3, 4, 5, 6, 7, 8, 9, 10, 11, 12, l] H) (ha : ArgLes [0, 1, 2, 3, 4, 5, 6, 7, 8, 9, 10, 11, 12, l] args args0) (hd : noDup [0, 1, 2, 3, 4, 5, 6, 7, 8, 9, 10, 11, 12, l] = true) (hlive : liveK H 14 = true) (hkeys : keysK H' 14 = true) (hlt : keysLt H' m' = true)
  (hk : k ⟨nt, nx + (m' - 14), fr, postH (πf [0, 1, 2, 3, 4, 5, 6, 7, 8, 9, 10, 11, 12, l] nx) hp H'⟩ (ren2 (πf [0, 1, 2, 3, 4, 5, 6, 7, 8, 9, 10, 11, 12, l] nx) r)) : CallStop C ⟨nt, nx, fr, hp⟩ g args k :=
 .fn h _ rfl hd hlive hkeys hlt ha hh hk
end Go.Proofs.YtplpofmnhcclbaaGreat

namespace Go.Proofs.YtplpofmnhcclbaaGreat
open Go.RowKit
set_option maxRecDepth 100000
variable {ps : List Pol} {room who : Int} {g : Nat → SV} {M : Core.Mc} {o : Nat → XB} {nl : Nat} {f : Nat → List D} {cnt : Int} {x : Core.X}
theorem load_c (hM : COK ps room who g M o nl cnt) (word : Nat) (hw : word < 34) : Fun TC 97 14 [.ptr 4 0, .i .i64 word] (coreH ps room g M (ownX who x o) nl f cnt)
  15 (.i .u64 (M.W word)) (coreN ps room g M (ownX who x o) nl f cnt (accD who 1 word (M.W word) 0 true)) := by
 have q0 := hM.w0; have q1 := hM.w1; have q2 := hM.nl; have q3 := hM.c0; have q4 := hM.c1; have q5 := hM.g; have qo := hM.o; have q6 := hM.d0; have q7 := hM.d1; have q8 := hM.hd
 refine Fun.mk' Tryz.func97 rfl rfl zN (by decide) ?_
 (repeat' (first | ((first | refine Wp.any TC_mixed rfl ?_ | (with_reducible first | refine Go.mk ?_ | apply Eff1.of) | refine zV ?_); conv => whnf) | ((refine DCall.new (board_Load nl M.W M.Hd f M.clk cnt who word q2 q3 q4 q0 q1 hw) [1,2,3,13] [] rfl rfl rfl rfl rfl rfl ?ha ?hh ?hs ?_); (case ha => exact zA); (case hh => exact zH); (case hs => exact zK); (conv => whnf)) | ((with_reducible refine At.mk' _ rfl ?_); (refine And.intro zN ?_); conv => whnf)))
 ((apply FinLe.seal14); (case hH => exact zz2); (case hx => exact zz22); (case hd => exact rfl))
theorem swap_c (hM : COK ps room who g M o nl cnt) (word : Nat) (hw : word < 34) (old new : Int) : Fun TC 243 14 [.ptr 4 0, .i .i64 word, .i .u64 old, .i .u64 new] (coreH ps room g M (ownX who x o) nl f cnt)
  15 (.b (decide (M.W word = old))) (coreN ps room g (if M.W word = old then M.set word new [] else M) (ownX who x o) nl f cnt (accD who 2 word old new (decide (M.W word = old)))) := by
 have q0 := hM.w0; have q1 := hM.w1; have q2 := hM.nl; have q3 := hM.c0; have q4 := hM.c1; have q5 := hM.g; have qo := hM.o; have q6 := hM.d0; have q7 := hM.d1; have q8 := hM.hd
 refine Fun.mk' Tryz.func243 rfl rfl zN (by decide) ?_
 by_cases hm : M.W word = old
 ·rw [if_pos hm]
  (repeat' (first | ((first | refine Wp.any TC_mixed rfl ?_ | (with_reducible first | refine Go.mk ?_ | apply Eff1.of) | refine zV ?_); conv => whnf) | ((refine DCall.new (board_Swap nl M.W M.Hd f M.clk cnt who old new word [] q2 q3 q4 q0 q1 hw) [1,2,3,13] [] rfl rfl rfl rfl rfl rfl ?ha ?hh ?hs ?_); (case ha => exact zA); (case hh => exact zH); (case hs => exact zK); (conv => whnf)) | ((with_reducible refine At.mk' _ rfl ?_); (refine And.intro zN ?_); conv => whnf)))
  ((apply FinLe.seal14); (case hH => exact zz5); (case hx => exact zz22); (case hd => exact rfl))
 ·rw [if_neg hm]
  (repeat' (first | ((first | refine Wp.any TC_mixed rfl ?_ | (with_reducible first | refine Go.mk ?_ | apply Eff1.of) | refine zV ?_); conv => whnf) | ((refine DCall.new (board_Swap nl M.W M.Hd f M.clk cnt who old new word [] q2 q3 q4 q0 q1 hw) [1,2,3,13] [] rfl rfl rfl rfl rfl rfl ?ha ?hh ?hs ?_); (case ha => exact zA); (case hh => exact zH); (case hs => exact zK); (conv => whnf)) | ((with_reducible refine At.mk' _ rfl ?_); (refine And.intro zN ?_); conv => whnf)))
  ((apply FinLe.seal14); (case hH => exact zz5); (case hx => exact zz22); (case hd => exact rfl))
theorem now_c (hM : COK ps room who g M o nl cnt) : Fun TC 141 14 [.ptr 4 0] (coreH ps room g M (ownX who x o) nl f cnt)
  15 (.i .i64 M.clk) (coreN ps room g M (ownX who x o) nl f cnt (accD who 3 0 (IntKind.u64.wrap M.clk) 0 true)) := by
 have q0 := hM.w0; have q1 := hM.w1; have q2 := hM.nl; have q3 := hM.c0; have q4 := hM.c1; have q5 := hM.g; have qo := hM.o; have q6 := hM.d0; have q7 := hM.d1; have q8 := hM.hd
 refine Fun.mk' Tryz.func141 rfl rfl zN (by decide) ?_
 (repeat' (first | ((first | refine Wp.any TC_mixed rfl ?_ | (with_reducible first | refine Go.mk ?_ | apply Eff1.of) | refine zV ?_); conv => whnf) | ((refine DCall.new (mach_Clock 34 nl M.W f M.clk cnt who q2 q3 q4 q0 q1) [1,2,13] [] rfl rfl rfl rfl rfl rfl ?ha ?hh ?hs ?_); (case ha => exact zA); (case hh => exact zH); (case hs => exact zK); (conv => whnf)) | ((with_reducible refine At.mk' _ rfl ?_); (refine And.intro zN ?_); conv => whnf)))
 ((apply FinLe.seal14); (case hH => exact zz2); (case hx => exact zz22); (case hd => exact rfl))
theorem lane_place1 (lv : Nat) (hl : lv ≤ 3) (s : Int) : Pure TC 87 [.i .i64 ((lv : Int) + 1), .i .u64 s] (.i .i64 (Dir.plc (lv + 1) s)) := lane_place (lv + 1) (by omega) s
theorem find_any (who s : Int) (F : Fn) (cs : List SV) (hF : SV.Lt 120 (.fn F cs)) : Fun TC 138 120 [lanesS, .i .i64 who, .i .u64 s, .fn F cs] [] 120 (findS who s (.fn F cs)) [] := by
 refine Fun.mk' Tryz.func138 rfl rfl zN (by decide) ?_
 (repeat' (first | ((first | refine Wp.any TC_mixed rfl ?_ | (with_reducible first | refine Go.mk ?_ | apply Eff1.of)); conv => whnf)))
 (refine FinLe.sealM ?_); (conv => whnf); (repeat' (first | exact zD9 | ((refine Seal.ptrN rfl rfl ?_); (conv => whnf)) | ((refine Seal.fn ?_); (conv => whnf)) | ((refine And.intro ?_ ?_) <;> (conv => whnf))))
theorem enter_any (who s : Int) (w : Nat) (F : Fn) (cs : List SV) (hF : SV.Lt 120 (.fn F cs)) : Fun TC 197 120 [lanesS, .i .i64 who, .i .u64 s, .i .i64 w, .fn F cs] [] 120 (enterS who s w (.fn F cs)) [] := by
 refine Fun.mk' Tryz.func197 rfl rfl zN (by decide) ?_
 (repeat' (first | ((first | refine Wp.any TC_mixed rfl ?_ | (with_reducible first | refine Go.mk ?_ | apply Eff1.of)); conv => whnf)))
 (refine FinLe.sealM ?_); (conv => whnf); (repeat' (first | exact zD9 | ((refine Seal.ptrN rfl rfl ?_); (conv => whnf)) | ((refine Seal.fn ?_); (conv => whnf)) | ((refine And.intro ?_ ?_) <;> (conv => whnf))))
theorem freeze_any (who : Int) (w : Nat) (F : Fn) (cs : List SV) (hF : SV.Lt 120 (.fn F cs)) : Fun TC 191 120 [lanesS, .i .i64 who, .i .i64 w, .fn F cs] [] 120 (freezeS who w (.fn F cs)) [] := by
 refine Fun.mk' Tryz.func191 rfl rfl zN (by decide) ?_
 (repeat' (first | ((first | refine Wp.any TC_mixed rfl ?_ | (with_reducible first | refine Go.mk ?_ | apply Eff1.of)); conv => whnf)))
 (refine FinLe.sealM ?_); (conv => whnf); (repeat' (first | exact zD9 | ((refine Seal.ptrN rfl rfl ?_); (conv => whnf)) | ((refine Seal.fn ?_); (conv => whnf)) | ((refine And.intro ?_ ?_) <;> (conv => whnf))))
theorem half_any (who : Int) (lv : Nat) (hl : lv ≤ 3) (s : Int) (h : List Cel) (F : Fn) (cs : List SV) (hF : SV.Lt 120 (.fn F cs)) : Fun TC 193 120 [lanesS, .i .i64 who, .i .i64 ((lv : Int) + 1), .i .u64 s, .d (slOf 4 Cel.D h), .fn F cs] [] 120 (halfS who (lv + 1) (Dir.plc (lv + 1) s) h (.fn F cs)) [] := by
 refine Fun.mk' Tryz.func193 rfl rfl zN (by decide) ?_
 (repeat' (first | ((first | refine Wp.any TC_mixed rfl ?_ | (with_reducible first | refine Go.mk ?_ | apply Eff1.of | refine CallStop.pure (lane_place1 lv hl _) rfl rfl ?_)); conv => whnf)))
 (refine FinLe.sealM ?_); (conv => whnf); (repeat' (first | exact zD9 | ((refine Seal.ptrN rfl rfl ?_); (conv => whnf)) | ((refine Seal.fn ?_); (conv => whnf)) | ((refine And.intro ?_ ?_) <;> (conv => whnf))))
theorem split_c (P : Core.Ops) (x : Core.X) (who : Int) : Fun TC 94 120 [lanesS, .i .i64 who, endS] [] 120 (cl P who x .s0) [] := by
 refine Fun.mk' Tryz.func94 rfl rfl zN (by decide) ?_
 (repeat' (first | ((first | refine Wp.any TC_mixed rfl ?_ | (with_reducible first | refine Go.mk ?_ | apply Eff1.of)); conv => whnf)))
 (refine FinLe.sealM ?_); (conv => whnf); (repeat' (first | exact zD9 | ((refine Seal.ptrN rfl rfl ?_); (conv => whnf)) | ((refine Seal.fn ?_); (conv => whnf)) | ((refine And.intro ?_ ?_) <;> (conv => whnf))))
theorem move_d (word by' stop : Int) (y : D) (F : Fn) (cs : List SV) (hF : SV.Lt 120 (.fn F cs)) : Fun TC 202 120 [.ptr 4 0, .i .i64 word, .i .u64 by', .i .u64 stop, .d y, .fn F cs] [] 120 (mvS word by' stop (.d y) (.fn F cs)) [] := by
 refine Fun.mk' Tryz.func202 rfl rfl zN (by decide) ?_
 (repeat' (first | ((first | refine Wp.any TC_mixed rfl ?_ | (with_reducible first | refine Go.mk ?_ | apply Eff1.of)); conv => whnf)))
 (refine FinLe.sealM ?_); (conv => whnf); (repeat' (first | exact zD9 | ((refine Seal.ptrN rfl rfl ?_); (conv => whnf)) | ((refine Seal.fn ?_); (conv => whnf)) | ((refine And.intro ?_ ?_) <;> (conv => whnf))))
theorem shl_lv {lv : Nat} (hl : lv ≤ 4) : IntKind.i64.wrap (1 * 2 ^ min ((lv : Nat) : Int).toNat IntKind.i64.bits) = 2 ^ lv := by
 have hlv : lv = 0 ∨ lv = 1 ∨ lv = 2 ∨ lv = 3 ∨ lv = 4 := by omega
 rcases hlv with rfl | rfl | rfl | rfl | rfl <;> decide
theorem plc_small {lv : Nat} {s : Int} (h0 : 0 ≤ s) (h1 : s < 2 ^ lv) : Dir.plc lv s = 2 ^ lv + s.toNat := by unfold Dir.plc; rw [Int.emod_eq_of_lt h0 h1]
theorem upW_plc {lv i : Nat} (hi : i < 2 ^ lv) (up : Bool) : Dir.plc (lv + 1) (if up then (i : Int) + 2 ^ lv else i) = Dir.upW lv i up := by
 have e : ((2 ^ lv : Nat) : Int) = 2 ^ lv := by simp
 have e2 : (2 : Int) ^ (lv + 1) = 2 ^ lv * 2 := Int.pow_succ 2 lv
 have h : (i : Int) < 2 ^ lv := by omega
 unfold Dir.upW
 cases up
 ·rw [if_neg (by decide), if_neg (by decide), plc_small (by omega) (by omega), Int.toNat_natCast]
 ·rw [if_pos rfl, if_pos rfl, plc_small (by omega) (by omega)]
  congr 1
theorem lmove_c (P : Core.Ops) (x : Core.X) (who : Int) (lv i : Nat) (hl : lv ≤ 3) (hi : i ≤ 2 ^ lv) : Fun TC 134 60 [lanesS, .i .i64 who, .i .i64 lv, .i .i64 i, endS] [] 60 (cl P who x (Core.move lv i)) [] := by
 have e1 := shl_lv (show lv ≤ 4 by omega)
 have e2 : ((2 ^ lv : Nat) : Int) = 2 ^ lv := by simp
 have hb : (2 : Nat) ^ lv ≤ 2 ^ 3 := Nat.pow_le_pow_right (by omega) hl
 refine Fun.mk' Tryz.func134 rfl rfl zN (by decide) ?_
 (repeat' (first | ((first | refine Wp.any TC_mixed rfl ?_ | (with_reducible first | refine Go.mk ?_ | apply Eff1.of | refine Ov.ok zO ?_) | refine zV ?_ | (with_reducible first | refine And.intro zC ?_ | refine DCall.pure (lane_place lv (by omega) _) rfl rfl ?_ | refine DCall.funM (freeze_any _ _ _ _ (by exact SV.Lt.of rfl)) rfl rfl ?_)); conv => whnf) | ((refine ways (fun hc => ?_) (fun hc => ?_)) <;> (try simp only [wz9, e1] at hc) <;> (try (exfalso; omega)) <;> (conv => whnf))))
 ·rw [show Core.move lv i = .sV lv by unfold Core.move; rw [if_pos (by omega)]]
  (refine FinLe.sealM ?_); (conv => whnf); (repeat' (first | exact zD9 | ((refine Seal.ptrN rfl rfl ?_); (conv => whnf)) | ((refine Seal.fn ?_); (conv => whnf)) | ((refine And.intro ?_ ?_) <;> (conv => whnf))))
 ·rw [show Core.move lv i = .sF lv i by unfold Core.move; rw [if_neg (by omega)]]
  rw [show Dir.plc lv (i : Int) = 2 ^ lv + i by rw [plc_small (by omega) (by omega)]; rfl]
  (refine FinLe.sealM ?_); (conv => whnf); (repeat' (first | exact zD9 | ((refine Seal.ptrN rfl rfl ?_); (conv => whnf)) | ((refine Seal.fn ?_); (conv => whnf)) | ((refine Seal.iref ?_); (conv => whnf)) | ((refine And.intro ?_ ?_) <;> (conv => whnf))))
end Go.Proofs.YtplpofmnhcclbaaGreat

namespace Go.Proofs.YtplpofmnhcclbaaGreat
open Go.RowKit
set_option maxRecDepth 100000
variable {ps : List Pol} {room who : Int} {g : Nat → SV} {M : Core.Mc} {o : Nat → XB} {nl : Nat} {f : Nat → List D} {cnt : Int} {x : Core.X} {nl0 : Nat} {cnt0 : Int}
@[reducible] def rsS (r : Core.Rs) : SV := .agg [.b r.done, .i .i64 r.r.e, .b r.r.g, .i .i64 r.r.left, .i .i64 r.r.wait, .i .i64 r.r.serial, .i .i64 r.r.now]
@[reducible] def fdS (f : Core.Fd) : SV := .agg [.i .i64 f.w, .i .u64 f.v, .d (slOf 4 Cel.D f.h)]
theorem begin_c (hM : COK ps room who g M o nl0 cnt0) (hk : Core.Kx ps x) : Fun TC 100 14 [.ptr 4 0] (coreH ps room g M (ownX who x o) nl f cnt) 14 (cl (coreOps ps room) who x (.k0 .key)) (coreH ps room g M (ownX who x o) nl f cnt) := by
 have q0 := hM.w0; have q1 := hM.w1; have q2 := hM.nl; have q3 := hM.c0; have q4 := hM.c1; have q5 := hM.g; have qo := hM.o; have q6 := hM.d0; have q7 := hM.d1; have q8 := hM.hd
 have hp := hk.pol
 replace hp : 0 ≤ x.pol ∧ x.pol < ps.length := hp
 refine Fun.mk' Tryz.func100 rfl rfl zN (by decide) ?_
 (repeat' (first | ((first | refine Wp.any TC_mixed rfl ?_ | (with_reducible first | refine Go.mk ?_ | apply Eff1.of) | refine zV ?_ | with_reducible refine And.intro zC ?_); conv => whnf) | ((with_reducible refine At.mk' _ rfl ?_); (refine And.intro zN ?_); conv => whnf) | ((with_reducible refine DCall.funM (find_any _ _ _ _ (by exact SV.Lt.of rfl)) rfl rfl ?_); conv => whnf)))
 ((refine FinLe.sealB [0, 1, 2, 3, 4, 5, 6, 7, 8, 9, 10, 11, 12, 13] rfl rfl rfl ?_ ?_); (focus ((conv => whnf); (repeat' (first | exact zC9 | ((refine Seal.ptr rfl rfl ?_); (conv => whnf)) | ((refine Seal.fn ?_); (conv => whnf)) | ((refine Seal.iref ?_); (conv => whnf)) | ((refine And.intro ?_ ?_) <;> (conv => whnf)))))); (focus ((conv => whnf); (repeat' (first | exact zC9 | exact x_seal (qo _) | ((refine And.intro ?_ ?_) <;> (conv => whnf)))))))
theorem evict_c (hM : COK ps room who g M o nl0 cnt0) (j sh : Nat) (gn : Int) (hj : j ≤ 16) : Fun TC 99 14 [.ptr 4 0, .i .i64 j, .i .i64 sh, .i .i64 gn] (coreH ps room g M (ownX who x o) nl f cnt) 14 (cl (coreOps ps room) who x (.k0 (.ev j sh gn))) (coreH ps room g M (ownX who x o) nl f cnt) := by
 have q0 := hM.w0; have q1 := hM.w1; have q2 := hM.nl; have q3 := hM.c0; have q4 := hM.c1; have q5 := hM.g; have qo := hM.o; have q6 := hM.d0; have q7 := hM.d1; have q8 := hM.hd
 refine Fun.mk' Tryz.func99 rfl rfl zN (by decide) ?_
 (repeat' (first | ((first | refine Wp.any TC_mixed rfl ?_ | (with_reducible first | refine Go.mk ?_ | apply Eff1.of | refine Ov.ok zO ?_) | refine zV ?_); conv => whnf) | ((with_reducible refine At.mk' _ rfl ?_); (refine And.intro zN ?_); conv => whnf) | ((with_reducible refine DCall.funM (find_any _ _ _ _ (by exact SV.Lt.of rfl)) rfl rfl ?_); conv => whnf)))
 ((refine FinLe.sealB [0, 1, 2, 3, 4, 5, 6, 7, 8, 9, 10, 11, 12, 13] rfl rfl rfl ?_ ?_); (focus ((conv => whnf); (repeat' (first | exact zC9 | ((refine Seal.ptr rfl rfl ?_); (conv => whnf)) | ((refine Seal.fn ?_); (conv => whnf)) | ((refine Seal.iref ?_); (conv => whnf)) | ((refine And.intro ?_ ?_) <;> (conv => whnf)))))); (focus ((conv => whnf); (repeat' (first | exact zC9 | exact x_seal (qo _) | ((refine And.intro ?_ ?_) <;> (conv => whnf)))))))
theorem put_c (hM : COK ps room who g M o nl0 cnt0) (fd : Core.Fd) (c : Cel) (r : Rpl) : Fun TC 149 14 [.ptr 4 0, fdS fd, .i .i64 fd.at', .b fd.there, c.S, r.S] (coreH ps room g M (ownX who x o) nl f cnt) 14 (cl (coreOps ps room) who x (Core.put x fd c r)) (coreH ps room g M (ownX who x o) nl f cnt) := by
 have q0 := hM.w0; have q1 := hM.w1; have q2 := hM.nl; have q3 := hM.c0; have q4 := hM.c1; have q5 := hM.g; have qo := hM.o; have q6 := hM.d0; have q7 := hM.d1; have q8 := hM.hd
 refine Fun.mk' Tryz.func149 rfl rfl zN (by decide) ?_
 (repeat' (first | ((first | refine Wp.any TC_mixed rfl ?_ | (with_reducible first | refine Go.mk ?_ | apply Eff1.of) | refine zV ?_); conv => whnf) | ((with_reducible refine At.mk' _ rfl ?_); (refine And.intro zN ?_); conv => whnf) | ((with_reducible refine DCall.funM (move_d _ _ _ _ _ _ (by exact SV.Lt.of rfl)) rfl rfl ?_); conv => whnf) | ((refine ways (fun hc => ?_) (fun hc => ?_)) <;> (try simp only [wz9] at hc) <;> (try (exfalso; omega)) <;> (conv => whnf))))
 all_goals first
  | (rw [show Core.put x fd c r = .pS fd c r from if_pos (by first | exact .inl hc | exact .inr hc | (simp_all; done))]; ((refine FinLe.sealB [0, 1, 2, 3, 4, 5, 6, 7, 8, 9, 10, 11, 12, 13] rfl rfl rfl ?_ ?_); (focus ((conv => whnf); (repeat' (first | exact zC9 | ((refine Seal.ptr rfl rfl ?_); (conv => whnf)) | ((refine Seal.fn ?_); (conv => whnf)) | ((refine And.intro ?_ ?_) <;> (conv => whnf)))))); (focus ((conv => whnf); (repeat' (first | exact zC9 | exact x_seal (qo _) | ((refine And.intro ?_ ?_) <;> (conv => whnf))))))); done)
  | (rw [show Core.put x fd c r = .p0 fd c r from if_neg (by simp_all)]; ((refine FinLe.sealB [0, 1, 2, 3, 4, 5, 6, 7, 8, 9, 10, 11, 12, 13] rfl rfl rfl ?_ ?_); (focus ((conv => whnf); (repeat' (first | exact zC9 | ((refine Seal.ptr rfl rfl ?_); (conv => whnf)) | ((refine Seal.fn ?_); (conv => whnf)) | ((refine Seal.iref ?_); (conv => whnf)) | ((refine And.intro ?_ ?_) <;> (conv => whnf)))))); (focus ((conv => whnf); (repeat' (first | exact zC9 | exact x_seal (qo _) | ((refine And.intro ?_ ?_) <;> (conv => whnf))))))); done)
  | trace_state
theorem leave_c (hM : COK ps room who g M o nl0 cnt0) (r : Rpl) : Fun TC 205 14 [.ptr 4 0, r.S] (coreH ps room g M (ownX who x o) nl f cnt) 14 (.tup [cl (coreOps ps room) who x (Core.leave x r).1, rsS (Core.leave x r).2]) (coreH ps room g M (ownX who x o) nl f cnt) := by
 have q0 := hM.w0; have q1 := hM.w1; have q2 := hM.nl; have q3 := hM.c0; have q4 := hM.c1; have q5 := hM.g; have qo := hM.o; have q6 := hM.d0; have q7 := hM.d1; have q8 := hM.hd
 refine Fun.mk' Tryz.func205 rfl rfl zN (by decide) ?_
 (repeat' (first | ((first | refine Wp.any TC_mixed rfl ?_ | (with_reducible first | refine Go.mk ?_ | apply Eff1.of) | refine zV ?_); conv => whnf) | (with_reducible refine CallStop.inline Tryz.func137 rfl rfl rfl (Nat.le_of_ble_eq_true rfl) ?_) | (with_reducible refine CallStop.inline Tryz.func98 rfl rfl rfl (Nat.le_of_ble_eq_true rfl) ?_) | (with_reducible refine CallStop.inline Tryz.func144 rfl rfl rfl (Nat.le_of_ble_eq_true rfl) ?_) | (with_reducible refine CallStop.inline Tryz.func202 rfl rfl rfl (Nat.le_of_ble_eq_true rfl) ?_) | ((with_reducible refine At.mk' _ rfl ?_); (refine And.intro zN ?_); conv => whnf) | ((with_reducible refine Ov.mk ?_); conv => whnf) | ((refine ways (fun hc => ?_) (fun hc => ?_)) <;> (try simp only [wz9] at hc) <;> (try (exfalso; omega)) <;> (conv => whnf))))
 all_goals first
  | (rw [show Core.leave x r = (.none, ⟨true, r⟩) from if_neg (by simp_all)]; ((refine FinLe.sealB [0, 1, 2, 3, 4, 5, 6, 7, 8, 9, 10, 11, 12, 13] rfl rfl rfl ?_ ?_); (focus ((conv => whnf); (repeat' (first | exact zC9 | ((refine Seal.agg ?_); (conv => whnf)) | ((refine Seal.tup ?_); (conv => whnf)) | ((refine And.intro ?_ ?_) <;> (conv => whnf)))))); (focus ((conv => whnf); (repeat' (first | exact zC9 | exact x_seal (qo _) | ((refine And.intro ?_ ?_) <;> (conv => whnf))))))); done)
  | (rw [show Core.leave x r = (.b0 1 (.lv r), Core.r0) from if_pos (by simp_all)]; ((refine FinLe.sealB [0, 1, 2, 3, 4, 5, 6, 7, 8, 9, 10, 11, 12, 13] rfl rfl rfl ?_ ?_); (focus ((conv => whnf); (repeat' (first | exact zC9 | ((refine Seal.ptr rfl rfl ?_); (conv => whnf)) | ((refine Seal.fn ?_); (conv => whnf)) | ((refine Seal.tup ?_); (conv => whnf)) | ((refine And.intro ?_ ?_) <;> (conv => whnf)))))); (focus ((conv => whnf); (repeat' (first | exact zC9 | exact x_seal (qo _) | ((refine And.intro ?_ ?_) <;> (conv => whnf))))))); done)
  | trace_state
end Go.Proofs.YtplpofmnhcclbaaGreat
