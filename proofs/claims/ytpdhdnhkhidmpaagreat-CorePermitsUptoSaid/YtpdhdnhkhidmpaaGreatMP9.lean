/- Parts of the proof, one behind the other: Sx28, Cc1, Dr3, Cc2, Cc3, Cc4, Cc5. Lemmas and contracts of functions; no condition of its own. -/
import Derived.Test.YtpdhdnhkhidmpaaGreatMP8
set_option linter.unusedVariables false
set_option linter.unusedSimpArgs false
set_option maxHeartbeats 1000000
namespace Go.Proofs.YtpdhdnhkhidmpaaGreat
open Go.RowKit
mutual
theorem SV.ren_same {π : Nat → Nat} {m : Nat} (hπ : ∀ l, l < m → π l = l) : ∀ {x : SV}, SV.Lt m x → SV.ren π x = x
 | .any, _ => by unfold SV.ren; rfl
 | .d _, _ => by unfold SV.ren; rfl
 | .ptr _ _, h => by cases h with | ptr _ _ h => unfold SV.ren; rw [hπ _ h]
 | .rp _ _ _ _, h => by cases h with | rp _ _ _ _ h => unfold SV.ren; rw [hπ _ h]
 | .sl _ _ _ _, h => by cases h with | sl _ _ _ _ h => unfold SV.ren; rw [hπ _ h]
 | .agg vs, h => by cases h with | agg _ h => unfold SV.ren; rw [SV.renL_same hπ h]
 | .tup vs, h => by cases h with | tup _ h => unfold SV.ren; rw [SV.renL_same hπ h]
 | .fn _ vs, h => by cases h with | fn _ _ h => unfold SV.ren; rw [SV.renL_same hπ h]
 | .iref vs _, h => by cases h with | iref _ _ h => unfold SV.ren; rw [SV.renL_same hπ h]
theorem SV.renL_same {π : Nat → Nat} {m : Nat} (hπ : ∀ l, l < m → π l = l) : ∀ {xs : List SV}, (∀ x ∈ xs, SV.Lt m x) → SV.renL π xs = xs
 | [], _ => rfl
 | x :: r, h => by
  have h1 : SV.ren π x = x := SV.ren_same hπ (h x (by simp))
  have h2 : SV.renL π r = r := SV.renL_same hπ (fun y hy => h y (by simp [hy]))
  unfold SV.renL; rw [h1, h2]
end
theorem RS.unrenX {E : Env} {nx : Nat} {w : World} {π1 π2 : Nat → Nat} {L : List Nat} {m : Nat} (H : ∀ l, l < m → π2 l < L.length ∧ L.getD (π2 l) 0 = π1 l) :
  ∀ {x : SV}, SV.Lt m x → ∀ {v : Value}, RS E nx w (SV.ren π1 x) v → RS ⟨fun i => E.ρ (L.getD i 0), fun i => E.κ (L.getD i 0), E.Im⟩ L.length w (SV.ren π2 x) v := by
 intro x hx
 induction hx with
 | any => intro v _; exact .any v
 | d x => intro v h; cases h with | d _ _ h => exact .d _ _ h
 | ptr l off hl =>
  intro v h
  cases h with
  | ptr _ _ h =>
   obtain ⟨h1, h2⟩ := H l hl
   have := RS.ptr (E := ⟨fun i => E.ρ (L.getD i 0), fun i => E.κ (L.getD i 0), E.Im⟩) (w := w) (π2 l) off h1
   simp only [h2] at this; exact this
 | rp l esz i off hl =>
  intro v h
  cases h with
  | rp _ _ _ _ h =>
   obtain ⟨h1, h2⟩ := H l hl
   have := RS.rp (E := ⟨fun i => E.ρ (L.getD i 0), fun i => E.κ (L.getD i 0), E.Im⟩) (w := w) (π2 l) esz i off h1
   simp only [h2] at this; exact this
 | sl l esz off len hl =>
  intro v h
  cases h with
  | sl _ _ _ _ a cap h hc hm ha h0 =>
   obtain ⟨h1, h2⟩ := H l hl
   exact .sl _ _ _ _ a cap h1 hc hm (by simp only [h2]; exact ha) (by simp only [h2]; exact h0)
 | agg vs hv ih =>
  intro v h
  simp only [SV.ren, SV.renL_map] at h ⊢
  cases h with
  | agg _ us hs h1 hh =>
   refine .agg _ _ (by simpa using hs) h1 fun j hj => ?_
   have hj' : j < vs.length := by simpa using hj
   rw [List.getElem_map]
   refine ih _ (List.getElem_mem hj') ?_
   have := hh j (by simpa using hj')
   rwa [List.getElem_map] at this
 | tup vs hv ih =>
  intro v h
  simp only [SV.ren, SV.renL_map] at h ⊢
  cases h with
  | tup _ us hs hh =>
   refine .tup _ _ (by simpa using hs) fun j hj => ?_
   have hj' : j < vs.length := by simpa using hj
   rw [List.getElem_map]
   refine ih _ (List.getElem_mem hj') ?_
   have := hh j (by simpa using hj')
   rwa [List.getElem_map] at this
 | fn f vs hv ih =>
  intro v h
  simp only [SV.ren, SV.renL_map] at h ⊢
  cases h with
  | fn _ _ us hs hh =>
   refine .fn _ _ _ (by simpa using hs) fun j hj => ?_
   have hj' : j < vs.length := by simpa using hj
   rw [List.getElem_map]
   refine ih _ (List.getElem_mem hj') ?_
   have := hh j (by simpa using hj')
   rwa [List.getElem_map] at this
 | iref vs off hv ih =>
  intro v h
  simp only [SV.ren, SV.renL_map] at h ⊢
  cases h with
  | iref _ _ b o g hb hcell h1 hh =>
   refine .iref _ _ b o g hb (by simpa using hcell) (by simpa using h1) fun j hj => ?_
   have hj' : j < vs.length := by simpa using hj
   rw [List.getElem_map]
   refine ih _ (List.getElem_mem hj') ?_
   have := hh j (by simpa using hj')
   rwa [List.getElem_map] at this
theorem ae.renX {π1 π2 : Nat → Nat} {L : List Nat} {m : Nat} {x : SV} (hx : SV.Lt m x) (H : ∀ l, l < m → π2 l < L.length ∧ L.getD (π2 l) 0 = π1 l) : ae L (SV.ren π1 x) (SV.ren π2 x) := ⟨fun _ _ _ _ h => h.unrenX H hx⟩
theorem ai.renX {S : St} {π1 π2 : Nat → Nat} {L : List Nat} {m : Nat} {x : SV} (hx : SV.Lt m x) (H : ∀ l, l < m → π2 l < L.length ∧ L.getD (π2 l) 0 = π1 l) : ai S L (SV.ren π1 x) (SV.ren π2 x) :=
 ⟨fun O E a w v hs hv => RS.mono (E := ⟨fun i => E.ρ (L.getD i 0), fun i => E.κ (L.getD i 0), E.Im⟩) (E' := E.end S L) (w := w) (fun _ _ => ⟨rfl, rfl⟩) (Nat.le_refl _) (fun b hb => Or.inl hb) (fun _ _ => rfl) (hv.unrenX H hx)⟩
def o5 (S : St) (L V : List Nat) : List (Nat × Option Blk) → Prop
 | [] => True
 | (_, none) :: r => o5 S L V r
 | (i, some b) :: r => bif Nat.blt i L.length then (bif V.any (Nat.beq i) then (match b with | .cf m n _ => m ≤ L.length ∧ n = 0 | _ => False) else blkS S L (lkh S.hp (L.getD i 0)) b) ∧ o5 S L V r else False
def eK (L V : List Nat) : List (Nat × Option Blk) → List Nat
 | [] => []
 | (_, none) :: r => eK L V r
 | (i, some _) :: r => bif V.any (Nat.beq i) then eK L V r else L.getD i 0 :: eK L V r
theorem iv {S : St} {L V : List Nat} : ∀ {H : List (Nat × Option Blk)}, o5 S L V H → ∀ i b, lkh H i = some b → i < L.length ∧ ((V.any (Nat.beq i) = true ∧ ∃ m g, b = .cf m 0 g ∧ m ≤ L.length) ∨ (V.any (Nat.beq i) = false ∧ blkS S L (lkh S.hp (L.getD i 0)) b))
 | [], _, i, b, h => by simp [lkh] at h
 | (j, none) :: r, hk, i, b, h => iv (H := r) hk i b (aC h).2
 | (j, some b') :: r, hk, i, b, h => by
  unfold o5 at hk
  cases hb : Nat.blt j L.length with
  | false => simp [hb] at hk
  | true =>
   simp only [hb, cond_true] at hk
   rw [ak] at h
   by_cases e : j = i
   ·subst e; rw [if_pos rfl] at h; cases h
    refine ⟨by simpa using hb, ?_⟩
    cases hv : V.any (Nat.beq j) with
    | true =>
     left
     rw [hv, cond_true] at hk
     refine ⟨rfl, ?_⟩
     have h1 := hk.1
     split at h1
     ·obtain ⟨h2, rfl⟩ := h1; exact ⟨_, _, rfl, h2⟩
     ·exact h1.elim
    | false =>
     right
     rw [hv, cond_false] at hk
     exact ⟨rfl, hk.1⟩
   ·rw [if_neg e] at h; exact iv hk.2 i b h
theorem mS : ∀ {H : List (Nat × Option Blk)} {i : Nat} {b : Blk}, lkh H i = some b → (i, some b) ∈ H
 | [], i, b, h => by simp [lkh] at h
 | (j, o) :: r, i, b, h => by
  rw [ak] at h
  by_cases e : j = i
  ·subst e; rw [if_pos rfl] at h; subst h; simp
  ·rw [if_neg e] at h; exact List.mem_cons_of_mem _ (mS h)
theorem hJ {L V : List Nat} : ∀ {H : List (Nat × Option Blk)} {i : Nat} {b : Blk}, (i, some b) ∈ H → V.any (Nat.beq i) = false → L.getD i 0 ∈ eK L V H
 | (j, none) :: r, i, b, h, hv => by
  unfold eK
  rcases List.mem_cons.1 h with h | h
  ·cases h
  ·exact hJ h hv
 | (j, some c) :: r, i, b, h, hv => by
  unfold eK
  rcases List.mem_cons.1 h with h | h
  ·cases h; rw [hv, cond_false]; simp
  ·have := hJ (L := L) (V := V) h hv
   cases V.any (Nat.beq j) with
   | true => exact this
   | false => exact List.mem_cons_of_mem _ this
theorem j5 {L V : List Nat} : ∀ {H : List (Nat × Option Blk)}, bi (eK L V H) = true → ∀ {i j : Nat} {b c : Blk}, (i, some b) ∈ H → (j, some c) ∈ H → V.any (Nat.beq i) = false → V.any (Nat.beq j) = false → i ≠ j → L.getD i 0 ≠ L.getD j 0
 | (q, none) :: r, hd, i, j, b, c, hi, hj, vi, vj, hne => by
  unfold eK at hd
  rcases List.mem_cons.1 hi with hi | hi
  ·cases hi
  ·rcases List.mem_cons.1 hj with hj | hj
   ·cases hj
   ·exact j5 hd hi hj vi vj hne
 | (q, some d) :: r, hd, i, j, b, c, hi, hj, vi, vj, hne => by
  unfold eK at hd
  have key : ∀ {k : Nat} {e : Blk}, V.any (Nat.beq q) = false → (k, some e) ∈ r → V.any (Nat.beq k) = false → L.getD q 0 ≠ L.getD k 0 := by
   intro k e hq hk vk h
   rw [hq, cond_false] at hd
   unfold bi at hd
   cases h1 : (eK L V r).any (Nat.beq (L.getD q 0)) with
   | true => rw [h1] at hd; exact absurd hd (by simp)
   | false =>
    rw [List.any_eq_false] at h1
    exact h1 _ (hJ (L := L) hk vk) (by rw [h]; exact Nat.beq_refl _)
  have hd' : bi (eK L V r) = true := by
   cases hq : V.any (Nat.beq q) with
   | true => rw [hq, cond_true] at hd; exact hd
   | false =>
    rw [hq, cond_false] at hd
    unfold bi at hd
    cases h1 : (eK L V r).any (Nat.beq (L.getD q 0)) with
    | true => rw [h1] at hd; exact absurd hd (by simp)
    | false => rw [h1] at hd; exact hd
  rcases List.mem_cons.1 hi with hi' | hi'
  ·cases hi'
   rcases List.mem_cons.1 hj with hj' | hj'
   ·cases hj'; exact absurd rfl hne
   ·exact key vi hj' vj
  ·rcases List.mem_cons.1 hj with hj' | hj'
   ·cases hj'; exact (key vj hi' vi).symm
   ·exact j5 hd' hi' hj' vi vj hne
theorem af.sealC {m m' : Nat} {S : St} {x r : SV} {H' : List (Nat × Option Blk)} (L V : List Nat) (hlen : L.length = m') (hmm : idP L m = true) (hd : bi (eK L V H') = true) (hx : ai S L x r) (hH : o5 S L V H') : af m S x m' r H' := by
 have hm : ∀ i, i < m → L.getD i 0 = i := fun i hi => by unfold idP at hmm; rw [List.all_eq_true] at hmm; exact Nat.eq_of_beq_eq_true (hmm i (by simpa using hi))
 refine ⟨fun O E a w v hO hs hv => ?_⟩
 subst hlen
 have hblk : ∀ i b, lkh H' i = some b → i < L.length ∧ (b.real (E.κ (L.getD i 0)) → ∃ b0, V.any (Nat.beq i) = false ∧ lkh S.hp (L.getD i 0) = some b0 ∧ b0.real (E.κ (L.getD i 0))) ∧ BS (E.end S L) L.length w i b := by
  intro i b hb
  obtain ⟨g1, g2⟩ := iv hH i b hb
  rcases g2 with ⟨_, m, g, rfl, hm'⟩ | ⟨hV, g2⟩
  ·exact ⟨g1, fun h => absurd h (Nat.lt_irrefl 0), hm', fun h => absurd h (Nat.lt_irrefl 0)⟩
  unfold blkS at g2
  split at g2
  ·rename_i cs cs' hl
   refine ⟨g1, fun _ => ⟨_, hV, hl, trivial⟩, ?_⟩
   obtain ⟨vs, T, k1, k2, k3⟩ := hs.hp _ _ hl
   have hlen := g2.out.1
   refine ⟨vs, T, k1, by omega, fun j hj => ?_⟩
   obtain ⟨q1, q2⟩ := g2.at hj
   exact ⟨q2.out O E a w _ hs (k3 j q1).1, (k3 j q1).2⟩
  ·rename_i e z n f e' z' n' f' hl
   obtain ⟨⟨rfl, rfl, rfl⟩, g3⟩ := g2
   refine ⟨g1, fun h => ⟨_, hV, hl, h⟩, ?_⟩
   obtain ⟨k1, k2, k3, k4, k5⟩ := hs.hp _ _ hl
   refine ⟨k1, k2, k3, fun i hi => by rw [← (g3 i hi).out.1]; exact k4 i hi, fun hk => ?_⟩
   obtain ⟨vs, q1, q2, q3, q4⟩ := k5 hk
   refine ⟨vs, q1, q2, q3, fun i j hi hj => ?_⟩
   obtain ⟨p1, p2⟩ := (g3 i hi).out
   exact ((p2 j (by omega) hj).out _ _ _ (q4 i j hi (by omega))).mono (fun b hb => Or.inl hb) fun _ _ => rfl
  ·rename_i m n g m' n' g' hl
   obtain ⟨⟨rfl, hm'⟩, g3⟩ := g2
   refine ⟨g1, fun h => ⟨_, hV, hl, h⟩, ?_⟩
   obtain ⟨k0, hh⟩ := hs.hp _ _ hl
   refine ⟨hm', fun hp => ?_⟩
   obtain ⟨vs, T, k1, k2, k3⟩ := hh hp
   exact ⟨vs, T, k1, k2, fun j hj => ⟨(g3 j hj).2, (g3 j hj).1.out O E a w _ hs (k3 j hj).2.1, (k3 j hj).2.2⟩⟩
  ·rename_i cs m' n' g' hl
   obtain ⟨hm', g3, g4⟩ := g2
   refine ⟨g1, fun _ => ⟨_, hV, hl, trivial⟩, ?_⟩
   obtain ⟨vs, T, k1, k2, k3⟩ := hs.hp _ _ hl
   have hlen := g3.out.1
   refine ⟨hm', fun _ => ⟨vs, T, k1, by simp at hlen; omega, fun j hj => ?_⟩⟩
   obtain ⟨q1, q2⟩ := g3.at (j := j) (by simpa using hj)
   simp only [List.getElem_map, List.getElem_range] at q2
   exact ⟨g4 j hj, q2.out O E a w _ hs (k3 j q1).1, (k3 j q1).2⟩
  ·exact g2.elim
 have hmem : ∀ i, i < L.length → L.getD i 0 ∈ L := fun i hi => by simp [List.getD, List.getElem?_eq_getElem hi]
 refine ⟨E.end S L, ⟨fun i b hb => (hblk i b hb).2.2, fun i b hb => (hblk i b hb).1, ?_, ?_⟩, fun l hl => by simp only [Env.end]; rw [hm l hl]; exact ⟨rfl, rfl⟩, ?_, ?_, fun b hb => Or.inl hb, hx.out O E a w v hs hv⟩
 ·intro i j b b' hi hj hr hr' hne
  obtain ⟨b0, v0, g2, g3⟩ := (hblk i b hi).2.1 hr
  obtain ⟨b1, v1, g5, g6⟩ := (hblk j b' hj).2.1 hr'
  exact hs.inj _ _ _ _ g2 g5 g3 g6 (j5 hd (mS hi) (mS hj) v0 v1 hne)
 ·intro b hb
  rcases hb with hb | ⟨l, y, hl, hr, rfl, hn⟩
  ·obtain ⟨k1, _, k3⟩ := hs.im b hb
   refine ⟨k1, fun i z hz hzr => ?_⟩
   obtain ⟨b0, v0, g2, g3⟩ := (hblk i z hz).2.1 hzr
   exact k3 _ _ g2 g3
  ·refine ⟨(hs.hp _ _ hl).lt hr, fun i z hz hzr => ?_⟩
   obtain ⟨b0, v0, g2, g3⟩ := (hblk i z hz).2.1 hzr
   exact hs.inj _ _ _ _ g2 hl g3 hr (fun e => hn (e ▸ hmem i (hblk i z hz).1))
 ·rintro b ⟨i, z, hz, hzr, rfl⟩
  obtain ⟨b0, v0, g2, g3⟩ := (hblk i z hz).2.1 hzr
  exact ⟨_, _, g2, g3, rfl⟩
 ·rintro b (hb | ⟨l, y, hl, hr, rfl, hn⟩)
  ·exact Or.inl hb
  ·exact Or.inr ⟨l, y, hl, hr, rfl⟩
set_option maxRecDepth 100000
theorem SV.Le.sl' {z n m : Nat} {f g : Nat → List D} (e : n = m) (h : ∀ i, i < m → f i = g i) : SV.Le (.d (.sl z n f)) (.d (.sl z m g)) := by
 subst e; exact SV.Le.sl h
theorem b5 (pol : Int) (key : List Int) : Pure TC 72 [.i .i64 pol, .d (ax 1 (aR .u8) key)] (.i .u64 (mq (bK pol key))) := by
 refine Pure.mk' Tryz.func72 rfl rfl zN ?_
 (repeat' (first | ((first | refine Wp.any ac rfl ?_ | (with_reducible first | refine Go.mk ?_ | apply aj.of | refine ab.pure (fL _ _) rfl rfl ?_ | refine ab.pure (oe _) rfl rfl ?_)); conv => whnf)))
 exact .i rfl
theorem uw (zs : List Cel) (c : Cel) : ∀ k, k < zs.length + 1 → b6 zs.length (fun i => Cel.D (zs.getD i default)) (fun i => dK (Cel.D c) 4 (0 + i)) k = Cel.D ((zs ++ [c]).getD k default) := fun k hk => by
 simp only [b6]
 by_cases e : k < zs.length
 ·rw [if_pos e, List.getD_eq_getElem?_getD, List.getD_eq_getElem?_getD, List.getElem?_append_left e]
 ·rw [if_neg e]
  obtain rfl : k = zs.length := by omega
  have : (zs ++ [c]).getD zs.length default = c := by simp
  rw [Nat.sub_self, this]; rfl
theorem getCC {xs : List Cel} {k : Nat} (h : k < xs.length) : xs.getD (k : Int).toNat default = xs[k] := by
 rw [Int.toNat_natCast, List.getD_eq_getElem?_getD, List.getElem?_eq_getElem h]; rfl
theorem l9 {xs : List Cel} {lv sh j : Nat} (h : j < xs.length) : gm (xs.take (j + 1)) lv sh = if mq (bK (xs.getD (j : Int).toNat default).pol (xs.getD (j : Int).toNat default).key) % 2 ^ lv = (sh : Int) then gm (xs.take j) lv sh ++ [xs.getD (j : Int).toNat default] else gm (xs.take j) lv sh := by
 rw [getCC h]
 unfold gm
 rw [List.take_succ_eq_append_getElem h, List.filter_append]
 split
 ·rename_i e; rw [List.filter_cons_of_pos (by simpa [rk] using e)]; simp
 ·rename_i e; rw [List.filter_cons_of_neg (by simpa [rk] using e)]; simp
theorem gM (xs : List Cel) (lv sh : Nat) (hlv : lv ≤ 4) (hl : xs.length ≤ 16777216) : Pure TC 33 [.d (ax 4 Cel.D xs), .i .i64 lv, .i .i64 sh] (.d (ax 4 Cel.D (gm xs lv sh))) := by
 refine Pure.mk' Tryz.func33 rfl rfl zN ?_
 (repeat' (first | ((first | refine Wp.any ac rfl ?_ | (with_reducible first | refine Go.mk ?_ | apply aj.of)); conv => whnf)))
 refine Wp.le (Le.virt 7 112 4 (fun i => Cel.D (([] : List Cel).getD i default)) (by decide) rfl) ?_
 refine Wp.loopP (ι := Nat) (fun j => j ≤ xs.length) (fun j => ⟨⟨Tryz.f33.ntmps, 0⟩, 1, [(1, .i .i64 lv), (2, .i .i64 sh), (7, .sl 0 4 0 (gm (xs.take j) lv sh).length), (14, .d (ax 4 Cel.D xs)), (15, .i .i64 xs.length), (16, .i .i64 j)], [(0, some (aG 112 4 Cel.D (gm (xs.take j) lv sh)))]⟩) (fun j => xs.length - j) 0 (Nat.zero_le _) ?_ ?_
 ·(refine Le.by [0] rfl rfl rfl rfl ?_ ?_ <;> (conv => whnf) <;> (repeat' (first | exact trivial | exact ae.rfl rfl | exact ae.sl rfl | exact ⟨rfl, rfl, rfl⟩ | exact fun i hi => rfl | ((with_reducible refine And.intro ?_ ?_) <;> (conv => whnf)))))
 ·rintro j h1
  have hfl : (gm (xs.take j) lv sh).length ≤ 16777216 := by
   have q1 := List.length_filter_le (rk lv sh) (xs.take j)
   rw [List.length_take] at q1
   unfold gm; omega
  (repeat' (first | ((first | refine Wp.any ac rfl ?_ | (with_reducible first | refine Go.mk ?_ | apply aj.of | refine Ov.ok zO ?_ | refine And.intro zC ?_)); conv => whnf) | ((with_reducible refine And.intro ?hb ?_); (case hb => exact zz9); (conv => whnf)) | ((with_reducible first | refine ab.pure (fL _ _) rfl rfl ?_ | refine ab.pure (o6 _ lv hlv) rfl rfl ?_); conv => whnf) | ((refine ap (fun hc => ?_) (fun hc => ?_)) <;> (try simp only [wz9] at hc) <;> (try (exfalso; omega)) <;> (conv => whnf))))
  ·refine ⟨j + 1, by dsimp only; omega, by dsimp only; omega, ?_⟩
   dsimp only
   rw [l9 (by omega), if_pos hc]
   (refine Le.by [3] rfl rfl rfl rfl ?_ ?_ <;> (conv => whnf) <;> (repeat' (first | exact trivial | exact ae.rfl rfl | ((with_reducible refine And.intro ?_ ?_) <;> (conv => whnf)))))
   ·rw [List.length_append]; exact ae.sl rfl
   all_goals first | exact uw _ _ | rfl | (simp; done)
  ·refine ⟨j + 1, by dsimp only; omega, by dsimp only; omega, ?_⟩
   dsimp only
   rw [l9 (by omega), if_neg hc]
   (refine Le.by [0] rfl rfl rfl rfl ?_ ?_ <;> (conv => whnf) <;> (repeat' (first | exact trivial | exact ae.rfl rfl | exact ae.sl rfl | exact ⟨rfl, rfl, rfl⟩ | exact fun i hi => rfl | ((with_reducible refine And.intro ?_ ?_) <;> (conv => whnf)))))
  ·obtain rfl : j = xs.length := by omega
   rw [List.take_length]
   exact SV.Le.sl fun j hj => by simp only [Nat.zero_add]
theorem mA (xs : List Cel) (t : Cel) (hlen : xs.length ≤ 4611686018427387903) (hx : ∀ k, IsB (xs.getD k default).key) (ht : IsB t.key) :
  Pure TC 80 [.d (ax 4 Cel.D xs), t.S, .d (.fn (.func 76) [])] (.tup [.i .i64 (ci xs t), .b (gj xs t)]) := by
 refine Pure.mk' Tryz.func80 rfl rfl zN ?_
 (repeat' (first | ((first | refine Wp.any ac rfl ?_ | (with_reducible first | refine Go.mk ?_ | apply aj.of)); conv => whnf)))
 refine Wp.loopP (ι := Nat × Nat × Nat) (fun k => k.1 ≤ k.2.1 ∧ k.2.1 ≤ xs.length ∧ k.2.1 - k.1 < k.2.2 ∧ bsF (fun k => decide (mK (xs.getD k default) t < 0)) k.2.2 k.1 k.2.1 = ci xs t) (fun k => ⟨⟨Tryz.f80.ntmps, 0⟩, 1, [(0, .d (ax 4 Cel.D xs)), (2, .d (.fn (.func 76) [])), (4, .ptr 0 0), (8, .i .i64 xs.length), (9, .i .i64 k.1), (10, .i .i64 k.2.1)], [(0, some (.cells [.i .i64 t.pol, .d (ax 1 (aR .u8) t.key), .i .i64 t.tat, .d (ax 1 (aR .i64) t.held)]))]⟩) (fun k => k.2.1 - k.1) (0, xs.length, xs.length + 1) ⟨by simp, by simp, by simp, rfl⟩ ?_ ?_
 ·(refine Le.by [0] rfl rfl rfl rfl ?_ ?_ <;> (conv => whnf) <;> (repeat' (first | exact trivial | exact ae.rfl rfl | exact ae.ptr rfl | ((with_reducible refine And.intro ?_ ?_) <;> (conv => whnf)))))
 ·rintro ⟨i, j, q⟩ ⟨h1, h2, h3, h4⟩
  dsimp only at h1 h2 h3 h4 ⊢
  (repeat' (first | ((first | refine Wp.any ac rfl ?_ | (with_reducible first | refine Go.mk ?_ | apply aj.of | refine Ov.ok zO ?_)); conv => whnf) | (with_reducible refine Ov.sh1 (by with_unfolding_all exact rfl) ?_) | ((first | refine zV ?_ | (with_reducible first | refine And.intro zC ?_ | refine ag.pure (jK (xs.getD _ default) t (hx _) ht) rfl rfl ?_)); conv => whnf) | ((refine ap (fun hc => ?_) (fun hc => ?_)) <;> (try simp only [wz9] at hc) <;> (try (exfalso; omega)) <;> (conv => whnf))))
  ·rw [show (((i : Int) + j) / 2).toNat = (i + j) / 2 by omega] at hc
   have hh : decide (mK (xs.getD ((i + j) / 2) default) t < 0) = true := by simpa using hc
   refine ⟨((i + j) / 2 + 1, j, q - 1), ⟨by dsimp only; omega, h2, by dsimp only; omega, ?_⟩, by dsimp only; omega, ?_⟩
   ·rw [← h4]
    obtain ⟨q, rfl⟩ : ∃ r, q = r + 1 := ⟨q - 1, by omega⟩
    rw [bsF, if_pos (by omega), if_pos hh]; rfl
   ·(refine Le.by [0] rfl rfl rfl rfl ?_ ?_ <;> (conv => whnf) <;> (repeat' (first | exact trivial | exact ae.rfl rfl | exact ae.ptr rfl | ((with_reducible refine And.intro ?_ ?_) <;> (conv => whnf)))))
  ·rw [show (((i : Int) + j) / 2).toNat = (i + j) / 2 by omega] at hc
   have hh : ¬ decide (mK (xs.getD ((i + j) / 2) default) t < 0) = true := by simpa using hc
   refine ⟨(i, (i + j) / 2, q - 1), ⟨by dsimp only; omega, by dsimp only; omega, by dsimp only; omega, ?_⟩, by dsimp only; omega, ?_⟩
   ·rw [← h4]
    obtain ⟨q, rfl⟩ : ∃ r, q = r + 1 := ⟨q - 1, by omega⟩
    rw [bsF, if_pos (by omega), if_neg hh]; rfl
   ·(refine Le.by [0] rfl rfl rfl rfl ?_ ?_ <;> (conv => whnf) <;> (repeat' (first | exact trivial | exact ae.rfl rfl | exact ae.ptr rfl | ((with_reducible refine And.intro ?_ ?_) <;> (conv => whnf)))))
  all_goals rw [sd (by omega)] at h4
  all_goals subst h4
  ·rw [show ((ci xs t : Nat) : Int).toNat = ci xs t by omega]
   exact .of_eq (by rw [show gj xs t = (mK (xs.getD (ci xs t) default) t == 0) by
    unfold gj; rw [decide_eq_true (by omega), Bool.true_and]; rfl])
  ·exact .of_eq (by rw [show gj xs t = false by unfold gj; rw [decide_eq_false (by omega), Bool.false_and]])
theorem Pure.le' {C : Cx} {g : Nat} {args args' : List SV} {r : SV} (h : Pure C g args' r) (ha : Les args args') : Pure C g args r :=
 ⟨h.ent, fun E w vs hIm hsz hargs => h.out E w vs hIm (hsz.trans ha.len) fun j hj => (ha.out j (by rw [ha.len]; exact hj) hj).out _ _ _ _ (hargs j (by rw [ha.len]; exact hj))⟩
theorem pC (xs : List Cel) (pol : Int) (key : List Int) (hlen : xs.length ≤ 4611686018427387903) (hx : ∀ k, IsB (xs.getD k default).key) (ht : IsB key) :
  Pure TC 52 [.d (ax 4 Cel.D xs), .i .i64 pol, .d (ax 1 (aR .u8) key)] (.tup [.i .i64 (ci xs (gh pol key)), .b (gj xs (gh pol key)), (gl xs pol key).S]) := by
 refine Pure.mk' Tryz.func52 rfl rfl zN ?_
 have hS : Pure TC 80 [.d (ax 4 Cel.D xs), .agg [.i .i64 pol, .d (ax 1 (aR .u8) key), .i .i64 0, .d (.val (.slice none 0 0))], .d (.fn (.func 76) [])] (.tup [.i .i64 (ci xs (gh pol key)), .b (gj xs (gh pol key))]) :=
  (mA xs (gh pol key) hlen hx ht).le' (.cons (.rfl _) (.cons (.agg (.cons (.rfl _) (.cons (.rfl _) (.cons (.rfl _) (.cons .nil .nil))))) (.cons (.rfl _) .nil)))
 (repeat' (first | ((first | refine Wp.any ac rfl ?_ | (with_reducible first | refine Go.mk ?_ | apply aj.of) | refine zV ?_ | (with_reducible first | refine And.intro zC ?_ | refine ab.pure (hS) rfl rfl ?_)); conv => whnf) | ((refine ap (fun hc => ?_) (fun hc => ?_)) <;> (try simp only [wz9, eX, hasC_f] at hc) <;> (try (exfalso; omega)) <;> (conv => whnf))))
 ·rw [show ((ci xs (gh pol key) : Nat) : Int).toNat = ci xs (gh pol key) by omega, show gl xs pol key = xs.getD (ci xs (gh pol key)) default by rw [gl, if_pos ((eX ..).2 hc)]]
  exact .rfl _
 ·rw [show gl xs pol key = gh pol key by rw [gl, if_neg (by rw [eX]; exact hc)]]
  exact .tup (.cons (.rfl _) (.cons (.rfl _) (.cons (.agg (.cons (.rfl _) (.cons (.rfl _) (.cons (.rfl _) (.cons .nil .nil))))) .nil)))
theorem pB (xs : List Cel) (at' : Nat) (there : Bool) (c : Cel) (hn : xs.length ≤ 16777215) (hk : c.key.length ≤ 16777216) (h1 : at' ≤ xs.length) (h2 : there = true → at' < xs.length) :
  Pure TC 57 [.d (ax 4 Cel.D xs), .i .i64 at', .b there, c.S] (.d (ax 4 Cel.D (dw xs at' there c))) := by
 cases there with
 | true =>
  have h2 := h2 rfl
  refine Pure.mk' Tryz.func57 rfl rfl zN ?_
  (repeat' (first | ((first | refine Wp.any ac rfl ?_ | (with_reducible first | refine Go.mk ?_ | apply aj.of | refine And.intro zC ?_)); conv => whnf) | ((refine ab.fn (iI xs (by omega)) [] rfl rfl rfl rfl rfl ?ha ?hh ?_); (case ha => exact zA); (case hh => exact zH); (conv => whnf))))
  have hl : xs.length = (dw xs at' true c).length := by simp [dw]
  refine SV.Le.sl' hl fun i hi => ?_
  simp only [Nat.zero_add, dw, if_true, List.getD_eq_getElem?_getD, List.getElem?_set]
  by_cases h : at' = i
  ·subst h; simp [h2]; rfl
  ·rw [if_neg h, if_neg (fun e => h (by omega))]
 | false =>
  refine Pure.mk' Tryz.func57 rfl rfl zN ?_
  (repeat' (first | ((first | refine Wp.any ac rfl ?_ | (with_reducible first | refine Go.mk ?_ | apply aj.of | refine And.intro zC ?_)); conv => whnf) | ((refine ab.fn (iI xs (by omega)) [] rfl rfl rfl rfl rfl ?ha ?hh ?_); (case ha => exact zA); (case hh => exact zH); (conv => whnf)) | ((with_reducible refine ab.pure (aA _ (by omega)) rfl rfl ?_); conv => whnf) | ((refine ab.fn (pz xs at' c (by omega) (by omega)) [1,2] rfl rfl rfl rfl rfl ?ha ?hh ?_); (case ha => exact zA); (case hh => exact zH); (conv => whnf))))
  exact SV.Le.sl fun i hi => by simp only [Nat.zero_add]; rfl
set_option maxRecDepth 100000
def cm (lw ll nw nl : Nat) (clk cnt : Int) : Blk := .cells [.sl lw 1 0 nw, .i .i64 clk, .i .i64 cnt, .sl ll 6 0 nl]
def ce (nw : Nat) (W : Nat → Int) : Blk := .row 96 1 nw fun i => aR .u64 (W i)
def bw (nl : Nat) (f : Nat → List D) : Blk := .row 223 6 nl f
def bN (who kind word old new : Int) (done : Bool) : List D := [.val (.int .i64 who), .val (.int .u8 kind), .val (.int .i64 word), .val (.int .u64 old), .val (.int .u64 new), .val (.bool done)]
def au (nl : Nat) : Nat := if nl + 1 ≤ 128 then nl + 1 else 64
def bA (nl : Nat) (f : Nat → List D) (a : List D) : Nat → List D := if nl + 1 ≤ 128 then b6 nl f fun _ => a else fun i => b6 nl f (fun _ => a) (nl + 1 - 64 + i)
theorem tD {nl : Nat} (h : nl ≤ 128) : au nl ≤ 128 := by unfold au; split <;> omega
theorem sE (n o m : Nat) (f : Nat → List D) (hn : n ≤ 1000) (ho : o + m ≤ n) (hm : 0 < m) : Fun TC 160 1 [.sl 0 6 o m] [(0, some (bw n f))] 2 (.sl 1 6 0 m) [(0, some (bw n f)), (1, some (bw m fun i => f (o + i)))] := by
 refine Fun.mk' Tryz.func160 rfl rfl zN (by decide) ?_
 (repeat' (first | ((first | refine Wp.any ac rfl ?_ | (with_reducible first | refine Go.mk ?_ | apply aj.of | refine And.intro zC ?_)); conv => whnf) | ((with_reducible refine And.intro ?hb ?_); (case hb => exact zz9); (conv => whnf)) | ((with_reducible refine uJ (by omega) ?_); (conv => whnf))))
 all_goals try exact absurd trivial hc
 refine af.of [0, 2] rfl (fun i hi => by have : i = 0 := (by omega); subst this; rfl) rfl ?_ ?_
 ·exact .of_eq (congrArg (SV.sl _ _ _) (Nat.zero_add _))
 ·refine ⟨⟨⟨rfl, rfl, rfl⟩, fun i hi => rfl⟩, ⟨⟨rfl, rfl, Nat.zero_add _⟩, fun i hi => ?_⟩, trivial⟩
  simp [b6]
theorem eT (nw nl : Nat) (W : Nat → Int) (f : Nat → List D) (clk cnt who kind word old new : Int) (done : Bool) (hl : nl ≤ 128) (hc0 : 0 ≤ cnt) (hc1 : cnt ≤ 4611686018427387903) :
  Fun TC 122 3 [.ptr 0 0, .agg [.i .i64 who, .i .u8 kind, .i .i64 word, .i .u64 old, .i .u64 new, .b done]] [(0, some (cm 1 2 nw nl clk cnt)), (1, some (ce nw W)), (2, some (bw nl f))]
   4 (.tup []) [(0, some (cm 1 3 nw (au nl) clk (cnt + 1))), (1, some (ce nw W)), (2, none), (3, some (bw (au nl) (bA nl f (bN who kind word old new done))))] := by
 refine Fun.mk' Tryz.func122 rfl rfl zN (by decide) ?_
 (repeat' (first | ((first | refine Wp.any ac rfl ?_ | (with_reducible first | refine Go.mk ?_ | apply aj.of | refine Ov.ok zO ?_) | refine zV ?_ | with_reducible refine And.intro zC ?_); conv => whnf) | ((refine i5.b rfl rfl rfl rfl rfl rfl rfl rfl ?hb ?ho ?_); (case hb => exact zB); (case ho => omega); (conv => whnf)) | ((refine ag.new (sE (nl + 1) (0 + (((nl + 1 : Nat) : Int) - 64).toNat) (nl + 1 - (((nl + 1 : Nat) : Int) - 64).toNat) (b6 nl f fun i => dK (bN who kind word old new done) 6 (0 + i)) (by omega) (by omega) (by omega)) [11] [11] rfl rfl rfl rfl rfl rfl ?ha ?hh ?hs ?_); (case ha => exact zA); (case hh => exact zH); (case hs => exact zK); (conv => whnf)) | ((refine ap (fun hc => ?_) (fun hc => ?_)) <;> (try simp only [wz9] at hc) <;> (try (exfalso; omega)) <;> (conv => whnf))))
 ·have hN : au nl = nl + 1 - (((nl + 1 : Nat) : Int) - 64).toNat := by unfold au; rw [if_neg (by omega)]; omega
  rw [hN]
  refine af.sealB [0, 1, 2, 27] rfl rfl rfl (ai.tup trivial) ?_
  conv => whnf
  (repeat' (first | exact zE | ((refine And.intro ?_ ?_) <;> (conv => whnf))))
  intro i hi
  refine gO.of ?_
  unfold bA
  rw [if_neg (by omega)]
  show b6 nl f _ (0 + (((nl + 1 : Nat) : Int) - 64).toNat + i) = b6 nl f _ (nl + 1 - 64 + i)
  rw [show 0 + (((nl + 1 : Nat) : Int) - 64).toNat + i = nl + 1 - 64 + i by omega]
  unfold b6
  by_cases h : nl + 1 - 64 + i < nl
  ·rw [if_pos h, if_pos h]
  ·rw [if_neg h, if_neg h, show nl + 1 - 64 + i - nl = 0 by omega]; rfl
 ·have hN : au nl = nl + 1 := by unfold au; rw [if_pos (by omega)]
  rw [hN]
  refine af.sealB [0, 1, 2, 11] rfl rfl rfl (ai.tup trivial) ?_
  conv => whnf
  (repeat' (first | exact zE | ((refine And.intro ?_ ?_) <;> (conv => whnf))))
  intro i hi
  refine gO.of ?_
  unfold bA
  rw [if_pos (by omega)]
  unfold b6
  by_cases h : i < nl
  ·rw [if_pos h, if_pos h]
  ·rw [if_neg h, if_neg h, show i - nl = 0 by omega]; rfl
theorem ite_row {i q : Nat} {k : IntKind} {x y : Int} : (if i = q then [D.val (.int k x)] else aR k y) = aR k (if i = q then x else y) := by split <;> rfl
theorem wat (w : Nat) : 0 + ((w : Nat) : Int).toNat = w := by omega
theorem qT (nw nl : Nat) (W : Nat → Int) (f : Nat → List D) (clk cnt who : Int) (word : Nat) (hl : nl ≤ 128) (hc0 : 0 ≤ cnt) (hc1 : cnt ≤ 4611686018427387903) (hw0 : 0 ≤ who) (hw1 : who < 64) (hw : word < nw) :
  Fun TC 161 3 [.ptr 0 0, .i .i64 who, .i .i64 word] [(0, some (cm 1 2 nw nl clk cnt)), (1, some (ce nw W)), (2, some (bw nl f))]
   4 (.tup [.i .u64 (W word), .i .i64 0]) [(0, some (cm 1 3 nw (au nl) clk (cnt + 1))), (1, some (ce nw W)), (2, none), (3, some (bw (au nl) (bA nl f (bN who 1 word (W word) 0 true))))] := by
 refine Fun.mk' Tryz.func161 rfl rfl zN (by decide) ?_
 (repeat' (first | ((first | refine Wp.any ac rfl ?_ | (with_reducible first | refine Go.mk ?_ | apply aj.of | refine And.intro zC ?_)); conv => whnf) | (with_reducible refine ab.inline Tryz.func121 rfl rfl rfl (zzb rfl) ?_) | ((with_reducible refine ab.pure (cW _ _ _) rfl rfl ?_); conv => whnf) | ((refine ab.fn (eT nw nl W f clk cnt who 1 word (W (0 + ((word : Nat) : Int).toNat)) 0 true hl hc0 hc1) [0,1,2] rfl rfl rfl rfl rfl ?ha ?hh ?_); (case ha => exact zA); (case hh => exact zH); (conv => whnf)) | ((refine ap (fun hc => ?_) (fun hc => ?_)) <;> (try simp only [wz9] at hc) <;> (try (exfalso; omega)) <;> (conv => whnf))))
 simp only [wat]
 (refine af.sealB [0,1,2,3] rfl rfl rfl ?_ ?_); (focus ((conv => whnf); (repeat' (first | exact zE)))); (focus ((conv => whnf); (repeat' (first | exact zE | ((refine And.intro ?_ ?_) <;> (conv => whnf))))))
theorem qR (nw nl : Nat) (W : Nat → Int) (f : Nat → List D) (clk cnt who old new : Int) (word : Nat) (hl : nl ≤ 128) (hc0 : 0 ≤ cnt) (hc1 : cnt ≤ 4611686018427387903) (hw0 : 0 ≤ who) (hw1 : who < 64) (hw : word < nw) :
  Fun TC 92 3 [.ptr 0 0, .i .i64 who, .i .i64 word, .i .u64 old, .i .u64 new] [(0, some (cm 1 2 nw nl clk cnt)), (1, some (ce nw W)), (2, some (bw nl f))]
   4 (.tup [.b (decide (W word = old)), .i .i64 0]) [(0, some (cm 1 3 nw (au nl) clk (cnt + 1))), (1, some (ce nw (if W word = old then Dir.upd W word new else W))), (2, none), (3, some (bw (au nl) (bA nl f (bN who 2 word old new (decide (W word = old))))))] := by
 refine Fun.mk' Tryz.func92 rfl rfl zN (by decide) ?_
 (repeat' (first | ((first | refine Wp.any ac rfl ?_ | (with_reducible first | refine Go.mk ?_ | apply aj.of | refine And.intro zC ?_)); conv => whnf) | (with_reducible refine ab.inline Tryz.func121 rfl rfl rfl (zzb rfl) ?_) | ((with_reducible refine ab.pure (cW _ _ _) rfl rfl ?_); conv => whnf) | ((refine ab.fn (eT nw nl (fun j => if j = 0 + ((word : Nat) : Int).toNat then new else W j) f clk cnt who 2 word old new (W (0 + ((word : Nat) : Int).toNat) == old) hl hc0 hc1) [0,1,2] rfl rfl rfl rfl rfl ?ha ?hh ?_); (case ha => exact zA); (case hh => exact zz25); (conv => whnf)) | ((refine ab.fn (eT nw nl W f clk cnt who 2 word old new (W (0 + ((word : Nat) : Int).toNat) == old) hl hc0 hc1) [0,1,2] rfl rfl rfl rfl rfl ?ha ?hh ?_); (case ha => exact zA); (case hh => exact zz25); (conv => whnf)) | ((refine ap (fun hc => ?_) (fun hc => ?_)) <;> (try simp only [wz9] at hc) <;> (try (exfalso; omega)) <;> (conv => whnf))))
 all_goals simp only [wat] at hc ⊢
 all_goals rw [show (W word == old) = decide (W word = old) from rfl]
 ·rw [if_pos hc]
  (refine af.sealB [0,1,2,3] rfl rfl rfl ?_ ?_); (focus ((conv => whnf); (repeat' (first | exact zE)))); (focus ((conv => whnf); (repeat' (first | exact zE | ((refine And.intro ?_ ?_) <;> (conv => whnf))))))
 ·rw [if_neg hc]
  (refine af.sealB [0,1,2,3] rfl rfl rfl ?_ ?_); (focus ((conv => whnf); (repeat' (first | exact zE)))); (focus ((conv => whnf); (repeat' (first | exact zE | ((refine And.intro ?_ ?_) <;> (conv => whnf))))))
set_option maxRecDepth 100000
theorem oX (nw nl : Nat) (W : Nat → Int) (f : Nat → List D) (clk cnt who : Int) (hl : nl ≤ 128) (hc0 : 0 ≤ cnt) (hc1 : cnt ≤ 4611686018427387903) (hw0 : 0 ≤ who) (hw1 : who < 64) :
  Fun TC 173 3 [.ptr 0 0, .i .i64 who] [(0, some (cm 1 2 nw nl clk cnt)), (1, some (ce nw W)), (2, some (bw nl f))]
   4 (.tup [.i .i64 clk, .i .i64 0]) [(0, some (cm 1 3 nw (au nl) clk (cnt + 1))), (1, some (ce nw W)), (2, none), (3, some (bw (au nl) (bA nl f (bN who 3 0 (IntKind.u64.wrap clk) 0 true))))] := by
 refine Fun.mk' Tryz.func173 rfl rfl zN (by decide) ?_
 (repeat' (first | ((first | refine Wp.any ac rfl ?_ | (with_reducible first | refine Go.mk ?_ | apply aj.of | refine ab.pure (cW _ _ _) rfl rfl ?_)); conv => whnf) | ((refine ab.fn (eT nw nl W f clk cnt who 3 0 (IntKind.u64.wrap clk) 0 true hl hc0 hc1) [0,1,2] rfl rfl rfl rfl rfl ?ha ?hh ?_); (case ha => exact zA); (case hh => exact zH); (conv => whnf)) | ((with_reducible refine Ov.mk ?_); conv => whnf) | ((refine ap (fun hc => ?_) (fun hc => ?_)) <;> (try simp only [wz9] at hc) <;> (try (exfalso; omega)) <;> (conv => whnf))))
 (refine af.sealB [0,1,2,3] rfl rfl rfl ?_ ?_); (focus ((conv => whnf); (repeat' (first | exact zE)))); (focus ((conv => whnf); (repeat' (first | exact zE | ((refine And.intro ?_ ?_) <;> (conv => whnf))))))
theorem tc (a b : Int) (ha : 0 ≤ a) (hb : 0 ≤ b) (ha1 : a ≤ 4611686018427387903) (hb1 : b ≤ 4611686018427387903) : Pure TC 89 [.i .i64 a, .i .i64 b] (.tup [.i .i64 (min (a + b) 4611686018427387903), .i .i64 0]) := by
 have hE : la a b = 0 := by unfold la dl; simp [ha, hb, ha1, hb1]
 refine Pure.mk' Tryz.func89 rfl rfl zN ?_
 have hB := lr a b
 rw [hE] at hB
 (repeat' (first | ((first | refine Wp.any ac rfl ?_ | (with_reducible first | refine Go.mk ?_ | apply aj.of | refine Ov.ok zO ?_ | refine ab.pure (hB) rfl rfl ?_ | refine ab.pure (i7 _) rfl rfl ?_)); conv => whnf)))
 exact .tup (.cons (.i (by unfold co; omega)) (.cons (.rfl _) .nil))
theorem qQ (nw nl : Nat) (W : Nat → Int) (f : Nat → List D) (clk cnt n : Int) (h0 : 0 ≤ clk) (h1 : clk ≤ 4611686018427387903) (hn : 0 ≤ n) (hn1 : n ≤ 4611686018427387903) :
  Fun TC 59 3 [.ptr 0 0, .i .i64 n] [(0, some (cm 1 2 nw nl clk cnt)), (1, some (ce nw W)), (2, some (bw nl f))]
   3 (.tup [.i .i64 (min (clk + n) 4611686018427387903), .i .i64 0]) [(0, some (cm 1 2 nw nl (min (clk + n) 4611686018427387903) cnt)), (1, some (ce nw W)), (2, some (bw nl f))] := by
 have hT := dx n
 rw [show dl n = true by simp [dl]; omega] at hT
 refine Fun.mk' Tryz.func59 rfl rfl zN (by decide) ?_
 (repeat' (first | ((first | refine Wp.any ac rfl ?_ | (with_reducible first | refine Go.mk ?_ | apply aj.of | refine ab.pure (hT) rfl rfl ?_ | refine ab.pure (tc clk n h0 hn h1 hn1) rfl rfl ?_)); conv => whnf)))
 (refine af.sealB [0,1,2] rfl rfl rfl ?_ ?_); (focus ((conv => whnf); (repeat' (first | exact zE)))); (focus ((conv => whnf); (repeat' (first | exact zE | ((refine And.intro ?_ ?_) <;> (conv => whnf))))))
def iL (m h : Nat) : SV := .iref [.ptr m 0, .sl h 1 0 34] 0
def gi (Hd : Nat → List Cel) : Blk := .row 59 1 34 fun i => [ax 4 Cel.D (Hd i)]
theorem tN {i q : Nat} {x : List Cel} {Hd : Nat → List Cel} : (if i = q then [ax 4 Cel.D x] else [ax 4 Cel.D (Hd i)]) = [ax 4 Cel.D (Dir.upd Hd q x i)] := by unfold Dir.upd; split <;> rfl
theorem aD (nl : Nat) (W : Nat → Int) (Hd : Nat → List Cel) (f : Nat → List D) (clk cnt who : Int) (word : Nat) (hl : nl ≤ 128) (hc0 : 0 ≤ cnt) (hc1 : cnt ≤ 4611686018427387903) (hw0 : 0 ≤ who) (hw1 : who < 64) (hw : word < 34) :
  Fun TC 125 4 [iL 0 2, .i .i64 who, .i .i64 word] [(0, some (cm 1 3 34 nl clk cnt)), (1, some (ce 34 W)), (2, some (gi Hd)), (3, some (bw nl f))]
   5 (.tup [.i .u64 (W word), .d (ax 4 Cel.D (Hd word))]) [(0, some (cm 1 4 34 (au nl) clk (cnt + 1))), (1, some (ce 34 W)), (2, some (gi Hd)), (3, none), (4, some (bw (au nl) (bA nl f (bN who 1 word (W word) 0 true))))] := by
 refine Fun.mk' Tryz.func125 rfl rfl zN (by decide) ?_
 (repeat' (first | ((first | refine Wp.any ac rfl ?_ | (with_reducible first | refine Go.mk ?_ | apply aj.of) | refine zV ?_ | with_reducible refine And.intro zC ?_); conv => whnf) | ((refine ab.fn (qT 34 nl W f clk cnt who word hl hc0 hc1 hw0 hw1 hw) [0,1,3] rfl rfl rfl rfl rfl ?ha ?hh ?_); (case ha => exact zA); (case hh => exact zH); (conv => whnf))))
 simp only [wat]
 (refine af.sealB [0,1,2,3,4] rfl rfl rfl ?_ ?_); (focus ((conv => whnf); (repeat' (first | exact zE)))); (focus ((conv => whnf); (repeat' (first | exact zE | ((refine And.intro ?_ ?_) <;> (conv => whnf))))))
theorem aB (nl : Nat) (W : Nat → Int) (Hd : Nat → List Cel) (f : Nat → List D) (clk cnt who old new : Int) (word : Nat) (h : List Cel) (hl : nl ≤ 128) (hc0 : 0 ≤ cnt) (hc1 : cnt ≤ 4611686018427387903) (hw0 : 0 ≤ who) (hw1 : who < 64) (hw : word < 34) :
  Fun TC 63 4 [iL 0 2, .i .i64 who, .i .i64 word, .i .u64 old, .i .u64 new, .d (ax 4 Cel.D h)] [(0, some (cm 1 3 34 nl clk cnt)), (1, some (ce 34 W)), (2, some (gi Hd)), (3, some (bw nl f))]
   5 (.b (decide (W word = old))) [(0, some (cm 1 4 34 (au nl) clk (cnt + 1))), (1, some (ce 34 (if W word = old then Dir.upd W word new else W))), (2, some (gi (if W word = old then Dir.upd Hd word h else Hd))), (3, none), (4, some (bw (au nl) (bA nl f (bN who 2 word old new (decide (W word = old))))))] := by
 refine Fun.mk' Tryz.func63 rfl rfl zN (by decide) ?_
 (repeat' (first | ((first | refine Wp.any ac rfl ?_ | (with_reducible first | refine Go.mk ?_ | apply aj.of | refine And.intro zC ?_)); conv => whnf) | ((refine ab.fn (qR 34 nl W f clk cnt who old new word hl hc0 hc1 hw0 hw1 hw) [0,1,3] rfl rfl rfl rfl rfl ?ha ?hh ?_); (case ha => exact zA); (case hh => exact zH); (conv => whnf)) | ((refine ap (fun hc => ?_) (fun hc => ?_)) <;> (try simp only [wz9] at hc) <;> (try (exfalso; omega)) <;> (conv => whnf))))
 ·try simp only [wat]
  rw [if_pos hc, if_pos hc]
  (refine af.sealB [0,1,2,3,4] rfl rfl rfl ?_ ?_); (focus ((conv => whnf); (repeat' (first | exact zE)))); (focus ((conv => whnf); (repeat' (first | exact zE | ((refine And.intro ?_ ?_) <;> (conv => whnf))))))
  exact fun i hi => gO.of tN
 ·try simp only [wat]
  rw [if_neg hc, if_neg hc]
  (refine af.sealB [0,1,2,3,4] rfl rfl rfl ?_ ?_); (focus ((conv => whnf); (repeat' (first | exact zE)))); (focus ((conv => whnf); (repeat' (first | exact zE | ((refine And.intro ?_ ?_) <;> (conv => whnf))))))
theorem b9 (nl : Nat) (W : Nat → Int) (Hd : Nat → List Cel) (f : Nat → List D) (clk cnt : Int) (word : Nat) (hw : word < 34) :
  Fun TC 60 4 [iL 0 2, .i .i64 word] [(0, some (cm 1 3 34 nl clk cnt)), (1, some (ce 34 W)), (2, some (gi Hd)), (3, some (bw nl f))]
   4 (.tup [.i .u64 (W word), .d (ax 4 Cel.D (Hd word))]) [(0, some (cm 1 3 34 nl clk cnt)), (1, some (ce 34 W)), (2, some (gi Hd)), (3, some (bw nl f))] := by
 refine Fun.mk' Tryz.func60 rfl rfl zN (by decide) ?_
 (repeat' (first | ((first | refine Wp.any ac rfl ?_ | (with_reducible first | refine Go.mk ?_ | apply aj.of) | refine zV ?_ | with_reducible refine And.intro zC ?_); conv => whnf) | (with_reducible refine ab.inline Tryz.func90 rfl rfl rfl (zzb rfl) ?_) | (with_reducible refine ab.inline Tryz.func121 rfl rfl rfl (zzb rfl) ?_) | ((with_reducible refine ab.pure (cW _ _ _) rfl rfl ?_); conv => whnf) | ((refine ap (fun hc => ?_) (fun hc => ?_)) <;> (try simp only [wz9] at hc) <;> (try (exfalso; omega)) <;> (conv => whnf))))
 simp only [wat]
 (refine af.sealB [0,1,2,3] rfl rfl rfl ?_ ?_); (focus ((conv => whnf); (repeat' (first | exact zE)))); (focus ((conv => whnf); (repeat' (first | exact zE | ((refine And.intro ?_ ?_) <;> (conv => whnf))))))
end Go.Proofs.YtpdhdnhkhidmpaaGreat

namespace Go.Proofs.YtpdhdnhkhidmpaaGreat
open Go.RowKit
set_option maxRecDepth 100000
abbrev bx (x : SV) : SV := .iref [x] 0
def av : SV := .iref [iL 1 3, .d (.fn (.func 33) [])] 0
def pH : SV := .iref [.b false, .i .i64 0, .b false, .i .i64 0, .i .i64 0, .i .i64 0, .i .i64 0] 0
def nf : SV := .d (.fn (.func 98) [])
def eu : SV := .d (.val .nilFunc)
def xS : SV := bx (.ptr 4 0)
def tz (p : Pol) : SV := .iref [.i .u8 p.kind, .i .i64 p.T, .i .i64 p.tau, .i .i64 p.permits] 0
def ue (c : Cel) : SV := .iref [.i .i64 c.pol, .d (ax 1 (aR .u8) c.key), .i .i64 c.tat, .d (ax 1 (aR .i64) c.held)] 0
def rplB (r : Rpl) : SV := .iref [.i .i64 r.e, .b r.g, .i .i64 r.left, .i .i64 r.wait, .i .i64 r.serial, .i .i64 r.now] 0
def fdB (f : Core.Fd) : SV := .iref [.i .i64 f.w, .i .u64 f.v, .d (ax 4 Cel.D f.h)] 0
def furS (j sh : Nat) : SV := .fn (.func 128) [bx (.i .i64 j), bx (.i .i64 sh), xS]
def thnS (p : Pol) : Core.Fc → SV
 | .key => .fn (.func 138) [xS, tz p]
 | .ev j sh g => .fn (.func 131) [bx (furS j sh), bx (.i .i64 g), xS]
def pY (f : Core.Fd) (c : Cel) (r : Rpl) : SV := .fn (.func 181) [xS, fdB f, bx (.i .i64 f.at'), bx (.b f.there), ue c, rplB r]
def mvS (word by' stop : Int) (stopped thn : SV) : SV := .fn (.func 199) [xS, bx (.i .i64 word), bx (.i .u64 stop), bx stopped, bx (.i .u64 by'), bx thn]
def mwS (word v by' stop : Int) (stopped thn : SV) : SV := .fn (.func 200) [xS, bx (.i .i64 word), bx (.i .u64 v), bx (.i .u64 by'), bx (.i .u64 stop), bx stopped, bx thn]
def tU : SV := .d (.fn (.func 182) [])
def rsvS (sw : SV) : SV := .fn (.func 183) [xS, bx sw]
def bkS (n : Int) : Core.Bk → SV
 | .lv r => .fn (.func 202) [rplB r]
 | .ev j sh g => .fn (.func 137) [bx (furS j sh), bx (.i .i64 g), bx (.i .i64 n)]
def uu (n : Int) (k : Core.Bk) : SV := .fn (.func 175) [bx (bkS n k)]
def acqS (p : Pol) (f : Core.Fd) : SV := .fn (.func 178) [tz p, ue f.cell, xS, fdB f, bx (.i .i64 f.at'), bx (.b f.there)]
def ja : SV := .fn (.func 179) [xS]
def serS (p : Pol) (f : Core.Fd) : SV := .fn (.func 180) [xS, bx (acqS p f)]
def eN (n : Int) : Int := IntKind.u64.wrap (0 - n)
abbrev sJ : Int := 18446744073709551615
def findS (who s : Int) (t : SV) : SV := .fn (.func 168) [bx av, bx (.i .i64 who), bx (.i .u64 s), bx t]
def uW (who s : Int) (w : Nat) (t : SV) : SV := .fn (.func 198) [bx av, bx (.i .i64 who), bx (.i .i64 w), bx (.i .u64 s), bx t]
def mZ (who : Int) (w : Nat) (t : SV) : SV := .fn (.func 194) [bx av, bx (.i .i64 who), bx (.i .i64 w), bx t]
def rz (who : Int) (w : Nat) (v : Int) (h : List Cel) (t : SV) : SV := .fn (.func 195) [bx av, bx (.i .i64 who), bx (.i .i64 w), bx (.i .u64 v), bx (.d (ax 4 Cel.D h)), bx t, pH]
def halfS (who : Int) (lv w : Nat) (h : List Cel) (t : SV) : SV := .fn (.func 196) [bx av, bx (.i .i64 who), bx (.i .i64 w), bx t, bx (.d (ax 4 Cel.D h)), bx (.i .i64 lv)]
def layS (who : Int) (lv w : Nat) (h : List Cel) (t : SV) : SV := .fn (.func 197) [bx av, bx (.i .i64 who), bx (.i .i64 w), bx (.d (ax 4 Cel.D h)), bx (.i .i64 lv), bx t, bx .any]
def tfK (who sm : Int) (lv : Nat) (t : SV) : SV := .fn (.func 170) [bx av, bx (.i .i64 who), bx (.i .i64 lv), bx (.i .u64 sm), bx t, pH]
def thK (who sm : Int) (t : SV) : SV := .fn (.func 171) [bx av, bx (.i .i64 who), bx (.i .u64 sm), bx t, pH]
def tfS (who : Int) (lv i : Nat) : SV := .fn (.func 164) [bx av, bx (.i .i64 who), bx (.i .i64 lv), bx (.i .i64 i), bx nf, pH]
def thS (who : Int) (lv i : Nat) (up : Bool) (h : List Cel) : SV :=
 if up then .fn (.func 167) [bx av, bx (.i .i64 who), bx (.i .i64 lv), bx (.i .i64 i), bx nf, pH]
 else .fn (.func 166) [bx av, bx (.i .i64 who), bx (.i .i64 lv), bx (.i .i64 i), bx (.d (ax 4 Cel.D h)), bx nf, pH]
section
variable (P : Core.Ops) (who : Int) (x : Core.X)
def thn (f : Core.Fc) : SV := thnS (P.pol x.pol) f
def cl : Core.CS → SV
 | .none => eu
 | .k0 f => findS who (Core.sumF x f) (thn P x f)
 | .kE f w => uW who (Core.sumF x f) w (thn P x f)
 | .kF f lv w => mZ who w (tfK who (Core.sumF x f) lv (thn P x f))
 | .kG f lv w v h => rz who w v h (tfK who (Core.sumF x f) lv (thn P x f))
 | .kH f lv w h => halfS who lv w h (thK who (Core.sumF x f) (thn P x f))
 | .kL f lv w h => layS who lv w h (thK who (Core.sumF x f) (thn P x f))
 | .al f => .fn (.func 176) [tz (P.pol x.pol), ue f.cell, xS, fdB f, bx (.i .i64 f.at'), bx (.b f.there)]
 | .pk c => .fn (.func 142) [tz (P.pol x.pol), ue c, xS]
 | .a0 f => mvS 33 1 4611686018427387903 ja (serS (P.pol x.pol) f)
 | .a1 f u => mwS 33 u 1 4611686018427387903 ja (serS (P.pol x.pol) f)
 | .p0 f c r => mvS 32 1 P.room tU (rsvS (pY f c r))
 | .p1 f c r u => mwS 32 u 1 P.room tU (rsvS (pY f c r))
 | .pS f c r => pY f c r
 | .b0 n k => mvS 32 (eN n) sJ eu (uu n k)
 | .b1 n k u => mwS 32 u (eN n) sJ eu (uu n k)
 | .e0 => .fn (.func 99) [xS]
 | .eC j sh g w v h => .fn (.func 132) [xS, bx (.d (ax 4 Cel.D h)), bx (furS j sh), bx (.i .i64 g), bx (.i .i64 w), bx (.i .u64 v)]
 | .eS j sh g w v m n => .fn (.func 135) [xS, bx (.i .i64 w), bx (.i .u64 v), bx (.d (ax 4 Cel.D m)), bx (furS j sh), bx (.i .i64 g), bx (.i .i64 n)]
 | .s0 => .fn (.func 124) [bx av, bx (.i .i64 who), bx nf]
 | .sM lv => .fn (.func 127) [bx av, bx (.i .i64 who), bx (.i .u64 (2 * lv)), bx nf, pH, bx (.i .i64 lv)]
 | .sF lv i => mZ who (2 ^ lv + i) (tfS who lv i)
 | .sG lv i v h => rz who (2 ^ lv + i) v h (tfS who lv i)
 | .sH lv i up h => halfS who (lv + 1) (Dir.upW lv i up) h (thS who lv i up h)
 | .sL lv i up h => layS who (lv + 1) (Dir.upW lv i up) h (thS who lv i up h)
 | .sV lv => .fn (.func 162) [bx av, bx (.i .i64 who), bx (.i .i64 lv), bx nf]
end
theorem eb (P : Core.Ops) (who : Int) (x : Core.X) (s : Core.CS) : SV.Lt 5 (cl P who x s) := by
 cases s with
 | sH lv i up h => cases up <;> exact .of rfl
 | sL lv i up h => cases up <;> exact .of rfl
 | k0 f => cases f <;> exact .of rfl
 | kE f w => cases f <;> exact .of rfl
 | kF f lv w => cases f <;> exact .of rfl
 | kG f lv w v h => cases f <;> exact .of rfl
 | kH f lv w h => cases f <;> exact .of rfl
 | kL f lv w h => cases f <;> exact .of rfl
 | b0 n k => cases k <;> exact .of rfl
 | b1 n k u => cases k <;> exact .of rfl
 | _ => exact .of rfl
def xF (who : Int) (x : Core.X) : Nat → SV
 | 0 => .i .u8 x.op
 | 1 => .i .i64 x.pol
 | 2 => .d (ax 1 (aR .u8) x.key)
 | 3 => .i .i64 x.n
 | 4 => .ptr 0 0
 | 5 => .i .i64 who
 | 6 => .i .u64 x.sum
 | 7 => .b x.res
 | _ => .i .i64 x.ser
structure XB where
 n : Nat
 f : Nat → SV
def aq (ps : List Pol) (room : Int) (g : Nat → SV) : Nat → SV
 | 0 => .d (ax 4 Pol.D ps)
 | 1 => .i .u64 room
 | 2 => av
 | j + 3 => g j
def coreB (ps : List Pol) (room : Int) (g : Nat → SV) : Blk := .cf 13 67 (aq ps room g)
def xB (o : XB) : Blk := .cf 1 o.n o.f
@[reducible] def coreT (ps : List Pol) (room : Int) (g : Nat → SV) (M : Core.Mc) (o : Nat → XB) (l nl : Nat) (cnt : Int) (r : List (Nat × Option Blk)) : List (Nat × Option Blk) :=
 [(0, some (coreB ps room g)), (1, some (cm 2 l 34 nl M.clk cnt)), (2, some (ce 34 M.W)), (3, some (gi M.Hd)), (4, some (xB (o 0))), (5, some (xB (o 1))), (6, some (xB (o 2))), (7, some (xB (o 3))), (8, some (xB (o 4))), (9, some (xB (o 5))), (10, some (xB (o 6))), (11, some (xB (o 7))), (12, some (xB (o 8)))] ++ r
def aU (who : Int) (x : Core.X) (o : Nat → XB) : Nat → XB
 | 0 => ⟨9, xF who x⟩
 | i + 1 => o i
def ah (ps : List Pol) (room : Int) (g : Nat → SV) (M : Core.Mc) (o : Nat → XB) (nl : Nat) (f : Nat → List D) (cnt : Int) : List (Nat × Option Blk) :=
 coreT ps room g M o 13 nl cnt [(13, some (bw nl f))]
def aS (ps : List Pol) (room : Int) (g : Nat → SV) (M : Core.Mc) (o : Nat → XB) (nl : Nat) (f : Nat → List D) (cnt : Int) (a : List D) : List (Nat × Option Blk) :=
 coreT ps room g M o 14 (au nl) (cnt + 1) [(13, none), (14, some (bw (au nl) (bA nl f a)))]
structure COK (ps : List Pol) (room who : Int) (g : Nat → SV) (M : Core.Mc) (o : Nat → XB) (nl : Nat) (cnt : Int) : Prop where
 w0 : 0 ≤ who
 w1 : who < 64
 nl : nl ≤ 128
 c0 : 0 ≤ cnt
 c1 : cnt ≤ 4611686018427387903
 g : ∀ j, SV.Lt 13 (g j)
 o : ∀ i j, SV.Lt 1 ((o i).f j)
 d0 : 0 ≤ M.W 0
 d1 : M.W 0 ≤ 8
 hd : ∀ w, Hc ps 16000000 (M.Hd w)
 ps : dq ps = 0
 room : 1 ≤ room ∧ room ≤ 4096
 c32 : 0 ≤ M.W 32 ∧ M.W 32 ≤ 4096
 c33 : 0 ≤ M.W 33 ∧ M.W 33 ≤ 4611686018427387903
theorem cE (who : Int) (x : Core.X) (j : Nat) : SV.Lt 1 (xF who x j) := by
 unfold xF
 split <;> first | exact .of rfl
theorem aF {ps : List Pol} {room : Int} {g : Nat → SV} (hg : ∀ j, SV.Lt 13 (g j)) (j : Nat) : SV.Lt 13 (aq ps room g j) := by
 rcases j with _ | _ | _ | j
 ·exact .of rfl
 ·exact .of rfl
 ·exact .of rfl
 ·exact hg j
theorem id13 {L : List Nat} {i : Nat} (hi : i < 13) : (0 :: 1 :: 2 :: 3 :: 4 :: 5 :: 6 :: 7 :: 8 :: 9 :: 10 :: 11 :: 12 :: L).getD i 0 = i := by
 rcases i with _ | _ | _ | _ | _ | _ | _ | _ | _ | _ | _ | _ | _ | i <;> first | rfl | omega
theorem ma {S : St} {ps : List Pol} {room : Int} {g : Nat → SV} (hg : ∀ j, SV.Lt 13 (g j)) {L : List Nat} : ∀ j, j < 67 → ai S (0 :: 1 :: 2 :: 3 :: 4 :: 5 :: 6 :: 7 :: 8 :: 9 :: 10 :: 11 :: 12 :: L) (aq ps room g j) (aq ps room g j) ∧ SV.Lt 13 (aq ps room g j) :=
 fun j _ => ⟨.same (aF hg j) (by simp) fun i hi => id13 hi, aF hg j⟩
theorem pi {S : St} {ps : List Pol} {room : Int} {g : Nat → SV} (hg : ∀ j, SV.Lt 13 (g j)) {L : List Nat} {π : Nat → Nat} (hπ : ∀ l, l < 13 → π l = l) : ∀ j, j < 67 → ai S (0 :: 1 :: 2 :: 3 :: 4 :: 5 :: 6 :: 7 :: 8 :: 9 :: 10 :: 11 :: 12 :: L) (SV.ren π (aq ps room g j)) (aq ps room g j) ∧ SV.Lt 13 (aq ps room g j) :=
 fun j hj => ⟨by rw [SV.ren_same hπ (aF hg j)]; exact (ma hg j hj).1, aF hg j⟩
theorem ea {ps : List Pol} {room : Int} {g : Nat → SV} (hg : ∀ j, SV.Lt 13 (g j)) {L : List Nat} : ∀ j, j < 67 → ae (0 :: 1 :: 2 :: 3 :: 4 :: 5 :: 6 :: 7 :: 8 :: 9 :: 10 :: 11 :: 12 :: L) (aq ps room g j) (aq ps room g j) ∧ SV.Lt 13 (aq ps room g j) :=
 fun j _ => ⟨.same (aF hg j) (by simp) fun i hi => id13 hi, aF hg j⟩
theorem cS {ps : List Pol} {room : Int} {g : Nat → SV} (hg : ∀ j, SV.Lt 13 (g j)) {L : List Nat} {π : Nat → Nat} (hπ : ∀ l, l < 13 → π l = l) : ∀ j, j < 67 → ae (0 :: 1 :: 2 :: 3 :: 4 :: 5 :: 6 :: 7 :: 8 :: 9 :: 10 :: 11 :: 12 :: L) (SV.ren π (aq ps room g j)) (aq ps room g j) ∧ SV.Lt 13 (aq ps room g j) :=
 fun j hj => ⟨by rw [SV.ren_same hπ (aF hg j)]; exact (ea hg j hj).1, aF hg j⟩
theorem aL {S : St} {n : Nat} {f : Nat → SV} (hf : ∀ j, SV.Lt 1 (f j)) {L : List Nat} : ∀ j, j < n → ai S (0 :: L) (f j) (f j) ∧ SV.Lt 1 (f j) :=
 fun j _ => ⟨.same (hf j) (by simp) fun i hi => by obtain rfl : i = 0 := (by omega); rfl, hf j⟩
theorem ar {S : St} {n : Nat} {f : Nat → SV} (hf : ∀ j, SV.Lt 1 (f j)) {L : List Nat} {π : Nat → Nat} (hπ : π 0 = 0) : ∀ j, j < n → ai S (0 :: L) (SV.ren π (f j)) (f j) ∧ SV.Lt 1 (f j) :=
 fun j hj => ⟨by rw [SV.ren_same (m := 1) (fun l hl => by obtain rfl : l = 0 := (by omega); exact hπ) (hf j)]; exact (aL hf j hj).1, hf j⟩
theorem eG {n : Nat} {f : Nat → SV} (hf : ∀ j, SV.Lt 1 (f j)) {L : List Nat} : ∀ j, j < n → ae (0 :: L) (f j) (f j) ∧ SV.Lt 1 (f j) :=
 fun j _ => ⟨.same (hf j) (by simp) fun i hi => by obtain rfl : i = 0 := (by omega); rfl, hf j⟩
theorem cd {n : Nat} {f : Nat → SV} (hf : ∀ j, SV.Lt 1 (f j)) {L : List Nat} {π : Nat → Nat} (hπ : π 0 = 0) : ∀ j, j < n → ae (0 :: L) (SV.ren π (f j)) (f j) ∧ SV.Lt 1 (f j) :=
 fun j hj => ⟨by rw [SV.ren_same (m := 1) (fun l hl => by obtain rfl : l = 0 := (by omega); exact hπ) (hf j)]; exact (eG hf j hj).1, hf j⟩
theorem pM {S : St} {who : Int} (x : Core.X) (π : Nat → Nat) {L : List Nat} (hπ : π 0 = 0 := by rfl) : ∀ j, j < 9 → ai S (0 :: L) (bif Nat.beq j 7 then .b true else SV.ren π (xF who x j)) (xF who { x with res := true } j) ∧ SV.Lt 1 (xF who { x with res := true } j) := fun j hj => by
 have h := ar (S := S) (n := 9) (cE who x) (L := L) hπ
 refine ⟨?_, cE _ _ _⟩
 by_cases e : j = 7
 ·subst e; exact ai.lt0 (SV.Lt.of rfl)
 ·have e2 : Nat.beq j 7 = false := by
   cases h : Nat.beq j 7 with
   | false => rfl
   | true => exact absurd (Nat.eq_of_beq_eq_true h) e
  have e3 : xF who { x with res := true } j = xF who x j := by
   rcases j with _ | _ | _ | _ | _ | _ | _ | _ | j <;> first | rfl | exact absurd rfl e
  rw [e2, e3]; exact (h j hj).1
theorem af.seal14 {S : St} {x r : SV} {H' : List (Nat × Option Blk)} {l : Nat} (hH : mU S [0, 1, 2, 3, 4, 5, 6, 7, 8, 9, 10, 11, 12, 13, l] H') (hx : ai S [0, 1, 2, 3, 4, 5, 6, 7, 8, 9, 10, 11, 12, 13, l] x r) (hd : bi [0, 1, 2, 3, 4, 5, 6, 7, 8, 9, 10, 11, 12, 13, l] = true) : af 14 S x 15 r H' :=
 af.sealB _ rfl rfl hd hx hH
theorem ai.sl14 {S : St} {l z o n : Nat} : ai S [0, 1, 2, 3, 4, 5, 6, 7, 8, 9, 10, 11, 12, 13, l] (.sl l z o n) (.sl 14 z o n) :=
 ⟨fun O E a w v hs hv => by
  cases hv with
  | sl _ _ _ _ ad cap hl hc hm ha h0 => exact .sl _ _ _ _ _ _ (by simp) hc hm ha h0⟩
theorem ae.sl13 {l z o n : Nat} : ae [0, 1, 2, 3, 4, 5, 6, 7, 8, 9, 10, 11, 12, l] (.sl l z o n) (.sl 13 z o n) := by
 refine ⟨fun E nx w v hv => ?_⟩
 cases hv with
 | sl _ _ _ _ ad cap hl hc hm ha h0 => exact .sl _ _ _ _ _ _ (by simp) hc hm ha h0
theorem ab.fn14 {C : Cx} {nt : NT} {nx : Nat} {fr : List (Nat × SV)} {hp : List (Nat × Option Blk)} {g : Nat} {args : List SV} {k : St → SV → Prop} {m' : Nat} {args0 : List SV} {H H' : List (Nat × Option Blk)} {r : SV} {l : Nat} (h : Fun C g 14 args0 H m' r H')
  (hh : aO hp [0, 1, 2, 3, 4, 5, 6, 7, 8, 9, 10, 11, 12, l] H) (ha : a9 [0, 1, 2, 3, 4, 5, 6, 7, 8, 9, 10, 11, 12, l] args args0) (hd : bi [0, 1, 2, 3, 4, 5, 6, 7, 8, 9, 10, 11, 12, l] = true) (hlive : dD H 14 = true) (hkeys : dE H' 14 = true) (hlt : cu H' m' = true)
  (hk : k ⟨nt, nx + (m' - 14), fr, aY (πf [0, 1, 2, 3, 4, 5, 6, 7, 8, 9, 10, 11, 12, l] nx) hp H'⟩ (mC (πf [0, 1, 2, 3, 4, 5, 6, 7, 8, 9, 10, 11, 12, l] nx) r)) : ab C ⟨nt, nx, fr, hp⟩ g args k :=
 .fn h _ rfl hd hlive hkeys hlt ha hh hk
end Go.Proofs.YtpdhdnhkhidmpaaGreat

namespace Go.Proofs.YtpdhdnhkhidmpaaGreat
open Go.RowKit
set_option maxRecDepth 100000
variable {ps : List Pol} {room who : Int} {g : Nat → SV} {M : Core.Mc} {o : Nat → XB} {nl : Nat} {f : Nat → List D} {cnt : Int} {x : Core.X}
theorem nW (hM : COK ps room who g M o nl cnt) (word : Nat) (hw : word < 34) : Fun TC 100 14 [.ptr 4 0, .i .i64 word] (ah ps room g M (aU who x o) nl f cnt)
  15 (.i .u64 (M.W word)) (aS ps room g M (aU who x o) nl f cnt (bN who 1 word (M.W word) 0 true)) := by
 have q0 := hM.w0; have q1 := hM.w1; have q2 := hM.nl; have q3 := hM.c0; have q4 := hM.c1; have q5 := hM.g; have qo := hM.o; have q6 := hM.d0; have q7 := hM.d1; have q8 := hM.hd
 refine Fun.mk' Tryz.func100 rfl rfl zN (by decide) ?_
 (repeat' (first | ((first | refine Wp.any ac rfl ?_ | (with_reducible first | refine Go.mk ?_ | apply aj.of) | refine zV ?_); conv => whnf) | ((refine ag.new (aD nl M.W M.Hd f M.clk cnt who word q2 q3 q4 q0 q1 hw) [1,2,3,13] [] rfl rfl rfl rfl rfl rfl ?ha ?hh ?hs ?_); (case ha => exact zA); (case hh => exact zH); (case hs => exact zK); (conv => whnf)) | ((with_reducible refine At.mk' _ rfl ?_); (refine And.intro zN ?_); conv => whnf)))
 ((apply af.seal14); (case hH => exact zz3); (case hx => exact zz21); (case hd => exact rfl))
theorem pX (hM : COK ps room who g M o nl cnt) (word : Nat) (hw : word < 34) (old new : Int) : Fun TC 201 14 [.ptr 4 0, .i .i64 word, .i .u64 old, .i .u64 new] (ah ps room g M (aU who x o) nl f cnt)
  15 (.b (decide (M.W word = old))) (aS ps room g (if M.W word = old then M.set word new [] else M) (aU who x o) nl f cnt (bN who 2 word old new (decide (M.W word = old)))) := by
 have q0 := hM.w0; have q1 := hM.w1; have q2 := hM.nl; have q3 := hM.c0; have q4 := hM.c1; have q5 := hM.g; have qo := hM.o; have q6 := hM.d0; have q7 := hM.d1; have q8 := hM.hd
 refine Fun.mk' Tryz.func201 rfl rfl zN (by decide) ?_
 by_cases hm : M.W word = old
 ·rw [if_pos hm]
  (repeat' (first | ((first | refine Wp.any ac rfl ?_ | (with_reducible first | refine Go.mk ?_ | apply aj.of) | refine zV ?_); conv => whnf) | ((refine ag.new (aB nl M.W M.Hd f M.clk cnt who old new word [] q2 q3 q4 q0 q1 hw) [1,2,3,13] [] rfl rfl rfl rfl rfl rfl ?ha ?hh ?hs ?_); (case ha => exact zA); (case hh => exact zH); (case hs => exact zK); (conv => whnf)) | ((with_reducible refine At.mk' _ rfl ?_); (refine And.intro zN ?_); conv => whnf)))
  ((apply af.seal14); (case hH => exact zz5); (case hx => exact zz21); (case hd => exact rfl))
 ·rw [if_neg hm]
  (repeat' (first | ((first | refine Wp.any ac rfl ?_ | (with_reducible first | refine Go.mk ?_ | apply aj.of) | refine zV ?_); conv => whnf) | ((refine ag.new (aB nl M.W M.Hd f M.clk cnt who old new word [] q2 q3 q4 q0 q1 hw) [1,2,3,13] [] rfl rfl rfl rfl rfl rfl ?ha ?hh ?hs ?_); (case ha => exact zA); (case hh => exact zH); (case hs => exact zK); (conv => whnf)) | ((with_reducible refine At.mk' _ rfl ?_); (refine And.intro zN ?_); conv => whnf)))
  ((apply af.seal14); (case hH => exact zz5); (case hx => exact zz21); (case hd => exact rfl))
theorem now_c (hM : COK ps room who g M o nl cnt) : Fun TC 133 14 [.ptr 4 0] (ah ps room g M (aU who x o) nl f cnt)
  15 (.i .i64 M.clk) (aS ps room g M (aU who x o) nl f cnt (bN who 3 0 (IntKind.u64.wrap M.clk) 0 true)) := by
 have q0 := hM.w0; have q1 := hM.w1; have q2 := hM.nl; have q3 := hM.c0; have q4 := hM.c1; have q5 := hM.g; have qo := hM.o; have q6 := hM.d0; have q7 := hM.d1; have q8 := hM.hd
 refine Fun.mk' Tryz.func133 rfl rfl zN (by decide) ?_
 (repeat' (first | ((first | refine Wp.any ac rfl ?_ | (with_reducible first | refine Go.mk ?_ | apply aj.of) | refine zV ?_); conv => whnf) | ((refine ag.new (oX 34 nl M.W f M.clk cnt who q2 q3 q4 q0 q1) [1,2,13] [] rfl rfl rfl rfl rfl rfl ?ha ?hh ?hs ?_); (case ha => exact zA); (case hh => exact zH); (case hs => exact zK); (conv => whnf)) | ((with_reducible refine At.mk' _ rfl ?_); (refine And.intro zN ?_); conv => whnf)))
 ((apply af.seal14); (case hH => exact zz3); (case hx => exact zz21); (case hd => exact rfl))
theorem io (lv : Nat) (hl : lv ≤ 3) (s : Int) : Pure TC 64 [.i .i64 ((lv : Int) + 1), .i .u64 s] (.i .i64 (Dir.plc (lv + 1) s)) := b7 (lv + 1) (by omega) s
theorem dZ (who s : Int) (F : Fn) (cs : List SV) (hF : SV.Lt 120 (.fn F cs)) : Fun TC 130 120 [av, .i .i64 who, .i .u64 s, .fn F cs] [] 120 (findS who s (.fn F cs)) [] := by
 refine Fun.mk' Tryz.func130 rfl rfl zN (by decide) ?_
 (repeat' (first | ((first | refine Wp.any ac rfl ?_ | (with_reducible first | refine Go.mk ?_ | apply aj.of)); conv => whnf)))
 (refine af.sealM ?_); (conv => whnf); (repeat' (first | exact zD9 | ((refine ai.ptrN rfl rfl ?_); (conv => whnf)) | ((refine ai.fn ?_); (conv => whnf)) | ((refine And.intro ?_ ?_) <;> (conv => whnf))))
theorem fg (who s : Int) (w : Nat) (F : Fn) (cs : List SV) (hF : SV.Lt 120 (.fn F cs)) : Fun TC 169 120 [av, .i .i64 who, .i .u64 s, .i .i64 w, .fn F cs] [] 120 (uW who s w (.fn F cs)) [] := by
 refine Fun.mk' Tryz.func169 rfl rfl zN (by decide) ?_
 (repeat' (first | ((first | refine Wp.any ac rfl ?_ | (with_reducible first | refine Go.mk ?_ | apply aj.of)); conv => whnf)))
 (refine af.sealM ?_); (conv => whnf); (repeat' (first | exact zD9 | ((refine ai.ptrN rfl rfl ?_); (conv => whnf)) | ((refine ai.fn ?_); (conv => whnf)) | ((refine And.intro ?_ ?_) <;> (conv => whnf))))
theorem b8 (who : Int) (w : Nat) (F : Fn) (cs : List SV) (hF : SV.Lt 120 (.fn F cs)) : Fun TC 163 120 [av, .i .i64 who, .i .i64 w, .fn F cs] [] 120 (mZ who w (.fn F cs)) [] := by
 refine Fun.mk' Tryz.func163 rfl rfl zN (by decide) ?_
 (repeat' (first | ((first | refine Wp.any ac rfl ?_ | (with_reducible first | refine Go.mk ?_ | apply aj.of)); conv => whnf)))
 (refine af.sealM ?_); (conv => whnf); (repeat' (first | exact zD9 | ((refine ai.ptrN rfl rfl ?_); (conv => whnf)) | ((refine ai.fn ?_); (conv => whnf)) | ((refine And.intro ?_ ?_) <;> (conv => whnf))))
theorem gJ (who : Int) (lv : Nat) (hl : lv ≤ 3) (s : Int) (h : List Cel) (F : Fn) (cs : List SV) (hF : SV.Lt 120 (.fn F cs)) : Fun TC 165 120 [av, .i .i64 who, .i .i64 ((lv : Int) + 1), .i .u64 s, .d (ax 4 Cel.D h), .fn F cs] [] 120 (halfS who (lv + 1) (Dir.plc (lv + 1) s) h (.fn F cs)) [] := by
 refine Fun.mk' Tryz.func165 rfl rfl zN (by decide) ?_
 (repeat' (first | ((first | refine Wp.any ac rfl ?_ | (with_reducible first | refine Go.mk ?_ | apply aj.of | refine ab.pure (io lv hl _) rfl rfl ?_)); conv => whnf)))
 (refine af.sealM ?_); (conv => whnf); (repeat' (first | exact zD9 | ((refine ai.ptrN rfl rfl ?_); (conv => whnf)) | ((refine ai.fn ?_); (conv => whnf)) | ((refine And.intro ?_ ?_) <;> (conv => whnf))))
theorem qf (P : Core.Ops) (x : Core.X) (who : Int) : Fun TC 97 120 [av, .i .i64 who, nf] [] 120 (cl P who x .s0) [] := by
 refine Fun.mk' Tryz.func97 rfl rfl zN (by decide) ?_
 (repeat' (first | ((first | refine Wp.any ac rfl ?_ | (with_reducible first | refine Go.mk ?_ | apply aj.of)); conv => whnf)))
 (refine af.sealM ?_); (conv => whnf); (repeat' (first | exact zD9 | ((refine ai.ptrN rfl rfl ?_); (conv => whnf)) | ((refine ai.fn ?_); (conv => whnf)) | ((refine And.intro ?_ ?_) <;> (conv => whnf))))
theorem move_d (word by' stop : Int) (y : D) (F : Fn) (cs : List SV) (hF : SV.Lt 120 (.fn F cs)) : Fun TC 174 120 [.ptr 4 0, .i .i64 word, .i .u64 by', .i .u64 stop, .d y, .fn F cs] [] 120 (mvS word by' stop (.d y) (.fn F cs)) [] := by
 refine Fun.mk' Tryz.func174 rfl rfl zN (by decide) ?_
 (repeat' (first | ((first | refine Wp.any ac rfl ?_ | (with_reducible first | refine Go.mk ?_ | apply aj.of)); conv => whnf)))
 (refine af.sealM ?_); (conv => whnf); (repeat' (first | exact zD9 | ((refine ai.ptrN rfl rfl ?_); (conv => whnf)) | ((refine ai.fn ?_); (conv => whnf)) | ((refine And.intro ?_ ?_) <;> (conv => whnf))))
theorem gS {lv : Nat} (hl : lv ≤ 4) : IntKind.i64.wrap (1 * 2 ^ min ((lv : Nat) : Int).toNat IntKind.i64.bits) = 2 ^ lv := by
 have hlv : lv = 0 ∨ lv = 1 ∨ lv = 2 ∨ lv = 3 ∨ lv = 4 := by omega
 rcases hlv with rfl | rfl | rfl | rfl | rfl <;> decide
theorem cj {lv : Nat} {s : Int} (h0 : 0 ≤ s) (h1 : s < 2 ^ lv) : Dir.plc lv s = 2 ^ lv + s.toNat := by unfold Dir.plc; rw [Int.emod_eq_of_lt h0 h1]
theorem mt {lv i : Nat} (hi : i < 2 ^ lv) (up : Bool) : Dir.plc (lv + 1) (if up then (i : Int) + 2 ^ lv else i) = Dir.upW lv i up := by
 have e : ((2 ^ lv : Nat) : Int) = 2 ^ lv := by simp
 have e2 : (2 : Int) ^ (lv + 1) = 2 ^ lv * 2 := Int.pow_succ 2 lv
 have h : (i : Int) < 2 ^ lv := by omega
 unfold Dir.upW
 cases up
 ·rw [if_neg (by decide), if_neg (by decide), cj (by omega) (by omega), Int.toNat_natCast]
 ·rw [if_pos rfl, if_pos rfl, cj (by omega) (by omega)]
  congr 1
theorem qV (P : Core.Ops) (x : Core.X) (who : Int) (lv i : Nat) (hl : lv ≤ 3) (hi : i ≤ 2 ^ lv) : Fun TC 126 60 [av, .i .i64 who, .i .i64 lv, .i .i64 i, nf] [] 60 (cl P who x (Core.move lv i)) [] := by
 have e1 := gS (show lv ≤ 4 by omega)
 have e2 : ((2 ^ lv : Nat) : Int) = 2 ^ lv := by simp
 have hb : (2 : Nat) ^ lv ≤ 2 ^ 3 := Nat.pow_le_pow_right (by omega) hl
 refine Fun.mk' Tryz.func126 rfl rfl zN (by decide) ?_
 (repeat' (first | ((first | refine Wp.any ac rfl ?_ | (with_reducible first | refine Go.mk ?_ | apply aj.of | refine Ov.ok zO ?_) | refine zV ?_ | (with_reducible first | refine And.intro zC ?_ | refine ag.pure (b7 lv (by omega) _) rfl rfl ?_ | refine ag.funM (b8 _ _ _ _ (by exact SV.Lt.of rfl)) rfl rfl ?_)); conv => whnf) | ((refine ap (fun hc => ?_) (fun hc => ?_)) <;> (try simp only [wz9, e1] at hc) <;> (try (exfalso; omega)) <;> (conv => whnf))))
 ·rw [show Core.move lv i = .sV lv by unfold Core.move; rw [if_pos (by omega)]]
  (refine af.sealM ?_); (conv => whnf); (repeat' (first | exact zD9 | ((refine ai.ptrN rfl rfl ?_); (conv => whnf)) | ((refine ai.fn ?_); (conv => whnf)) | ((refine And.intro ?_ ?_) <;> (conv => whnf))))
 ·rw [show Core.move lv i = .sF lv i by unfold Core.move; rw [if_neg (by omega)]]
  rw [show Dir.plc lv (i : Int) = 2 ^ lv + i by rw [cj (by omega) (by omega)]; rfl]
  (refine af.sealM ?_); (conv => whnf); (repeat' (first | exact zD9 | ((refine ai.ptrN rfl rfl ?_); (conv => whnf)) | ((refine ai.fn ?_); (conv => whnf)) | ((refine ai.iref ?_); (conv => whnf)) | ((refine And.intro ?_ ?_) <;> (conv => whnf))))
end Go.Proofs.YtpdhdnhkhidmpaaGreat

namespace Go.Proofs.YtpdhdnhkhidmpaaGreat
open Go.RowKit
set_option maxRecDepth 100000
variable {ps : List Pol} {room who : Int} {g : Nat → SV} {M : Core.Mc} {o : Nat → XB} {nl : Nat} {f : Nat → List D} {cnt : Int} {x : Core.X} {nl0 : Nat} {cnt0 : Int}
@[reducible] def rsS (r : Core.Rs) : SV := .agg [.b r.done, .i .i64 r.r.e, .b r.r.g, .i .i64 r.r.left, .i .i64 r.r.wait, .i .i64 r.r.serial, .i .i64 r.r.now]
@[reducible] def fdS (f : Core.Fd) : SV := .agg [.i .i64 f.w, .i .u64 f.v, .d (ax 4 Cel.D f.h)]
theorem sn (hM : COK ps room who g M o nl0 cnt0) (hk : Core.Kx ps x) : Fun TC 103 14 [.ptr 4 0] (ah ps room g M (aU who x o) nl f cnt) 14 (cl (aa ps room) who x (.k0 .key)) (ah ps room g M (aU who x o) nl f cnt) := by
 have q0 := hM.w0; have q1 := hM.w1; have q2 := hM.nl; have q3 := hM.c0; have q4 := hM.c1; have q5 := hM.g; have qo := hM.o; have q6 := hM.d0; have q7 := hM.d1; have q8 := hM.hd
 have hp := hk.pol
 replace hp : 0 ≤ x.pol ∧ x.pol < ps.length := hp
 refine Fun.mk' Tryz.func103 rfl rfl zN (by decide) ?_
 (repeat' (first | ((first | refine Wp.any ac rfl ?_ | (with_reducible first | refine Go.mk ?_ | apply aj.of) | refine zV ?_ | with_reducible refine And.intro zC ?_); conv => whnf) | ((with_reducible refine At.mk' _ rfl ?_); (refine And.intro zN ?_); conv => whnf) | ((with_reducible refine ag.funM (dZ _ _ _ _ (by exact SV.Lt.of rfl)) rfl rfl ?_); conv => whnf)))
 ((refine af.sealB [0, 1, 2, 3, 4, 5, 6, 7, 8, 9, 10, 11, 12, 13] rfl rfl rfl ?_ ?_); (focus ((conv => whnf); (repeat' (first | exact zC9 | ((refine ai.ptr rfl rfl ?_); (conv => whnf)) | ((refine ai.fn ?_); (conv => whnf)) | ((refine ai.iref ?_); (conv => whnf)) | ((refine And.intro ?_ ?_) <;> (conv => whnf)))))); (focus ((conv => whnf); (repeat' (first | exact zC9 | exact aL (qo _) | ((refine And.intro ?_ ?_) <;> (conv => whnf)))))))
theorem rK (hM : COK ps room who g M o nl0 cnt0) (j sh : Nat) (gn : Int) (hj : j ≤ 16) : Fun TC 102 14 [.ptr 4 0, .i .i64 j, .i .i64 sh, .i .i64 gn] (ah ps room g M (aU who x o) nl f cnt) 14 (cl (aa ps room) who x (.k0 (.ev j sh gn))) (ah ps room g M (aU who x o) nl f cnt) := by
 have q0 := hM.w0; have q1 := hM.w1; have q2 := hM.nl; have q3 := hM.c0; have q4 := hM.c1; have q5 := hM.g; have qo := hM.o; have q6 := hM.d0; have q7 := hM.d1; have q8 := hM.hd
 refine Fun.mk' Tryz.func102 rfl rfl zN (by decide) ?_
 (repeat' (first | ((first | refine Wp.any ac rfl ?_ | (with_reducible first | refine Go.mk ?_ | apply aj.of | refine Ov.ok zO ?_) | refine zV ?_); conv => whnf) | ((with_reducible refine At.mk' _ rfl ?_); (refine And.intro zN ?_); conv => whnf) | ((with_reducible refine ag.funM (dZ _ _ _ _ (by exact SV.Lt.of rfl)) rfl rfl ?_); conv => whnf)))
 ((refine af.sealB [0, 1, 2, 3, 4, 5, 6, 7, 8, 9, 10, 11, 12, 13] rfl rfl rfl ?_ ?_); (focus ((conv => whnf); (repeat' (first | exact zC9 | ((refine ai.ptr rfl rfl ?_); (conv => whnf)) | ((refine ai.fn ?_); (conv => whnf)) | ((refine ai.iref ?_); (conv => whnf)) | ((refine And.intro ?_ ?_) <;> (conv => whnf)))))); (focus ((conv => whnf); (repeat' (first | exact zC9 | exact aL (qo _) | ((refine And.intro ?_ ?_) <;> (conv => whnf)))))))
theorem tv (hM : COK ps room who g M o nl0 cnt0) (fd : Core.Fd) (c : Cel) (r : Rpl) : Fun TC 141 14 [.ptr 4 0, fdS fd, .i .i64 fd.at', .b fd.there, c.S, r.S] (ah ps room g M (aU who x o) nl f cnt) 14 (cl (aa ps room) who x (Core.put x fd c r)) (ah ps room g M (aU who x o) nl f cnt) := by
 have q0 := hM.w0; have q1 := hM.w1; have q2 := hM.nl; have q3 := hM.c0; have q4 := hM.c1; have q5 := hM.g; have qo := hM.o; have q6 := hM.d0; have q7 := hM.d1; have q8 := hM.hd
 refine Fun.mk' Tryz.func141 rfl rfl zN (by decide) ?_
 (repeat' (first | ((first | refine Wp.any ac rfl ?_ | (with_reducible first | refine Go.mk ?_ | apply aj.of) | refine zV ?_); conv => whnf) | ((with_reducible refine At.mk' _ rfl ?_); (refine And.intro zN ?_); conv => whnf) | ((with_reducible refine ag.funM (move_d _ _ _ _ _ _ (by exact SV.Lt.of rfl)) rfl rfl ?_); conv => whnf) | ((refine ap (fun hc => ?_) (fun hc => ?_)) <;> (try simp only [wz9] at hc) <;> (try (exfalso; omega)) <;> (conv => whnf))))
 all_goals first
  | (rw [show Core.put x fd c r = .pS fd c r from if_pos (by first | exact .inl hc | exact .inr hc | (simp_all; done))]; ((refine af.sealB [0, 1, 2, 3, 4, 5, 6, 7, 8, 9, 10, 11, 12, 13] rfl rfl rfl ?_ ?_); (focus ((conv => whnf); (repeat' (first | exact zC9 | ((refine ai.ptr rfl rfl ?_); (conv => whnf)) | ((refine ai.fn ?_); (conv => whnf)) | ((refine And.intro ?_ ?_) <;> (conv => whnf)))))); (focus ((conv => whnf); (repeat' (first | exact zC9 | exact aL (qo _) | ((refine And.intro ?_ ?_) <;> (conv => whnf))))))); done)
  | (rw [show Core.put x fd c r = .p0 fd c r from if_neg (by simp_all)]; ((refine af.sealB [0, 1, 2, 3, 4, 5, 6, 7, 8, 9, 10, 11, 12, 13] rfl rfl rfl ?_ ?_); (focus ((conv => whnf); (repeat' (first | exact zC9 | ((refine ai.ptr rfl rfl ?_); (conv => whnf)) | ((refine ai.fn ?_); (conv => whnf)) | ((refine ai.iref ?_); (conv => whnf)) | ((refine And.intro ?_ ?_) <;> (conv => whnf)))))); (focus ((conv => whnf); (repeat' (first | exact zC9 | exact aL (qo _) | ((refine And.intro ?_ ?_) <;> (conv => whnf))))))); done)
  | trace_state
theorem kr (hM : COK ps room who g M o nl0 cnt0) (r : Rpl) : Fun TC 177 14 [.ptr 4 0, r.S] (ah ps room g M (aU who x o) nl f cnt) 14 (.tup [cl (aa ps room) who x (Core.leave x r).1, rsS (Core.leave x r).2]) (ah ps room g M (aU who x o) nl f cnt) := by
 have q0 := hM.w0; have q1 := hM.w1; have q2 := hM.nl; have q3 := hM.c0; have q4 := hM.c1; have q5 := hM.g; have qo := hM.o; have q6 := hM.d0; have q7 := hM.d1; have q8 := hM.hd
 refine Fun.mk' Tryz.func177 rfl rfl zN (by decide) ?_
 (repeat' (first | ((first | refine Wp.any ac rfl ?_ | (with_reducible first | refine Go.mk ?_ | apply aj.of) | refine zV ?_); conv => whnf) | (with_reducible refine ab.inline Tryz.func129 rfl rfl rfl (zzb rfl) ?_) | (with_reducible refine ab.inline Tryz.func101 rfl rfl rfl (zzb rfl) ?_) | (with_reducible refine ab.inline Tryz.func136 rfl rfl rfl (zzb rfl) ?_) | (with_reducible refine ab.inline Tryz.func174 rfl rfl rfl (zzb rfl) ?_) | ((with_reducible refine At.mk' _ rfl ?_); (refine And.intro zN ?_); conv => whnf) | ((with_reducible refine Ov.mk ?_); conv => whnf) | ((refine ap (fun hc => ?_) (fun hc => ?_)) <;> (try simp only [wz9] at hc) <;> (try (exfalso; omega)) <;> (conv => whnf))))
 all_goals first
  | (rw [show Core.leave x r = (.none, ⟨true, r⟩) from if_neg (by simp_all)]; ((refine af.sealB [0, 1, 2, 3, 4, 5, 6, 7, 8, 9, 10, 11, 12, 13] rfl rfl rfl ?_ ?_); (focus ((conv => whnf); (repeat' (first | exact zC9 | ((refine ai.agg ?_); (conv => whnf)) | ((refine ai.tup ?_); (conv => whnf)) | ((refine And.intro ?_ ?_) <;> (conv => whnf)))))); (focus ((conv => whnf); (repeat' (first | exact zC9 | exact aL (qo _) | ((refine And.intro ?_ ?_) <;> (conv => whnf))))))); done)
  | (rw [show Core.leave x r = (.b0 1 (.lv r), Core.r0) from if_pos (by simp_all)]; ((refine af.sealB [0, 1, 2, 3, 4, 5, 6, 7, 8, 9, 10, 11, 12, 13] rfl rfl rfl ?_ ?_); (focus ((conv => whnf); (repeat' (first | exact zC9 | ((refine ai.ptr rfl rfl ?_); (conv => whnf)) | ((refine ai.fn ?_); (conv => whnf)) | ((refine ai.tup ?_); (conv => whnf)) | ((refine And.intro ?_ ?_) <;> (conv => whnf)))))); (focus ((conv => whnf); (repeat' (first | exact zC9 | exact aL (qo _) | ((refine And.intro ?_ ?_) <;> (conv => whnf))))))); done)
  | trace_state
end Go.Proofs.YtpdhdnhkhidmpaaGreat
