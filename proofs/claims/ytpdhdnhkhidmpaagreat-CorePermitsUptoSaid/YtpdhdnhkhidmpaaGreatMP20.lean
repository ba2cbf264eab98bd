/- Parts of the proof, one behind the other: Ct6, Ct7, Ct8, Pl8a, Ct9, Sx25b. Lemmas and contracts of functions; no condition of its own. -/
import Derived.Test.YtpdhdnhkhidmpaaGreatMP19
set_option linter.unusedVariables false
set_option linter.unusedSimpArgs false
set_option maxHeartbeats 1000000
namespace Go.Proofs.YtpdhdnhkhidmpaaGreat
open Go.RowKit
set_option maxRecDepth 100000
set_option maxHeartbeats 1000000
theorem nM {a b : Cel} (ha : gw a.pol a.key) (hb : gw b.pol b.key) : mK a b < 0 ↔ Core.lts a b := by
 unfold mK Core.lts
 rw [cN ha, cN hb]; rfl
theorem tl {p : Prop} [Decidable p] {a b : List D} {o : Nat} {vs : List D} {k : List D → Prop} (hp : ¬p) (h : cG b o vs k) : cG (if p then a else b) o vs k := by rw [if_neg hp]; exact h
theorem tp {zs : List Cel} {j : Nat} (hj : j + 1 < zs.length) (i : Nat) : (if i = j then Cel.D (zs.getD (j + 1) default) else if i = j + 1 then Cel.D (zs.getD j default) else Cel.D (zs.getD i default)) = Cel.D (((zs.set (j + 1) (zs.getD j default)).set j (zs.getD (j + 1) default)).getD i default) := by
 by_cases h1 : i = j
 ·subst h1
  rw [if_pos rfl]
  simp [List.getD_eq_getElem?_getD, List.getElem?_set]
  rw [if_pos (by omega)]; rfl
 ·rw [if_neg h1]
  have h1' : ¬ j = i := fun e => h1 e.symm
  by_cases h2 : i = j + 1
  ·subst h2
   rw [if_pos rfl]
   simp [List.getD_eq_getElem?_getD, List.getElem?_set]
   rw [if_pos (by omega)]; rfl
  ·rw [if_neg h2]
   have h2' : ¬ j + 1 = i := fun e => h2 e.symm
   simp only [List.getD_eq_getElem?_getD, List.getElem?_set, if_neg h1', if_neg h2']
theorem ri (xs : List Cel) (hB : ∀ c ∈ xs, IsB c.key ∧ gw c.pol c.key) (hd : xs.Pairwise (fun a b => idn a ≠ idn b)) (hx1 : xs.length ≤ 1000000) :
  Fun TC 143 1 [.sl 0 4 0 xs.length, .i .i64 0, .i .i64 xs.length, .d (.fn (.func 76) [])] [(0, some (aG 112 4 Cel.D xs))] 1 (.tup []) [(0, some (aG 112 4 Cel.D (Core.sortC xs)))] := by
 refine Fun.mk' Tryz.func143 rfl rfl zN (by decide) ?_
 have hlen : ∀ {zs : List Cel}, zs.Perm xs → zs.length = xs.length := fun h => h.length_eq
 have hBy : ∀ {zs : List Cel}, zs.Perm xs → ∀ k, IsB (zs.getD k default).key := fun {zs} h k => by
  by_cases hk : k < zs.length
  ·rw [List.getD_eq_getElem?_getD, List.getElem?_eq_getElem hk]
   exact (hB _ (h.mem_iff.1 (List.getElem_mem hk))).1
  ·rw [List.getD_eq_getElem?_getD, List.getElem?_eq_none (by omega)]; intro y hy; exact absurd hy (by simp [default, instInhabitedCel.default])
 have hOk : ∀ {zs : List Cel}, zs.Perm xs → ∀ k, k < xs.length → gw (zs.getD k default).pol (zs.getD k default).key := fun {zs} h k hk => by
  have hk : k < zs.length := by rw [hlen h]; exact hk
  rw [List.getD_eq_getElem?_getD, List.getElem?_eq_getElem hk]
  exact (hB _ (h.mem_iff.1 (List.getElem_mem hk))).2
 (repeat' (first | ((first | refine Wp.any ac rfl ?_ | (with_reducible first | refine Go.mk ?_ | apply aj.of | refine Ov.ok zO ?_)); conv => whnf)))
 refine Wp.loopP (ι := Nat × List Cel) (fun k => 1 ≤ k.1 ∧ k.1 ≤ max xs.length 1 ∧ k.2.Perm xs ∧ (k.2.take k.1).Pairwise Core.lts) (fun k => ⟨⟨Tryz.f143.ntmps, 1⟩, 1, [(0, .sl 0 4 0 xs.length), (1, .i .i64 0), (2, .i .i64 xs.length), (3, .d (.fn (.func 76) [])), (8, .i .i64 k.1)], [(0, some (.row 112 4 xs.length fun i => Cel.D (k.2.getD i default)))]⟩) (fun k => xs.length - k.1) (1, xs)
  ⟨Nat.le_refl _, by omega, .refl _, by cases xs <;> simp⟩ ?_ ?_
 ·(refine Le.by [0] rfl rfl rfl rfl ?_ ?_ <;> (conv => whnf) <;> (repeat' (first | exact trivial | exact ae.rfl rfl | exact ae.sl rfl | exact ⟨rfl, rfl, rfl⟩ | exact fun i hi => rfl | ((with_reducible refine And.intro ?_ ?_) <;> (conv => whnf)))))
 ·rintro ⟨i, zs⟩ ⟨h1, h2, h3, h4⟩
  dsimp only at h1 h2 h3 h4 ⊢
  have hl := hlen h3
  (repeat' (first | ((first | refine Wp.any ac rfl ?_ | (with_reducible first | refine Go.mk ?_ | apply aj.of)); conv => whnf) | ((refine ap (fun hc => ?_) (fun hc => ?_)) <;> (try simp only [wz9] at hc) <;> (try (exfalso; omega)) <;> (conv => whnf))))
  ·refine Wp.loopP (ι := Nat × List Cel) (fun k => k.1 ≤ i ∧ Core.Sink xs k.2 i k.1) (fun k => ⟨⟨Tryz.f143.ntmps, 1⟩, 1, [(0, .sl 0 4 0 xs.length), (1, .i .i64 0), (2, .i .i64 xs.length), (3, .d (.fn (.func 76) [])), (8, .i .i64 i), (9, .i .i64 k.1)], [(0, some (.row 112 4 xs.length fun i => Cel.D (k.2.getD i default)))]⟩) (fun k => k.1) (i, zs)
    ⟨Nat.le_refl _, .start h3 h4 (by show i < zs.length; omega)⟩ ?_ ?_
   ·(refine Le.by [0] rfl rfl rfl rfl ?_ ?_ <;> (conv => whnf) <;> (repeat' (first | exact trivial | exact ae.rfl rfl | exact ae.sl rfl | exact ⟨rfl, rfl, rfl⟩ | exact fun i hi => rfl | ((with_reducible refine And.intro ?_ ?_) <;> (conv => whnf)))))
   ·rintro ⟨j, ys⟩ ⟨g1, g2⟩
    dsimp only at g1 g2 ⊢
    have hl2 := hlen g2.p
    (repeat' (first | ((first | refine Wp.any ac rfl ?_ | (with_reducible first | refine Go.mk ?_ | apply aj.of | refine Ov.ok zO ?_) | refine zV ?_ | (with_reducible first | refine And.intro zC ?_ | refine ag.pure (jK (ys.getD _ default) (ys.getD _ default) (hBy g2.p _) (hBy g2.p _)) rfl rfl ?_) | refine tl (by omega) ?_); conv => whnf) | ((refine ap (fun hc => ?_) (fun hc => ?_)) <;> (try simp only [wz9] at hc) <;> (try (exfalso; omega)) <;> (conv => whnf))))
    ·obtain ⟨m, rfl⟩ : ∃ m, j = m + 1 := ⟨j - 1, by omega⟩
     have e3 : ((m + 1 : Nat) : Int) - 1 = (m : Int) := by omega
     have e1 : 0 + ((m + 1 : Nat) : Int).toNat = m + 1 := by omega
     have e2 : 0 + ((m : Nat) : Int).toNat = m := by omega
     rw [e3] at hc ⊢
     rw [e1, e2] at hc ⊢
     refine ⟨(m, (ys.set (m + 1) (ys.getD m default)).set m (ys.getD (m + 1) default)), ⟨by dsimp only; omega, ?_⟩, by dsimp only; omega, ?_⟩
     ·exact g2.swap ((nM (hOk g2.p _ (by omega)) (hOk g2.p _ (by omega))).1 hc)
     ·dsimp only
      (refine Le.by [0] rfl rfl rfl rfl ?_ ?_ <;> (conv => whnf) <;> (repeat' (first | exact trivial | exact ae.rfl rfl | exact ae.sl rfl | exact ⟨rfl, rfl, rfl⟩ | ((with_reducible refine And.intro ?_ ?_) <;> (conv => whnf)))))
      all_goals exact fun i hi => tp (by omega) i
    ·have e1 : 0 + ((j : Nat) : Int).toNat = j := by omega
     have e2 : 0 + ((j : Int) - 1).toNat = j - 1 := by omega
     rw [e1, e2] at hc
     obtain ⟨k1, k2⟩ := g2.stop hd fun _ h => hc ((nM (hOk g2.p _ (by omega)) (hOk g2.p _ (by omega))).2 h)
     refine ⟨(i + 1, ys), ⟨by dsimp only; omega, by dsimp only; omega, k1, k2⟩, by dsimp only; omega, ?_⟩
     dsimp only
     (refine Le.by [0] rfl rfl rfl rfl ?_ ?_ <;> (conv => whnf) <;> (repeat' (first | exact trivial | exact ae.rfl rfl | exact ae.sl rfl | exact ⟨rfl, rfl, rfl⟩ | exact fun i hi => rfl | ((with_reducible refine And.intro ?_ ?_) <;> (conv => whnf)))))
    ·obtain ⟨k1, k2⟩ := g2.stop hd fun h => by omega
     refine ⟨(i + 1, ys), ⟨by dsimp only; omega, by dsimp only; omega, k1, k2⟩, by dsimp only; omega, ?_⟩
     dsimp only
     (refine Le.by [0] rfl rfl rfl rfl ?_ ?_ <;> (conv => whnf) <;> (repeat' (first | exact trivial | exact ae.rfl rfl | exact ae.sl rfl | exact ⟨rfl, rfl, rfl⟩ | exact fun i hi => rfl | ((with_reducible refine And.intro ?_ ?_) <;> (conv => whnf)))))
  ·have hz : zs.take i = zs := List.take_of_length_le (by omega)
   rw [hz] at h4
   obtain rfl := Core.sort_done hd h3 h4
   have hl9 : xs.length = (Core.sortC xs).length := hl.symm
   rw [show aG 112 4 Cel.D (Core.sortC xs) = .row 112 4 (Core.sortC xs).length (fun i => Cel.D ((Core.sortC xs).getD i default)) from rfl, ← hl9]
   (refine af.sealB [0] rfl rfl rfl ?_ ?_); (focus ((conv => whnf); (repeat' (first | exact zE)))); (focus ((conv => whnf); (repeat' (first | exact zE | ((refine And.intro ?_ ?_) <;> (conv => whnf))))))
set_option maxRecDepth 100000
set_option maxHeartbeats 1000000
theorem pdq_C (xs : List Cel) (lim : Int) (hB : ∀ c ∈ xs, IsB c.key ∧ gw c.pol c.key) (hd : xs.Pairwise (fun a b => idn a ≠ idn b)) (hx1 : xs.length ≤ 12) :
  Fun TC 105 1 [.sl 0 4 0 xs.length, .i .i64 0, .i .i64 xs.length, .i .i64 lim, .d (.fn (.func 76) [])] [(0, some (aG 112 4 Cel.D xs))] 1 (.tup []) [(0, some (aG 112 4 Cel.D (Core.sortC xs)))] := by
 have hI := ri xs hB hd (by omega)
 refine Fun.mk' Tryz.func105 rfl rfl zN (by decide) ?_
 (repeat' (first | ((first | refine Wp.any ac rfl ?_ | (with_reducible first | refine Go.mk ?_ | apply aj.of | refine Ov.ok zO ?_)); conv => whnf) | ((refine ab.fn (hI) [0] rfl rfl rfl rfl rfl ?ha ?hh ?_); (case ha => exact zA); (case hh => exact zH); (conv => whnf)) | ((with_reducible refine Wp.loopN 2 ?_); conv => whnf) | ((refine ap (fun hc => ?_) (fun hc => ?_)) <;> (try simp only [wz9] at hc) <;> (try (exfalso; omega)) <;> (conv => whnf))))
 all_goals (refine af.sealB [0] rfl rfl rfl ?_ ?_); (focus ((conv => whnf); (repeat' (first | exact zE)))); (focus ((conv => whnf); (repeat' (first | exact zE | ((refine And.intro ?_ ?_) <;> (conv => whnf))))))
theorem sk (n : Nat) (h : n ≤ 12) : ∃ r : Int, Pure TC 152 [.i .u64 n] (.i .i64 r) := by
 apply Exists.intro
 case h =>
  refine Pure.mk' Tryz.func152 rfl rfl zN ?_
  (repeat' (first | ((first | refine Wp.any ac rfl ?_ | (with_reducible first | refine Go.mk ?_ | apply aj.of | refine Ov.ok zO ?_)); conv => whnf) | ((with_reducible refine And.intro ⟨?_, ?_⟩ ?_); (exact Int.ofNat_le.2 (Nat.zero_le _)); (exact Int.ofNat_lt.2 (Nat.lt_of_lt_of_le (show n < 256 by omega) zN)); (conv => whnf)) | ((with_reducible refine Ov.mk ?_); conv => whnf) | ((refine ap (fun hc => ?_) (fun hc => ?_)) <;> (try simp only [wz9] at hc) <;> (try (exfalso; omega)) <;> (conv => whnf))))
  exact SV.Le.i rfl
theorem sort_C (xs : List Cel) (hB : ∀ c ∈ xs, IsB c.key ∧ gw c.pol c.key) (hd : xs.Pairwise (fun a b => idn a ≠ idn b)) (hx1 : xs.length ≤ 12) :
  Fun TC 75 1 [.sl 0 4 0 xs.length, .d (.fn (.func 76) [])] [(0, some (aG 112 4 Cel.D xs))] 1 (.tup []) [(0, some (aG 112 4 Cel.D (Core.sortC xs)))] := by
 obtain ⟨r, hb⟩ := sk xs.length hx1
 have hI := pdq_C xs r hB hd (by omega)
 refine Fun.mk' Tryz.func75 rfl rfl zN (by decide) ?_
 (repeat' (first | ((first | refine Wp.any ac rfl ?_ | (with_reducible first | refine Go.mk ?_ | apply aj.of | refine Ov.ok zO ?_)); conv => whnf) | ((refine ab.fn (hI) [0] rfl rfl rfl rfl rfl ?ha ?hh ?_); (case ha => exact zA); (case hh => exact zH); (conv => whnf)) | ((with_reducible refine ab.pure (hb) rfl rfl ?_); conv => whnf) | (with_reducible refine ab.inline Tryz.func106 rfl rfl rfl (zzb rfl) ?_)))
 all_goals (refine af.sealB [0] rfl rfl rfl ?_ ?_); (focus ((conv => whnf); (repeat' (first | exact zE)))); (focus ((conv => whnf); (repeat' (first | exact zE | ((refine And.intro ?_ ?_) <;> (conv => whnf))))))
end Go.Proofs.YtpdhdnhkhidmpaaGreat

namespace Go.Proofs.YtpdhdnhkhidmpaaGreat
open Go.RowKit
set_option maxRecDepth 100000
set_option maxHeartbeats 4000000
def dk (ps : List Pol) (room : Int) (M : Core.Mc) : List Cel := Core.sortC (Core.allE (aa ps room) M)
theorem take_at {α : Type} [Inhabited α] {xs : List α} {k : Nat} (h : k < xs.length) : xs.take (k + 1) = xs.take k ++ [xs.getD (k : Int).toNat default] := by
 rw [List.take_succ_eq_append_getElem h, Int.toNat_natCast, List.getD_eq_getElem?_getD, List.getElem?_eq_getElem h]; rfl
theorem uf (A l : List Cel) : ∀ k, k < A.length + l.length → b6 A.length (fun i => Cel.D (A.getD i default)) (fun i => Cel.D (l.getD i default)) k = Cel.D ((A ++ l).getD k default) := fun k _ => by
 simp only [b6]
 by_cases e : k < A.length
 ·rw [if_pos e, List.getD_eq_getElem?_getD, List.getD_eq_getElem?_getD, List.getElem?_append_left e]
 ·rw [if_neg e, List.getD_eq_getElem?_getD, List.getD_eq_getElem?_getD, List.getElem?_append_right (by omega)]
variable {ps : List Pol} {room : Int} {S : Nat → Core.Wk} {M : Core.Mc} {xs : Nat → XB} {nl nl0 : Nat} {f : Nat → List D} {cnt cnt0 who : Int}
theorem pu (hM : COK ps room who (gOf (aa ps room) 4 S) M xs nl0 cnt0) (h12 : (Core.allE (aa ps room) M).length ≤ 12) (hdis : (Core.allE (aa ps room) M).Pairwise (fun a b => idn a ≠ idn b))
  (hok : ∀ c ∈ Core.allE (aa ps room) M, eE ps c ∧ gw c.pol c.key) :
  Fun TC 39 14 [.ptr 0 0] (ah ps room (gOf (aa ps room) 4 S) M xs nl f cnt) 14 (.d (ax 4 Cel.D (dk ps room M))) (ah ps room (gOf (aa ps room) 4 S) M xs nl f cnt) := by
 have q5 := hM.g; have qo := hM.o
 have hA : Fun TC 74 4 [jo] (iV M nl f M.clk cnt) 4 (.d (ax 1 mP (Core.allL (aa ps room) M))) (iV M nl f M.clk cnt) := by
  by_cases he : M.W 0 % 2 = 0
  ·exact rf ps room M nl f M.clk cnt hM.d0 hM.d1 he
  ·exact rc ps room M nl f M.clk cnt hM.d0 hM.d1 (fun w => Nat.le_trans (hM.hd w).len (by decide)) (by omega)
 have hLl : (Core.allL (aa ps room) M).length ≤ 32 := by
  have h1 := eM ps room M (2 ^ Core.lvl M)
  have h2 : 2 ^ Core.lvl M ≤ 2 ^ 4 := Nat.pow_le_pow_right (by omega) (by have := hM.d0; have := hM.d1; unfold Core.lvl; omega)
  show ((List.range (2 ^ Core.lvl M)).flatMap (Core.partL (aa ps room) M)).length ≤ 32
  omega
 have hE := Core.allE_eq (aa ps room) M
 unfold dk
 rw [← hE] at h12 hdis hok ⊢
 clear hE
 generalize Core.allL (aa ps room) M = L at hA hLl h12 hdis hok ⊢
 have hmem : ∀ l ∈ L, l.length ≤ 12 ∧ ∀ c ∈ l, eE ps c := fun l hl => by
  refine ⟨?_, fun c hc => (hok c (List.mem_flatten.2 ⟨l, hl, hc⟩)).1⟩
  have := (List.sublist_flatten_of_mem hl).length_le
  omega
 have hSort := sort_C L.flatten (fun c hc => ⟨(hok c hc).1.byt, (hok c hc).2⟩) hdis h12
 have hpl := (Core.sortC_perm L.flatten).length_eq
 refine Fun.mk' Tryz.func39 rfl rfl zN (by decide) ?_
 (repeat' (first | ((first | refine Wp.any ac rfl ?_ | (with_reducible first | refine Go.mk ?_ | apply aj.of)); conv => whnf) | ((with_reducible refine At.mk' _ rfl ?_); (refine And.intro zN ?_); conv => whnf) | ((refine ab.fn (hA) [1,2,3,13] rfl rfl rfl rfl rfl ?ha ?hh ?_); (case ha => exact zA); (case hh => exact zH); (conv => whnf))))
 refine Wp.le (Le.virt 3 112 4 (fun i => Cel.D (([] : List Cel).getD i default)) (by decide) rfl) ?_
 refine Wp.loopP (ι := Nat) (fun j => j ≤ L.length) (fun j => ⟨⟨Tryz.f39.ntmps, 14⟩, 15, [(3, .sl 14 4 0 (L.take j).flatten.length), (12, .d (ax 1 mP L)), (13, .i .i64 L.length), (14, .i .i64 j)],
  ah ps room (gOf (aa ps room) 4 S) M xs nl f cnt ++ [(14, some (aG 112 4 Cel.D (L.take j).flatten))]⟩) (fun j => L.length - j) 0 (Nat.zero_le _) ?_ ?_
 ·(refine Le.by [0,1,2,3,4,5,6,7,8,9,10,11,12,13,14] rfl rfl rfl rfl ?_ ?_ <;> (conv => whnf) <;> (repeat' (first | exact trivial | exact ae.rfl rfl | exact ae.sl rfl | exact ⟨rfl, rfl, rfl⟩ | exact ⟨rfl, zzb rfl⟩ | exact ea (by assumption) | exact eG (qo _) | exact fun i hi => rfl | ((with_reducible refine And.intro ?_ ?_) <;> (conv => whnf)))))
 ·rintro j h1
  have hpj : (L.take j).flatten.length ≤ 12 := by
   have h9 : (L.take j).flatten.length + (L.drop j).flatten.length = L.flatten.length := by
    rw [← List.length_append, ← List.flatten_append, List.take_append_drop]
   omega
  by_cases hj : j < L.length
  ·have hta := take_at hj
   have hlm : L.getD (j : Int).toNat default ∈ L := by rw [Int.toNat_natCast, List.getD_eq_getElem?_getD, List.getElem?_eq_getElem hj]; exact List.getElem_mem hj
   obtain ⟨m1, m2⟩ := hmem _ hlm
   have hCp := si (L.getD (j : Int).toNat default) (by omega) (fun k => by
    by_cases hk : k < (L.getD (j : Int).toNat default).length
    ·have := m2 ((L.getD (j : Int).toNat default).getD k default) (by
      rw [List.getD_eq_getElem?_getD (l := L.getD _ _), List.getElem?_eq_getElem hk]; exact List.getElem_mem hk)
     exact ⟨Nat.le_trans this.key (by decide), Nat.le_trans this.held (by decide)⟩
    ·rw [List.getD_eq_getElem?_getD (l := L.getD _ _), List.getElem?_eq_none (by omega)]; exact ⟨by decide, by decide⟩)
   (repeat' (first | ((first | refine Wp.any ac rfl ?_ | (with_reducible first | refine Go.mk ?_ | apply aj.of | refine Ov.ok zO ?_ | refine And.intro zC ?_)); conv => whnf) | ((with_reducible refine And.intro ?hb ?_); (case hb => exact zz9); (conv => whnf)) | ((with_reducible refine ab.pure (hCp) rfl rfl ?_); conv => whnf) | ((refine ap (fun hc => ?_) (fun hc => ?_)) <;> (try simp only [wz9] at hc) <;> (try (exfalso; omega)) <;> (conv => whnf))))
   generalize L.getD (j : Int).toNat default = l at hta hlm m1 m2 ⊢
   refine ⟨j + 1, by dsimp only; omega, by dsimp only; omega, ?_⟩
   dsimp only
   rw [hta, List.flatten_append, show [l].flatten = l by simp]
   generalize (L.take j).flatten = A at hpj ⊢
   (refine Le.by [0,1,2,3,4,5,6,7,8,9,10,11,12,13,15] rfl rfl rfl rfl ?_ ?_ <;> (conv => whnf) <;> (repeat' (first | exact trivial | exact ae.rfl rfl | exact ae.sl rfl | exact ⟨rfl, rfl, rfl⟩ | exact ⟨rfl, zzb rfl⟩ | exact ea (by assumption) | exact eG (qo _) | exact fun i hi => rfl | ((with_reducible refine And.intro ?_ ?_) <;> (conv => whnf)))))
   all_goals first
    | (rw [List.length_append]; exact ae.sl rfl)
    | (refine ⟨rfl, rfl, ?_⟩; simp; done)
    | exact uf _ _
    | exact List.length_append.symm
    | exact List.length_append
    | rfl
  ·obtain rfl : j = L.length := by omega
   rw [List.take_length]
   (repeat' (first | ((first | refine Wp.any ac rfl ?_ | (with_reducible first | refine Go.mk ?_ | apply aj.of)); conv => whnf) | ((refine ab.fn (hSort) [14] rfl rfl rfl rfl rfl ?ha ?hh ?_); (case ha => exact zA); (case hh => exact zH); (conv => whnf)) | ((refine ap (fun hc => ?_) (fun hc => ?_)) <;> (try simp only [wz9] at hc) <;> (try (exfalso; omega)) <;> (conv => whnf))))
   refine af.sealB [0, 1, 2, 3, 4, 5, 6, 7, 8, 9, 10, 11, 12, 13] rfl rfl rfl ?_ ?_
   ·exact ai.le (ai.sl rfl rfl (by omega)) (SV.Le.sl' hpl.symm fun i hi => by simp only [Nat.zero_add])
   ·(conv => whnf); (repeat' (first | exact zC9 | exact aL (qo _) | ((refine And.intro ?_ ?_) <;> (conv => whnf))))
end Go.Proofs.YtpdhdnhkhidmpaaGreat

namespace Go.Proofs.YtpdhdnhkhidmpaaGreat
open Go.RowKit
theorem ct : ∀ {ys : List Int} {l : Int}, dm l ys = true ↔ (∀ x ∈ ys, qj x = true ∧ l < x) ∧ ys.Pairwise (· < ·)
 | [], l => by simp [dm]
 | x :: r, l => by
  have ih := ct (ys := r) (l := x)
  simp only [dm, Bool.and_eq_true, decide_eq_true_eq, ih, List.mem_cons, List.pairwise_cons]
  constructor
  ·rintro ⟨⟨h1, h2⟩, h3, h4⟩
   refine ⟨fun y hy => ?_, fun y hy => (h3 y hy).2, h4⟩
   rcases hy with rfl | hy
   ·exact ⟨h1, h2⟩
   ·exact ⟨(h3 y hy).1, by have := (h3 y hy).2; omega⟩
  ·rintro ⟨h1, h2, h3⟩
   exact ⟨h1 x (Or.inl rfl), fun y hy => ⟨(h1 y (Or.inr hy)).1, h2 y hy⟩, h3⟩
theorem rq {ys : List Int} {k : Nat} (h : k < ys.length) : ys.getD k default ∈ ys := by
 rw [List.getD_eq_getElem?_getD, List.getElem?_eq_getElem h]; exact List.getElem_mem h
theorem bL {ys : List Int} {k : Nat} (h : k < ys.length) : ys.getD k default = ys[k] := by
 rw [List.getD_eq_getElem?_getD, List.getElem?_eq_getElem h]; rfl
section
variable {ys : List Int} {t : Int}
theorem lF (h : ys.Pairwise (· < ·)) : (∀ k, k < dp ys t → ys.getD k default < t) ∧ ∀ k, dp ys t ≤ k → k < ys.length → ¬ ys.getD k default < t := by
 have := sa (lt := fun k => decide (ys.getD k default < t)) (n := ys.length) (fun i j hij hj hlt => by
  simp only [decide_eq_true_eq] at hlt ⊢
  by_cases e : i = j
  ·subst e; exact hlt
  ·have := List.pairwise_iff_getElem.1 h i j (by omega) hj (by omega)
   rw [bL hj] at hlt
   rw [bL (show i < ys.length by omega)]
   omega)
 refine ⟨fun k hk => ?_, fun k hk hkn => ?_⟩
 ·have := this.1 k hk
  simpa using this
 ·have := this.2 k hk hkn
  simp only [decide_eq_false_iff_not] at this
  exact this
theorem kD (h : ys.Pairwise (· < ·)) : lS ys t = true ↔ t ∈ ys := by
 obtain ⟨h1, h2⟩ := lF (t := t) h
 unfold lS
 simp only [Bool.and_eq_true, decide_eq_true_eq]
 constructor
 ·rintro ⟨a, b⟩
  rw [← b]; exact rq a
 ·intro hm
  obtain ⟨k, hk, rfl⟩ := List.getElem_of_mem hm
  have g1 : ¬ k < dp ys ys[k] := fun hlt => by have := h1 k hlt; rw [bL hk] at this; omega
  have g2 : ¬ dp ys ys[k] < k := fun hlt => by
   have := h2 _ (Nat.le_refl _) (by omega)
   rw [bL (show dp ys ys[k] < ys.length by omega)] at this
   have := List.pairwise_iff_getElem.1 h _ k (show dp ys ys[k] < ys.length by omega) hk hlt
   omega
  have e : dp ys ys[k] = k := by omega
  rw [e, bL hk]
  exact ⟨hk, rfl⟩
theorem tP (h : dm 0 ys = true) (ht : qj t = true) (hn : t ∉ ys) : dm 0 (bB ys (dp ys t) t) = true ∧ ∀ x, x ∈ bB ys (dp ys t) t ↔ x = t ∨ x ∈ ys := by
 obtain ⟨a, b⟩ := ct.1 h
 obtain ⟨h1, h2⟩ := lF (t := t) b
 have hm : ∀ x, x ∈ bB ys (dp ys t) t ↔ x = t ∨ x ∈ ys := fun x => by
  unfold bB
  rw [List.mem_append, List.mem_append, List.mem_singleton]
  constructor
  ·rintro ((h | h) | h)
   ·exact Or.inr (List.mem_of_mem_take h)
   ·exact Or.inl h
   ·exact Or.inr (List.mem_of_mem_drop h)
  ·rintro (h | h)
   ·exact Or.inl (Or.inr h)
   ·rw [← List.take_append_drop (dp ys t) ys] at h
    rcases List.mem_append.1 h with h | h
    ·exact Or.inl (Or.inl h)
    ·exact Or.inr h
 refine ⟨ct.2 ⟨fun x hx => ?_, ?_⟩, hm⟩
 ·rcases (hm x).1 hx with rfl | hx
  ·refine ⟨ht, ?_⟩
   simp [qj] at ht; omega
  ·exact a x hx
 ·unfold bB
  rw [List.append_assoc, List.pairwise_append]
  refine ⟨b.sublist (List.take_sublist _ _), ?_, fun x hx y hy => ?_⟩
  ·rw [List.singleton_append, List.pairwise_cons]
   refine ⟨fun y hy => ?_, b.sublist (List.drop_sublist _ _)⟩
   obtain ⟨k, hk, rfl⟩ := List.getElem_of_mem hy
   rw [List.length_drop] at hk
   rw [List.getElem_drop]
   have h3 := h2 (dp ys t + k) (by omega) (by omega)
   rw [bL (show dp ys t + k < ys.length by omega)] at h3
   have h4 : ys[dp ys t + k] ≠ t := fun e => hn (by rw [← e]; exact List.getElem_mem _)
   omega
  ·obtain ⟨k, hk, rfl⟩ := List.getElem_of_mem hx
   rw [List.length_take] at hk
   rw [List.getElem_take]
   have h3 := h1 k (by omega)
   rw [bL (show k < ys.length by omega)] at h3
   rw [List.singleton_append] at hy
   rcases List.mem_cons.1 hy with rfl | hy
   ·exact h3
   ·obtain ⟨j, hj, rfl⟩ := List.getElem_of_mem hy
    rw [List.length_drop] at hj
    rw [List.getElem_drop]
    exact List.pairwise_iff_getElem.1 b k _ (by omega) (by omega) (by omega)
theorem oz (h : dm 0 ys = true) (hn : t ∈ ys) : dm 0 (cJ ys (dp ys t)) = true ∧ (∀ x, x ∈ cJ ys (dp ys t) ↔ x ≠ t ∧ x ∈ ys) ∧ (cJ ys (dp ys t)).length + 1 = ys.length := by
 obtain ⟨a, b⟩ := ct.1 h
 have hh := (kD b).2 hn
 have hl := kC hh
 have he : ys.getD (dp ys t) default = t := by
  unfold lS at hh
  simp only [Bool.and_eq_true, decide_eq_true_eq] at hh; exact hh.2
 rw [bL hl] at he
 have hsub : (cJ ys (dp ys t)).Sublist ys := by
  unfold cJ
  have h2 : (ys.take (dp ys t) ++ ys.drop (dp ys t)).Sublist ys := by rw [List.take_append_drop]; exact List.Sublist.refl _
  refine List.Sublist.trans (List.Sublist.append (List.Sublist.refl _) ?_) h2
  rw [List.drop_eq_getElem_cons hl]
  exact List.sublist_cons_self _ _
 refine ⟨ct.2 ⟨fun x hx => a x (hsub.subset hx), b.sublist hsub⟩, fun x => ?_, by rw [dI _ _ hl]; omega⟩
 constructor
 ·intro hx
  refine ⟨fun e => ?_, hsub.subset hx⟩
  subst e
  unfold cJ at hx
  rcases List.mem_append.1 hx with hx | hx
  ·obtain ⟨k, hk, e⟩ := List.getElem_of_mem hx
   rw [List.length_take] at hk
   rw [List.getElem_take] at e
   have := List.pairwise_iff_getElem.1 b k _ (by omega) hl (by omega)
   omega
  ·obtain ⟨k, hk, e⟩ := List.getElem_of_mem hx
   rw [List.length_drop] at hk
   rw [List.getElem_drop] at e
   have := List.pairwise_iff_getElem.1 b _ (dp ys x + 1 + k) hl (by omega) (by omega)
   omega
 ·rintro ⟨h1, h2⟩
  unfold cJ
  rw [← List.take_append_drop (dp ys t) ys] at h2
  rcases List.mem_append.1 h2 with h2 | h2
  ·exact List.mem_append_left _ h2
  ·rw [List.drop_eq_getElem_cons hl, he] at h2
   rcases List.mem_cons.1 h2 with h2 | h2
   ·exact absurd h2 h1
   ·exact List.mem_append_right _ h2
end
end Go.Proofs.YtpdhdnhkhidmpaaGreat

namespace Go.Proofs.YtpdhdnhkhidmpaaGreat
open Go.RowKit
set_option maxRecDepth 100000
theorem pv (ps : List Pol) (room : Int) : Core.OpsRe (aa ps room) where
 allow p c t n := rfl
 acq p c n := by
  show (gp p c n).e ≠ 10
  unfold gp
  split
  ·show (0 : Int) ≠ 10; decide
  ·show cq p.permits c.held n ≠ 10
   unfold cq fy
   (repeat' split) <;> omega
 acqs p c n h := by
  replace h : (gp p c n).e = 0 := h
  show (gp p c n).serial = n
  unfold gp at h ⊢
  split
  ·rfl
  ·rename_i h0; rw [if_neg h0] at h; exact absurd h h0
 rel p c n := by
  show (lD p c n).e ≠ 10
  unfold lD
  split
  ·show (0 : Int) ≠ 10; decide
  ·show cP p.permits c.held n ≠ 10
   unfold cP fy
   (repeat' split) <;> omega
 peek p c t := by show (iT p c t).e = 0; unfold iT; split <;> rfl
def Vt (c : Cel) : Prop := (c.pol = 0 ∧ c.held = []) ∨ (c.pol = 1 ∧ fy 2 c.held = 0)
def Qt (op pol : Int) (_ : List Int) : Prop := (op ≤ 4 → pol = 0 ∨ pol = 1) ∧ (op = 2 ∨ op = 3 → pol = 1)
theorem eI {p : Int} {xs : List Int} : fy p xs = 0 ↔ 1 ≤ p ∧ p ≤ 64 ∧ (xs.length : Int) ≤ p ∧ dm 0 xs = true := by
 unfold fy; split
 ·rename_i h; exact ⟨fun _ => h, fun _ => rfl⟩
 ·rename_i h; exact ⟨fun e => by omega, fun e => absurd e h⟩
theorem tQ {α : Type} (xs : List α) (i : Nat) (x : α) (h : i ≤ xs.length) : (bB xs i x).Perm (x :: xs) := by
 unfold bB
 have := List.perm_middle (l₁ := xs.take i) (a := x) (l₂ := xs.drop i)
 rw [List.take_append_drop] at this
 simpa using this
theorem t9 {xs : List Int} {n : Int} (h : dm 0 xs = true) (hn : n ∈ xs) : xs.Perm (n :: cJ xs (dp xs n)) := by
 have h1 := oz h hn
 have nd : ∀ {ys : List Int}, dm 0 ys = true → ys.Nodup := fun h => by
  rw [List.nodup_iff_pairwise_ne]
  exact (ct.1 h).2.imp fun {a b} hab => by omega
 refine (List.perm_ext_iff_of_nodup (nd h) (List.nodup_cons.2 ⟨fun e => ((h1.2.1 n).1 e).1 rfl, nd h1.1⟩)).2 fun y => ?_
 rw [List.mem_cons, h1.2.1]
 by_cases e : y = n
 ·subst e; simp [hn]
 ·simp [e]
theorem pW (room : Int) : Core.OpsPm (aa am room) Vt Qt where
 new op pol key ho h := by
  rcases h.1 (by omega) with e | e
  ·exact .inl ⟨e, rfl⟩
  ·exact .inr ⟨e, by show fy 2 [] = 0; decide⟩
 allow p c t n h := ⟨h, rfl⟩
 acq key c n hq h hn h1 h2 hl := by
  have hp : c.pol = 1 := hq.2 (.inl rfl)
  have hs : fy 2 c.held = 0 := by
   rcases h with ⟨e, _⟩ | ⟨_, e⟩
   ·omega
   ·exact e
  have e2 : (aa am room).pol c.pol = ⟨2, 0, 0, 2⟩ := by rw [hp]; rfl
  rw [e2] at hl ⊢
  have hr := (eI.1 hs).2.2.2
  have hh : lS c.held n = false := by
   cases e : lS c.held n with
   | false => rfl
   | true => exact absurd ((kD (ct.1 hr).2).1 e) hn
  have hM : Core.MAX = 4611686018427387903 := rfl
  have hb : qj n = true := by simp [qj]; omega
  have ht : cq 2 c.held n = 0 := pV.2 ⟨hb, hs, hh, hl⟩
  have hbd := jU ht
  have hC : mo ⟨2, 0, 0, 2⟩ c n = ⟨c.pol, c.key, c.tat, bB c.held (dp c.held n) n⟩ := by
   unfold mo; rw [if_pos ht, eH, if_pos ht]
  have hR : gp ⟨2, 0, 0, 2⟩ c n = ⟨0, true, 2 - (eH 2 c.held n).length, 0, n, 0⟩ := by unfold gp; rw [if_pos ht]
  show (gp ⟨2, 0, 0, 2⟩ c n).e = 0 ∧ (gp ⟨2, 0, 0, 2⟩ c n).g = true ∧ Vt (mo ⟨2, 0, 0, 2⟩ c n) ∧ (mo ⟨2, 0, 0, 2⟩ c n).held.Perm (n :: c.held)
  rw [hR, hC]
  refine ⟨rfl, rfl, .inr ⟨hp, ?_⟩, tQ _ _ _ (j8 _ _)⟩
  refine eI.2 ⟨by omega, by omega, ?_, (tP hr hb hn).1⟩
  have := hbd.2.2
  rwa [eH, if_pos ht] at this
 rel key c n hq h he := by
  have hp : c.pol = 1 := hq.2 (.inr rfl)
  have hs : fy 2 c.held = 0 := by
   rcases h with ⟨e, _⟩ | ⟨_, e⟩
   ·omega
   ·exact e
  have e2 : (aa am room).pol c.pol = ⟨2, 0, 0, 2⟩ := by rw [hp]; rfl
  rw [e2] at he ⊢
  replace he : (lD ⟨2, 0, 0, 2⟩ c n).e = 0 := he
  have hr := (eI.1 hs).2.2.2
  have ht : cP 2 c.held n = 0 := by
   unfold lD at he
   split at he
   ·assumption
   ·exact he
  have hn : n ∈ c.held := (kD (ct.1 hr).2).1 (mW.1 ht).2
  have hbd := kI ht
  have hC : mD ⟨2, 0, 0, 2⟩ c n = ⟨c.pol, c.key, c.tat, cJ c.held (dp c.held n)⟩ := by
   unfold mD; rw [if_pos ht, iz, if_pos ht]
  show Vt (mD ⟨2, 0, 0, 2⟩ c n) ∧ c.held.Perm (n :: (mD ⟨2, 0, 0, 2⟩ c n).held)
  rw [hC]
  refine ⟨.inr ⟨hp, eI.2 ⟨by omega, by omega, ?_, (oz hr hn).1⟩⟩, t9 hr hn⟩
  have := hbd.2.2
  rw [iz, if_pos ht] at this
  show ((cJ c.held (dp c.held n)).length : Int) ≤ 2
  omega
 idle c t h hi := by
  rcases h with ⟨_, e⟩ | ⟨e, _⟩
  ·exact e
  ·replace hi : bJ am c t = true := hi
   have hk : (am.getD c.pol.toNat default).kind = 2 := by rw [e]; rfl
   unfold bJ at hi
   rw [if_pos hk] at hi
   have : c.held.length = 0 := by simpa using hi
   exact List.eq_nil_of_length_eq_zero this
mutual
def fb (n e : Nat) : SV → Prop
 | .fn f vs => ∀ l, n ≤ l → l ≠ e → bv l (.fn f vs) = false
 | .agg vs => iC n e vs
 | .tup vs => iC n e vs
 | .iref vs _ => iC n e vs
 | _ => True
def iC (n e : Nat) : List SV → Prop
 | [] => True
 | x :: r => fb n e x ∧ iC n e r
end
mutual
theorem nU {n e l : Nat} (hl : n ≤ l) (he : l ≠ e) : ∀ {x : SV}, fb n e x → ki l x = false → bv l x = false
 | .any, _, h => by unfold bv; rfl
 | .d _, _, h => by unfold bv; rfl
 | .ptr _ _, _, h => by unfold ki at h; unfold bv; exact h
 | .rp _ _ _ _, _, h => by unfold ki at h; unfold bv; exact h
 | .sl _ _ _ _, _, h => by unfold ki at h; unfold bv; exact h
 | .agg vs, hf, h => by unfold ki at h; unfold fb at hf; unfold bv; exact dz hl he hf h
 | .tup vs, hf, h => by unfold ki at h; unfold fb at hf; unfold bv; exact dz hl he hf h
 | .fn _ vs, hf, h => by unfold fb at hf; exact hf l hl he
 | .iref vs _, hf, h => by unfold ki at h; unfold fb at hf; unfold bv; exact dz hl he hf h
theorem dz {n e l : Nat} (hl : n ≤ l) (he : l ≠ e) : ∀ {xs : List SV}, iC n e xs → kh l xs = false → bI l xs = false
 | [], _, _ => by unfold bI; rfl
 | x :: r, hf, h => by
  unfold iC at hf; unfold kh at h
  rw [Bool.or_eq_false_iff] at h
  have h1 : bv l x = false := nU hl he hf.1 h.1
  have h2 : bI l r = false := dz hl he hf.2 h.2
  unfold bI; rw [h1, h2]; rfl
end
mutual
theorem nV {π : Nat → Nat} {b l : Nat} (hπ : ∀ i, i < b → π i ≠ l) : ∀ {x : SV}, SV.Lt b x → bv l (SV.ren π x) = false
 | .any, _ => by unfold SV.ren bv; rfl
 | .d _, _ => by unfold SV.ren bv; rfl
 | .ptr _ _, h => by cases h with | ptr _ _ h => unfold SV.ren bv; cases e : Nat.beq _ l with | false => rfl | true => exact absurd (Nat.eq_of_beq_eq_true e) (hπ _ h)
 | .rp _ _ _ _, h => by cases h with | rp _ _ _ _ h => unfold SV.ren bv; cases e : Nat.beq _ l with | false => rfl | true => exact absurd (Nat.eq_of_beq_eq_true e) (hπ _ h)
 | .sl _ _ _ _, h => by cases h with | sl _ _ _ _ h => unfold SV.ren bv; cases e : Nat.beq _ l with | false => rfl | true => exact absurd (Nat.eq_of_beq_eq_true e) (hπ _ h)
 | .agg vs, h => by cases h with | agg _ h => unfold SV.ren bv; exact dA hπ h
 | .tup vs, h => by cases h with | tup _ h => unfold SV.ren bv; exact dA hπ h
 | .fn _ vs, h => by cases h with | fn _ _ h => unfold SV.ren bv; exact dA hπ h
 | .iref vs _, h => by cases h with | iref _ _ h => unfold SV.ren bv; exact dA hπ h
theorem dA {π : Nat → Nat} {b l : Nat} (hπ : ∀ i, i < b → π i ≠ l) : ∀ {xs : List SV}, (∀ x ∈ xs, SV.Lt b x) → bI l (SV.renL π xs) = false
 | [], _ => by unfold SV.renL bI; rfl
 | x :: r, h => by
  have h1 : bv l (SV.ren π x) = false := nV hπ (h x (by simp))
  have h2 : bI l (SV.renL π r) = false := dA hπ (fun y hy => h y (by simp [hy]))
  unfold SV.renL bI; rw [h1, h2]; rfl
end
theorem renL_z {π : Nat → Nat} {F : Fn} {cs : List SV} {b n e : Nat} (h : SV.Lt b (.fn F cs)) (hπ : ∀ i, i < b → π i < n ∨ π i = e) : fb n e (.fn F (SV.renL π cs)) := by
 unfold fb
 intro l h1 h2
 have := nV (π := π) (l := l) (fun i hi he => by rcases hπ i hi with h | h <;> omega) h
 unfold SV.ren at this
 exact this
def ol (n e : Nat) : Option Blk → Prop
 | some (.cells cs) => iC n e cs
 | _ => True
theorem qN {n e l : Nat} (hl : n ≤ l) (he : l ≠ e) {b : Option Blk} (hf : ol n e b) (h : mN l b = false) : mO l b = false := by
 cases b with
 | none => rfl
 | some b =>
  cases b with
  | cells cs => show cs.any (mem1 l) = false; rw [ii]; exact dz hl he hf h
  | row _ _ _ _ => rfl
  | cf m _ _ => exact h
def memY (e l : Nat) (x : SV) : Bool := bif Nat.beq l e then bv l x else ki l x
def tG (e l : Nat) (b : Option Blk) : Bool := bif Nat.beq l e then mO l b else mN l b
theorem memY_ok {n e l : Nat} (hl : n ≤ l) {x : SV} (hf : fb n e x) (h : memY e l x = false) : bv l x = false := by
 unfold memY at h
 cases he : Nat.beq l e with
 | true => rw [he] at h; exact h
 | false => rw [he] at h; exact nU hl (fun q => by rw [q, Nat.beq_refl] at he; cases he) hf h
theorem tF {n e l : Nat} (hl : n ≤ l) {b : Option Blk} (hf : ol n e b) (h : tG e l b = false) : mO l b = false := by
 unfold tG at h
 cases he : Nat.beq l e with
 | true => rw [he] at h; exact h
 | false => rw [he] at h; exact qN hl (fun q => by rw [q, Nat.beq_refl] at he; cases he) hf h
def kV (e : Nat) (pre : List Nat) (ops : List Oper) (n0 i j : Nat) (labs : List Nat) (p q : Pt) : Bool :=
 (match p.1.dst, q.1.dst with | some a, some b => !Nat.beq a b | _, _ => true) &&
 (p.2.ed.all (fun x => q.2.ed.all fun y => !Nat.beq x.1 y.1) || jn pre i j) &&
 ((match q.1.dst with | some d => (mQ ops p.1).all fun t => !Nat.beq d t | none => true) || jn pre i j) &&
 ((labs.all (fun l => q.2.ed.all fun y => !Nat.beq y.1 l) && p.2.rd.all (fun l => q.2.ed.all fun y => !Nat.beq y.1 l)) || jn pre i j) &&
 (!cI p.1.op || (Nat.blt i j && jn pre i j) || (!memY e (n0 + i) q.2.val && q.2.ed.all (fun y => !Nat.beq y.1 (n0 + i) && !tG e (n0 + i) y.2)))
def kT (e : Nat) (pre : List Nat) (ops : List Oper) (n0 i : Nat) (labs : List Nat) (p : Pt) : List Pt → Nat → Bool
 | [], _ => true
 | q :: r, j => (Nat.beq i j || kV e pre ops n0 i j labs p q) && kT e pre ops n0 i labs p r (j + 1)
def kX (e : Nat) (pre : List Nat) (ops : List Oper) (n0 : Nat) (all : List Pt) (S0 : St) : List Pt → Nat → St → Bool
 | [], _, _ => true
 | p :: r, i, S => kT e pre ops n0 i (fZ S p.1.op) p all 0 && (!cI p.1.op || (S0.fr.all (fun x => !ki (n0 + i) x.2) && S0.hp.all (fun x => !Nat.beq x.1 (n0 + i) && !mN (n0 + i) x.2))) &&
   (p.1.after.toList.all fun e => !Region.binds .any e || Nat.blt e.on i) && (match p.1.dst with | some n => Nat.blt n S0.nt.n | none => true) && kX e pre ops n0 all S0 r (i + 1) (S.step p.1.dst p.2)
def iW (e : Nat) (ops : List Oper) (efs : List Ef) (n0 : Nat) (S0 : St) : Bool := kX e (ec ops []) ops n0 (ops.zip efs) S0 (ops.zip efs) 0 S0
def fc (n e : Nat) : List (Nat × Option Blk) → Prop
 | [] => True
 | x :: r => ol n e x.2 ∧ fc n e r
def oi (n e : Nat) : List Ef → Prop
 | [] => True
 | x :: r => fb n e x.val ∧ fc n e x.ed ∧ oi n e r
theorem lY {n e : Nat} : ∀ {l : List (Nat × Option Blk)}, fc n e l → ∀ x ∈ l, ol n e x.2
 | [], _, x, hx => by simp at hx
 | y :: r, h, x, hx => by
  unfold fc at h
  rcases List.mem_cons.1 hx with rfl | hx
  ·exact h.1
  ·exact lY h.2 x hx
theorem lZ {n e : Nat} : ∀ {l : List Ef}, oi n e l → ∀ x ∈ l, fb n e x.val ∧ fc n e x.ed
 | [], _, x, hx => by simp at hx
 | y :: r, h, x, hx => by
  unfold oi at h
  rcases List.mem_cons.1 hx with rfl | hx
  ·exact ⟨h.1, h.2.1⟩
  ·exact lZ h.2.2 x hx
theorem edZ_ok {n e l : Nat} (hl : n ≤ l) {ed : List (Nat × Option Blk)} (hf : fc n e ed) (h : ed.all (fun y => !Nat.beq y.1 l && !tG e l y.2) = true) : ed.all (fun y => !Nat.beq y.1 l && !mO l y.2) = true := by
 rw [List.all_eq_true] at h ⊢
 intro y hy
 have := h y hy
 rw [Bool.and_eq_true] at this ⊢
 refine ⟨this.1, ?_⟩
 have h2 := this.2
 rw [Bool.not_eq_true'] at h2 ⊢
 exact tF hl (lY hf y hy) h2
theorem nh {e : Nat} {pre : List Nat} {ops : List Oper} {n0 i j : Nat} {labs : List Nat} {p q : Pt} (hv : fb n0 e q.2.val) (he : fc n0 e q.2.ed) (h : kV e pre ops n0 i j labs p q = true) : bD pre ops n0 i j labs p q = true := by
 unfold kV at h; unfold bD
 rw [Bool.and_eq_true] at h ⊢
 refine ⟨h.1, ?_⟩
 have h := h.2
 rw [Bool.or_eq_true, Bool.or_eq_true] at h ⊢
 rcases h with (h | h) | h
 ·exact .inl (.inl h)
 ·exact .inr h
 ·rw [Bool.and_eq_true] at h
  refine .inl (.inr ?_)
  rw [Bool.and_eq_true]
  refine ⟨?_, edZ_ok (by omega) he h.2⟩
  have h1 := h.1
  rw [Bool.not_eq_true'] at h1 ⊢
  exact memY_ok (by omega) hv h1
theorem jF {e : Nat} {pre : List Nat} {ops : List Oper} {n0 i : Nat} {labs : List Nat} {p : Pt} : ∀ (l : List Pt) (k : Nat), (∀ q ∈ l, fb n0 e q.2.val ∧ fc n0 e q.2.ed) → kT e pre ops n0 i labs p l k = true → eg pre ops n0 i labs p l k = true
 | [], _, _, _ => by unfold eg; rfl
 | q :: r, k, hf, h => by
  unfold kT at h; unfold eg
  rw [Bool.and_eq_true, Bool.or_eq_true] at h ⊢
  refine ⟨?_, jF r (k + 1) (fun q hq => hf q (List.mem_cons_of_mem _ hq)) h.2⟩
  rcases h.1 with h1 | h1
  ·exact .inl h1
  ·exact .inr (nh (hf q (List.mem_cons_self ..)).1 (hf q (List.mem_cons_self ..)).2 h1)
theorem jI {e : Nat} {pre : List Nat} {ops : List Oper} {n0 : Nat} {all : List Pt} {S0 : St} (ha : ∀ q ∈ all, fb n0 e q.2.val ∧ fc n0 e q.2.ed) (hF : m9 n0 S0.fr) (hH : fO n0 S0.hp) :
  ∀ (l : List Pt) (i : Nat) (S : St), kX e pre ops n0 all S0 l i S = true → eh pre ops n0 all S0 l i S = true
 | [], _, _, _ => by unfold eh; rfl
 | p :: r, i, S, h => by
  unfold kX at h; unfold eh
  rw [Bool.and_eq_true, Bool.and_eq_true, Bool.and_eq_true, Bool.and_eq_true] at h ⊢
  obtain ⟨⟨⟨⟨h1, h2⟩, h3⟩, h4⟩, h5⟩ := h
  refine ⟨⟨⟨⟨jF all 0 ha h1, ?_⟩, h3⟩, h4⟩, jI ha hF hH r (i + 1) _ h5⟩
  rw [Bool.or_eq_true, Bool.and_eq_true] at h2 ⊢
  rcases h2 with h2 | h2
  ·exact .inl h2
  ·refine .inr ⟨?_, rN (by omega) hH h2.2⟩
   have h6 := h2.1
   rw [List.all_eq_true] at h6 ⊢
   intro x hx
   have h7 := h6 x hx
   rw [Bool.not_eq_true'] at h7 ⊢
   exact kg (by omega) (kN hF x hx) h7
theorem bY {e : Nat} {ops : List Oper} {efs : List Ef} {n0 : Nat} {S0 : St} (h : iW e ops efs n0 S0 = true) (hE : oi n0 e efs) (hF : m9 n0 S0.fr) (hH : fO n0 S0.hp) : f9 ops efs n0 S0 = true := by
 refine jI (fun q hq => ?_) hF hH _ 0 S0 h
 exact lZ hE q.2 (List.of_mem_zip hq).2
end Go.Proofs.YtpdhdnhkhidmpaaGreat
