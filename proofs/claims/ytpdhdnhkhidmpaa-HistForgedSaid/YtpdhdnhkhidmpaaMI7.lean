/- Lemmas of Bk11, Bk12, Bk13, Bk14, Bk15, Bk16, Bk17, Br1. No condition. -/
import Derived.Test.YtpdhdnhkhidmpaaMI6
import Derived.Deep.Slices
import Derived.ReadAgain
import Derived.ChangeSame
import Derived.ProofKit
import Derived.OpenShut
set_option linter.unusedVariables false
set_option linter.unusedSimpArgs false
set_option maxHeartbeats 80000000
set_option maxRecDepth 100000
namespace Go.Proofs.Ytpdhdnhkhidmpaa
open Go.RowKit
theorem ca (xs : List Int) (i : Nat) (x : Int) (hi : i ≤ xs.length) (hn : xs.length ≤ 16777215) :
    Fun TC 63 2 [.sl 0 1 0 xs.length, .i .i64 i, .sl 1 1 0 1] [(0, some (aI 2 1 (aQ .i64) xs)), (1, some (aI 2 1 (aQ .i64) [x]))] 3 (.sl 2 1 0 (bF xs i x).length) [(0, none), (1, none), (2, some (aI 2 1 (aQ .i64) (bF xs i x)))] := by
  by_cases hlt : i < xs.length
  · refine qv (C := TC) (z := 1) (enc := (aQ .i64)) (zzb rfl) (.mk Try.func63 rfl rfl) (fun x => rfl) xs i x hlt ?_
    intro v vb cv vcur F vs w h1 h2 h3 h4 h5 h6 h7
    exact l9 0 v xs.length i vb cv vcur F vs w hi h1 (Nat.zero_le _) (by omega) h2 h3 h4 h5 h6 h7
  · obtain rfl : i = xs.length := by omega
    refine Fun.mk' Try.func63 rfl rfl (zzb rfl) (by decide) ?_
    (repeat' (first
    | with_reducible refine Wp.seq ?_
    | with_reducible refine Wp.block ?_
    | ((with_reducible first | refine Wp.region ?_ | refine Wp.drawL ac ?_ | refine Wp.cond ?_ | refine Wp.ret ?_ | refine Wp.skip ?_ | refine Wp.exit ?_ | refine Go.mk ?_ | apply aA.of); conv => whnf)
    | with_reducible exact rfl
    | ((with_reducible refine Ov.ok zO ?_); conv => whnf)
    | (with_reducible refine Ov.sh1 (by with_unfolding_all exact rfl) ?_)
    | ((with_reducible refine Ov.quo (by omega) (by omega) (by omega) (fun _ _ => ?_)); conv => whnf)
    | ((with_reducible refine And.intro (show aj _ _ _ _ = true by kernel_rfl) ?_); conv => whnf)
    | ((with_reducible refine And.intro zC ?_); conv => whnf)
    | ((with_reducible refine And.intro ?hb ?_); (case hb => exact ae (zzb rfl) (by omega)); (conv => whnf))
    | ((refine af.a rfl rfl rfl rfl rfl rfl ?hb ?_); (case hb => exact zB); (conv => whnf))
    | ((refine af.b rfl rfl rfl rfl rfl rfl rfl rfl ?hb ?ho ?_); (case hb => exact zB); (case ho => omega); (conv => whnf))
    | ((refine af.c rfl rfl rfl rfl rfl ?hb ?_); (case hb => exact zB); (conv => whnf))
    | ((refine af.d rfl rfl rfl rfl rfl rfl ?hb ?ho ?_); (case hb => exact zB); (case ho => omega); (conv => whnf))
    | (with_reducible refine Or.inl ?_)
    | ((with_reducible refine nil_no (by omega) ?_); (conv => whnf))
    | ((with_reducible refine ag ?_ (fun hn0 => ?_)) <;> (conv => whnf))
    
    | ((refine aB (fun hc => ?_) (fun hc => ?_)) <;> (try simp only [decide_eq_true_eq, decide_eq_false_iff_not, Q5, Q20, Bool.and_eq_false_iff, Bool.or_eq_false_iff, Bool.not_eq_true', Bool.not_eq_false', beq_iff_eq, bne_iff_ne, ne_eq, beq_eq_false_iff_ne, bne_eq_false_iff_eq, Bool.not_eq_true, Bool.not_eq_false] at hc) <;> (try (exfalso; omega)) <;> (conv => whnf))))
    all_goals try exact absurd trivial hc
    refine ao.of [0, 1, 2] rfl (fun i hi => by have : i = 0 ∨ i = 1 := (by omega); rcases this with h | h <;> subst h <;> rfl) rfl ?_ ?_
    · exact .of_eq (congrArg (SV.sl _ _ _) (aJ xs _ x (by omega)).symm)
    · refine ⟨⟨⟨rfl, rfl, (aJ xs _ x (by omega)).symm⟩, fun i hi => ?_⟩, trivial⟩
      dsimp only
      rw [d8 xs _ x (by omega)]
      simp only [cO]
      by_cases h : i < xs.length
      · rw [if_pos h, if_pos h]
      · rw [if_neg h, if_neg h, if_pos (by omega), show i - xs.length = 0 by omega]; rfl
theorem cn (xs : List Cel) (i : Nat) (x : Cel) (hi : i ≤ xs.length) (hn : xs.length ≤ 16777215) :
    Fun TC 51 2 [.sl 0 4 0 xs.length, .i .i64 i, .sl 1 4 0 1] [(0, some (aI 78 4 Cel.D xs)), (1, some (aI 78 4 Cel.D [x]))] 3 (.sl 2 4 0 (bF xs i x).length) [(0, none), (1, none), (2, some (aI 78 4 Cel.D (bF xs i x)))] := by
  by_cases hlt : i < xs.length
  · refine qv (C := TC) (z := 4) (enc := Cel.D) (zzb rfl) (.mk Try.func51 rfl rfl) (fun x => rfl) xs i x hlt ?_
    intro v vb cv vcur F vs w h1 h2 h3 h4 h5 h6 h7
    exact km 0 v xs.length i vb cv vcur F vs w hi h1 (Nat.zero_le _) (by omega) h2 h3 h4 h5 h6 h7
  · obtain rfl : i = xs.length := by omega
    refine Fun.mk' Try.func51 rfl rfl (zzb rfl) (by decide) ?_
    (repeat' (first
    | with_reducible refine Wp.seq ?_
    | with_reducible refine Wp.block ?_
    | ((with_reducible first | refine Wp.region ?_ | refine Wp.drawL ac ?_ | refine Wp.cond ?_ | refine Wp.ret ?_ | refine Wp.skip ?_ | refine Wp.exit ?_ | refine Go.mk ?_ | apply aA.of); conv => whnf)
    | with_reducible exact rfl
    | ((with_reducible refine Ov.ok zO ?_); conv => whnf)
    | (with_reducible refine Ov.sh1 (by with_unfolding_all exact rfl) ?_)
    | ((with_reducible refine Ov.quo (by omega) (by omega) (by omega) (fun _ _ => ?_)); conv => whnf)
    | ((with_reducible refine And.intro (show aj _ _ _ _ = true by kernel_rfl) ?_); conv => whnf)
    | ((with_reducible refine And.intro zC ?_); conv => whnf)
    | ((with_reducible refine And.intro ?hb ?_); (case hb => exact ae (zzb rfl) (by omega)); (conv => whnf))
    | ((refine af.a rfl rfl rfl rfl rfl rfl ?hb ?_); (case hb => exact zB); (conv => whnf))
    | ((refine af.b rfl rfl rfl rfl rfl rfl rfl rfl ?hb ?ho ?_); (case hb => exact zB); (case ho => omega); (conv => whnf))
    | ((refine af.c rfl rfl rfl rfl rfl ?hb ?_); (case hb => exact zB); (conv => whnf))
    | ((refine af.d rfl rfl rfl rfl rfl rfl ?hb ?ho ?_); (case hb => exact zB); (case ho => omega); (conv => whnf))
    | (with_reducible refine Or.inl ?_)
    | ((with_reducible refine nil_no (by omega) ?_); (conv => whnf))
    | ((with_reducible refine ag ?_ (fun hn0 => ?_)) <;> (conv => whnf))
    
    | ((refine aB (fun hc => ?_) (fun hc => ?_)) <;> (try simp only [decide_eq_true_eq, decide_eq_false_iff_not, Q5, Q20, Bool.and_eq_false_iff, Bool.or_eq_false_iff, Bool.not_eq_true', Bool.not_eq_false', beq_iff_eq, bne_iff_ne, ne_eq, beq_eq_false_iff_ne, bne_eq_false_iff_eq, Bool.not_eq_true, Bool.not_eq_false] at hc) <;> (try (exfalso; omega)) <;> (conv => whnf))))
    all_goals try exact absurd trivial hc
    refine ao.of [0, 1, 2] rfl (fun i hi => by have : i = 0 ∨ i = 1 := (by omega); rcases this with h | h <;> subst h <;> rfl) rfl ?_ ?_
    · exact .of_eq (congrArg (SV.sl _ _ _) (aJ xs _ x (by omega)).symm)
    · refine ⟨⟨⟨rfl, rfl, (aJ xs _ x (by omega)).symm⟩, fun i hi => ?_⟩, trivial⟩
      dsimp only
      rw [d8 xs _ x (by omega)]
      simp only [cO]
      by_cases h : i < xs.length
      · rw [if_pos h, if_pos h]
      · rw [if_neg h, if_neg h, if_pos (by omega), show i - xs.length = 0 by omega]; rfl
theorem cd (xs : List Int) (i : Nat) (hi : i < xs.length) (hn : xs.length ≤ 16777215) :
    Fun TC 65 1 [.sl 0 1 0 xs.length, .i .i64 i, .i .i64 ((i : Int) + 1)] [(0, some (aI 2 1 (aQ .i64) xs))] 2 (.sl 1 1 0 (dn xs i).length) [(0, none), (1, some (aI 2 1 (aQ .i64) (dn xs i)))] := by
  refine delFun (C := TC) (z := 1) (enc := aQ .i64) (zzb rfl) (.mk Try.func65 rfl rfl) (fun x => rfl) xs i hi (by unfold maxLen; omega) ?_
  intro v F w h1 h2
  exact ma 0 v xs.length i F w hi h1 (by omega) h2
theorem nP (lt : Nat → Bool) : ∀ (q i j : Nat), i ≤ j → i ≤ bsF lt q i j ∧ bsF lt q i j ≤ j
  | 0, i, j, h => ⟨Q4 _, h⟩
  | q + 1, i, j, h => by
    unfold bsF
    split
    · split
      · have := nP lt q ((i + j) / 2 + 1) j (by omega); omega
      · have := nP lt q i ((i + j) / 2) (by omega); omega
    · omega
theorem bs_le (lt : Nat → Bool) (n : Nat) : bs lt n ≤ n := (nP lt (n + 1) 0 n (Nat.zero_le _)).2
theorem jY (xs : List Int) (n : Int) : eL xs n ≤ xs.length := bs_le _ _
theorem jZ (xs : List Cel) (t : Cel) : aV xs t ≤ xs.length := bs_le _ _
theorem nh {xs : List Int} {n : Int} (h : f6 xs n = true) : eL xs n < xs.length := by simp [f6] at h; exact h.1
theorem gW (p : Int) (xs : List Int) : fZ p xs = 0 → 1 ≤ p ∧ p ≤ 64 ∧ (xs.length : Int) ≤ p := by
  unfold fZ; split
  · intro _; omega
  · intro h; omega
def aU (p : Int) (xs : List Int) (n : Int) : Int := if lP n = false then 1 else if fZ p xs ≠ 0 then fZ p xs else if f6 xs n = true then 8 else if (xs.length : Int) = p then 9 else 0
def dP (p : Int) (xs : List Int) (n : Int) : List Int := if aU p xs n = 0 then bF xs (eL xs n) n else []
def lK (p : Int) (xs : List Int) (n : Int) : Int := if aU p xs n = 0 then p else 0
theorem iZ (p : Int) (xs : List Int) (n : Int) : Pure TC 47 [.agg [.i .i64 p, .d (ap 1 (aQ .i64) xs)], .i .i64 n] (.tup [.agg [.i .i64 (lK p xs n), .d (ap 1 (aQ .i64) (dP p xs n))], .i .i64 (aU p xs n)]) := by
  have hb := gW p xs
  have hp := jY xs n
  refine Pure.mk' Try.func47 rfl rfl (zzb rfl) ?_
  (repeat' (first
    | with_reducible refine Wp.seq ?_
    | with_reducible refine Wp.block ?_
    | ((with_reducible first | refine Wp.region ?_ | refine Wp.drawL ac ?_ | refine Wp.cond ?_ | refine Wp.ret ?_ | refine Wp.skip ?_ | refine Wp.exit ?_ | refine Go.mk ?_ | apply aA.of); conv => whnf)
    | with_reducible exact rfl
    | ((with_reducible refine Ov.ok zO ?_); conv => whnf)
    | (with_reducible refine Ov.sh1 (by with_unfolding_all exact rfl) ?_)
    | ((with_reducible refine Ov.quo (by omega) (by omega) (by omega) (fun _ _ => ?_)); conv => whnf)
    | ((with_reducible refine And.intro (show aj _ _ _ _ = true by kernel_rfl) ?_); conv => whnf)
    | ((with_reducible refine And.intro zC ?_); conv => whnf)
    | ((with_reducible refine And.intro ?hb ?_); (case hb => exact ae (zzb rfl) (by omega)); (conv => whnf))
    | ((refine af.a rfl rfl rfl rfl rfl rfl ?hb ?_); (case hb => exact zB); (conv => whnf))
    | ((refine af.b rfl rfl rfl rfl rfl rfl rfl rfl ?hb ?ho ?_); (case hb => exact zB); (case ho => omega); (conv => whnf))
    | ((refine af.c rfl rfl rfl rfl rfl ?hb ?_); (case hb => exact zB); (conv => whnf))
    | ((refine af.d rfl rfl rfl rfl rfl rfl ?hb ?ho ?_); (case hb => exact zB); (case ho => omega); (conv => whnf))
    | (with_reducible refine Or.inl ?_)
    | ((with_reducible refine nil_no (by omega) ?_); (conv => whnf))
    | ((with_reducible refine ag ?_ (fun hn0 => ?_)) <;> (conv => whnf))
    | ((with_reducible refine aa.pure (cr _) rfl rfl ?_); conv => whnf) | ((with_reducible refine ai.pure (cr _) rfl rfl ?_); conv => whnf)
    | ((with_reducible refine aa.pure (cW _ _) rfl rfl ?_); conv => whnf) | ((with_reducible refine ai.pure (cW _ _) rfl rfl ?_); conv => whnf)
    | ((with_reducible refine aa.pure (cT _ _ (by omega)) rfl rfl ?_); conv => whnf) | ((with_reducible refine ai.pure (cT _ _ (by omega)) rfl rfl ?_); conv => whnf)
    | ((refine aa.fn (ce xs (by omega)) [] rfl rfl rfl rfl rfl ?ha ?hh ?_); (case ha => exact zA); (case hh => exact zH); (conv => whnf))
    | ((refine ai.fn (ce xs (by omega)) [] [] rfl rfl rfl rfl rfl ?ha ?hh ?hs ?_); (case ha => exact zA); (case hh => exact zH); (case hs => exact zK); (conv => whnf)) | ((refine ai.new (ce xs (by omega)) [] [] rfl rfl rfl rfl rfl rfl ?ha ?hh ?hs ?_); (case ha => exact zA); (case hh => exact zH); (case hs => exact zK); (conv => whnf))
    | ((refine aa.fn (ca xs (eL xs n) n (by omega) (by omega)) [6,9] rfl rfl rfl rfl rfl ?ha ?hh ?_); (case ha => exact zA); (case hh => exact zH); (conv => whnf))
    | ((refine ai.fn (ca xs (eL xs n) n (by omega) (by omega)) [6,9] [6,9] rfl rfl rfl rfl rfl ?ha ?hh ?hs ?_); (case ha => exact zA); (case hh => exact zH); (case hs => exact zK); (conv => whnf)) | ((refine ai.new (ca xs (eL xs n) n (by omega) (by omega)) [6,9] [6,9] rfl rfl rfl rfl rfl rfl ?ha ?hh ?hs ?_); (case ha => exact zA); (case hh => exact zH); (case hs => exact zK); (conv => whnf))
    | ((refine ai.fn (ca xs (eL xs n) n (by omega) (by omega)) [6,9] [] rfl rfl rfl rfl rfl ?ha ?hh ?hs ?_); (case ha => exact zA); (case hh => exact zH); (case hs => exact zK); (conv => whnf)) | ((refine ai.new (ca xs (eL xs n) n (by omega) (by omega)) [6,9] [] rfl rfl rfl rfl rfl rfl ?ha ?hh ?hs ?_); (case ha => exact zA); (case hh => exact zH); (case hs => exact zK); (conv => whnf))
    | ((refine aB (fun hc => ?_) (fun hc => ?_)) <;> (try simp only [decide_eq_true_eq, decide_eq_false_iff_not, Q5, Q20, Bool.and_eq_false_iff, Bool.or_eq_false_iff, Bool.not_eq_true', Bool.not_eq_false', beq_iff_eq, bne_iff_ne, ne_eq, beq_eq_false_iff_ne, bne_eq_false_iff_eq, Bool.not_eq_true, Bool.not_eq_false] at hc) <;> (try (exfalso; omega)) <;> (conv => whnf))))
  · have h : aU p xs n = 1 := by simp [aU, hc]
    rw [lK, dP, h]; exact .tup (.cons (.agg (.cons (.rfl _) (.cons .nil .nil))) (.cons (.rfl _) .nil))
  · rename_i h1
    have h : aU p xs n = fZ p xs := by simp [aU, hc, h1]
    rw [lK, dP, h, if_neg hc, if_neg hc]; exact .tup (.cons (.agg (.cons (.rfl _) (.cons .nil .nil))) (.cons (.rfl _) .nil))
  · rename_i h1 h2
    have h : aU p xs n = 8 := by simp [aU, hc, h1, h2]
    rw [lK, dP, h]; exact .tup (.cons (.agg (.cons (.rfl _) (.cons .nil .nil))) (.cons (.rfl _) .nil))
  · rename_i h1 h2 h3
    have h : aU p xs n = 9 := by simp [aU, hc, h1, h2, h3]
    rw [lK, dP, h]; exact .tup (.cons (.agg (.cons (.rfl _) (.cons .nil .nil))) (.cons (.rfl _) .nil))
  · rename_i h1 h2 h3
    have h : aU p xs n = 0 := by simp [aU, hc, h1, h2, h3]
    rw [lK, dP, h, if_pos rfl, if_pos rfl]
    exact .tup (.cons (.agg (.cons (.rfl _) (.cons (SV.Le.sl fun i hi => by rw [Q19]) .nil))) (.cons (.rfl _) .nil))
def cI (p : Int) (xs : List Int) (n : Int) : Int := if fZ p xs ≠ 0 then fZ p xs else if f6 xs n = true then 0 else 11
def f9 (p : Int) (xs : List Int) (n : Int) : List Int := if cI p xs n = 0 then dn xs (eL xs n) else []
def pS (p : Int) (xs : List Int) (n : Int) : Int := if cI p xs n = 0 then p else 0
theorem i1 (p : Int) (xs : List Int) (n : Int) : Pure TC 48 [.agg [.i .i64 p, .d (ap 1 (aQ .i64) xs)], .i .i64 n] (.tup [.agg [.i .i64 (pS p xs n), .d (ap 1 (aQ .i64) (f9 p xs n))], .i .i64 (cI p xs n)]) := by
  have hb := gW p xs
  have hp := jY xs n
  have hl := nh (xs := xs) (n := n)
  refine Pure.mk' Try.func48 rfl rfl (zzb rfl) ?_
  (repeat' (first
    | with_reducible refine Wp.seq ?_
    | with_reducible refine Wp.block ?_
    | ((with_reducible first | refine Wp.region ?_ | refine Wp.drawL ac ?_ | refine Wp.cond ?_ | refine Wp.ret ?_ | refine Wp.skip ?_ | refine Wp.exit ?_ | refine Go.mk ?_ | apply aA.of); conv => whnf)
    | with_reducible exact rfl
    | ((with_reducible refine Ov.ok zO ?_); conv => whnf)
    | (with_reducible refine Ov.sh1 (by with_unfolding_all exact rfl) ?_)
    | ((with_reducible refine Ov.quo (by omega) (by omega) (by omega) (fun _ _ => ?_)); conv => whnf)
    | ((with_reducible refine And.intro (show aj _ _ _ _ = true by kernel_rfl) ?_); conv => whnf)
    | ((with_reducible refine And.intro zC ?_); conv => whnf)
    | ((with_reducible refine And.intro ?hb ?_); (case hb => exact ae (zzb rfl) (by omega)); (conv => whnf))
    | ((refine af.a rfl rfl rfl rfl rfl rfl ?hb ?_); (case hb => exact zB); (conv => whnf))
    | ((refine af.b rfl rfl rfl rfl rfl rfl rfl rfl ?hb ?ho ?_); (case hb => exact zB); (case ho => omega); (conv => whnf))
    | ((refine af.c rfl rfl rfl rfl rfl ?hb ?_); (case hb => exact zB); (conv => whnf))
    | ((refine af.d rfl rfl rfl rfl rfl rfl ?hb ?ho ?_); (case hb => exact zB); (case ho => omega); (conv => whnf))
    | (with_reducible refine Or.inl ?_)
    | ((with_reducible refine nil_no (by omega) ?_); (conv => whnf))
    | ((with_reducible refine ag ?_ (fun hn0 => ?_)) <;> (conv => whnf))
    | ((with_reducible refine aa.pure (cW _ _) rfl rfl ?_); conv => whnf) | ((with_reducible refine ai.pure (cW _ _) rfl rfl ?_); conv => whnf)
    | ((with_reducible refine aa.pure (cT _ _ (by omega)) rfl rfl ?_); conv => whnf) | ((with_reducible refine ai.pure (cT _ _ (by omega)) rfl rfl ?_); conv => whnf)
    | ((refine aa.fn (ce xs (by omega)) [] rfl rfl rfl rfl rfl ?ha ?hh ?_); (case ha => exact zA); (case hh => exact zH); (conv => whnf))
    | ((refine ai.fn (ce xs (by omega)) [] [] rfl rfl rfl rfl rfl ?ha ?hh ?hs ?_); (case ha => exact zA); (case hh => exact zH); (case hs => exact zK); (conv => whnf)) | ((refine ai.new (ce xs (by omega)) [] [] rfl rfl rfl rfl rfl rfl ?ha ?hh ?hs ?_); (case ha => exact zA); (case hh => exact zH); (case hs => exact zK); (conv => whnf))
    | ((refine aa.fn (cd xs (eL xs n) (hl (by assumption)) (by omega)) [6] rfl rfl rfl rfl rfl ?ha ?hh ?_); (case ha => exact zA); (case hh => exact zH); (conv => whnf))
    | ((refine ai.fn (cd xs (eL xs n) (hl (by assumption)) (by omega)) [6] [6] rfl rfl rfl rfl rfl ?ha ?hh ?hs ?_); (case ha => exact zA); (case hh => exact zH); (case hs => exact zK); (conv => whnf)) | ((refine ai.new (cd xs (eL xs n) (hl (by assumption)) (by omega)) [6] [6] rfl rfl rfl rfl rfl rfl ?ha ?hh ?hs ?_); (case ha => exact zA); (case hh => exact zH); (case hs => exact zK); (conv => whnf))
    | ((refine ai.fn (cd xs (eL xs n) (hl (by assumption)) (by omega)) [6] [] rfl rfl rfl rfl rfl ?ha ?hh ?hs ?_); (case ha => exact zA); (case hh => exact zH); (case hs => exact zK); (conv => whnf)) | ((refine ai.new (cd xs (eL xs n) (hl (by assumption)) (by omega)) [6] [] rfl rfl rfl rfl rfl rfl ?ha ?hh ?hs ?_); (case ha => exact zA); (case hh => exact zH); (case hs => exact zK); (conv => whnf))
    | ((refine aB (fun hc => ?_) (fun hc => ?_)) <;> (try simp only [decide_eq_true_eq, decide_eq_false_iff_not, Q5, Q20, Bool.and_eq_false_iff, Bool.or_eq_false_iff, Bool.not_eq_true', Bool.not_eq_false', beq_iff_eq, bne_iff_ne, ne_eq, beq_eq_false_iff_ne, bne_eq_false_iff_eq, Bool.not_eq_true, Bool.not_eq_false] at hc) <;> (try (exfalso; omega)) <;> (conv => whnf))))
  · have h : cI p xs n = fZ p xs := by simp [cI, hc]
    have h0 : ¬ cI p xs n = 0 := by rw [h]; exact hc
    rw [pS, f9, if_neg h0, if_neg h0, h]; exact .tup (.cons (.agg (.cons (.rfl _) (.cons .nil .nil))) (.cons (.rfl _) .nil))
  · rename_i h1
    have h : cI p xs n = 11 := by simp [cI, hc, h1]
    rw [pS, f9, h]; exact .tup (.cons (.agg (.cons (.rfl _) (.cons .nil .nil))) (.cons (.rfl _) .nil))
  · rename_i h1
    have h : cI p xs n = 0 := by simp [cI, hc, h1]
    rw [pS, f9, h, if_pos rfl, if_pos rfl]
    exact .tup (.cons (.agg (.cons (.rfl _) (.cons (SV.Le.sl fun i hi => by rw [Q19]) .nil))) (.cons (.rfl _) .nil))
def jO (p : Pol) (c : Cel) (n : Int) : Rpl := if aU p.permits c.held n = 0 then ⟨0, true, p.permits - (dP p.permits c.held n).length, 0, n, 0⟩ else ⟨aU p.permits c.held n, false, 0, 0, 0, 0⟩
def iE (p : Pol) (c : Cel) (n : Int) : Cel := if aU p.permits c.held n = 0 then ⟨c.pol, c.key, c.tat, dP p.permits c.held n⟩ else c
def og (p : Pol) (c : Cel) (n : Int) : Rpl := if cI p.permits c.held n = 0 then ⟨0, true, p.permits - (f9 p.permits c.held n).length, 0, 0, 0⟩ else ⟨cI p.permits c.held n, false, 0, 0, 0, 0⟩
def iI (p : Pol) (c : Cel) (n : Int) : Cel := if cI p.permits c.held n = 0 then ⟨c.pol, c.key, c.tat, f9 p.permits c.held n⟩ else c
theorem mt {p : Int} {xs : List Int} {n : Int} : aU p xs n = 0 ↔ lP n = true ∧ fZ p xs = 0 ∧ f6 xs n = false ∧ ¬ (xs.length : Int) = p := by
  unfold aU
  by_cases h1 : lP n = false
  · rw [if_pos h1]; simp [h1]
  · rw [if_neg h1]
    by_cases h2 : fZ p xs = 0
    · rw [if_neg (fun h => h h2)]
      by_cases h3 : f6 xs n = true
      · rw [if_pos h3]; simp [h3]
      · rw [if_neg h3]
        by_cases h4 : (xs.length : Int) = p
        · rw [if_pos h4]; simp [h4]
        · rw [if_neg h4]; simp_all
    · rw [if_pos h2]; simp [h2]
theorem kf {p : Int} {xs : List Int} {n : Int} : cI p xs n = 0 ↔ fZ p xs = 0 ∧ f6 xs n = true := by
  unfold cI
  by_cases h2 : fZ p xs = 0
  · rw [if_neg (fun h => h h2)]
    by_cases h3 : f6 xs n = true
    · rw [if_pos h3]; simp [h2, h3]
    · rw [if_neg h3]; simp [h3]
  · rw [if_pos h2]; simp [h2]
theorem kw {p : Int} {xs : List Int} {n : Int} (h : aU p xs n = 0) : 1 ≤ p ∧ p ≤ 64 ∧ ((dP p xs n).length : Int) ≤ p := by
  obtain ⟨_, h1, _, h2⟩ := mt.1 h
  have hb := gW p xs h1
  rw [dP, if_pos h, aJ _ _ _ (jY _ _)]
  omega
theorem kZ {p : Int} {xs : List Int} {n : Int} (h : cI p xs n = 0) : 1 ≤ p ∧ p ≤ 64 ∧ ((f9 p xs n).length : Int) < p := by
  obtain ⟨h1, hh⟩ := kf.1 h
  have hb := gW p xs h1
  have := nh hh
  rw [f9, if_pos h, eF _ _ this]
  omega
theorem eI (p : Pol) (c : Cel) (n : Int) : Pure TC 29 [p.S, c.S, .i .i64 n] (.tup [(jO p c n).S, (iE p c n).S]) := by
  have hb := kw (p := p.permits) (xs := c.held) (n := n)
  refine Pure.mk' Try.func29 rfl rfl (zzb rfl) ?_
  (repeat' (first
    | with_reducible refine Wp.seq ?_
    | with_reducible refine Wp.block ?_
    | ((with_reducible first | refine Wp.region ?_ | refine Wp.drawL ac ?_ | refine Wp.cond ?_ | refine Wp.ret ?_ | refine Wp.skip ?_ | refine Wp.exit ?_ | refine Go.mk ?_ | apply aA.of); conv => whnf)
    | with_reducible exact rfl
    | ((with_reducible refine Ov.ok zO ?_); conv => whnf)
    | (with_reducible refine Ov.sh1 (by with_unfolding_all exact rfl) ?_)
    | ((with_reducible refine Ov.quo (by omega) (by omega) (by omega) (fun _ _ => ?_)); conv => whnf)
    | ((with_reducible refine And.intro (show aj _ _ _ _ = true by kernel_rfl) ?_); conv => whnf)
    | ((with_reducible refine And.intro zC ?_); conv => whnf)
    | ((with_reducible refine And.intro ?hb ?_); (case hb => exact ae (zzb rfl) (by omega)); (conv => whnf))
    | ((refine af.a rfl rfl rfl rfl rfl rfl ?hb ?_); (case hb => exact zB); (conv => whnf))
    | ((refine af.b rfl rfl rfl rfl rfl rfl rfl rfl ?hb ?ho ?_); (case hb => exact zB); (case ho => omega); (conv => whnf))
    | ((refine af.c rfl rfl rfl rfl rfl ?hb ?_); (case hb => exact zB); (conv => whnf))
    | ((refine af.d rfl rfl rfl rfl rfl rfl ?hb ?ho ?_); (case hb => exact zB); (case ho => omega); (conv => whnf))
    | (with_reducible refine Or.inl ?_)
    | ((with_reducible refine nil_no (by omega) ?_); (conv => whnf))
    | ((with_reducible refine ag ?_ (fun hn0 => ?_)) <;> (conv => whnf))
    | ((with_reducible refine aa.pure (iZ _ _ _) rfl rfl ?_); conv => whnf) | ((with_reducible refine ai.pure (iZ _ _ _) rfl rfl ?_); conv => whnf)
    | ((refine aB (fun hc => ?_) (fun hc => ?_)) <;> (try simp only [decide_eq_true_eq, decide_eq_false_iff_not, Q5, Q20, Bool.and_eq_false_iff, Bool.or_eq_false_iff, Bool.not_eq_true', Bool.not_eq_false', beq_iff_eq, bne_iff_ne, ne_eq, beq_eq_false_iff_ne, bne_eq_false_iff_eq, Bool.not_eq_true, Bool.not_eq_false] at hc) <;> (try (exfalso; omega)) <;> (conv => whnf))))
  · rw [jO, iE, if_neg hc, if_neg hc]; exact .rfl _
  · rw [jO, iE, if_pos hc, if_pos hc]; exact .rfl _
theorem eH (p : Pol) (c : Cel) (n : Int) : Pure TC 30 [p.S, c.S, .i .i64 n] (.tup [(og p c n).S, (iI p c n).S]) := by
  have hb := kZ (p := p.permits) (xs := c.held) (n := n)
  refine Pure.mk' Try.func30 rfl rfl (zzb rfl) ?_
  (repeat' (first
    | with_reducible refine Wp.seq ?_
    | with_reducible refine Wp.block ?_
    | ((with_reducible first | refine Wp.region ?_ | refine Wp.drawL ac ?_ | refine Wp.cond ?_ | refine Wp.ret ?_ | refine Wp.skip ?_ | refine Wp.exit ?_ | refine Go.mk ?_ | apply aA.of); conv => whnf)
    | with_reducible exact rfl
    | ((with_reducible refine Ov.ok zO ?_); conv => whnf)
    | (with_reducible refine Ov.sh1 (by with_unfolding_all exact rfl) ?_)
    | ((with_reducible refine Ov.quo (by omega) (by omega) (by omega) (fun _ _ => ?_)); conv => whnf)
    | ((with_reducible refine And.intro (show aj _ _ _ _ = true by kernel_rfl) ?_); conv => whnf)
    | ((with_reducible refine And.intro zC ?_); conv => whnf)
    | ((with_reducible refine And.intro ?hb ?_); (case hb => exact ae (zzb rfl) (by omega)); (conv => whnf))
    | ((refine af.a rfl rfl rfl rfl rfl rfl ?hb ?_); (case hb => exact zB); (conv => whnf))
    | ((refine af.b rfl rfl rfl rfl rfl rfl rfl rfl ?hb ?ho ?_); (case hb => exact zB); (case ho => omega); (conv => whnf))
    | ((refine af.c rfl rfl rfl rfl rfl ?hb ?_); (case hb => exact zB); (conv => whnf))
    | ((refine af.d rfl rfl rfl rfl rfl rfl ?hb ?ho ?_); (case hb => exact zB); (case ho => omega); (conv => whnf))
    | (with_reducible refine Or.inl ?_)
    | ((with_reducible refine nil_no (by omega) ?_); (conv => whnf))
    | ((with_reducible refine ag ?_ (fun hn0 => ?_)) <;> (conv => whnf))
    | ((with_reducible refine aa.pure (i1 _ _ _) rfl rfl ?_); conv => whnf) | ((with_reducible refine ai.pure (i1 _ _ _) rfl rfl ?_); conv => whnf)
    | ((refine aB (fun hc => ?_) (fun hc => ?_)) <;> (try simp only [decide_eq_true_eq, decide_eq_false_iff_not, Q5, Q20, Bool.and_eq_false_iff, Bool.or_eq_false_iff, Bool.not_eq_true', Bool.not_eq_false', beq_iff_eq, bne_iff_ne, ne_eq, beq_eq_false_iff_ne, bne_eq_false_iff_eq, Bool.not_eq_true, Bool.not_eq_false] at hc) <;> (try (exfalso; omega)) <;> (conv => whnf))))
  · rw [og, iI, if_neg hc, if_neg hc]; exact .rfl _
  · rw [og, iI, if_pos hc, if_pos hc]; exact .rfl _
theorem eG (xs : List Int) (hn : xs.length ≤ 16777216) : Pure TC 50 [.d (ap 1 (aQ .u8) xs)] (.d (ap 1 (aQ .u8) xs)) := by
  refine Pure.mk' Try.func50 rfl rfl (zzb rfl) ?_
  (repeat' (first
    | with_reducible refine Wp.seq ?_
    | with_reducible refine Wp.block ?_
    | ((with_reducible first | refine Wp.region ?_ | refine Wp.drawL ac ?_ | refine Wp.cond ?_ | refine Wp.ret ?_ | refine Wp.skip ?_ | refine Wp.exit ?_ | refine Go.mk ?_ | apply aA.of); conv => whnf)
    | with_reducible exact rfl
    | ((with_reducible refine Ov.ok zO ?_); conv => whnf)
    | (with_reducible refine Ov.sh1 (by with_unfolding_all exact rfl) ?_)
    | ((with_reducible refine Ov.quo (by omega) (by omega) (by omega) (fun _ _ => ?_)); conv => whnf)
    | ((with_reducible refine And.intro (show aj _ _ _ _ = true by kernel_rfl) ?_); conv => whnf)
    | ((with_reducible refine And.intro zC ?_); conv => whnf)
    | ((with_reducible refine And.intro ?hb ?_); (case hb => exact ae (zzb rfl) (by omega)); (conv => whnf))
    | ((refine af.a rfl rfl rfl rfl rfl rfl ?hb ?_); (case hb => exact zB); (conv => whnf))
    | ((refine af.b rfl rfl rfl rfl rfl rfl rfl rfl ?hb ?ho ?_); (case hb => exact zB); (case ho => omega); (conv => whnf))
    | ((refine af.c rfl rfl rfl rfl rfl ?hb ?_); (case hb => exact zB); (conv => whnf))
    | ((refine af.d rfl rfl rfl rfl rfl rfl ?hb ?ho ?_); (case hb => exact zB); (case ho => omega); (conv => whnf))
    | (with_reducible refine Or.inl ?_)
    | ((with_reducible refine nil_no (by omega) ?_); (conv => whnf))
    | ((with_reducible refine ag ?_ (fun hn0 => ?_)) <;> (conv => whnf))
    
    | ((refine aB (fun hc => ?_) (fun hc => ?_)) <;> (try simp only [decide_eq_true_eq, decide_eq_false_iff_not, Q5, Q20, Bool.and_eq_false_iff, Bool.or_eq_false_iff, Bool.not_eq_true', Bool.not_eq_false', beq_iff_eq, bne_iff_ne, ne_eq, beq_eq_false_iff_ne, bne_eq_false_iff_eq, Bool.not_eq_true, Bool.not_eq_false] at hc) <;> (try (exfalso; omega)) <;> (conv => whnf))))
  · rw [Q19]; exact SV.Le.sl fun i hi => by simp [cO]
  · obtain rfl := List.eq_nil_of_length_eq_zero hn0
    exact SV.Le.nil
theorem gq (xs : List Pol) (hn : xs.length ≤ 16777216) : Pure TC 19 [.d (ap 4 Pol.D xs)] (.d (ap 4 Pol.D xs)) := by
  refine Pure.mk' Try.func19 rfl rfl (zzb rfl) ?_
  (repeat' (first
    | with_reducible refine Wp.seq ?_
    | with_reducible refine Wp.block ?_
    | ((with_reducible first | refine Wp.region ?_ | refine Wp.drawL ac ?_ | refine Wp.cond ?_ | refine Wp.ret ?_ | refine Wp.skip ?_ | refine Wp.exit ?_ | refine Go.mk ?_ | apply aA.of); conv => whnf)
    | with_reducible exact rfl
    | ((with_reducible refine Ov.ok zO ?_); conv => whnf)
    | (with_reducible refine Ov.sh1 (by with_unfolding_all exact rfl) ?_)
    | ((with_reducible refine Ov.quo (by omega) (by omega) (by omega) (fun _ _ => ?_)); conv => whnf)
    | ((with_reducible refine And.intro (show aj _ _ _ _ = true by kernel_rfl) ?_); conv => whnf)
    | ((with_reducible refine And.intro zC ?_); conv => whnf)
    | ((with_reducible refine And.intro ?hb ?_); (case hb => exact ae (zzb rfl) (by omega)); (conv => whnf))
    | ((refine af.a rfl rfl rfl rfl rfl rfl ?hb ?_); (case hb => exact zB); (conv => whnf))
    | ((refine af.b rfl rfl rfl rfl rfl rfl rfl rfl ?hb ?ho ?_); (case hb => exact zB); (case ho => omega); (conv => whnf))
    | ((refine af.c rfl rfl rfl rfl rfl ?hb ?_); (case hb => exact zB); (conv => whnf))
    | ((refine af.d rfl rfl rfl rfl rfl rfl ?hb ?ho ?_); (case hb => exact zB); (case ho => omega); (conv => whnf))
    | (with_reducible refine Or.inl ?_)
    | ((with_reducible refine nil_no (by omega) ?_); (conv => whnf))
    | ((with_reducible refine ag ?_ (fun hn0 => ?_)) <;> (conv => whnf))
    
    | ((refine aB (fun hc => ?_) (fun hc => ?_)) <;> (try simp only [decide_eq_true_eq, decide_eq_false_iff_not, Q5, Q20, Bool.and_eq_false_iff, Bool.or_eq_false_iff, Bool.not_eq_true', Bool.not_eq_false', beq_iff_eq, bne_iff_ne, ne_eq, beq_eq_false_iff_ne, bne_eq_false_iff_eq, Bool.not_eq_true, Bool.not_eq_false] at hc) <;> (try (exfalso; omega)) <;> (conv => whnf))))
  · rw [Q19]; exact SV.Le.sl fun i hi => by simp [cO]
  · obtain rfl := List.eq_nil_of_length_eq_zero hn0
    exact SV.Le.nil
def cC (xs : List Cel) (at' : Nat) (there : Bool) (c : Cel) : List Cel := if there = true then xs.set at' c else bF xs at' c
theorem aE (xs : List Cel) (at' : Nat) (there : Bool) (c : Cel) (hn : xs.length ≤ 16777215) (hk : c.key.length ≤ 16777216) (h1 : at' ≤ xs.length) (h2 : there = true → at' < xs.length) :
    Fun TC 31 1 [.sl 0 4 0 xs.length, .i .i64 at', .b there, c.S] [(0, some (aI 78 4 Cel.D xs))] 2 (.sl 1 4 0 (cC xs at' there c).length) [(0, some (aI 78 4 Cel.D xs)), (1, some (aI 78 4 Cel.D (cC xs at' there c)))] := by
  cases there with
  | true =>
    have h2 := h2 rfl
    refine Fun.mk' Try.func31 rfl rfl (zzb rfl) (by decide) ?_
    (repeat' (first
    | with_reducible refine Wp.seq ?_
    | with_reducible refine Wp.block ?_
    | ((with_reducible first | refine Wp.region ?_ | refine Wp.drawL ac ?_ | refine Wp.cond ?_ | refine Wp.ret ?_ | refine Wp.skip ?_ | refine Wp.exit ?_ | refine Go.mk ?_ | apply aA.of); conv => whnf)
    | with_reducible exact rfl
    | ((with_reducible refine Ov.ok zO ?_); conv => whnf)
    | (with_reducible refine Ov.sh1 (by with_unfolding_all exact rfl) ?_)
    | ((with_reducible refine Ov.quo (by omega) (by omega) (by omega) (fun _ _ => ?_)); conv => whnf)
    | ((with_reducible refine And.intro (show aj _ _ _ _ = true by kernel_rfl) ?_); conv => whnf)
    | ((with_reducible refine And.intro zC ?_); conv => whnf)
    | ((with_reducible refine And.intro ?hb ?_); (case hb => exact ae (zzb rfl) (by omega)); (conv => whnf))
    | ((refine af.a rfl rfl rfl rfl rfl rfl ?hb ?_); (case hb => exact zB); (conv => whnf))
    | ((refine af.b rfl rfl rfl rfl rfl rfl rfl rfl ?hb ?ho ?_); (case hb => exact zB); (case ho => omega); (conv => whnf))
    | ((refine af.c rfl rfl rfl rfl rfl ?hb ?_); (case hb => exact zB); (conv => whnf))
    | ((refine af.d rfl rfl rfl rfl rfl rfl ?hb ?ho ?_); (case hb => exact zB); (case ho => omega); (conv => whnf))
    | (with_reducible refine Or.inl ?_)
    | ((with_reducible refine nil_no (by omega) ?_); (conv => whnf))
    | ((with_reducible refine ag ?_ (fun hn0 => ?_)) <;> (conv => whnf))
    | ((refine aa.fn (az xs (by omega)) [0] rfl rfl rfl rfl rfl ?ha ?hh ?_); (case ha => exact zA); (case hh => exact zH); (conv => whnf))
    | ((refine ai.fn (az xs (by omega)) [0] [0] rfl rfl rfl rfl rfl ?ha ?hh ?hs ?_); (case ha => exact zA); (case hh => exact zH); (case hs => exact zK); (conv => whnf)) | ((refine ai.new (az xs (by omega)) [0] [0] rfl rfl rfl rfl rfl rfl ?ha ?hh ?hs ?_); (case ha => exact zA); (case hh => exact zH); (case hs => exact zK); (conv => whnf))
    | ((refine ai.fn (az xs (by omega)) [0] [] rfl rfl rfl rfl rfl ?ha ?hh ?hs ?_); (case ha => exact zA); (case hh => exact zH); (case hs => exact zK); (conv => whnf)) | ((refine ai.new (az xs (by omega)) [0] [] rfl rfl rfl rfl rfl rfl ?ha ?hh ?hs ?_); (case ha => exact zA); (case hh => exact zH); (case hs => exact zK); (conv => whnf))
    | ((refine aB (fun hc => ?_) (fun hc => ?_)) <;> (try simp only [decide_eq_true_eq, decide_eq_false_iff_not, Q5, Q20, Bool.and_eq_false_iff, Bool.or_eq_false_iff, Bool.not_eq_true', Bool.not_eq_false', beq_iff_eq, bne_iff_ne, ne_eq, beq_eq_false_iff_ne, bne_eq_false_iff_eq, Bool.not_eq_true, Bool.not_eq_false] at hc) <;> (try (exfalso; omega)) <;> (conv => whnf))))
    refine ao.of [0, 2] rfl (fun i hi => by obtain rfl : i = 0 := (by omega); rfl) rfl ?_ ?_
    · exact .of_eq (congrArg (SV.sl _ _ _) (by simp [cC]))
    · refine ⟨⟨⟨rfl, rfl, rfl⟩, fun i hi => rfl⟩, ⟨⟨rfl, rfl, by simp [cC]⟩, fun i hi => ?_⟩, trivial⟩
      simp only [cC, if_true, Q1, List.getElem?_set]
      by_cases h : at' = i
      · subst h; simp [h2]; rfl
      · rw [if_neg h, if_neg (fun e => h (by omega))]
  | false =>
    refine Fun.mk' Try.func31 rfl rfl (zzb rfl) (by decide) ?_
    (repeat' (first
    | with_reducible refine Wp.seq ?_
    | with_reducible refine Wp.block ?_
    | ((with_reducible first | refine Wp.region ?_ | refine Wp.drawL ac ?_ | refine Wp.cond ?_ | refine Wp.ret ?_ | refine Wp.skip ?_ | refine Wp.exit ?_ | refine Go.mk ?_ | apply aA.of); conv => whnf)
    | with_reducible exact rfl
    | ((with_reducible refine Ov.ok zO ?_); conv => whnf)
    | (with_reducible refine Ov.sh1 (by with_unfolding_all exact rfl) ?_)
    | ((with_reducible refine Ov.quo (by omega) (by omega) (by omega) (fun _ _ => ?_)); conv => whnf)
    | ((with_reducible refine And.intro (show aj _ _ _ _ = true by kernel_rfl) ?_); conv => whnf)
    | ((with_reducible refine And.intro zC ?_); conv => whnf)
    | ((with_reducible refine And.intro ?hb ?_); (case hb => exact ae (zzb rfl) (by omega)); (conv => whnf))
    | ((refine af.a rfl rfl rfl rfl rfl rfl ?hb ?_); (case hb => exact zB); (conv => whnf))
    | ((refine af.b rfl rfl rfl rfl rfl rfl rfl rfl ?hb ?ho ?_); (case hb => exact zB); (case ho => omega); (conv => whnf))
    | ((refine af.c rfl rfl rfl rfl rfl ?hb ?_); (case hb => exact zB); (conv => whnf))
    | ((refine af.d rfl rfl rfl rfl rfl rfl ?hb ?ho ?_); (case hb => exact zB); (case ho => omega); (conv => whnf))
    | (with_reducible refine Or.inl ?_)
    | ((with_reducible refine nil_no (by omega) ?_); (conv => whnf))
    | ((with_reducible refine ag ?_ (fun hn0 => ?_)) <;> (conv => whnf))
    | ((refine aa.fn (az xs (by omega)) [0] rfl rfl rfl rfl rfl ?ha ?hh ?_); (case ha => exact zA); (case hh => exact zH); (conv => whnf))
    | ((refine ai.fn (az xs (by omega)) [0] [0] rfl rfl rfl rfl rfl ?ha ?hh ?hs ?_); (case ha => exact zA); (case hh => exact zH); (case hs => exact zK); (conv => whnf)) | ((refine ai.new (az xs (by omega)) [0] [0] rfl rfl rfl rfl rfl rfl ?ha ?hh ?hs ?_); (case ha => exact zA); (case hh => exact zH); (case hs => exact zK); (conv => whnf))
    | ((refine ai.fn (az xs (by omega)) [0] [] rfl rfl rfl rfl rfl ?ha ?hh ?hs ?_); (case ha => exact zA); (case hh => exact zH); (case hs => exact zK); (conv => whnf)) | ((refine ai.new (az xs (by omega)) [0] [] rfl rfl rfl rfl rfl rfl ?ha ?hh ?hs ?_); (case ha => exact zA); (case hh => exact zH); (case hs => exact zK); (conv => whnf))
    | ((with_reducible refine aa.pure (eG _ (by omega)) rfl rfl ?_); conv => whnf) | ((with_reducible refine ai.pure (eG _ (by omega)) rfl rfl ?_); conv => whnf)
    | ((refine aa.fn (cn xs at' c (by omega) (by omega)) [2,3] rfl rfl rfl rfl rfl ?ha ?hh ?_); (case ha => exact zA); (case hh => exact zH); (conv => whnf))
    | ((refine ai.fn (cn xs at' c (by omega) (by omega)) [2,3] [2,3] rfl rfl rfl rfl rfl ?ha ?hh ?hs ?_); (case ha => exact zA); (case hh => exact zH); (case hs => exact zK); (conv => whnf)) | ((refine ai.new (cn xs at' c (by omega) (by omega)) [2,3] [2,3] rfl rfl rfl rfl rfl rfl ?ha ?hh ?hs ?_); (case ha => exact zA); (case hh => exact zH); (case hs => exact zK); (conv => whnf))
    | ((refine ai.fn (cn xs at' c (by omega) (by omega)) [2,3] [] rfl rfl rfl rfl rfl ?ha ?hh ?hs ?_); (case ha => exact zA); (case hh => exact zH); (case hs => exact zK); (conv => whnf)) | ((refine ai.new (cn xs at' c (by omega) (by omega)) [2,3] [] rfl rfl rfl rfl rfl rfl ?ha ?hh ?hs ?_); (case ha => exact zA); (case hh => exact zH); (case hs => exact zK); (conv => whnf))
    | ((refine aB (fun hc => ?_) (fun hc => ?_)) <;> (try simp only [decide_eq_true_eq, decide_eq_false_iff_not, Q5, Q20, Bool.and_eq_false_iff, Bool.or_eq_false_iff, Bool.not_eq_true', Bool.not_eq_false', beq_iff_eq, bne_iff_ne, ne_eq, beq_eq_false_iff_ne, bne_eq_false_iff_eq, Bool.not_eq_true, Bool.not_eq_false] at hc) <;> (try (exfalso; omega)) <;> (conv => whnf))))
    refine ao.of [0, 4] rfl (fun i hi => by obtain rfl : i = 0 := (by omega); rfl) rfl ?_ ?_
    · exact .rfl _
    · exact ⟨⟨⟨rfl, rfl, rfl⟩, fun i hi => rfl⟩, ⟨⟨rfl, rfl, rfl⟩, fun i hi => rfl⟩, trivial⟩
@[reducible] def evH (ps : List Pol) (room now : Int) (k n : Nat) (xs : List Cel) : List (Nat × Option Blk) :=
  [(0, some (.row 78 4 n fun i => (xs.getD i default).D)), (1, some (.cells [.d (ap 4 Pol.D ps), .i .i64 room, .sl 0 4 0 k])), (2, some (.cells [.ptr 1 0])), (3, some (.cells [.i .i64 now]))]
theorem bX (ps : List Pol) (room now : Int) (k n : Nat) (xs : List Cel) (c : Cel) (h0 : 0 ≤ c.pol) (h1 : c.pol < ps.length) :
    Fun TC 24 4 [c.S, .ptr 2 0, .ptr 3 0] (evH ps room now k n xs) 4 (.b (aN ps c now)) (evH ps room now k n xs) := by
  refine Fun.mk' Try.func24 rfl rfl (zzb rfl) (by decide) ?_
  (repeat' (first
    | with_reducible refine Wp.seq ?_
    | with_reducible refine Wp.block ?_
    | ((with_reducible first | refine Wp.region ?_ | refine Wp.drawL ac ?_ | refine Wp.cond ?_ | refine Wp.ret ?_ | refine Wp.skip ?_ | refine Wp.exit ?_ | refine Go.mk ?_ | apply aA.of); conv => whnf)
    | with_reducible exact rfl
    | ((with_reducible refine Ov.ok zO ?_); conv => whnf)
    | (with_reducible refine Ov.sh1 (by with_unfolding_all exact rfl) ?_)
    | ((with_reducible refine Ov.quo (by omega) (by omega) (by omega) (fun _ _ => ?_)); conv => whnf)
    | ((with_reducible refine And.intro (show aj _ _ _ _ = true by kernel_rfl) ?_); conv => whnf)
    | ((with_reducible refine And.intro zC ?_); conv => whnf)
    | ((with_reducible refine And.intro ?hb ?_); (case hb => exact ae (zzb rfl) (by omega)); (conv => whnf))
    | ((refine af.a rfl rfl rfl rfl rfl rfl ?hb ?_); (case hb => exact zB); (conv => whnf))
    | ((refine af.b rfl rfl rfl rfl rfl rfl rfl rfl ?hb ?ho ?_); (case hb => exact zB); (case ho => omega); (conv => whnf))
    | ((refine af.c rfl rfl rfl rfl rfl ?hb ?_); (case hb => exact zB); (conv => whnf))
    | ((refine af.d rfl rfl rfl rfl rfl rfl ?hb ?ho ?_); (case hb => exact zB); (case ho => omega); (conv => whnf))
    | (with_reducible refine Or.inl ?_)
    | ((with_reducible refine nil_no (by omega) ?_); (conv => whnf))
    | ((with_reducible refine ag ?_ (fun hn0 => ?_)) <;> (conv => whnf))
    | ((with_reducible refine aa.pure (jK ps c now h0 h1) rfl rfl ?_); conv => whnf) | ((with_reducible refine ai.pure (jK ps c now h0 h1) rfl rfl ?_); conv => whnf)
    | ((refine aB (fun hc => ?_) (fun hc => ?_)) <;> (try simp only [decide_eq_true_eq, decide_eq_false_iff_not, Q5, Q20, Bool.and_eq_false_iff, Bool.or_eq_false_iff, Bool.not_eq_true', Bool.not_eq_false', beq_iff_eq, bne_iff_ne, ne_eq, beq_eq_false_iff_ne, bne_eq_false_iff_eq, Bool.not_eq_true, Bool.not_eq_false] at hc) <;> (try (exfalso; omega)) <;> (conv => whnf))))
  refine ao.of [0, 1, 2, 3] rfl (fun i hi => by have : i = 0 ∨ i = 1 ∨ i = 2 ∨ i = 3 := (by omega); rcases this with h | h | h | h <;> subst h <;> rfl) rfl ?_ ?_
  · exact .rfl _
  · ((conv => whnf); repeat' (first | exact trivial | exact SV.Le.rfl _ | exact ⟨rfl, rfl, rfl⟩ | exact fun i hi => rfl | ((with_reducible refine And.intro ?_ ?_) <;> (conv => whnf))))
def fst (p : Cel → Bool) : List Cel → Nat
  | [] => 0
  | c :: r => if p c = true then 0 else fst p r + 1
theorem qA (p : Cel → Bool) : ∀ xs : List Cel, fst p xs ≤ xs.length
  | [] => Q4 _
  | c :: r => by unfold fst; split <;> simp [qA p r]
theorem io (p : Cel → Bool) : ∀ (xs : List Cel) (k : Nat), k ≤ xs.length → (∀ j, j < k → p (xs.getD j default) = false) → fst p xs = k + fst p (xs.drop k)
  | xs, 0, _, _ => by simp
  | [], k + 1, h, _ => by simp at h
  | c :: r, k + 1, h, hp => by
    have h0 := hp 0 (by omega)
    rw [fst, if_neg (by simpa using h0), List.drop_succ_cons, io p r k (by simpa using h) (fun j hj => by simpa using hp (j + 1) (by omega))]
    omega
theorem k8 (p : Cel → Bool) : ∀ (xs : List Cel) (j : Nat), j < fst p xs → p (xs.getD j default) = false
  | [], j, h => by simp [fst] at h
  | c :: r, j, h => by
    unfold fst at h
    split at h
    · omega
    · cases j with
      | zero => simpa using (by assumption : ¬ p c = true)
      | succ j => simpa using k8 p r j (by omega)
theorem nn (p : Cel → Bool) : ∀ (xs : List Cel), fst p xs < xs.length → p (xs.getD (fst p xs) default) = true
  | [], h => by simp at h
  | c :: r, h => by
    unfold fst at h ⊢
    split
    · simpa
    · rename_i hc; rw [if_neg hc] at h; simpa using nn p r (by simpa using h)
theorem kv (p : Cel → Bool) (xs : List Cel) : ∀ k, k ≤ fst p xs → (xs.take k).filter (fun c => !p c) = xs.take k := by
  intro k hk
  rw [List.filter_eq_self]
  intro c hc
  obtain ⟨j, hj, rfl⟩ := List.getElem_of_mem hc
  simp at hj
  have := k8 p xs j (by omega)
  rw [Q1, Q0 (by omega)] at this
  simpa using this
theorem bq (ps : List Pol) (room now : Int) (k : Nat) (xs : List Cel) (hp : ∀ j, j < xs.length → 0 ≤ (xs.getD j default).pol ∧ (xs.getD j default).pol < ps.length) (hlen : xs.length ≤ 4611686018427387903) :
    Fun TC 41 4 [.sl 0 4 0 xs.length, .fn (.func 24) [.ptr 2 0, .ptr 3 0]] (evH ps room now k xs.length xs) 4 (.i .i64 (if fst (fun c => aN ps c now) xs < xs.length then fst (fun c => aN ps c now) xs else -1)) (evH ps room now k xs.length xs) := by
  refine Fun.mk' Try.func41 rfl rfl (zzb rfl) (by decide) ?_
  (repeat' (first
    | with_reducible refine Wp.seq ?_
    | with_reducible refine Wp.block ?_
    | ((with_reducible first | refine Wp.region ?_ | refine Wp.drawL ac ?_ | refine Wp.cond ?_ | refine Wp.ret ?_ | refine Wp.skip ?_ | refine Wp.exit ?_ | refine Go.mk ?_ | apply aA.of); conv => whnf)
    | with_reducible exact rfl
    | ((with_reducible refine Ov.ok zO ?_); conv => whnf)
    | (with_reducible refine Ov.sh1 (by with_unfolding_all exact rfl) ?_)
    | ((with_reducible refine Ov.quo (by omega) (by omega) (by omega) (fun _ _ => ?_)); conv => whnf)
    | ((with_reducible refine And.intro (show aj _ _ _ _ = true by kernel_rfl) ?_); conv => whnf)
    | ((with_reducible refine And.intro zC ?_); conv => whnf)
    | ((with_reducible refine And.intro ?hb ?_); (case hb => exact ae (zzb rfl) (by omega)); (conv => whnf))
    | ((refine af.a rfl rfl rfl rfl rfl rfl ?hb ?_); (case hb => exact zB); (conv => whnf))
    | ((refine af.b rfl rfl rfl rfl rfl rfl rfl rfl ?hb ?ho ?_); (case hb => exact zB); (case ho => omega); (conv => whnf))
    | ((refine af.c rfl rfl rfl rfl rfl ?hb ?_); (case hb => exact zB); (conv => whnf))
    | ((refine af.d rfl rfl rfl rfl rfl rfl ?hb ?ho ?_); (case hb => exact zB); (case ho => omega); (conv => whnf))
    | (with_reducible refine Or.inl ?_)
    | ((with_reducible refine nil_no (by omega) ?_); (conv => whnf))
    | ((with_reducible refine ag ?_ (fun hn0 => ?_)) <;> (conv => whnf))
    
    | ((refine aB (fun hc => ?_) (fun hc => ?_)) <;> (try simp only [decide_eq_true_eq, decide_eq_false_iff_not, Q5, Q20, Bool.and_eq_false_iff, Bool.or_eq_false_iff, Bool.not_eq_true', Bool.not_eq_false', beq_iff_eq, bne_iff_ne, ne_eq, beq_eq_false_iff_ne, bne_eq_false_iff_eq, Bool.not_eq_true, Bool.not_eq_false] at hc) <;> (try (exfalso; omega)) <;> (conv => whnf))))
  refine Wp.loopP (ι := Nat) (fun i => i ≤ xs.length ∧ ∀ j, j < i → aN ps (xs.getD j default) now = false) (fun i => ⟨⟨Try.f41.ntmps, 4⟩, 4, [(0, .sl 0 4 0 xs.length), (1, .fn (.func 24) [.ptr 2 0, .ptr 3 0]), (7, .i .i64 xs.length), (8, .i .i64 i)], evH ps room now k xs.length xs⟩) (fun i => xs.length - i) 0 ⟨by simp, by simp⟩ ?_ ?_
  · (refine Le.by [0,1,2,3] rfl rfl rfl rfl ?_ ?_ <;> (conv => whnf) <;> (repeat' (first | exact trivial | exact ab.rfl rfl | exact ab.ptr rfl | exact ab.sl rfl | ((with_reducible refine ab.fn ?_); (conv => whnf)) | ((refine ab.iref ?_); (conv => whnf)) | exact ⟨rfl, rfl, rfl⟩ | exact fun i hi => rfl | ((with_reducible refine And.intro ?_ ?_) <;> (conv => whnf)))))
  · rintro i ⟨h1, h2⟩
    (repeat' (first
    | with_reducible refine Wp.seq ?_
    | with_reducible refine Wp.block ?_
    | ((with_reducible first | refine Wp.region ?_ | refine Wp.drawL ac ?_ | refine Wp.cond ?_ | refine Wp.ret ?_ | refine Wp.skip ?_ | refine Wp.exit ?_ | refine Go.mk ?_ | apply aA.of); conv => whnf)
    | with_reducible exact rfl
    | ((with_reducible refine Ov.ok zO ?_); conv => whnf)
    | (with_reducible refine Ov.sh1 (by with_unfolding_all exact rfl) ?_)
    | ((with_reducible refine Ov.quo (by omega) (by omega) (by omega) (fun _ _ => ?_)); conv => whnf)
    | ((with_reducible refine And.intro (show aj _ _ _ _ = true by kernel_rfl) ?_); conv => whnf)
    | ((with_reducible refine And.intro zC ?_); conv => whnf)
    | ((with_reducible refine And.intro ?hb ?_); (case hb => exact ae (zzb rfl) (by omega)); (conv => whnf))
    | ((refine af.a rfl rfl rfl rfl rfl rfl ?hb ?_); (case hb => exact zB); (conv => whnf))
    | ((refine af.b rfl rfl rfl rfl rfl rfl rfl rfl ?hb ?ho ?_); (case hb => exact zB); (case ho => omega); (conv => whnf))
    | ((refine af.c rfl rfl rfl rfl rfl ?hb ?_); (case hb => exact zB); (conv => whnf))
    | ((refine af.d rfl rfl rfl rfl rfl rfl ?hb ?ho ?_); (case hb => exact zB); (case ho => omega); (conv => whnf))
    | (with_reducible refine Or.inl ?_)
    | ((with_reducible refine nil_no (by omega) ?_); (conv => whnf))
    | ((with_reducible refine ag ?_ (fun hn0 => ?_)) <;> (conv => whnf))
    | ((refine aa.fn (bX ps room now k xs.length xs (xs.getD (0 + (i : Int).toNat) default) (hp _ (by omega)).1 (hp _ (by omega)).2) [0,1,2,3] rfl rfl rfl rfl rfl ?ha ?hh ?_); (case ha => exact zA); (case hh => exact zH); (conv => whnf))
    | ((refine ai.fn (bX ps room now k xs.length xs (xs.getD (0 + (i : Int).toNat) default) (hp _ (by omega)).1 (hp _ (by omega)).2) [0,1,2,3] [0,1,2,3] rfl rfl rfl rfl rfl ?ha ?hh ?hs ?_); (case ha => exact zA); (case hh => exact zH); (case hs => exact zK); (conv => whnf)) | ((refine ai.new (bX ps room now k xs.length xs (xs.getD (0 + (i : Int).toNat) default) (hp _ (by omega)).1 (hp _ (by omega)).2) [0,1,2,3] [0,1,2,3] rfl rfl rfl rfl rfl rfl ?ha ?hh ?hs ?_); (case ha => exact zA); (case hh => exact zH); (case hs => exact zK); (conv => whnf))
    | ((refine ai.fn (bX ps room now k xs.length xs (xs.getD (0 + (i : Int).toNat) default) (hp _ (by omega)).1 (hp _ (by omega)).2) [0,1,2,3] [] rfl rfl rfl rfl rfl ?ha ?hh ?hs ?_); (case ha => exact zA); (case hh => exact zH); (case hs => exact zK); (conv => whnf)) | ((refine ai.new (bX ps room now k xs.length xs (xs.getD (0 + (i : Int).toNat) default) (hp _ (by omega)).1 (hp _ (by omega)).2) [0,1,2,3] [] rfl rfl rfl rfl rfl rfl ?ha ?hh ?hs ?_); (case ha => exact zA); (case hh => exact zH); (case hs => exact zK); (conv => whnf))
    | ((refine aB (fun hc => ?_) (fun hc => ?_)) <;> (try simp only [decide_eq_true_eq, decide_eq_false_iff_not, Q5, Q20, Bool.and_eq_false_iff, Bool.or_eq_false_iff, Bool.not_eq_true', Bool.not_eq_false', beq_iff_eq, bne_iff_ne, ne_eq, beq_eq_false_iff_ne, bne_eq_false_iff_eq, Bool.not_eq_true, Bool.not_eq_false] at hc) <;> (try (exfalso; omega)) <;> (conv => whnf))))
    · simp only [Q13, Q19] at hc
      have hf : fst (fun c => aN ps c now) xs = i := by
        rw [io _ xs i h1 h2, dF (by omega), fst, if_pos hc]; rfl
      refine ao.of [0, 1, 2, 3] rfl (fun i hi => by have : i = 0 ∨ i = 1 ∨ i = 2 ∨ i = 3 := (by omega); rcases this with h | h | h | h <;> subst h <;> rfl) rfl ?_ ?_
      · exact .i (by rw [hf, if_pos (by omega)])
      · ((conv => whnf); repeat' (first | exact trivial | exact SV.Le.rfl _ | exact ⟨rfl, rfl, rfl⟩ | exact fun i hi => rfl | ((with_reducible refine And.intro ?_ ?_) <;> (conv => whnf))))
    · simp only [Q13, Q19] at hc
      refine ⟨i + 1, ⟨by omega, fun j hj => ?_⟩, by dsimp only; omega, ?_⟩
      · by_cases e : j = i
        · subst e; exact hc
        · exact h2 j (by omega)
      · (refine Le.by [0,1,2,3] rfl rfl rfl rfl ?_ ?_ <;> (conv => whnf) <;> (repeat' (first | exact trivial | exact ab.rfl rfl | exact ab.ptr rfl | exact ab.sl rfl | ((with_reducible refine ab.fn ?_); (conv => whnf)) | ((refine ab.iref ?_); (conv => whnf)) | exact ⟨rfl, rfl, rfl⟩ | exact fun i hi => rfl | ((with_reducible refine And.intro ?_ ?_) <;> (conv => whnf)))))
    · have hf : fst (fun c => aN ps c now) xs = xs.length := by
        rw [io _ xs i h1 h2, List.drop_eq_nil_of_le (by omega), fst]; omega
      refine ao.of [0, 1, 2, 3] rfl (fun i hi => by have : i = 0 ∨ i = 1 ∨ i = 2 ∨ i = 3 := (by omega); rcases this with h | h | h | h <;> subst h <;> rfl) rfl ?_ ?_
      · exact .i (by rw [hf, if_neg (by omega)])
      · ((conv => whnf); repeat' (first | exact trivial | exact SV.Le.rfl _ | exact ⟨rfl, rfl, rfl⟩ | exact fun i hi => rfl | ((with_reducible refine And.intro ?_ ?_) <;> (conv => whnf))))
def stay (ps : List Pol) (now : Int) (xs : List Cel) : List Cel := xs.filter fun c => !aN ps c now
theorem bu {xs : List Cel} {k : Nat} (h : k < xs.length) : xs.take (k + 1) = xs.take k ++ [xs.getD k default] := by
  rw [List.take_add_one, Q0 h]; simp [List.getD, Q0 h]
theorem bY (ps : List Pol) (room now : Int) (xs : List Cel) (hp : ∀ j, j < xs.length → 0 ≤ (xs.getD j default).pol ∧ (xs.getD j default).pol < ps.length) (hlen : xs.length ≤ 4611686018427387903) :
    Fun TC 23 4 [.sl 0 4 0 xs.length, .fn (.func 24) [.ptr 2 0, .ptr 3 0]] (evH ps room now xs.length xs.length xs) 4 (.sl 0 4 0 (stay ps now xs).length) (evH ps room now xs.length (stay ps now xs).length (stay ps now xs)) := by
  refine Fun.mk' Try.func23 rfl rfl (zzb rfl) (by decide) ?_
  have hfl := qA (fun c => aN ps c now) xs
  (repeat' (first
    | with_reducible refine Wp.seq ?_
    | with_reducible refine Wp.block ?_
    | ((with_reducible first | refine Wp.region ?_ | refine Wp.drawL ac ?_ | refine Wp.cond ?_ | refine Wp.ret ?_ | refine Wp.skip ?_ | refine Wp.exit ?_ | refine Go.mk ?_ | apply aA.of); conv => whnf)
    | with_reducible exact rfl
    | ((with_reducible refine Ov.ok zO ?_); conv => whnf)
    | (with_reducible refine Ov.sh1 (by with_unfolding_all exact rfl) ?_)
    | ((with_reducible refine Ov.quo (by omega) (by omega) (by omega) (fun _ _ => ?_)); conv => whnf)
    | ((with_reducible refine And.intro (show aj _ _ _ _ = true by kernel_rfl) ?_); conv => whnf)
    | ((with_reducible refine And.intro zC ?_); conv => whnf)
    | ((with_reducible refine And.intro ?hb ?_); (case hb => exact ae (zzb rfl) (by omega)); (conv => whnf))
    | ((refine af.a rfl rfl rfl rfl rfl rfl ?hb ?_); (case hb => exact zB); (conv => whnf))
    | ((refine af.b rfl rfl rfl rfl rfl rfl rfl rfl ?hb ?ho ?_); (case hb => exact zB); (case ho => omega); (conv => whnf))
    | ((refine af.c rfl rfl rfl rfl rfl ?hb ?_); (case hb => exact zB); (conv => whnf))
    | ((refine af.d rfl rfl rfl rfl rfl rfl ?hb ?ho ?_); (case hb => exact zB); (case ho => omega); (conv => whnf))
    | (with_reducible refine Or.inl ?_)
    | ((with_reducible refine nil_no (by omega) ?_); (conv => whnf))
    | ((with_reducible refine ag ?_ (fun hn0 => ?_)) <;> (conv => whnf))
    | ((refine aa.fn (bq ps room now xs.length xs hp hlen) [0,1,2,3] rfl rfl rfl rfl rfl ?ha ?hh ?_); (case ha => exact zA); (case hh => exact zH); (conv => whnf))
    | ((refine ai.fn (bq ps room now xs.length xs hp hlen) [0,1,2,3] [0,1,2,3] rfl rfl rfl rfl rfl ?ha ?hh ?hs ?_); (case ha => exact zA); (case hh => exact zH); (case hs => exact zK); (conv => whnf)) | ((refine ai.new (bq ps room now xs.length xs hp hlen) [0,1,2,3] [0,1,2,3] rfl rfl rfl rfl rfl rfl ?ha ?hh ?hs ?_); (case ha => exact zA); (case hh => exact zH); (case hs => exact zK); (conv => whnf))
    | ((refine ai.fn (bq ps room now xs.length xs hp hlen) [0,1,2,3] [] rfl rfl rfl rfl rfl ?ha ?hh ?hs ?_); (case ha => exact zA); (case hh => exact zH); (case hs => exact zK); (conv => whnf)) | ((refine ai.new (bq ps room now xs.length xs hp hlen) [0,1,2,3] [] rfl rfl rfl rfl rfl rfl ?ha ?hh ?hs ?_); (case ha => exact zA); (case hh => exact zH); (case hs => exact zK); (conv => whnf))
    | ((refine aB (fun hc => ?_) (fun hc => ?_)) <;> (try simp only [decide_eq_true_eq, decide_eq_false_iff_not, Q5, Q20, Bool.and_eq_false_iff, Bool.or_eq_false_iff, Bool.not_eq_true', Bool.not_eq_false', beq_iff_eq, bne_iff_ne, ne_eq, beq_eq_false_iff_ne, bne_eq_false_iff_eq, Bool.not_eq_true, Bool.not_eq_false] at hc) <;> (try (exfalso; omega)) <;> (conv => whnf))))
  · have hf : fst (fun c => aN ps c now) xs = xs.length := by
      by_cases h : fst (fun c => aN ps c now) xs < xs.length
      · rw [if_pos h] at hc; omega
      · omega
    have hst : stay ps now xs = xs := by
      have := kv (fun c => aN ps c now) xs xs.length (by omega)
      rw [List.take_length] at this; exact this
    rw [hst]
    refine ao.of [0, 1, 2, 3] rfl (fun i hi => by have : i = 0 ∨ i = 1 ∨ i = 2 ∨ i = 3 := (by omega); rcases this with h | h | h | h <;> subst h <;> rfl) rfl ?_ ?_
    · exact .rfl _
    · ((conv => whnf); repeat' (first | exact trivial | exact SV.Le.rfl _ | exact ⟨rfl, rfl, rfl⟩ | exact fun i hi => rfl | ((with_reducible refine And.intro ?_ ?_) <;> (conv => whnf))))
  · have hlt : fst (fun c => aN ps c now) xs < xs.length := by
      by_cases h : fst (fun c => aN ps c now) xs < xs.length
      · exact h
      · rw [if_neg h] at hc; exact absurd rfl hc
    rw [if_pos hlt]
    have h0 : stay ps now (xs.take (fst (fun c => aN ps c now) xs + 1)) = xs.take (fst (fun c => aN ps c now) xs) := by
      rw [bu hlt, stay, List.filter_append, kv (fun c => aN ps c now) xs _ (Q4 _)]
      have := nn (fun c => aN ps c now) xs hlt
      simp only [List.filter_cons, List.filter_nil]
      rw [if_neg (by simpa using this), List.append_nil]
    generalize fst (fun c => aN ps c now) xs = q at *
    refine Wp.loopP (ι := Nat × Nat × List Cel) (fun k => k.1 < k.2.1 ∧ k.2.1 ≤ xs.length ∧ k.2.2.length = xs.length ∧ k.2.2.take k.1 = stay ps now (xs.take k.2.1) ∧ ∀ j, k.2.1 ≤ j → k.2.2.getD j default = xs.getD j default) (fun k => ⟨⟨Try.f23.ntmps, 4⟩, 4, [(0, .sl 0 4 0 xs.length), (1, .fn (.func 24) [.ptr 2 0, .ptr 3 0]), (5, .i .i64 k.1), (6, .i .i64 k.2.1)], evH ps room now xs.length xs.length k.2.2⟩) (fun k => xs.length - k.2.1) (q, q + 1, xs) ⟨by simp, hlt, rfl, h0.symm, fun _ _ => rfl⟩ ?_ ?_
    · (refine Le.by [0,1,2,3] rfl rfl rfl rfl ?_ ?_ <;> (conv => whnf) <;> (repeat' (first | exact trivial | exact ab.rfl rfl | exact ab.ptr rfl | exact ab.sl rfl | ((with_reducible refine ab.fn ?_); (conv => whnf)) | ((refine ab.iref ?_); (conv => whnf)) | exact ⟨rfl, rfl, rfl⟩ | exact fun i hi => rfl | ((with_reducible refine And.intro ?_ ?_) <;> (conv => whnf)))))
    · rintro ⟨i, j, zs⟩ ⟨h1, h2, h3, h4, h5⟩
      dsimp only at h1 h2 h3 h4 h5 ⊢
      have hpz : ∀ m, j ≤ m → m < xs.length → 0 ≤ (zs.getD m default).pol ∧ (zs.getD m default).pol < ps.length := fun m hm hm2 => by rw [h5 m hm]; exact hp m hm2
      (repeat' (first
    | with_reducible refine Wp.seq ?_
    | with_reducible refine Wp.block ?_
    | ((with_reducible first | refine Wp.region ?_ | refine Wp.drawL ac ?_ | refine Wp.cond ?_ | refine Wp.ret ?_ | refine Wp.skip ?_ | refine Wp.exit ?_ | refine Go.mk ?_ | apply aA.of); conv => whnf)
    | with_reducible exact rfl
    | ((with_reducible refine Ov.ok zO ?_); conv => whnf)
    | (with_reducible refine Ov.sh1 (by with_unfolding_all exact rfl) ?_)
    | ((with_reducible refine Ov.quo (by omega) (by omega) (by omega) (fun _ _ => ?_)); conv => whnf)
    | ((with_reducible refine And.intro (show aj _ _ _ _ = true by kernel_rfl) ?_); conv => whnf)
    | ((with_reducible refine And.intro zC ?_); conv => whnf)
    | ((with_reducible refine And.intro ?hb ?_); (case hb => exact ae (zzb rfl) (by omega)); (conv => whnf))
    | ((refine af.a rfl rfl rfl rfl rfl rfl ?hb ?_); (case hb => exact zB); (conv => whnf))
    | ((refine af.b rfl rfl rfl rfl rfl rfl rfl rfl ?hb ?ho ?_); (case hb => exact zB); (case ho => omega); (conv => whnf))
    | ((refine af.c rfl rfl rfl rfl rfl ?hb ?_); (case hb => exact zB); (conv => whnf))
    | ((refine af.d rfl rfl rfl rfl rfl rfl ?hb ?ho ?_); (case hb => exact zB); (case ho => omega); (conv => whnf))
    | (with_reducible refine Or.inl ?_)
    | ((with_reducible refine nil_no (by omega) ?_); (conv => whnf))
    | ((with_reducible refine ag ?_ (fun hn0 => ?_)) <;> (conv => whnf))
    | ((refine aa.fn (bX ps room now xs.length xs.length zs (zs.getD (0 + (j : Int).toNat) default) (hpz _ (by omega) (by omega)).1 (hpz _ (by omega) (by omega)).2) [0,1,2,3] rfl rfl rfl rfl rfl ?ha ?hh ?_); (case ha => exact zA); (case hh => exact zH); (conv => whnf))
    | ((refine ai.fn (bX ps room now xs.length xs.length zs (zs.getD (0 + (j : Int).toNat) default) (hpz _ (by omega) (by omega)).1 (hpz _ (by omega) (by omega)).2) [0,1,2,3] [0,1,2,3] rfl rfl rfl rfl rfl ?ha ?hh ?hs ?_); (case ha => exact zA); (case hh => exact zH); (case hs => exact zK); (conv => whnf)) | ((refine ai.new (bX ps room now xs.length xs.length zs (zs.getD (0 + (j : Int).toNat) default) (hpz _ (by omega) (by omega)).1 (hpz _ (by omega) (by omega)).2) [0,1,2,3] [0,1,2,3] rfl rfl rfl rfl rfl rfl ?ha ?hh ?hs ?_); (case ha => exact zA); (case hh => exact zH); (case hs => exact zK); (conv => whnf))
    | ((refine ai.fn (bX ps room now xs.length xs.length zs (zs.getD (0 + (j : Int).toNat) default) (hpz _ (by omega) (by omega)).1 (hpz _ (by omega) (by omega)).2) [0,1,2,3] [] rfl rfl rfl rfl rfl ?ha ?hh ?hs ?_); (case ha => exact zA); (case hh => exact zH); (case hs => exact zK); (conv => whnf)) | ((refine ai.new (bX ps room now xs.length xs.length zs (zs.getD (0 + (j : Int).toNat) default) (hpz _ (by omega) (by omega)).1 (hpz _ (by omega) (by omega)).2) [0,1,2,3] [] rfl rfl rfl rfl rfl rfl ?ha ?hh ?hs ?_); (case ha => exact zA); (case hh => exact zH); (case hs => exact zK); (conv => whnf))
    | ((refine aB (fun hc => ?_) (fun hc => ?_)) <;> (try simp only [decide_eq_true_eq, decide_eq_false_iff_not, Q5, Q20, Bool.and_eq_false_iff, Bool.or_eq_false_iff, Bool.not_eq_true', Bool.not_eq_false', beq_iff_eq, bne_iff_ne, ne_eq, beq_eq_false_iff_ne, bne_eq_false_iff_eq, Bool.not_eq_true, Bool.not_eq_false] at hc) <;> (try (exfalso; omega)) <;> (conv => whnf))))
      all_goals simp only [Q13, Q19] at *
      · rename_i hj hc0
        have hx : aN ps (xs.getD j default) now = false := by rw [← h5 j (Q4 _)]; exact hc
        have hg : ∀ m, (zs.set i (zs.getD j default)).getD m default = if i = m then zs.getD j default else zs.getD m default := fun m => by
          simp only [Q1, List.getElem?_set]
          by_cases e : i = m
          · subst e; rw [if_pos rfl, if_pos (by omega), if_pos rfl]; rfl
          · rw [if_neg e, if_neg e]
        refine ⟨(i + 1, j + 1, zs.set i (zs.getD j default)), ⟨by dsimp only; omega, by dsimp only; omega, by simpa using h3, ?_, fun m hm => ?_⟩, by dsimp only; omega, ?_⟩
        · dsimp only
          rw [bu (by rw [List.length_set]; omega), List.take_set_of_le (Q4 _), h4, hg, if_pos rfl, bu (xs := xs) (by omega), stay, stay, List.filter_append, h5 j (Q4 _)]
          congr 1
          simp only [List.filter_cons, List.filter_nil]
          rw [if_pos (by rw [hx]; rfl)]
        · dsimp only at hm ⊢
          rw [hg, if_neg (by omega)]; exact h5 m (by omega)
        · (refine Le.by [0,1,2,3] rfl rfl rfl rfl ?_ ?_ <;> (conv => whnf) <;> (repeat' (first | exact trivial | exact ab.rfl rfl | exact ab.ptr rfl | exact ab.sl rfl | ((with_reducible refine ab.fn ?_); (conv => whnf)) | ((refine ab.iref ?_); (conv => whnf)) | exact ⟨rfl, rfl, rfl⟩ | exact fun i hi => rfl | ((with_reducible refine And.intro ?_ ?_) <;> (conv => whnf)))))
          intro m hm
          dsimp only
          rw [hg]
          by_cases e : i = m
          · subst e; simp; rfl
          · rw [if_neg e, if_neg (fun h => e (by omega))]
      · rename_i hj hc0
        have hx : aN ps (xs.getD j default) now = true := by rw [← h5 j (Q4 _)]; exact hc
        refine ⟨(i, j + 1, zs), ⟨by dsimp only; omega, by dsimp only; omega, h3, ?_, fun m hm => ?_⟩, by dsimp only; omega, ?_⟩
        · dsimp only
          rw [h4, bu (xs := xs) (by omega), stay, stay, List.filter_append]
          simp only [List.filter_cons, List.filter_nil]
          rw [if_neg (by rw [hx]; simp), List.append_nil]
        · exact h5 m (by dsimp only at hm; omega)
        · (refine Le.by [0,1,2,3] rfl rfl rfl rfl ?_ ?_ <;> (conv => whnf) <;> (repeat' (first | exact trivial | exact ab.rfl rfl | exact ab.ptr rfl | exact ab.sl rfl | ((with_reducible refine ab.fn ?_); (conv => whnf)) | ((refine ab.iref ?_); (conv => whnf)) | exact ⟨rfl, rfl, rfl⟩ | exact fun i hi => rfl | ((with_reducible refine And.intro ?_ ?_) <;> (conv => whnf)))))
      · have hj : j = xs.length := by omega
        subst hj
        rw [List.take_length] at h4
        have hl : (stay ps now xs).length = i := by rw [← h4, Q10, h3]; omega
        refine ao.of [0, 1, 2, 3] rfl (fun i hi => by have : i = 0 ∨ i = 1 ∨ i = 2 ∨ i = 3 := (by omega); rcases this with h | h | h | h <;> subst h <;> rfl) rfl ?_ ?_
        · exact .of_eq (by rw [hl]; simp)
        · ((conv => whnf); repeat' (first | exact trivial | exact SV.Le.rfl _ | exact ⟨rfl, rfl, rfl⟩ | exact fun i hi => rfl | ((with_reducible refine And.intro ?_ ?_) <;> (conv => whnf))))
          · exact hl.symm
          · intro m hm
            dsimp only
            rw [← h4]
            simp only [Q1, Q15]
            rw [if_pos (by omega)]
theorem du {ps : List Pol} (h : bA ps = 0) : ps.length ≤ 32 := by
  unfold bA at h
  split at h <;> omega
def newE (ps : List Pol) (cells : Int) : Int := if cells < 1 ∨ 4096 < cells then 1 else bA ps
theorem db (ps : List Pol) (cells : Int) (h : newE ps cells = 0) : Fun TC 12 0 [.d (ap 4 Pol.D ps), .i .i64 cells] [] 2 (.tup [.ptr 0 0, .i .i64 0]) (qg ps cells []) := by
  have hc1 : 1 ≤ cells ∧ cells ≤ 4096 := by
    unfold newE at h
    split at h
    · omega
    · omega
  have hp : bA ps = 0 := by
    unfold newE at h
    split at h
    · omega
    · exact h
  have hl := du hp
  refine Fun.mk' Try.func12 rfl rfl (zzb rfl) (by decide) ?_
  (repeat' (first
    | with_reducible refine Wp.seq ?_
    | with_reducible refine Wp.block ?_
    | ((with_reducible first | refine Wp.region ?_ | refine Wp.drawL ac ?_ | refine Wp.cond ?_ | refine Wp.ret ?_ | refine Wp.skip ?_ | refine Wp.exit ?_ | refine Go.mk ?_ | apply aA.of); conv => whnf)
    | with_reducible exact rfl
    | ((with_reducible refine Ov.ok zO ?_); conv => whnf)
    | (with_reducible refine Ov.sh1 (by with_unfolding_all exact rfl) ?_)
    | ((with_reducible refine Ov.quo (by omega) (by omega) (by omega) (fun _ _ => ?_)); conv => whnf)
    | ((with_reducible refine And.intro (show aj _ _ _ _ = true by kernel_rfl) ?_); conv => whnf)
    | ((with_reducible refine And.intro zC ?_); conv => whnf)
    | ((with_reducible refine And.intro ?hb ?_); (case hb => exact ae (zzb rfl) (by omega)); (conv => whnf))
    | ((refine af.a rfl rfl rfl rfl rfl rfl ?hb ?_); (case hb => exact zB); (conv => whnf))
    | ((refine af.b rfl rfl rfl rfl rfl rfl rfl rfl ?hb ?ho ?_); (case hb => exact zB); (case ho => omega); (conv => whnf))
    | ((refine af.c rfl rfl rfl rfl rfl ?hb ?_); (case hb => exact zB); (conv => whnf))
    | ((refine af.d rfl rfl rfl rfl rfl rfl ?hb ?ho ?_); (case hb => exact zB); (case ho => omega); (conv => whnf))
    | (with_reducible refine Or.inl ?_)
    | ((with_reducible refine nil_no (by omega) ?_); (conv => whnf))
    | ((with_reducible refine ag ?_ (fun hn0 => ?_)) <;> (conv => whnf))
    | ((with_reducible refine aa.pure (bn _) rfl rfl ?_); conv => whnf) | ((with_reducible refine ai.pure (bn _) rfl rfl ?_); conv => whnf)
    | ((with_reducible refine aa.pure (gq ps (by omega)) rfl rfl ?_); conv => whnf) | ((with_reducible refine ai.pure (gq ps (by omega)) rfl rfl ?_); conv => whnf)
    | ((refine aB (fun hc => ?_) (fun hc => ?_)) <;> (try simp only [decide_eq_true_eq, decide_eq_false_iff_not, Q5, Q20, Bool.and_eq_false_iff, Bool.or_eq_false_iff, Bool.not_eq_true', Bool.not_eq_false', beq_iff_eq, bne_iff_ne, ne_eq, beq_eq_false_iff_ne, bne_eq_false_iff_eq, Bool.not_eq_true, Bool.not_eq_false] at hc) <;> (try (exfalso; omega)) <;> (conv => whnf))))
  all_goals try (exfalso; omega)
  refine ao.virtC 0 2 78 4 (fun _ => []) (by decide) rfl rfl (by decide) ?_
  refine ao.of [0, 1] rfl (fun i hi => by omega) rfl ?_ ?_
  · exact .rfl _
  · ((conv => whnf); repeat' (first | exact trivial | exact SV.Le.rfl _ | exact ⟨rfl, rfl, rfl⟩ | exact fun i hi => rfl | ((with_reducible refine And.intro ?_ ?_) <;> (conv => whnf))))
    exact fun i hi => absurd hi (Nat.not_lt_zero _)
def qF (e : Int) : Rpl := ⟨e, false, 0, 0, 0, 0⟩
def dj (p : Pol) (c : Cel) (op n now serial : Int) : Rpl × Cel := if op = 1 then (gL p c now n, cR p c now n) else if op = 2 then (jO p c serial, iE p c serial) else (og p c n, iI p c n)
def mc (room : Int) (xs : List Cel) (pol : Int) (key : List Int) (z : Bool) (q : Rpl × Cel) : Rpl × List Cel :=
  if q.1.g = false ∨ z = true then (q.1, xs) else if bG xs (aw pol key) = false ∧ (xs.length : Int) = room then (qF 10, xs)
  else (q.1, cC xs (aV xs (aw pol key)) (bG xs (aw pol key)) q.2)
def doS (ps : List Pol) (room : Int) (xs : List Cel) (op pol : Int) (key : List Int) (n now serial : Int) : Rpl × List Cel :=
  if bJ ps op pol key n now serial ≠ 0 then (qF (bJ ps op pol key n now serial), xs)
  else if op = 5 then (⟨0, false, (xs.length : Int) - (stay ps now xs).length, 0, 0, now⟩, stay ps now xs)
  else if op = 6 then (qF 0, xs)
  else if op = 4 then (dV (ps.getD pol.toNat default) (bf xs pol key) now, xs)
  else mc room xs pol key (decide (op = 1 ∧ n = 0)) (dj (ps.getD pol.toNat default) (bf xs pol key) op n now serial)
structure jM (ps : List Pol) (xs : List Cel) : Prop where
  len : xs.length ≤ 1000000
  byt : ∀ k, IsB (xs.getD k default).key
  key : ∀ k, (xs.getD k default).key.length ≤ 255
  held : ∀ k, (xs.getD k default).held.length ≤ 64
  pol : ∀ k, k < xs.length → 0 ≤ (xs.getD k default).pol ∧ (xs.getD k default).pol < ps.length
theorem fP {ps : List Pol} {op pol : Int} {key : List Int} {n now serial : Int} (h : bJ ps op pol key n now serial = 0) : (0 ≤ now ∧ now ≤ 4611686018427387903) ∧ 1 ≤ op ∧ op ≤ 6 ∧ bA ps = 0 ∧ (op < 5 → key.length ≤ 255 ∧ 0 ≤ pol ∧ pol < ps.length) ∧ (op = 1 → 0 ≤ n ∧ n ≤ 4611686018427387903) ∧ (op = 2 → 1 ≤ serial ∧ serial ≤ 4611686018427387903) ∧
    (ja op ≠ 0 → (ps.getD pol.toNat default).kind = ja op) := by
  unfold bJ at h
  split at h
  · omega
  · rename_i h0
    unfold qc at h
    split at h
    · omega
    · rename_i h1
      split at h
      · omega
      · rename_i h2
        split at h
        · exact absurd h (by assumption)
        · rename_i h3
          split at h
          · omega
          · rename_i h4
            have t0 : bU now = true := by cases h : bU now with | true => rfl | false => exact absurd (Or.inl h) h0
            have t1 := (bv now).1 t0
            have h3 : bA ps = 0 := Classical.byContradiction h3
            refine ⟨t1, by omega, by omega, h3, fun h => by omega, fun h => ?_, fun h => by omega, fun h => ?_⟩
            · refine (bv n).1 ?_
              cases hq : bU n with | true => rfl | false => exact absurd (Or.inr (Or.inr ⟨h, hq⟩)) h1
            · refine Classical.byContradiction fun hne => h4 ⟨?_, Or.inr (Or.inr ⟨h, hne⟩)⟩
              unfold ja at h
              split at h
              · omega
              · split at h <;> omega
theorem mT {ps : List Pol} (h : bA ps = 0) : ∀ k, k < ps.length → kg (ps.getD k default).kind (ps.getD k default).T (ps.getD k default).tau (ps.getD k default).permits = true := by
  intro k hk
  unfold bA at h
  split at h
  · omega
  · split at h
    · rename_i h2
      rw [Q23] at h2
      refine h2 _ ?_
      rw [Q1, Q0 hk]; exact Q14 hk
    · omega
theorem g9 {room : Int} {xs : List Cel} {pol : Int} {key : List Int} {z : Bool} {q : Rpl × Cel} (h : q.1.g = false ∨ z = true) : mc room xs pol key z q = (q.1, xs) := by rw [mc, if_pos h]
theorem fq {room : Int} {xs : List Cel} {pol : Int} {key : List Int} {z : Bool} {q : Rpl × Cel} (h : q.1.g = true) (hz : z = false) (h2 : bG xs (aw pol key) = false) (h3 : (xs.length : Int) = room) : mc room xs pol key z q = (qF 10, xs) := by
  rw [mc, if_neg (by rw [h, hz]; simp), if_pos ⟨h2, h3⟩]
theorem dS {room : Int} {xs : List Cel} {pol : Int} {key : List Int} {z : Bool} {q : Rpl × Cel} (h : q.1.g = true) (hz : z = false) (h2 : ¬ (bG xs (aw pol key) = false ∧ (xs.length : Int) = room)) : mc room xs pol key z q = (q.1, cC xs (aV xs (aw pol key)) (bG xs (aw pol key)) q.2) := by
  rw [mc, if_neg (by rw [h, hz]; simp), if_neg h2]
theorem b8 {p : Pol} {c : Cel} {op n now serial : Int} (h : op = 1) : dj p c op n now serial = (gL p c now n, cR p c now n) := by rw [dj, if_pos h]
theorem bN {p : Pol} {c : Cel} {op n now serial : Int} (h : op = 2) : dj p c op n now serial = (jO p c serial, iE p c serial) := by rw [dj, if_neg (by omega), if_pos h]
theorem de {p : Pol} {c : Cel} {op n now serial : Int} (h : op = 3) : dj p c op n now serial = (og p c n, iI p c n) := by rw [dj, if_neg (by omega), if_neg (by omega)]
theorem dM {p : Pol} {c : Cel} {n : Int} : (iE p c n).key = c.key := by unfold iE; split <;> rfl
theorem dt {p : Pol} {c : Cel} {n : Int} : (iI p c n).key = c.key := by unfold iI; split <;> rfl
theorem mj {xs : List Cel} {p : Nat} {t : Bool} {c : Cel} (h : p ≤ xs.length) : (cC xs p t c).length ≤ xs.length + 1 := by
  unfold cC; split
  · simp
  · rw [aJ _ _ _ h]; omega
theorem nR (ps : List Pol) (room : Int) (xs : List Cel) (op pol : Int) (key : List Int) (n now serial : Int) (hb : jM ps xs) (hk : IsB key) :
    Fun TC 14 2 [.ptr 0 0, .agg [.i .u8 op, .i .i64 pol, .d (ap 1 (aQ .u8) key), .i .i64 n], .i .i64 now, .i .i64 serial] (qg ps room xs) 3 (doS ps room xs op pol key n now serial).1.S
      [(0, some (.cells [.d (ap 4 Pol.D ps), .i .i64 room, .sl 2 4 0 (doS ps room xs op pol key n now serial).2.length])), (1, none), (2, some (aI 78 4 Cel.D (doS ps room xs op pol key n now serial).2))] := by
  have hlen := hb.len
  have hpos := jZ xs (aw pol key)
  by_cases hE : bJ ps op pol key n now serial = 0
  · obtain ⟨hnow, hop1, hop2, hps, hkey, hn, hser, hkind⟩ := fP hE
    have hpl := du hps
    have hperm : op < 5 → (ps.getD pol.toNat default).kind = 2 → -4611686018427387904 ≤ (ps.getD pol.toNat default).permits ∧ (ps.getD pol.toNat default).permits ≤ 4611686018427387903 := fun h1 h2 => by
      have := mT hps pol.toNat (by have := hkey h1; omega)
      unfold kg at this
      rw [if_neg (by omega), if_pos h2] at this
      simp only [Q5, decide_eq_true_eq] at this
      omega
    have hheld : (bf xs pol key).held.length ≤ 64 := by
      unfold bf
      split
      · exact hb.held _
      · simp [aw]
    have hD : doS ps room xs op pol key n now serial = if op = 5 then (⟨0, false, (xs.length : Int) - (stay ps now xs).length, 0, 0, now⟩, stay ps now xs)
      else if op = 6 then (qF 0, xs)
      else if op = 4 then (dV (ps.getD pol.toNat default) (bf xs pol key) now, xs)
      else mc room xs pol key (decide (op = 1 ∧ n = 0)) (dj (ps.getD pol.toNat default) (bf xs pol key) op n now serial) := by
      unfold doS; rw [if_neg (fun h => h hE)]
    have hst : (stay ps now xs).length ≤ xs.length := List.length_filter_le _ _
    rw [hD]
    clear hD
    have hposl : bG xs (aw pol key) = true → aV xs (aw pol key) < xs.length := fun h => ((eA _ _).1 h).1
    have hkk : op < 5 → (bf xs pol key).key.length ≤ 16777216 := fun h => by
      unfold bf
      split
      · have := hb.key (aV xs (aw pol key)); omega
      · have := (hkey h).1; simp only [aw]; omega
    refine Fun.mk' Try.func14 rfl rfl (zzb rfl) (by decide) ?_
    (repeat' (first
    | with_reducible refine Wp.seq ?_
    | with_reducible refine Wp.block ?_
    | ((with_reducible first | refine Wp.region ?_ | refine Wp.drawL ac ?_ | refine Wp.cond ?_ | refine Wp.ret ?_ | refine Wp.skip ?_ | refine Wp.exit ?_ | refine Go.mk ?_ | apply aA.of); conv => whnf)
    | with_reducible exact rfl
    | ((with_reducible refine Ov.ok zO ?_); conv => whnf)
    | (with_reducible refine Ov.sh1 (by with_unfolding_all exact rfl) ?_)
    | ((with_reducible refine Ov.quo (by omega) (by omega) (by omega) (fun _ _ => ?_)); conv => whnf)
    | ((with_reducible refine And.intro (show aj _ _ _ _ = true by kernel_rfl) ?_); conv => whnf)
    | ((with_reducible refine And.intro zC ?_); conv => whnf)
    | ((with_reducible refine And.intro ?hb ?_); (case hb => exact ae (zzb rfl) (by omega)); (conv => whnf))
    | ((refine af.a rfl rfl rfl rfl rfl rfl ?hb ?_); (case hb => exact zB); (conv => whnf))
    | ((refine af.b rfl rfl rfl rfl rfl rfl rfl rfl ?hb ?ho ?_); (case hb => exact zB); (case ho => omega); (conv => whnf))
    | ((refine af.c rfl rfl rfl rfl rfl ?hb ?_); (case hb => exact zB); (conv => whnf))
    | ((refine af.d rfl rfl rfl rfl rfl rfl ?hb ?ho ?_); (case hb => exact zB); (case ho => omega); (conv => whnf))
    | (with_reducible refine Or.inl ?_)
    | ((with_reducible refine nil_no (by omega) ?_); (conv => whnf))
    | ((with_reducible refine ag ?_ (fun hn0 => ?_)) <;> (conv => whnf))
    | ((refine aa.fn (aM ps room xs op pol key n now serial) [0,1] rfl rfl rfl rfl rfl ?ha ?hh ?_); (case ha => exact zA); (case hh => exact zH); (conv => whnf))
    | ((refine ai.fn (aM ps room xs op pol key n now serial) [0,1] [0,1] rfl rfl rfl rfl rfl ?ha ?hh ?hs ?_); (case ha => exact zA); (case hh => exact zH); (case hs => exact zK); (conv => whnf)) | ((refine ai.new (aM ps room xs op pol key n now serial) [0,1] [0,1] rfl rfl rfl rfl rfl rfl ?ha ?hh ?hs ?_); (case ha => exact zA); (case hh => exact zH); (case hs => exact zK); (conv => whnf))
    | ((refine ai.fn (aM ps room xs op pol key n now serial) [0,1] [] rfl rfl rfl rfl rfl ?ha ?hh ?hs ?_); (case ha => exact zA); (case hh => exact zH); (case hs => exact zK); (conv => whnf)) | ((refine ai.new (aM ps room xs op pol key n now serial) [0,1] [] rfl rfl rfl rfl rfl rfl ?ha ?hh ?hs ?_); (case ha => exact zA); (case hh => exact zH); (case hs => exact zK); (conv => whnf))
    | ((refine aa.fn (bY ps room now xs hb.pol (by omega)) [1,0,2,4] rfl rfl rfl rfl rfl ?ha ?hh ?_); (case ha => exact zA); (case hh => exact zH); (conv => whnf))
    | ((refine ai.fn (bY ps room now xs hb.pol (by omega)) [1,0,2,4] [0,2,4] rfl rfl rfl rfl rfl ?ha ?hh ?hs ?_); (case ha => exact zA); (case hh => exact zH); (case hs => exact zK); (conv => whnf)) | ((refine ai.new (bY ps room now xs hb.pol (by omega)) [1,0,2,4] [0,2,4] rfl rfl rfl rfl rfl rfl ?ha ?hh ?hs ?_); (case ha => exact zA); (case hh => exact zH); (case hs => exact zK); (conv => whnf))
    | ((refine aa.fn (cP xs pol key (by omega) hb.byt hk) [1] rfl rfl rfl rfl rfl ?ha ?hh ?_); (case ha => exact zA); (case hh => exact zH); (conv => whnf))
    | ((refine ai.fn (cP xs pol key (by omega) hb.byt hk) [1] [1] rfl rfl rfl rfl rfl ?ha ?hh ?hs ?_); (case ha => exact zA); (case hh => exact zH); (case hs => exact zK); (conv => whnf)) | ((refine ai.new (cP xs pol key (by omega) hb.byt hk) [1] [1] rfl rfl rfl rfl rfl rfl ?ha ?hh ?hs ?_); (case ha => exact zA); (case hh => exact zH); (case hs => exact zK); (conv => whnf))
    | ((refine ai.fn (cP xs pol key (by omega) hb.byt hk) [1] [] rfl rfl rfl rfl rfl ?ha ?hh ?hs ?_); (case ha => exact zA); (case hh => exact zH); (case hs => exact zK); (conv => whnf)) | ((refine ai.new (cP xs pol key (by omega) hb.byt hk) [1] [] rfl rfl rfl rfl rfl rfl ?ha ?hh ?hs ?_); (case ha => exact zA); (case hh => exact zH); (case hs => exact zK); (conv => whnf))
    | ((with_reducible refine aa.pure (jJ _ _ _ (hperm (by omega)) (by omega)) rfl rfl ?_); conv => whnf) | ((with_reducible refine ai.pure (jJ _ _ _ (hperm (by omega)) (by omega)) rfl rfl ?_); conv => whnf)
    | ((with_reducible refine aa.pure (gJ _ _ _ _) rfl rfl ?_); conv => whnf) | ((with_reducible refine ai.pure (gJ _ _ _ _) rfl rfl ?_); conv => whnf)
    | ((with_reducible refine aa.pure (eI _ _ _) rfl rfl ?_); conv => whnf) | ((with_reducible refine ai.pure (eI _ _ _) rfl rfl ?_); conv => whnf)
    | ((with_reducible refine aa.pure (eH _ _ _) rfl rfl ?_); conv => whnf) | ((with_reducible refine ai.pure (eH _ _ _) rfl rfl ?_); conv => whnf)
    | ((refine aa.fn (aE xs (aV xs (aw pol key)) (bG xs (aw pol key)) (cR (ps.getD pol.toNat default) (bf xs pol key) now n) (by omega) (hkk (by omega)) hpos hposl) [1] rfl rfl rfl rfl rfl ?ha ?hh ?_); (case ha => exact zA); (case hh => exact zH); (conv => whnf))
    | ((refine ai.fn (aE xs (aV xs (aw pol key)) (bG xs (aw pol key)) (cR (ps.getD pol.toNat default) (bf xs pol key) now n) (by omega) (hkk (by omega)) hpos hposl) [1] [1] rfl rfl rfl rfl rfl ?ha ?hh ?hs ?_); (case ha => exact zA); (case hh => exact zH); (case hs => exact zK); (conv => whnf)) | ((refine ai.new (aE xs (aV xs (aw pol key)) (bG xs (aw pol key)) (cR (ps.getD pol.toNat default) (bf xs pol key) now n) (by omega) (hkk (by omega)) hpos hposl) [1] [1] rfl rfl rfl rfl rfl rfl ?ha ?hh ?hs ?_); (case ha => exact zA); (case hh => exact zH); (case hs => exact zK); (conv => whnf))
    | ((refine ai.fn (aE xs (aV xs (aw pol key)) (bG xs (aw pol key)) (cR (ps.getD pol.toNat default) (bf xs pol key) now n) (by omega) (hkk (by omega)) hpos hposl) [1] [] rfl rfl rfl rfl rfl ?ha ?hh ?hs ?_); (case ha => exact zA); (case hh => exact zH); (case hs => exact zK); (conv => whnf)) | ((refine ai.new (aE xs (aV xs (aw pol key)) (bG xs (aw pol key)) (cR (ps.getD pol.toNat default) (bf xs pol key) now n) (by omega) (hkk (by omega)) hpos hposl) [1] [] rfl rfl rfl rfl rfl rfl ?ha ?hh ?hs ?_); (case ha => exact zA); (case hh => exact zH); (case hs => exact zK); (conv => whnf))
    | ((refine aa.fn (aE xs (aV xs (aw pol key)) (bG xs (aw pol key)) (iE (ps.getD pol.toNat default) (bf xs pol key) serial) (by omega) (by rw [dM]; exact hkk (by omega)) hpos hposl) [1] rfl rfl rfl rfl rfl ?ha ?hh ?_); (case ha => exact zA); (case hh => exact zH); (conv => whnf))
    | ((refine ai.fn (aE xs (aV xs (aw pol key)) (bG xs (aw pol key)) (iE (ps.getD pol.toNat default) (bf xs pol key) serial) (by omega) (by rw [dM]; exact hkk (by omega)) hpos hposl) [1] [1] rfl rfl rfl rfl rfl ?ha ?hh ?hs ?_); (case ha => exact zA); (case hh => exact zH); (case hs => exact zK); (conv => whnf)) | ((refine ai.new (aE xs (aV xs (aw pol key)) (bG xs (aw pol key)) (iE (ps.getD pol.toNat default) (bf xs pol key) serial) (by omega) (by rw [dM]; exact hkk (by omega)) hpos hposl) [1] [1] rfl rfl rfl rfl rfl rfl ?ha ?hh ?hs ?_); (case ha => exact zA); (case hh => exact zH); (case hs => exact zK); (conv => whnf))
    | ((refine ai.fn (aE xs (aV xs (aw pol key)) (bG xs (aw pol key)) (iE (ps.getD pol.toNat default) (bf xs pol key) serial) (by omega) (by rw [dM]; exact hkk (by omega)) hpos hposl) [1] [] rfl rfl rfl rfl rfl ?ha ?hh ?hs ?_); (case ha => exact zA); (case hh => exact zH); (case hs => exact zK); (conv => whnf)) | ((refine ai.new (aE xs (aV xs (aw pol key)) (bG xs (aw pol key)) (iE (ps.getD pol.toNat default) (bf xs pol key) serial) (by omega) (by rw [dM]; exact hkk (by omega)) hpos hposl) [1] [] rfl rfl rfl rfl rfl rfl ?ha ?hh ?hs ?_); (case ha => exact zA); (case hh => exact zH); (case hs => exact zK); (conv => whnf))
    | ((refine aa.fn (aE xs (aV xs (aw pol key)) (bG xs (aw pol key)) (iI (ps.getD pol.toNat default) (bf xs pol key) n) (by omega) (by rw [dt]; exact hkk (by omega)) hpos hposl) [1] rfl rfl rfl rfl rfl ?ha ?hh ?_); (case ha => exact zA); (case hh => exact zH); (conv => whnf))
    | ((refine ai.fn (aE xs (aV xs (aw pol key)) (bG xs (aw pol key)) (iI (ps.getD pol.toNat default) (bf xs pol key) n) (by omega) (by rw [dt]; exact hkk (by omega)) hpos hposl) [1] [1] rfl rfl rfl rfl rfl ?ha ?hh ?hs ?_); (case ha => exact zA); (case hh => exact zH); (case hs => exact zK); (conv => whnf)) | ((refine ai.new (aE xs (aV xs (aw pol key)) (bG xs (aw pol key)) (iI (ps.getD pol.toNat default) (bf xs pol key) n) (by omega) (by rw [dt]; exact hkk (by omega)) hpos hposl) [1] [1] rfl rfl rfl rfl rfl rfl ?ha ?hh ?hs ?_); (case ha => exact zA); (case hh => exact zH); (case hs => exact zK); (conv => whnf))
    | ((refine ai.fn (aE xs (aV xs (aw pol key)) (bG xs (aw pol key)) (iI (ps.getD pol.toNat default) (bf xs pol key) n) (by omega) (by rw [dt]; exact hkk (by omega)) hpos hposl) [1] [] rfl rfl rfl rfl rfl ?ha ?hh ?hs ?_); (case ha => exact zA); (case hh => exact zH); (case hs => exact zK); (conv => whnf)) | ((refine ai.new (aE xs (aV xs (aw pol key)) (bG xs (aw pol key)) (iI (ps.getD pol.toNat default) (bf xs pol key) n) (by omega) (by rw [dt]; exact hkk (by omega)) hpos hposl) [1] [] rfl rfl rfl rfl rfl rfl ?ha ?hh ?hs ?_); (case ha => exact zA); (case hh => exact zH); (case hs => exact zK); (conv => whnf))
    | ((refine aB (fun hc => ?_) (fun hc => ?_)) <;> (try simp only [decide_eq_true_eq, decide_eq_false_iff_not, Q5, Q20, Bool.and_eq_false_iff, Bool.or_eq_false_iff, Bool.not_eq_true', Bool.not_eq_false', beq_iff_eq, bne_iff_ne, ne_eq, beq_eq_false_iff_ne, bne_eq_false_iff_eq, Bool.not_eq_true, Bool.not_eq_false] at hc) <;> (try (exfalso; omega)) <;> (conv => whnf))))
    · rw [if_pos (by assumption)]
      refine ao.mv2 rfl rfl ?_ ?_
      · conv => whnf
        exact .rfl _
      · ((conv => whnf); repeat' (first | exact trivial | exact SV.Le.rfl _ | exact ⟨rfl, rfl, rfl⟩ | exact fun i hi => rfl | ((with_reducible refine And.intro ?_ ?_) <;> (conv => whnf))))
    · rw [if_neg (by omega), if_pos (by assumption)]
      refine ao.mv2 rfl rfl ?_ ?_
      · conv => whnf
        exact .rfl _
      · ((conv => whnf); repeat' (first | exact trivial | exact SV.Le.rfl _ | exact ⟨rfl, rfl, rfl⟩ | exact fun i hi => rfl | ((with_reducible refine And.intro ?_ ?_) <;> (conv => whnf))))
    · rw [if_neg (by omega), if_neg (by omega), if_pos (by assumption)]
      refine ao.mv2 rfl rfl ?_ ?_
      · conv => whnf
        exact .rfl _
      · ((conv => whnf); repeat' (first | exact trivial | exact SV.Le.rfl _ | exact ⟨rfl, rfl, rfl⟩ | exact fun i hi => rfl | ((with_reducible refine And.intro ?_ ?_) <;> (conv => whnf))))
    · rw [if_neg (by omega), if_neg (by omega), if_neg (by omega), b8 (by assumption), g9 (Or.inl (by assumption))]
      refine ao.mv2 rfl rfl ?_ ?_
      · conv => whnf
        exact .rfl _
      · ((conv => whnf); repeat' (first | exact trivial | exact SV.Le.rfl _ | exact ⟨rfl, rfl, rfl⟩ | exact fun i hi => rfl | ((with_reducible refine And.intro ?_ ?_) <;> (conv => whnf))))
    · rw [if_neg (by omega), if_neg (by omega), if_neg (by omega), b8 (by assumption), g9 (Or.inr (decide_eq_true ⟨by assumption, by assumption⟩))]
      refine ao.mv2 rfl rfl ?_ ?_
      · conv => whnf
        exact .rfl _
      · ((conv => whnf); repeat' (first | exact trivial | exact SV.Le.rfl _ | exact ⟨rfl, rfl, rfl⟩ | exact fun i hi => rfl | ((with_reducible refine And.intro ?_ ?_) <;> (conv => whnf))))
    · rw [if_neg (by omega), if_neg (by omega), if_neg (by omega), b8 (by assumption), fq (by assumption) (decide_eq_false (by omega)) (by assumption) (by assumption)]
      refine ao.mv2 rfl rfl ?_ ?_
      · conv => whnf
        exact .rfl _
      · ((conv => whnf); repeat' (first | exact trivial | exact SV.Le.rfl _ | exact ⟨rfl, rfl, rfl⟩ | exact fun i hi => rfl | ((with_reducible refine And.intro ?_ ?_) <;> (conv => whnf))))
    · rw [if_neg (by omega), if_neg (by omega), if_neg (by omega), b8 (by assumption), dS (by assumption) (decide_eq_false (by omega)) (fun h => absurd h.2 (by assumption))]
      refine ao.of [0, 1, 56] rfl (fun i hi => by have : i = 0 ∨ i = 1 := (by omega); rcases this with h | h <;> subst h <;> rfl) rfl ?_ ?_
      · conv => whnf
        exact .rfl _
      · ((conv => whnf); repeat' (first | exact trivial | exact SV.Le.rfl _ | exact ⟨rfl, rfl, rfl⟩ | exact fun i hi => rfl | ((with_reducible refine And.intro ?_ ?_) <;> (conv => whnf))))
    · rw [if_neg (by omega), if_neg (by omega), if_neg (by omega), b8 (by assumption), dS (by assumption) (decide_eq_false (by omega)) (fun h => by rw [hc] at h; cases h.1)]
      refine ao.of [0, 1, 56] rfl (fun i hi => by have : i = 0 ∨ i = 1 := (by omega); rcases this with h | h <;> subst h <;> rfl) rfl ?_ ?_
      · conv => whnf
        exact .rfl _
      · ((conv => whnf); repeat' (first | exact trivial | exact SV.Le.rfl _ | exact ⟨rfl, rfl, rfl⟩ | exact fun i hi => rfl | ((with_reducible refine And.intro ?_ ?_) <;> (conv => whnf))))
    · rw [if_neg (by omega), if_neg (by omega), if_neg (by omega), bN (by assumption), g9 (Or.inl (by assumption))]
      refine ao.mv2 rfl rfl ?_ ?_
      · conv => whnf
        exact .rfl _
      · ((conv => whnf); repeat' (first | exact trivial | exact SV.Le.rfl _ | exact ⟨rfl, rfl, rfl⟩ | exact fun i hi => rfl | ((with_reducible refine And.intro ?_ ?_) <;> (conv => whnf))))
    · rw [if_neg (by omega), if_neg (by omega), if_neg (by omega), bN (by assumption), fq (by assumption) (decide_eq_false (by omega)) (by assumption) (by assumption)]
      refine ao.mv2 rfl rfl ?_ ?_
      · conv => whnf
        exact .rfl _
      · ((conv => whnf); repeat' (first | exact trivial | exact SV.Le.rfl _ | exact ⟨rfl, rfl, rfl⟩ | exact fun i hi => rfl | ((with_reducible refine And.intro ?_ ?_) <;> (conv => whnf))))
    · rw [if_neg (by omega), if_neg (by omega), if_neg (by omega), bN (by assumption), dS (by assumption) (decide_eq_false (by omega)) (fun h => absurd h.2 (by assumption))]
      refine ao.of [0, 1, 56] rfl (fun i hi => by have : i = 0 ∨ i = 1 := (by omega); rcases this with h | h <;> subst h <;> rfl) rfl ?_ ?_
      · conv => whnf
        exact .rfl _
      · ((conv => whnf); repeat' (first | exact trivial | exact SV.Le.rfl _ | exact ⟨rfl, rfl, rfl⟩ | exact fun i hi => rfl | ((with_reducible refine And.intro ?_ ?_) <;> (conv => whnf))))
    · rw [if_neg (by omega), if_neg (by omega), if_neg (by omega), bN (by assumption), dS (by assumption) (decide_eq_false (by omega)) (fun h => by rw [hc] at h; cases h.1)]
      refine ao.of [0, 1, 56] rfl (fun i hi => by have : i = 0 ∨ i = 1 := (by omega); rcases this with h | h <;> subst h <;> rfl) rfl ?_ ?_
      · conv => whnf
        exact .rfl _
      · ((conv => whnf); repeat' (first | exact trivial | exact SV.Le.rfl _ | exact ⟨rfl, rfl, rfl⟩ | exact fun i hi => rfl | ((with_reducible refine And.intro ?_ ?_) <;> (conv => whnf))))
    · rw [if_neg (by omega), if_neg (by omega), if_neg (by omega), de (by assumption), g9 (Or.inl (by assumption))]
      refine ao.mv2 rfl rfl ?_ ?_
      · conv => whnf
        exact .rfl _
      · ((conv => whnf); repeat' (first | exact trivial | exact SV.Le.rfl _ | exact ⟨rfl, rfl, rfl⟩ | exact fun i hi => rfl | ((with_reducible refine And.intro ?_ ?_) <;> (conv => whnf))))
    · rw [if_neg (by omega), if_neg (by omega), if_neg (by omega), de (by assumption), fq (by assumption) (decide_eq_false (by omega)) (by assumption) (by assumption)]
      refine ao.mv2 rfl rfl ?_ ?_
      · conv => whnf
        exact .rfl _
      · ((conv => whnf); repeat' (first | exact trivial | exact SV.Le.rfl _ | exact ⟨rfl, rfl, rfl⟩ | exact fun i hi => rfl | ((with_reducible refine And.intro ?_ ?_) <;> (conv => whnf))))
    · rw [if_neg (by omega), if_neg (by omega), if_neg (by omega), de (by assumption), dS (by assumption) (decide_eq_false (by omega)) (fun h => absurd h.2 (by assumption))]
      refine ao.of [0, 1, 56] rfl (fun i hi => by have : i = 0 ∨ i = 1 := (by omega); rcases this with h | h <;> subst h <;> rfl) rfl ?_ ?_
      · conv => whnf
        exact .rfl _
      · ((conv => whnf); repeat' (first | exact trivial | exact SV.Le.rfl _ | exact ⟨rfl, rfl, rfl⟩ | exact fun i hi => rfl | ((with_reducible refine And.intro ?_ ?_) <;> (conv => whnf))))
    · rw [if_neg (by omega), if_neg (by omega), if_neg (by omega), de (by assumption), dS (by assumption) (decide_eq_false (by omega)) (fun h => by rw [hc] at h; cases h.1)]
      refine ao.of [0, 1, 56] rfl (fun i hi => by have : i = 0 ∨ i = 1 := (by omega); rcases this with h | h <;> subst h <;> rfl) rfl ?_ ?_
      · conv => whnf
        exact .rfl _
      · ((conv => whnf); repeat' (first | exact trivial | exact SV.Le.rfl _ | exact ⟨rfl, rfl, rfl⟩ | exact fun i hi => rfl | ((with_reducible refine And.intro ?_ ?_) <;> (conv => whnf))))
  · have hD : doS ps room xs op pol key n now serial = (qF (bJ ps op pol key n now serial), xs) := by unfold doS; rw [if_pos hE]
    rw [hD]
    refine Fun.mk' Try.func14 rfl rfl (zzb rfl) (by decide) ?_
    (repeat' (first
    | with_reducible refine Wp.seq ?_
    | with_reducible refine Wp.block ?_
    | ((with_reducible first | refine Wp.region ?_ | refine Wp.drawL ac ?_ | refine Wp.cond ?_ | refine Wp.ret ?_ | refine Wp.skip ?_ | refine Wp.exit ?_ | refine Go.mk ?_ | apply aA.of); conv => whnf)
    | with_reducible exact rfl
    | ((with_reducible refine Ov.ok zO ?_); conv => whnf)
    | (with_reducible refine Ov.sh1 (by with_unfolding_all exact rfl) ?_)
    | ((with_reducible refine Ov.quo (by omega) (by omega) (by omega) (fun _ _ => ?_)); conv => whnf)
    | ((with_reducible refine And.intro (show aj _ _ _ _ = true by kernel_rfl) ?_); conv => whnf)
    | ((with_reducible refine And.intro zC ?_); conv => whnf)
    | ((with_reducible refine And.intro ?hb ?_); (case hb => exact ae (zzb rfl) (by omega)); (conv => whnf))
    | ((refine af.a rfl rfl rfl rfl rfl rfl ?hb ?_); (case hb => exact zB); (conv => whnf))
    | ((refine af.b rfl rfl rfl rfl rfl rfl rfl rfl ?hb ?ho ?_); (case hb => exact zB); (case ho => omega); (conv => whnf))
    | ((refine af.c rfl rfl rfl rfl rfl ?hb ?_); (case hb => exact zB); (conv => whnf))
    | ((refine af.d rfl rfl rfl rfl rfl rfl ?hb ?ho ?_); (case hb => exact zB); (case ho => omega); (conv => whnf))
    | (with_reducible refine Or.inl ?_)
    | ((with_reducible refine nil_no (by omega) ?_); (conv => whnf))
    | ((with_reducible refine ag ?_ (fun hn0 => ?_)) <;> (conv => whnf))
    | ((refine aa.fn (aM ps room xs op pol key n now serial) [0,1] rfl rfl rfl rfl rfl ?ha ?hh ?_); (case ha => exact zA); (case hh => exact zH); (conv => whnf))
    | ((refine ai.fn (aM ps room xs op pol key n now serial) [0,1] [0,1] rfl rfl rfl rfl rfl ?ha ?hh ?hs ?_); (case ha => exact zA); (case hh => exact zH); (case hs => exact zK); (conv => whnf)) | ((refine ai.new (aM ps room xs op pol key n now serial) [0,1] [0,1] rfl rfl rfl rfl rfl rfl ?ha ?hh ?hs ?_); (case ha => exact zA); (case hh => exact zH); (case hs => exact zK); (conv => whnf))
    | ((refine ai.fn (aM ps room xs op pol key n now serial) [0,1] [] rfl rfl rfl rfl rfl ?ha ?hh ?hs ?_); (case ha => exact zA); (case hh => exact zH); (case hs => exact zK); (conv => whnf)) | ((refine ai.new (aM ps room xs op pol key n now serial) [0,1] [] rfl rfl rfl rfl rfl rfl ?ha ?hh ?hs ?_); (case ha => exact zA); (case hh => exact zH); (case hs => exact zK); (conv => whnf))
    | exact absurd (by assumption) hE
    | ((refine aB (fun hc => ?_) (fun hc => ?_)) <;> (try simp only [decide_eq_true_eq, decide_eq_false_iff_not, Q5, Q20, Bool.and_eq_false_iff, Bool.or_eq_false_iff, Bool.not_eq_true', Bool.not_eq_false', beq_iff_eq, bne_iff_ne, ne_eq, beq_eq_false_iff_ne, bne_eq_false_iff_eq, Bool.not_eq_true, Bool.not_eq_false] at hc) <;> (try (exfalso; omega)) <;> (conv => whnf))))
    refine ao.mv2 rfl rfl ?_ ?_
    · conv => whnf
      exact .rfl _
    · ((conv => whnf); repeat' (first | exact trivial | exact SV.Le.rfl _ | exact ⟨rfl, rfl, rfl⟩ | exact fun i hi => rfl | ((with_reducible refine And.intro ?_ ?_) <;> (conv => whnf))))
def cs0 : List Cel := []
theorem ok_of {ps : List Pol} {xs : List Cel} (h : xs.length ≤ 1000000 ∧ ∀ c ∈ xs, (∀ b ∈ c.key, 0 ≤ b ∧ b ≤ 255) ∧ c.key.length ≤ 255 ∧ c.held.length ≤ 64 ∧ 0 ≤ c.pol ∧ c.pol < ps.length) : jM ps xs := by
  have key : ∀ k, k < xs.length → xs.getD k default ∈ xs := fun k hk => by
    rw [Q1, Q0 hk]; exact Q14 hk
  have dflt : ∀ k, ¬ k < xs.length → xs.getD k default = default := fun k hk => by
    rw [Q1, List.getElem?_eq_none (by omega)]; rfl
  refine ⟨h.1, fun k => ?_, fun k => ?_, fun k => ?_, fun k hk => ⟨(h.2 _ (key k hk)).2.2.2.1, (h.2 _ (key k hk)).2.2.2.2⟩⟩
  · by_cases hk : k < xs.length
    · exact (h.2 _ (key k hk)).1
    · rw [dflt k hk]; intro x hx; cases hx
  · by_cases hk : k < xs.length
    · exact (h.2 _ (key k hk)).2.1
    · rw [dflt k hk]; exact Nat.zero_le _
  · by_cases hk : k < xs.length
    · exact (h.2 _ (key k hk)).2.2.1
    · rw [dflt k hk]; exact Nat.zero_le _
section
inductive Sh where
  | int (k : IntKind)
  | bool
  | str
  | sl (z : Nat) (es : List Sh)
mutual
inductive mb : Sh → D → Prop
  | int {k : IntKind} {n : Int} (h : (Lit.int k n).wf = true) : mb (.int k) (.val (.int k n))
  | bool (b : Bool) : mb .bool (.val (.bool b))
  | str (s : ByteArray) (h : s.size ≤ maxLen) : mb .str (.val (.string s))
  | sl {z : Nat} {es : List Sh} {n : Nat} {f : Nat → List D} (hn : n ≤ maxLen) (h : ∀ i, i < n → eJ es (f i)) : mb (.sl z es) (.sl z n f)
inductive eJ : List Sh → List D → Prop
  | nil : eJ [] []
  | cons {s : Sh} {d : D} {ss : List Sh} {ds : List D} (h : mb s d) (t : eJ ss ds) : eJ (s :: ss) (d :: ds)
end
theorem eJ.len : ∀ {ss : List Sh} {ds : List D}, eJ ss ds → ds.length = ss.length
  | _, _, .nil => rfl
  | _, _, .cons _ t => by simp [eJ.len t]
theorem eJ.append : ∀ {ss ss' : List Sh} {ds ds' : List D}, eJ ss ds → eJ ss' ds' → eJ (ss ++ ss') (ds ++ ds')
  | _, _, _, _, .nil, h => h
  | _, _, _, _, .cons h t, h' => .cons h (t.append h')
def shF (r : TypeId → Option (List Sh)) (c : TypeId → Nat) : List Field → Nat → Option (List Sh)
  | [], _ => some []
  | f :: fs, o => if f.offset = o then (r f.type).bind fun a => if a.length = c f.type then (shF r c fs (o + a.length)).map (a ++ ·) else none else none
def shT (P : Program) : Nat → TypeId → Option (List Sh)
  | 0, _ => none
  | n + 1, t => match P.underlying t with
    | some .bool => some [.bool]
    | some (.int k) => some [.int k]
    | some .string => some [.str]
    | some (.slice e) => (shT P n e).bind fun es => if es.length = P.cellsOf e then some [.sl (P.cellsOf e) es] else none
    | some (.struct fs) => (shF (shT P n) P.cellsOf fs.toList 0).bind fun a => if a.length = P.cellsOf t then some a else none
    | _ => none
structure RLs (w : World) (ds : List D) (cs : List Value) : Prop where
  len : ds.length = cs.length
  out : ∀ (j : Nat) (d : D) (c : Value), ds[j]? = some d → cs[j]? = some c → RD w (fun b => b < w.heap.size) d c
theorem RLs.nil (w : World) : RLs w [] [] := ⟨rfl, fun j d c h => by simp at h⟩
theorem RLs.one {w : World} {d : D} {c : Value} (h : RD w (fun b => b < w.heap.size) d c) : RLs w [d] [c] := ⟨rfl, fun j d' c' hd hc => by
  cases j with
  | zero => simp at hd hc; subst hd hc; exact h
  | succ j => simp at hd⟩
theorem RLs.append {w : World} {ds ds' : List D} {cs cs' : List Value} (h : RLs w ds cs) (h' : RLs w ds' cs') : RLs w (ds ++ ds') (cs ++ cs') := by
  have hl := h.len
  refine ⟨by simp [h.len, h'.len], fun j d c hd hc => ?_⟩
  by_cases hj : j < ds.length
  · rw [Q11 hj] at hd
    rw [Q11 (by omega)] at hc
    exact h.out j d c hd hc
  · rw [Q12 (by omega)] at hd
    rw [Q12 (by omega)] at hc
    rw [← hl] at hc
    exact h'.out _ d c hd hc
section
variable {H : Type} {enc : TypeId × Value → H} {P : Program} {w : World} {spare : Nat → Bool}
theorem gA {r : TypeId → Option (List Sh)} {c : TypeId → Nat} {cs : List Value} : ∀ (fs : List Field) (o : Nat) (a : List Sh), shF r c fs o = some a → o + a.length ≤ cs.length →
    (∀ f ∈ fs, ∀ b, r f.type = some b → ∃ ds, eJ b ds ∧ RLs w ds ((cs.drop f.offset).take (c f.type))) → ∃ ds, eJ a ds ∧ RLs w ds ((cs.drop o).take a.length)
  | [], o, a, h, hl, hr => by
    simp only [shF, Option.some.injEq] at h; subst h
    exact ⟨[], .nil, by simpa using RLs.nil w⟩
  | f :: fs, o, a, h, hl, hr => by
    unfold shF at h
    split at h
    · rename_i ho
      obtain ⟨b, hb, h⟩ := Option.bind_eq_some_iff.1 h
      split at h
      · rename_i hc
        obtain ⟨a', ha', rfl⟩ := Option.map_eq_some_iff.1 h
        rw [Q9] at hl
        obtain ⟨ds, h1, h2⟩ := hr f (by simp) b hb
        obtain ⟨ds', h3, h4⟩ := gA fs _ a' ha' (by omega) (fun g hg => hr g (by simp [hg]))
        refine ⟨ds ++ ds', h1.append h3, ?_⟩
        rw [ho, ← hc] at h2
        have := h2.append h4
        rw [show (cs.drop o).take (b ++ a').length = (cs.drop o).take b.length ++ (cs.drop (o + b.length)).take a'.length by
          rw [Q9, List.take_add, List.drop_drop]]
        exact this
      · cases h
    · cases h
theorem iV {a : Addr} {v : Value} (h : w.cell? (a.add 0) = some v) : a.spot = none := by
  have := World.cell?_spot h
  unfold Addr.add at this
  simpa using this
theorem qr : ∀ (m fuel : Nat) (t : TypeId) (cs : List Value) (x : DataW H × List MemPlace) (shs : List Sh), DataW.trod enc P w 0 spare true fuel t cs = some x → shT P m t = some shs → ∃ ds, eJ shs ds ∧ RLs w ds cs
  | 0, fuel, t, cs, x, shs, h, hs => by simp [shT] at hs
  | m + 1, 0, t, cs, x, shs, h, hs => by simp [DataW.trod] at h
  | m + 1, fuel + 1, t, cs, x, shs, h, hs => by
    have ih := fun fuel t cs x shs h hs => qr m fuel t cs x shs h hs
    unfold shT at hs
    split at hs
    · rename_i hu
      cases hs
      unfold DataW.trod at h
      rw [hu] at h
      split at h <;> simp_all
      exact ⟨_, .cons (.bool _) .nil, .one (.val _ rfl)⟩
    · rename_i k hu
      cases hs
      unfold DataW.trod at h
      rw [hu] at h
      split at h <;> simp_all
      rename_i n _ _
      obtain ⟨⟨rfl, hw⟩, _⟩ := h
      exact ⟨_, .cons (.int hw) .nil, .one (.val _ rfl)⟩
    · rename_i hu
      cases hs
      unfold DataW.trod at h
      rw [hu] at h
      split at h <;> simp_all
      exact ⟨_, .cons (.str _ h.1) .nil, .one (.val _ rfl)⟩
    · rename_i e hu
      obtain ⟨es, he, hs⟩ := Option.bind_eq_some_iff.1 hs
      split at hs
      case isFalse => cases hs
      rename_i hz
      cases hs
      rcases Go.Deep.open_slice hu h with ⟨rfl, _⟩ | ⟨a, len, cap, mm, n, Dd, Pl, rfl, _, hl, hm, hmm, _, hel⟩
      · refine ⟨[.sl (P.cellsOf e) 0 fun _ => []], .cons (.sl (by unfold maxLen; omega) fun i hi => by omega) .nil, .one (.sl _ 0 _ none 0 (fun _ _ => undef) (Q4 _) (by unfold maxLen; omega) (fun i hi => by omega) (fun h => by omega) (fun i j hi => by omega))⟩
      · have hle : len ≤ mm := by rw [hmm]; split <;> omega
        have hx : ∀ i, ∃ p : List Value × List D, i < len → w.cells? 0 (a.add (i * P.cellsOf e)) (P.cellsOf e) = some p.1 ∧ eJ es p.2 ∧ RLs w p.2 p.1 := fun i => by
          by_cases hi : i < len
          · obtain ⟨cs', h1, h2⟩ := hel i (by omega)
            obtain ⟨ds, h3, h4⟩ := ih _ _ _ _ _ h2 he
            exact ⟨(cs', ds), fun _ => ⟨h1, h3, h4⟩⟩
          · exact ⟨([], []), fun h => absurd h hi⟩
        obtain ⟨F, hF⟩ := Classical.axiomOfChoice hx
        refine ⟨[.sl (P.cellsOf e) len fun i => (F i).2], .cons (.sl (by omega) fun i hi => (hF i hi).2.1) .nil, .one (.sl _ len _ (some a) cap (fun i j => ((F i).1[j]?).getD undef) hl hm (fun i hi => by rw [(hF i hi).2.1.len, hz]) (fun h0 => ?_) (fun i j hi hj => ?_))⟩
        · have h0' : 0 < len ∧ 0 < P.cellsOf e := ⟨Nat.pos_of_ne_zero fun h => by subst h; simp at h0, Nat.pos_of_ne_zero fun h => by rw [h] at h0; simp at h0⟩
          have hcell : ∀ i j, i < len → j < P.cellsOf e → ∃ v, (F i).1[j]? = some v ∧ w.cell? ((a.add (i * P.cellsOf e)).add j) = some v := fun i j hi hj => by
            obtain ⟨_, k2, k3⟩ := World.cells?_some (hF i hi).1
            have hj' : j < (F i).1.length := by omega
            refine ⟨_, Q0 hj', ?_⟩
            rw [k3 j hj, Q0 hj']
          obtain ⟨v0, _, c0⟩ := hcell 0 0 h0'.1 h0'.2
          rw [Nat.zero_mul] at c0
          have hsp : a.spot = none := iV (by
            have := World.cell?_spot c0
            have e1 : (a.add 0) = a := by unfold Addr.add; simp
            rw [e1] at c0; exact c0)
          obtain ⟨b, o, sp⟩ := a
          simp only at hsp
          subst hsp
          refine ⟨b, o, rfl, ?_, fun i j hi hj => ?_⟩
          · rw [Addr.add_mid, Addr.add_mid] at c0
            exact World.block_lt_of_cell? w _ c0
          · obtain ⟨v, k1, k2⟩ := hcell i j hi hj
            rw [Addr.add_mid, Addr.add_mid] at k2
            rw [k2, k1]; rfl
        · have h9 := (hF i hi).2.2
          have hl9 := h9.len
          have hj' : j < (F i).1.length := by rw [← hl9]; exact hj
          exact h9.out j _ _ (Q0 hj) (by rw [Q0 hj']; rfl)
    · rename_i fs hu
      obtain ⟨a, ha, hs⟩ := Option.bind_eq_some_iff.1 hs
      split at hs
      case isFalse => cases hs
      rename_i hz
      cases hs
      obtain ⟨xs, n, _, _, hl, _, hf⟩ := DataW.trod_struct hu h
      obtain ⟨ds, h1, h2⟩ := gA (w := w) (cs := cs) fs.toList 0 shs ha (by omega) (fun f hf' b hb => by
        obtain ⟨i, hi, e⟩ := List.getElem_of_mem hf'
        have hi' : i < fs.size := by simpa using hi
        have hfi : fs[i]? = some f := by rw [Array.getElem?_eq_getElem hi']; rw [← e]; simp
        have hq := hf i f hfi
        rename_i hxl _
        have hxi : ∃ y, xs[i]? = some y := ⟨xs[i]'(by omega), Q0 _⟩
        obtain ⟨y, hy⟩ := hxi
        rw [hy] at hq
        exact ih _ _ _ _ _ hq hb)
      refine ⟨ds, h1, ?_⟩
      rw [List.drop_zero, hz, ← hl, List.take_length] at h2
      exact h2
    · cases hs
end
end
end Go.Proofs.Ytpdhdnhkhidmpaa
