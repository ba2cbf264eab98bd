/- Lemmas of Bk11, Bk12, Bk13, Bk14, Bk15, Bk16, Bk17, Br1. No condition. -/
import Derived.Test.YtpdhdnhkhidmpaaMH6
import Derived.Deep.Slices
import Derived.ReadAgain
import Derived.ChangeSame
import Derived.ProofKit
import Derived.OpenShut
set_option linter.unusedVariables false
set_option linter.unusedSimpArgs false
set_option maxHeartbeats 80000000
set_option maxRecDepth 100000
namespace Go.Proofs.Ytpdhdnhkhidmpaa
open Go.RowKit
theorem bL (xs : List Int) (i : Nat) (x : Int) (hi : i ≤ xs.length) (hn : xs.length ≤ 16777215) :
    Fun TC 63 2 [.sl 0 1 0 xs.length, .i .i64 i, .sl 1 1 0 1] [(0, some (aK 2 1 (aW .i64) xs)), (1, some (aK 2 1 (aW .i64) [x]))] 3 (.sl 2 1 0 (ce xs i x).length) [(0, none), (1, none), (2, some (aK 2 1 (aW .i64) (ce xs i x)))] := by
  by_cases hlt : i < xs.length
  · refine om (C := TC) (z := 1) (enc := (aW .i64)) (zzb rfl) (.mk Try.func63 rfl rfl) (fun x => rfl) xs i x hlt ?_
    intro v vb cv vcur F vs w h1 h2 h3 h4 h5 h6 h7
    exact kl 0 v xs.length i vb cv vcur F vs w hi h1 (Nat.zero_le _) (by omega) h2 h3 h4 h5 h6 h7
  · obtain rfl : i = xs.length := by omega
    refine Fun.mk' Try.func63 rfl rfl (zzb rfl) (by decide) ?_
    (repeat' (first
    | with_reducible refine Wp.seq ?_
    | with_reducible refine Wp.block ?_
    | ((with_reducible first | refine Wp.region ?_ | refine Wp.drawL ac ?_ | refine Wp.cond ?_ | refine Wp.ret ?_ | refine Wp.skip ?_ | refine Wp.exit ?_ | refine Go.mk ?_ | apply ay.of); conv => whnf)
    | with_reducible exact rfl
    | ((with_reducible refine Ov.ok zO ?_); conv => whnf)
    | (with_reducible refine Ov.sh1 (by with_unfolding_all exact rfl) ?_)
    | ((with_reducible refine Ov.quo (by omega) (by omega) (by omega) (fun _ _ => ?_)); conv => whnf)
    | ((with_reducible refine And.intro (show aj _ _ _ _ = true by kernel_rfl) ?_); conv => whnf)
    | ((with_reducible refine And.intro zC ?_); conv => whnf)
    | ((with_reducible refine And.intro ?hb ?_); (case hb => exact ae (zzb rfl) (by omega)); (conv => whnf))
    | ((refine ag.a rfl rfl rfl rfl rfl rfl ?hb ?_); (case hb => exact zB); (conv => whnf))
    | ((refine ag.b rfl rfl rfl rfl rfl rfl rfl rfl ?hb ?ho ?_); (case hb => exact zB); (case ho => omega); (conv => whnf))
    | ((refine ag.c rfl rfl rfl rfl rfl ?hb ?_); (case hb => exact zB); (conv => whnf))
    | ((refine ag.d rfl rfl rfl rfl rfl rfl ?hb ?ho ?_); (case hb => exact zB); (case ho => omega); (conv => whnf))
    | (with_reducible refine Or.inl ?_)
    | ((with_reducible refine nil_no (by omega) ?_); (conv => whnf))
    | ((with_reducible refine ah ?_ (fun hn0 => ?_)) <;> (conv => whnf))
    
    | ((refine az (fun hc => ?_) (fun hc => ?_)) <;> (try simp only [decide_eq_true_eq, decide_eq_false_iff_not, Q5, Q20, Bool.and_eq_false_iff, Bool.or_eq_false_iff, Bool.not_eq_true', Bool.not_eq_false', beq_iff_eq, bne_iff_ne, ne_eq, beq_eq_false_iff_ne, bne_eq_false_iff_eq, Bool.not_eq_true, Bool.not_eq_false] at hc) <;> (try (exfalso; omega)) <;> (conv => whnf))))
    all_goals try exact absurd trivial hc
    refine al.of [0, 1, 2] rfl (fun i hi => by have : i = 0 ∨ i = 1 := (by omega); rcases this with h | h <;> subst h <;> rfl) rfl ?_ ?_
    · exact .of_eq (congrArg (SV.sl _ _ _) (aG xs _ x (by omega)).symm)
    · refine ⟨⟨⟨rfl, rfl, (aG xs _ x (by omega)).symm⟩, fun i hi => ?_⟩, trivial⟩
      dsimp only
      rw [dk xs _ x (by omega)]
      simp only [cC]
      by_cases h : i < xs.length
      · rw [if_pos h, if_pos h]
      · rw [if_neg h, if_neg h, if_pos (by omega), show i - xs.length = 0 by omega]; rfl
theorem bR (xs : List Cel) (i : Nat) (x : Cel) (hi : i ≤ xs.length) (hn : xs.length ≤ 16777215) :
    Fun TC 51 2 [.sl 0 4 0 xs.length, .i .i64 i, .sl 1 4 0 1] [(0, some (aK 78 4 Cel.D xs)), (1, some (aK 78 4 Cel.D [x]))] 3 (.sl 2 4 0 (ce xs i x).length) [(0, none), (1, none), (2, some (aK 78 4 Cel.D (ce xs i x)))] := by
  by_cases hlt : i < xs.length
  · refine om (C := TC) (z := 4) (enc := Cel.D) (zzb rfl) (.mk Try.func51 rfl rfl) (fun x => rfl) xs i x hlt ?_
    intro v vb cv vcur F vs w h1 h2 h3 h4 h5 h6 h7
    exact iV 0 v xs.length i vb cv vcur F vs w hi h1 (Nat.zero_le _) (by omega) h2 h3 h4 h5 h6 h7
  · obtain rfl : i = xs.length := by omega
    refine Fun.mk' Try.func51 rfl rfl (zzb rfl) (by decide) ?_
    (repeat' (first
    | with_reducible refine Wp.seq ?_
    | with_reducible refine Wp.block ?_
    | ((with_reducible first | refine Wp.region ?_ | refine Wp.drawL ac ?_ | refine Wp.cond ?_ | refine Wp.ret ?_ | refine Wp.skip ?_ | refine Wp.exit ?_ | refine Go.mk ?_ | apply ay.of); conv => whnf)
    | with_reducible exact rfl
    | ((with_reducible refine Ov.ok zO ?_); conv => whnf)
    | (with_reducible refine Ov.sh1 (by with_unfolding_all exact rfl) ?_)
    | ((with_reducible refine Ov.quo (by omega) (by omega) (by omega) (fun _ _ => ?_)); conv => whnf)
    | ((with_reducible refine And.intro (show aj _ _ _ _ = true by kernel_rfl) ?_); conv => whnf)
    | ((with_reducible refine And.intro zC ?_); conv => whnf)
    | ((with_reducible refine And.intro ?hb ?_); (case hb => exact ae (zzb rfl) (by omega)); (conv => whnf))
    | ((refine ag.a rfl rfl rfl rfl rfl rfl ?hb ?_); (case hb => exact zB); (conv => whnf))
    | ((refine ag.b rfl rfl rfl rfl rfl rfl rfl rfl ?hb ?ho ?_); (case hb => exact zB); (case ho => omega); (conv => whnf))
    | ((refine ag.c rfl rfl rfl rfl rfl ?hb ?_); (case hb => exact zB); (conv => whnf))
    | ((refine ag.d rfl rfl rfl rfl rfl rfl ?hb ?ho ?_); (case hb => exact zB); (case ho => omega); (conv => whnf))
    | (with_reducible refine Or.inl ?_)
    | ((with_reducible refine nil_no (by omega) ?_); (conv => whnf))
    | ((with_reducible refine ah ?_ (fun hn0 => ?_)) <;> (conv => whnf))
    
    | ((refine az (fun hc => ?_) (fun hc => ?_)) <;> (try simp only [decide_eq_true_eq, decide_eq_false_iff_not, Q5, Q20, Bool.and_eq_false_iff, Bool.or_eq_false_iff, Bool.not_eq_true', Bool.not_eq_false', beq_iff_eq, bne_iff_ne, ne_eq, beq_eq_false_iff_ne, bne_eq_false_iff_eq, Bool.not_eq_true, Bool.not_eq_false] at hc) <;> (try (exfalso; omega)) <;> (conv => whnf))))
    all_goals try exact absurd trivial hc
    refine al.of [0, 1, 2] rfl (fun i hi => by have : i = 0 ∨ i = 1 := (by omega); rcases this with h | h <;> subst h <;> rfl) rfl ?_ ?_
    · exact .of_eq (congrArg (SV.sl _ _ _) (aG xs _ x (by omega)).symm)
    · refine ⟨⟨⟨rfl, rfl, (aG xs _ x (by omega)).symm⟩, fun i hi => ?_⟩, trivial⟩
      dsimp only
      rw [dk xs _ x (by omega)]
      simp only [cC]
      by_cases h : i < xs.length
      · rw [if_pos h, if_pos h]
      · rw [if_neg h, if_neg h, if_pos (by omega), show i - xs.length = 0 by omega]; rfl
theorem bM (xs : List Int) (i : Nat) (hi : i < xs.length) (hn : xs.length ≤ 16777215) :
    Fun TC 65 1 [.sl 0 1 0 xs.length, .i .i64 i, .i .i64 ((i : Int) + 1)] [(0, some (aK 2 1 (aW .i64) xs))] 2 (.sl 1 1 0 (eM xs i).length) [(0, none), (1, some (aK 2 1 (aW .i64) (eM xs i)))] := by
  refine delFun (C := TC) (z := 1) (enc := aW .i64) (zzb rfl) (.mk Try.func65 rfl rfl) (fun x => rfl) xs i hi (by unfold maxLen; omega) ?_
  intro v F w h1 h2
  exact km 0 v xs.length i F w hi h1 (by omega) h2
theorem lJ (lt : Nat → Bool) : ∀ (q i j : Nat), i ≤ j → i ≤ bsF lt q i j ∧ bsF lt q i j ≤ j
  | 0, i, j, h => ⟨Q4 _, h⟩
  | q + 1, i, j, h => by
    unfold bsF
    split
    · split
      · have := lJ lt q ((i + j) / 2 + 1) j (by omega); omega
      · have := lJ lt q i ((i + j) / 2) (by omega); omega
    · omega
theorem bs_le (lt : Nat → Bool) (n : Nat) : bs lt n ≤ n := (lJ lt (n + 1) 0 n (Nat.zero_le _)).2
theorem iK (xs : List Int) (n : Int) : gy xs n ≤ xs.length := bs_le _ _
theorem kQ (xs : List Cel) (t : Cel) : aO xs t ≤ xs.length := bs_le _ _
theorem ll {xs : List Int} {n : Int} (h : kv xs n = true) : gy xs n < xs.length := by simp [kv] at h; exact h.1
theorem fP (p : Int) (xs : List Int) : fQ p xs = 0 → 1 ≤ p ∧ p ≤ 64 ∧ (xs.length : Int) ≤ p := by
  unfold fQ; split
  · intro _; omega
  · intro h; omega
def bJ (p : Int) (xs : List Int) (n : Int) : Int := if serB n = false then 1 else if fQ p xs ≠ 0 then fQ p xs else if kv xs n = true then 8 else if (xs.length : Int) = p then 9 else 0
def eX (p : Int) (xs : List Int) (n : Int) : List Int := if bJ p xs n = 0 then ce xs (gy xs n) n else []
def jR (p : Int) (xs : List Int) (n : Int) : Int := if bJ p xs n = 0 then p else 0
theorem gN (p : Int) (xs : List Int) (n : Int) : Pure TC 47 [.agg [.i .i64 p, .d (ao 1 (aW .i64) xs)], .i .i64 n] (.tup [.agg [.i .i64 (jR p xs n), .d (ao 1 (aW .i64) (eX p xs n))], .i .i64 (bJ p xs n)]) := by
  have hb := fP p xs
  have hp := iK xs n
  refine Pure.mk' Try.func47 rfl rfl (zzb rfl) ?_
  (repeat' (first
    | with_reducible refine Wp.seq ?_
    | with_reducible refine Wp.block ?_
    | ((with_reducible first | refine Wp.region ?_ | refine Wp.drawL ac ?_ | refine Wp.cond ?_ | refine Wp.ret ?_ | refine Wp.skip ?_ | refine Wp.exit ?_ | refine Go.mk ?_ | apply ay.of); conv => whnf)
    | with_reducible exact rfl
    | ((with_reducible refine Ov.ok zO ?_); conv => whnf)
    | (with_reducible refine Ov.sh1 (by with_unfolding_all exact rfl) ?_)
    | ((with_reducible refine Ov.quo (by omega) (by omega) (by omega) (fun _ _ => ?_)); conv => whnf)
    | ((with_reducible refine And.intro (show aj _ _ _ _ = true by kernel_rfl) ?_); conv => whnf)
    | ((with_reducible refine And.intro zC ?_); conv => whnf)
    | ((with_reducible refine And.intro ?hb ?_); (case hb => exact ae (zzb rfl) (by omega)); (conv => whnf))
    | ((refine ag.a rfl rfl rfl rfl rfl rfl ?hb ?_); (case hb => exact zB); (conv => whnf))
    | ((refine ag.b rfl rfl rfl rfl rfl rfl rfl rfl ?hb ?ho ?_); (case hb => exact zB); (case ho => omega); (conv => whnf))
    | ((refine ag.c rfl rfl rfl rfl rfl ?hb ?_); (case hb => exact zB); (conv => whnf))
    | ((refine ag.d rfl rfl rfl rfl rfl rfl ?hb ?ho ?_); (case hb => exact zB); (case ho => omega); (conv => whnf))
    | (with_reducible refine Or.inl ?_)
    | ((with_reducible refine nil_no (by omega) ?_); (conv => whnf))
    | ((with_reducible refine ah ?_ (fun hn0 => ?_)) <;> (conv => whnf))
    | ((with_reducible refine aa.pure (bV _) rfl rfl ?_); conv => whnf) | ((with_reducible refine ai.pure (bV _) rfl rfl ?_); conv => whnf)
    | ((with_reducible refine aa.pure (cu _ _) rfl rfl ?_); conv => whnf) | ((with_reducible refine ai.pure (cu _ _) rfl rfl ?_); conv => whnf)
    | ((with_reducible refine aa.pure (cr _ _ (by omega)) rfl rfl ?_); conv => whnf) | ((with_reducible refine ai.pure (cr _ _ (by omega)) rfl rfl ?_); conv => whnf)
    | ((refine aa.fn (bN xs (by omega)) [] rfl rfl rfl rfl rfl ?ha ?hh ?_); (case ha => exact zA); (case hh => exact zH); (conv => whnf))
    | ((refine ai.fn (bN xs (by omega)) [] [] rfl rfl rfl rfl rfl ?ha ?hh ?hs ?_); (case ha => exact zA); (case hh => exact zH); (case hs => exact zK); (conv => whnf)) | ((refine ai.new (bN xs (by omega)) [] [] rfl rfl rfl rfl rfl rfl ?ha ?hh ?hs ?_); (case ha => exact zA); (case hh => exact zH); (case hs => exact zK); (conv => whnf))
    | ((refine aa.fn (bL xs (gy xs n) n (by omega) (by omega)) [6,9] rfl rfl rfl rfl rfl ?ha ?hh ?_); (case ha => exact zA); (case hh => exact zH); (conv => whnf))
    | ((refine ai.fn (bL xs (gy xs n) n (by omega) (by omega)) [6,9] [6,9] rfl rfl rfl rfl rfl ?ha ?hh ?hs ?_); (case ha => exact zA); (case hh => exact zH); (case hs => exact zK); (conv => whnf)) | ((refine ai.new (bL xs (gy xs n) n (by omega) (by omega)) [6,9] [6,9] rfl rfl rfl rfl rfl rfl ?ha ?hh ?hs ?_); (case ha => exact zA); (case hh => exact zH); (case hs => exact zK); (conv => whnf))
    | ((refine ai.fn (bL xs (gy xs n) n (by omega) (by omega)) [6,9] [] rfl rfl rfl rfl rfl ?ha ?hh ?hs ?_); (case ha => exact zA); (case hh => exact zH); (case hs => exact zK); (conv => whnf)) | ((refine ai.new (bL xs (gy xs n) n (by omega) (by omega)) [6,9] [] rfl rfl rfl rfl rfl rfl ?ha ?hh ?hs ?_); (case ha => exact zA); (case hh => exact zH); (case hs => exact zK); (conv => whnf))
    | ((refine az (fun hc => ?_) (fun hc => ?_)) <;> (try simp only [decide_eq_true_eq, decide_eq_false_iff_not, Q5, Q20, Bool.and_eq_false_iff, Bool.or_eq_false_iff, Bool.not_eq_true', Bool.not_eq_false', beq_iff_eq, bne_iff_ne, ne_eq, beq_eq_false_iff_ne, bne_eq_false_iff_eq, Bool.not_eq_true, Bool.not_eq_false] at hc) <;> (try (exfalso; omega)) <;> (conv => whnf))))
  · have h : bJ p xs n = 1 := by simp [bJ, hc]
    rw [jR, eX, h]; exact .tup (.cons (.agg (.cons (.rfl _) (.cons .nil .nil))) (.cons (.rfl _) .nil))
  · rename_i h1
    have h : bJ p xs n = fQ p xs := by simp [bJ, hc, h1]
    rw [jR, eX, h, if_neg hc, if_neg hc]; exact .tup (.cons (.agg (.cons (.rfl _) (.cons .nil .nil))) (.cons (.rfl _) .nil))
  · rename_i h1 h2
    have h : bJ p xs n = 8 := by simp [bJ, hc, h1, h2]
    rw [jR, eX, h]; exact .tup (.cons (.agg (.cons (.rfl _) (.cons .nil .nil))) (.cons (.rfl _) .nil))
  · rename_i h1 h2 h3
    have h : bJ p xs n = 9 := by simp [bJ, hc, h1, h2, h3]
    rw [jR, eX, h]; exact .tup (.cons (.agg (.cons (.rfl _) (.cons .nil .nil))) (.cons (.rfl _) .nil))
  · rename_i h1 h2 h3
    have h : bJ p xs n = 0 := by simp [bJ, hc, h1, h2, h3]
    rw [jR, eX, h, if_pos rfl, if_pos rfl]
    exact .tup (.cons (.agg (.cons (.rfl _) (.cons (SV.Le.sl fun i hi => by rw [Q19]) .nil))) (.cons (.rfl _) .nil))
def cl (p : Int) (xs : List Int) (n : Int) : Int := if fQ p xs ≠ 0 then fQ p xs else if kv xs n = true then 0 else 11
def hY (p : Int) (xs : List Int) (n : Int) : List Int := if cl p xs n = 0 then eM xs (gy xs n) else []
def nC (p : Int) (xs : List Int) (n : Int) : Int := if cl p xs n = 0 then p else 0
theorem gO (p : Int) (xs : List Int) (n : Int) : Pure TC 48 [.agg [.i .i64 p, .d (ao 1 (aW .i64) xs)], .i .i64 n] (.tup [.agg [.i .i64 (nC p xs n), .d (ao 1 (aW .i64) (hY p xs n))], .i .i64 (cl p xs n)]) := by
  have hb := fP p xs
  have hp := iK xs n
  have hl := ll (xs := xs) (n := n)
  refine Pure.mk' Try.func48 rfl rfl (zzb rfl) ?_
  (repeat' (first
    | with_reducible refine Wp.seq ?_
    | with_reducible refine Wp.block ?_
    | ((with_reducible first | refine Wp.region ?_ | refine Wp.drawL ac ?_ | refine Wp.cond ?_ | refine Wp.ret ?_ | refine Wp.skip ?_ | refine Wp.exit ?_ | refine Go.mk ?_ | apply ay.of); conv => whnf)
    | with_reducible exact rfl
    | ((with_reducible refine Ov.ok zO ?_); conv => whnf)
    | (with_reducible refine Ov.sh1 (by with_unfolding_all exact rfl) ?_)
    | ((with_reducible refine Ov.quo (by omega) (by omega) (by omega) (fun _ _ => ?_)); conv => whnf)
    | ((with_reducible refine And.intro (show aj _ _ _ _ = true by kernel_rfl) ?_); conv => whnf)
    | ((with_reducible refine And.intro zC ?_); conv => whnf)
    | ((with_reducible refine And.intro ?hb ?_); (case hb => exact ae (zzb rfl) (by omega)); (conv => whnf))
    | ((refine ag.a rfl rfl rfl rfl rfl rfl ?hb ?_); (case hb => exact zB); (conv => whnf))
    | ((refine ag.b rfl rfl rfl rfl rfl rfl rfl rfl ?hb ?ho ?_); (case hb => exact zB); (case ho => omega); (conv => whnf))
    | ((refine ag.c rfl rfl rfl rfl rfl ?hb ?_); (case hb => exact zB); (conv => whnf))
    | ((refine ag.d rfl rfl rfl rfl rfl rfl ?hb ?ho ?_); (case hb => exact zB); (case ho => omega); (conv => whnf))
    | (with_reducible refine Or.inl ?_)
    | ((with_reducible refine nil_no (by omega) ?_); (conv => whnf))
    | ((with_reducible refine ah ?_ (fun hn0 => ?_)) <;> (conv => whnf))
    | ((with_reducible refine aa.pure (cu _ _) rfl rfl ?_); conv => whnf) | ((with_reducible refine ai.pure (cu _ _) rfl rfl ?_); conv => whnf)
    | ((with_reducible refine aa.pure (cr _ _ (by omega)) rfl rfl ?_); conv => whnf) | ((with_reducible refine ai.pure (cr _ _ (by omega)) rfl rfl ?_); conv => whnf)
    | ((refine aa.fn (bN xs (by omega)) [] rfl rfl rfl rfl rfl ?ha ?hh ?_); (case ha => exact zA); (case hh => exact zH); (conv => whnf))
    | ((refine ai.fn (bN xs (by omega)) [] [] rfl rfl rfl rfl rfl ?ha ?hh ?hs ?_); (case ha => exact zA); (case hh => exact zH); (case hs => exact zK); (conv => whnf)) | ((refine ai.new (bN xs (by omega)) [] [] rfl rfl rfl rfl rfl rfl ?ha ?hh ?hs ?_); (case ha => exact zA); (case hh => exact zH); (case hs => exact zK); (conv => whnf))
    | ((refine aa.fn (bM xs (gy xs n) (hl (by assumption)) (by omega)) [6] rfl rfl rfl rfl rfl ?ha ?hh ?_); (case ha => exact zA); (case hh => exact zH); (conv => whnf))
    | ((refine ai.fn (bM xs (gy xs n) (hl (by assumption)) (by omega)) [6] [6] rfl rfl rfl rfl rfl ?ha ?hh ?hs ?_); (case ha => exact zA); (case hh => exact zH); (case hs => exact zK); (conv => whnf)) | ((refine ai.new (bM xs (gy xs n) (hl (by assumption)) (by omega)) [6] [6] rfl rfl rfl rfl rfl rfl ?ha ?hh ?hs ?_); (case ha => exact zA); (case hh => exact zH); (case hs => exact zK); (conv => whnf))
    | ((refine ai.fn (bM xs (gy xs n) (hl (by assumption)) (by omega)) [6] [] rfl rfl rfl rfl rfl ?ha ?hh ?hs ?_); (case ha => exact zA); (case hh => exact zH); (case hs => exact zK); (conv => whnf)) | ((refine ai.new (bM xs (gy xs n) (hl (by assumption)) (by omega)) [6] [] rfl rfl rfl rfl rfl rfl ?ha ?hh ?hs ?_); (case ha => exact zA); (case hh => exact zH); (case hs => exact zK); (conv => whnf))
    | ((refine az (fun hc => ?_) (fun hc => ?_)) <;> (try simp only [decide_eq_true_eq, decide_eq_false_iff_not, Q5, Q20, Bool.and_eq_false_iff, Bool.or_eq_false_iff, Bool.not_eq_true', Bool.not_eq_false', beq_iff_eq, bne_iff_ne, ne_eq, beq_eq_false_iff_ne, bne_eq_false_iff_eq, Bool.not_eq_true, Bool.not_eq_false] at hc) <;> (try (exfalso; omega)) <;> (conv => whnf))))
  · have h : cl p xs n = fQ p xs := by simp [cl, hc]
    have h0 : ¬ cl p xs n = 0 := by rw [h]; exact hc
    rw [nC, hY, if_neg h0, if_neg h0, h]; exact .tup (.cons (.agg (.cons (.rfl _) (.cons .nil .nil))) (.cons (.rfl _) .nil))
  · rename_i h1
    have h : cl p xs n = 11 := by simp [cl, hc, h1]
    rw [nC, hY, h]; exact .tup (.cons (.agg (.cons (.rfl _) (.cons .nil .nil))) (.cons (.rfl _) .nil))
  · rename_i h1
    have h : cl p xs n = 0 := by simp [cl, hc, h1]
    rw [nC, hY, h, if_pos rfl, if_pos rfl]
    exact .tup (.cons (.agg (.cons (.rfl _) (.cons (SV.Le.sl fun i hi => by rw [Q19]) .nil))) (.cons (.rfl _) .nil))
def acqR (p : Pol) (c : Cel) (n : Int) : Rpl := if bJ p.permits c.held n = 0 then ⟨0, true, p.permits - (eX p.permits c.held n).length, 0, n, 0⟩ else ⟨bJ p.permits c.held n, false, 0, 0, 0, 0⟩
def jM (p : Pol) (c : Cel) (n : Int) : Cel := if bJ p.permits c.held n = 0 then ⟨c.pol, c.key, c.tat, eX p.permits c.held n⟩ else c
def relR (p : Pol) (c : Cel) (n : Int) : Rpl := if cl p.permits c.held n = 0 then ⟨0, true, p.permits - (hY p.permits c.held n).length, 0, 0, 0⟩ else ⟨cl p.permits c.held n, false, 0, 0, 0, 0⟩
def i7 (p : Pol) (c : Cel) (n : Int) : Cel := if cl p.permits c.held n = 0 then ⟨c.pol, c.key, c.tat, hY p.permits c.held n⟩ else c
theorem takeE_0 {p : Int} {xs : List Int} {n : Int} : bJ p xs n = 0 ↔ serB n = true ∧ fQ p xs = 0 ∧ kv xs n = false ∧ ¬ (xs.length : Int) = p := by
  unfold bJ
  by_cases h1 : serB n = false
  · rw [if_pos h1]; simp [h1]
  · rw [if_neg h1]
    by_cases h2 : fQ p xs = 0
    · rw [if_neg (fun h => h h2)]
      by_cases h3 : kv xs n = true
      · rw [if_pos h3]; simp [h3]
      · rw [if_neg h3]
        by_cases h4 : (xs.length : Int) = p
        · rw [if_pos h4]; simp [h4]
        · rw [if_neg h4]; simp_all
    · rw [if_pos h2]; simp [h2]
theorem giveE_0 {p : Int} {xs : List Int} {n : Int} : cl p xs n = 0 ↔ fQ p xs = 0 ∧ kv xs n = true := by
  unfold cl
  by_cases h2 : fQ p xs = 0
  · rw [if_neg (fun h => h h2)]
    by_cases h3 : kv xs n = true
    · rw [if_pos h3]; simp [h2, h3]
    · rw [if_neg h3]; simp [h3]
  · rw [if_pos h2]; simp [h2]
theorem i1 {p : Int} {xs : List Int} {n : Int} (h : bJ p xs n = 0) : 1 ≤ p ∧ p ≤ 64 ∧ ((eX p xs n).length : Int) ≤ p := by
  obtain ⟨_, h1, _, h2⟩ := takeE_0.1 h
  have hb := fP p xs h1
  rw [eX, if_pos h, aG _ _ _ (iK _ _)]
  omega
theorem jr {p : Int} {xs : List Int} {n : Int} (h : cl p xs n = 0) : 1 ≤ p ∧ p ≤ 64 ∧ ((hY p xs n).length : Int) < p := by
  obtain ⟨h1, hh⟩ := giveE_0.1 h
  have hb := fP p xs h1
  have := ll hh
  rw [hY, if_pos h, dJ _ _ this]
  omega
theorem dM (p : Pol) (c : Cel) (n : Int) : Pure TC 29 [p.S, c.S, .i .i64 n] (.tup [(acqR p c n).S, (jM p c n).S]) := by
  have hb := i1 (p := p.permits) (xs := c.held) (n := n)
  refine Pure.mk' Try.func29 rfl rfl (zzb rfl) ?_
  (repeat' (first
    | with_reducible refine Wp.seq ?_
    | with_reducible refine Wp.block ?_
    | ((with_reducible first | refine Wp.region ?_ | refine Wp.drawL ac ?_ | refine Wp.cond ?_ | refine Wp.ret ?_ | refine Wp.skip ?_ | refine Wp.exit ?_ | refine Go.mk ?_ | apply ay.of); conv => whnf)
    | with_reducible exact rfl
    | ((with_reducible refine Ov.ok zO ?_); conv => whnf)
    | (with_reducible refine Ov.sh1 (by with_unfolding_all exact rfl) ?_)
    | ((with_reducible refine Ov.quo (by omega) (by omega) (by omega) (fun _ _ => ?_)); conv => whnf)
    | ((with_reducible refine And.intro (show aj _ _ _ _ = true by kernel_rfl) ?_); conv => whnf)
    | ((with_reducible refine And.intro zC ?_); conv => whnf)
    | ((with_reducible refine And.intro ?hb ?_); (case hb => exact ae (zzb rfl) (by omega)); (conv => whnf))
    | ((refine ag.a rfl rfl rfl rfl rfl rfl ?hb ?_); (case hb => exact zB); (conv => whnf))
    | ((refine ag.b rfl rfl rfl rfl rfl rfl rfl rfl ?hb ?ho ?_); (case hb => exact zB); (case ho => omega); (conv => whnf))
    | ((refine ag.c rfl rfl rfl rfl rfl ?hb ?_); (case hb => exact zB); (conv => whnf))
    | ((refine ag.d rfl rfl rfl rfl rfl rfl ?hb ?ho ?_); (case hb => exact zB); (case ho => omega); (conv => whnf))
    | (with_reducible refine Or.inl ?_)
    | ((with_reducible refine nil_no (by omega) ?_); (conv => whnf))
    | ((with_reducible refine ah ?_ (fun hn0 => ?_)) <;> (conv => whnf))
    | ((with_reducible refine aa.pure (gN _ _ _) rfl rfl ?_); conv => whnf) | ((with_reducible refine ai.pure (gN _ _ _) rfl rfl ?_); conv => whnf)
    | ((refine az (fun hc => ?_) (fun hc => ?_)) <;> (try simp only [decide_eq_true_eq, decide_eq_false_iff_not, Q5, Q20, Bool.and_eq_false_iff, Bool.or_eq_false_iff, Bool.not_eq_true', Bool.not_eq_false', beq_iff_eq, bne_iff_ne, ne_eq, beq_eq_false_iff_ne, bne_eq_false_iff_eq, Bool.not_eq_true, Bool.not_eq_false] at hc) <;> (try (exfalso; omega)) <;> (conv => whnf))))
  · rw [acqR, jM, if_neg hc, if_neg hc]; exact .rfl _
  · rw [acqR, jM, if_pos hc, if_pos hc]; exact .rfl _
theorem dL (p : Pol) (c : Cel) (n : Int) : Pure TC 30 [p.S, c.S, .i .i64 n] (.tup [(relR p c n).S, (i7 p c n).S]) := by
  have hb := jr (p := p.permits) (xs := c.held) (n := n)
  refine Pure.mk' Try.func30 rfl rfl (zzb rfl) ?_
  (repeat' (first
    | with_reducible refine Wp.seq ?_
    | with_reducible refine Wp.block ?_
    | ((with_reducible first | refine Wp.region ?_ | refine Wp.drawL ac ?_ | refine Wp.cond ?_ | refine Wp.ret ?_ | refine Wp.skip ?_ | refine Wp.exit ?_ | refine Go.mk ?_ | apply ay.of); conv => whnf)
    | with_reducible exact rfl
    | ((with_reducible refine Ov.ok zO ?_); conv => whnf)
    | (with_reducible refine Ov.sh1 (by with_unfolding_all exact rfl) ?_)
    | ((with_reducible refine Ov.quo (by omega) (by omega) (by omega) (fun _ _ => ?_)); conv => whnf)
    | ((with_reducible refine And.intro (show aj _ _ _ _ = true by kernel_rfl) ?_); conv => whnf)
    | ((with_reducible refine And.intro zC ?_); conv => whnf)
    | ((with_reducible refine And.intro ?hb ?_); (case hb => exact ae (zzb rfl) (by omega)); (conv => whnf))
    | ((refine ag.a rfl rfl rfl rfl rfl rfl ?hb ?_); (case hb => exact zB); (conv => whnf))
    | ((refine ag.b rfl rfl rfl rfl rfl rfl rfl rfl ?hb ?ho ?_); (case hb => exact zB); (case ho => omega); (conv => whnf))
    | ((refine ag.c rfl rfl rfl rfl rfl ?hb ?_); (case hb => exact zB); (conv => whnf))
    | ((refine ag.d rfl rfl rfl rfl rfl rfl ?hb ?ho ?_); (case hb => exact zB); (case ho => omega); (conv => whnf))
    | (with_reducible refine Or.inl ?_)
    | ((with_reducible refine nil_no (by omega) ?_); (conv => whnf))
    | ((with_reducible refine ah ?_ (fun hn0 => ?_)) <;> (conv => whnf))
    | ((with_reducible refine aa.pure (gO _ _ _) rfl rfl ?_); conv => whnf) | ((with_reducible refine ai.pure (gO _ _ _) rfl rfl ?_); conv => whnf)
    | ((refine az (fun hc => ?_) (fun hc => ?_)) <;> (try simp only [decide_eq_true_eq, decide_eq_false_iff_not, Q5, Q20, Bool.and_eq_false_iff, Bool.or_eq_false_iff, Bool.not_eq_true', Bool.not_eq_false', beq_iff_eq, bne_iff_ne, ne_eq, beq_eq_false_iff_ne, bne_eq_false_iff_eq, Bool.not_eq_true, Bool.not_eq_false] at hc) <;> (try (exfalso; omega)) <;> (conv => whnf))))
  · rw [relR, i7, if_neg hc, if_neg hc]; exact .rfl _
  · rw [relR, i7, if_pos hc, if_pos hc]; exact .rfl _
theorem dK (xs : List Int) (hn : xs.length ≤ 16777216) : Pure TC 50 [.d (ao 1 (aW .u8) xs)] (.d (ao 1 (aW .u8) xs)) := by
  refine Pure.mk' Try.func50 rfl rfl (zzb rfl) ?_
  (repeat' (first
    | with_reducible refine Wp.seq ?_
    | with_reducible refine Wp.block ?_
    | ((with_reducible first | refine Wp.region ?_ | refine Wp.drawL ac ?_ | refine Wp.cond ?_ | refine Wp.ret ?_ | refine Wp.skip ?_ | refine Wp.exit ?_ | refine Go.mk ?_ | apply ay.of); conv => whnf)
    | with_reducible exact rfl
    | ((with_reducible refine Ov.ok zO ?_); conv => whnf)
    | (with_reducible refine Ov.sh1 (by with_unfolding_all exact rfl) ?_)
    | ((with_reducible refine Ov.quo (by omega) (by omega) (by omega) (fun _ _ => ?_)); conv => whnf)
    | ((with_reducible refine And.intro (show aj _ _ _ _ = true by kernel_rfl) ?_); conv => whnf)
    | ((with_reducible refine And.intro zC ?_); conv => whnf)
    | ((with_reducible refine And.intro ?hb ?_); (case hb => exact ae (zzb rfl) (by omega)); (conv => whnf))
    | ((refine ag.a rfl rfl rfl rfl rfl rfl ?hb ?_); (case hb => exact zB); (conv => whnf))
    | ((refine ag.b rfl rfl rfl rfl rfl rfl rfl rfl ?hb ?ho ?_); (case hb => exact zB); (case ho => omega); (conv => whnf))
    | ((refine ag.c rfl rfl rfl rfl rfl ?hb ?_); (case hb => exact zB); (conv => whnf))
    | ((refine ag.d rfl rfl rfl rfl rfl rfl ?hb ?ho ?_); (case hb => exact zB); (case ho => omega); (conv => whnf))
    | (with_reducible refine Or.inl ?_)
    | ((with_reducible refine nil_no (by omega) ?_); (conv => whnf))
    | ((with_reducible refine ah ?_ (fun hn0 => ?_)) <;> (conv => whnf))
    
    | ((refine az (fun hc => ?_) (fun hc => ?_)) <;> (try simp only [decide_eq_true_eq, decide_eq_false_iff_not, Q5, Q20, Bool.and_eq_false_iff, Bool.or_eq_false_iff, Bool.not_eq_true', Bool.not_eq_false', beq_iff_eq, bne_iff_ne, ne_eq, beq_eq_false_iff_ne, bne_eq_false_iff_eq, Bool.not_eq_true, Bool.not_eq_false] at hc) <;> (try (exfalso; omega)) <;> (conv => whnf))))
  · rw [Q19]; exact SV.Le.sl fun i hi => by simp [cC]
  · obtain rfl := List.eq_nil_of_length_eq_zero hn0
    exact SV.Le.nil
theorem fk (xs : List Pol) (hn : xs.length ≤ 16777216) : Pure TC 19 [.d (ao 4 Pol.D xs)] (.d (ao 4 Pol.D xs)) := by
  refine Pure.mk' Try.func19 rfl rfl (zzb rfl) ?_
  (repeat' (first
    | with_reducible refine Wp.seq ?_
    | with_reducible refine Wp.block ?_
    | ((with_reducible first | refine Wp.region ?_ | refine Wp.drawL ac ?_ | refine Wp.cond ?_ | refine Wp.ret ?_ | refine Wp.skip ?_ | refine Wp.exit ?_ | refine Go.mk ?_ | apply ay.of); conv => whnf)
    | with_reducible exact rfl
    | ((with_reducible refine Ov.ok zO ?_); conv => whnf)
    | (with_reducible refine Ov.sh1 (by with_unfolding_all exact rfl) ?_)
    | ((with_reducible refine Ov.quo (by omega) (by omega) (by omega) (fun _ _ => ?_)); conv => whnf)
    | ((with_reducible refine And.intro (show aj _ _ _ _ = true by kernel_rfl) ?_); conv => whnf)
    | ((with_reducible refine And.intro zC ?_); conv => whnf)
    | ((with_reducible refine And.intro ?hb ?_); (case hb => exact ae (zzb rfl) (by omega)); (conv => whnf))
    | ((refine ag.a rfl rfl rfl rfl rfl rfl ?hb ?_); (case hb => exact zB); (conv => whnf))
    | ((refine ag.b rfl rfl rfl rfl rfl rfl rfl rfl ?hb ?ho ?_); (case hb => exact zB); (case ho => omega); (conv => whnf))
    | ((refine ag.c rfl rfl rfl rfl rfl ?hb ?_); (case hb => exact zB); (conv => whnf))
    | ((refine ag.d rfl rfl rfl rfl rfl rfl ?hb ?ho ?_); (case hb => exact zB); (case ho => omega); (conv => whnf))
    | (with_reducible refine Or.inl ?_)
    | ((with_reducible refine nil_no (by omega) ?_); (conv => whnf))
    | ((with_reducible refine ah ?_ (fun hn0 => ?_)) <;> (conv => whnf))
    
    | ((refine az (fun hc => ?_) (fun hc => ?_)) <;> (try simp only [decide_eq_true_eq, decide_eq_false_iff_not, Q5, Q20, Bool.and_eq_false_iff, Bool.or_eq_false_iff, Bool.not_eq_true', Bool.not_eq_false', beq_iff_eq, bne_iff_ne, ne_eq, beq_eq_false_iff_ne, bne_eq_false_iff_eq, Bool.not_eq_true, Bool.not_eq_false] at hc) <;> (try (exfalso; omega)) <;> (conv => whnf))))
  · rw [Q19]; exact SV.Le.sl fun i hi => by simp [cC]
  · obtain rfl := List.eq_nil_of_length_eq_zero hn0
    exact SV.Le.nil
def cG (xs : List Cel) (at' : Nat) (there : Bool) (c : Cel) : List Cel := if there = true then xs.set at' c else ce xs at' c
theorem ax (xs : List Cel) (at' : Nat) (there : Bool) (c : Cel) (hn : xs.length ≤ 16777215) (hk : c.key.length ≤ 16777216) (h1 : at' ≤ xs.length) (h2 : there = true → at' < xs.length) :
    Fun TC 31 1 [.sl 0 4 0 xs.length, .i .i64 at', .b there, c.S] [(0, some (aK 78 4 Cel.D xs))] 2 (.sl 1 4 0 (cG xs at' there c).length) [(0, some (aK 78 4 Cel.D xs)), (1, some (aK 78 4 Cel.D (cG xs at' there c)))] := by
  cases there with
  | true =>
    have h2 := h2 rfl
    refine Fun.mk' Try.func31 rfl rfl (zzb rfl) (by decide) ?_
    (repeat' (first
    | with_reducible refine Wp.seq ?_
    | with_reducible refine Wp.block ?_
    | ((with_reducible first | refine Wp.region ?_ | refine Wp.drawL ac ?_ | refine Wp.cond ?_ | refine Wp.ret ?_ | refine Wp.skip ?_ | refine Wp.exit ?_ | refine Go.mk ?_ | apply ay.of); conv => whnf)
    | with_reducible exact rfl
    | ((with_reducible refine Ov.ok zO ?_); conv => whnf)
    | (with_reducible refine Ov.sh1 (by with_unfolding_all exact rfl) ?_)
    | ((with_reducible refine Ov.quo (by omega) (by omega) (by omega) (fun _ _ => ?_)); conv => whnf)
    | ((with_reducible refine And.intro (show aj _ _ _ _ = true by kernel_rfl) ?_); conv => whnf)
    | ((with_reducible refine And.intro zC ?_); conv => whnf)
    | ((with_reducible refine And.intro ?hb ?_); (case hb => exact ae (zzb rfl) (by omega)); (conv => whnf))
    | ((refine ag.a rfl rfl rfl rfl rfl rfl ?hb ?_); (case hb => exact zB); (conv => whnf))
    | ((refine ag.b rfl rfl rfl rfl rfl rfl rfl rfl ?hb ?ho ?_); (case hb => exact zB); (case ho => omega); (conv => whnf))
    | ((refine ag.c rfl rfl rfl rfl rfl ?hb ?_); (case hb => exact zB); (conv => whnf))
    | ((refine ag.d rfl rfl rfl rfl rfl rfl ?hb ?ho ?_); (case hb => exact zB); (case ho => omega); (conv => whnf))
    | (with_reducible refine Or.inl ?_)
    | ((with_reducible refine nil_no (by omega) ?_); (conv => whnf))
    | ((with_reducible refine ah ?_ (fun hn0 => ?_)) <;> (conv => whnf))
    | ((refine aa.fn (au xs (by omega)) [0] rfl rfl rfl rfl rfl ?ha ?hh ?_); (case ha => exact zA); (case hh => exact zH); (conv => whnf))
    | ((refine ai.fn (au xs (by omega)) [0] [0] rfl rfl rfl rfl rfl ?ha ?hh ?hs ?_); (case ha => exact zA); (case hh => exact zH); (case hs => exact zK); (conv => whnf)) | ((refine ai.new (au xs (by omega)) [0] [0] rfl rfl rfl rfl rfl rfl ?ha ?hh ?hs ?_); (case ha => exact zA); (case hh => exact zH); (case hs => exact zK); (conv => whnf))
    | ((refine ai.fn (au xs (by omega)) [0] [] rfl rfl rfl rfl rfl ?ha ?hh ?hs ?_); (case ha => exact zA); (case hh => exact zH); (case hs => exact zK); (conv => whnf)) | ((refine ai.new (au xs (by omega)) [0] [] rfl rfl rfl rfl rfl rfl ?ha ?hh ?hs ?_); (case ha => exact zA); (case hh => exact zH); (case hs => exact zK); (conv => whnf))
    | ((refine az (fun hc => ?_) (fun hc => ?_)) <;> (try simp only [decide_eq_true_eq, decide_eq_false_iff_not, Q5, Q20, Bool.and_eq_false_iff, Bool.or_eq_false_iff, Bool.not_eq_true', Bool.not_eq_false', beq_iff_eq, bne_iff_ne, ne_eq, beq_eq_false_iff_ne, bne_eq_false_iff_eq, Bool.not_eq_true, Bool.not_eq_false] at hc) <;> (try (exfalso; omega)) <;> (conv => whnf))))
    refine al.of [0, 2] rfl (fun i hi => by obtain rfl : i = 0 := (by omega); rfl) rfl ?_ ?_
    · exact .of_eq (congrArg (SV.sl _ _ _) (by simp [cG]))
    · refine ⟨⟨⟨rfl, rfl, rfl⟩, fun i hi => rfl⟩, ⟨⟨rfl, rfl, by simp [cG]⟩, fun i hi => ?_⟩, trivial⟩
      simp only [cG, if_true, Q1, List.getElem?_set]
      by_cases h : at' = i
      · subst h; simp [h2]; rfl
      · rw [if_neg h, if_neg (fun e => h (by omega))]
  | false =>
    refine Fun.mk' Try.func31 rfl rfl (zzb rfl) (by decide) ?_
    (repeat' (first
    | with_reducible refine Wp.seq ?_
    | with_reducible refine Wp.block ?_
    | ((with_reducible first | refine Wp.region ?_ | refine Wp.drawL ac ?_ | refine Wp.cond ?_ | refine Wp.ret ?_ | refine Wp.skip ?_ | refine Wp.exit ?_ | refine Go.mk ?_ | apply ay.of); conv => whnf)
    | with_reducible exact rfl
    | ((with_reducible refine Ov.ok zO ?_); conv => whnf)
    | (with_reducible refine Ov.sh1 (by with_unfolding_all exact rfl) ?_)
    | ((with_reducible refine Ov.quo (by omega) (by omega) (by omega) (fun _ _ => ?_)); conv => whnf)
    | ((with_reducible refine And.intro (show aj _ _ _ _ = true by kernel_rfl) ?_); conv => whnf)
    | ((with_reducible refine And.intro zC ?_); conv => whnf)
    | ((with_reducible refine And.intro ?hb ?_); (case hb => exact ae (zzb rfl) (by omega)); (conv => whnf))
    | ((refine ag.a rfl rfl rfl rfl rfl rfl ?hb ?_); (case hb => exact zB); (conv => whnf))
    | ((refine ag.b rfl rfl rfl rfl rfl rfl rfl rfl ?hb ?ho ?_); (case hb => exact zB); (case ho => omega); (conv => whnf))
    | ((refine ag.c rfl rfl rfl rfl rfl ?hb ?_); (case hb => exact zB); (conv => whnf))
    | ((refine ag.d rfl rfl rfl rfl rfl rfl ?hb ?ho ?_); (case hb => exact zB); (case ho => omega); (conv => whnf))
    | (with_reducible refine Or.inl ?_)
    | ((with_reducible refine nil_no (by omega) ?_); (conv => whnf))
    | ((with_reducible refine ah ?_ (fun hn0 => ?_)) <;> (conv => whnf))
    | ((refine aa.fn (au xs (by omega)) [0] rfl rfl rfl rfl rfl ?ha ?hh ?_); (case ha => exact zA); (case hh => exact zH); (conv => whnf))
    | ((refine ai.fn (au xs (by omega)) [0] [0] rfl rfl rfl rfl rfl ?ha ?hh ?hs ?_); (case ha => exact zA); (case hh => exact zH); (case hs => exact zK); (conv => whnf)) | ((refine ai.new (au xs (by omega)) [0] [0] rfl rfl rfl rfl rfl rfl ?ha ?hh ?hs ?_); (case ha => exact zA); (case hh => exact zH); (case hs => exact zK); (conv => whnf))
    | ((refine ai.fn (au xs (by omega)) [0] [] rfl rfl rfl rfl rfl ?ha ?hh ?hs ?_); (case ha => exact zA); (case hh => exact zH); (case hs => exact zK); (conv => whnf)) | ((refine ai.new (au xs (by omega)) [0] [] rfl rfl rfl rfl rfl rfl ?ha ?hh ?hs ?_); (case ha => exact zA); (case hh => exact zH); (case hs => exact zK); (conv => whnf))
    | ((with_reducible refine aa.pure (dK _ (by omega)) rfl rfl ?_); conv => whnf) | ((with_reducible refine ai.pure (dK _ (by omega)) rfl rfl ?_); conv => whnf)
    | ((refine aa.fn (bR xs at' c (by omega) (by omega)) [2,3] rfl rfl rfl rfl rfl ?ha ?hh ?_); (case ha => exact zA); (case hh => exact zH); (conv => whnf))
    | ((refine ai.fn (bR xs at' c (by omega) (by omega)) [2,3] [2,3] rfl rfl rfl rfl rfl ?ha ?hh ?hs ?_); (case ha => exact zA); (case hh => exact zH); (case hs => exact zK); (conv => whnf)) | ((refine ai.new (bR xs at' c (by omega) (by omega)) [2,3] [2,3] rfl rfl rfl rfl rfl rfl ?ha ?hh ?hs ?_); (case ha => exact zA); (case hh => exact zH); (case hs => exact zK); (conv => whnf))
    | ((refine ai.fn (bR xs at' c (by omega) (by omega)) [2,3] [] rfl rfl rfl rfl rfl ?ha ?hh ?hs ?_); (case ha => exact zA); (case hh => exact zH); (case hs => exact zK); (conv => whnf)) | ((refine ai.new (bR xs at' c (by omega) (by omega)) [2,3] [] rfl rfl rfl rfl rfl rfl ?ha ?hh ?hs ?_); (case ha => exact zA); (case hh => exact zH); (case hs => exact zK); (conv => whnf))
    | ((refine az (fun hc => ?_) (fun hc => ?_)) <;> (try simp only [decide_eq_true_eq, decide_eq_false_iff_not, Q5, Q20, Bool.and_eq_false_iff, Bool.or_eq_false_iff, Bool.not_eq_true', Bool.not_eq_false', beq_iff_eq, bne_iff_ne, ne_eq, beq_eq_false_iff_ne, bne_eq_false_iff_eq, Bool.not_eq_true, Bool.not_eq_false] at hc) <;> (try (exfalso; omega)) <;> (conv => whnf))))
    refine al.of [0, 4] rfl (fun i hi => by obtain rfl : i = 0 := (by omega); rfl) rfl ?_ ?_
    · exact .rfl _
    · exact ⟨⟨⟨rfl, rfl, rfl⟩, fun i hi => rfl⟩, ⟨⟨rfl, rfl, rfl⟩, fun i hi => rfl⟩, trivial⟩
@[reducible] def evH (ps : List Pol) (room now : Int) (k n : Nat) (xs : List Cel) : List (Nat × Option Blk) :=
  [(0, some (.row 78 4 n fun i => (xs.getD i default).D)), (1, some (.cells [.d (ao 4 Pol.D ps), .i .i64 room, .sl 0 4 0 k])), (2, some (.cells [.ptr 1 0])), (3, some (.cells [.i .i64 now]))]
theorem bF (ps : List Pol) (room now : Int) (k n : Nat) (xs : List Cel) (c : Cel) (h0 : 0 ≤ c.pol) (h1 : c.pol < ps.length) :
    Fun TC 24 4 [c.S, .ptr 2 0, .ptr 3 0] (evH ps room now k n xs) 4 (.b (bk ps c now)) (evH ps room now k n xs) := by
  refine Fun.mk' Try.func24 rfl rfl (zzb rfl) (by decide) ?_
  (repeat' (first
    | with_reducible refine Wp.seq ?_
    | with_reducible refine Wp.block ?_
    | ((with_reducible first | refine Wp.region ?_ | refine Wp.drawL ac ?_ | refine Wp.cond ?_ | refine Wp.ret ?_ | refine Wp.skip ?_ | refine Wp.exit ?_ | refine Go.mk ?_ | apply ay.of); conv => whnf)
    | with_reducible exact rfl
    | ((with_reducible refine Ov.ok zO ?_); conv => whnf)
    | (with_reducible refine Ov.sh1 (by with_unfolding_all exact rfl) ?_)
    | ((with_reducible refine Ov.quo (by omega) (by omega) (by omega) (fun _ _ => ?_)); conv => whnf)
    | ((with_reducible refine And.intro (show aj _ _ _ _ = true by kernel_rfl) ?_); conv => whnf)
    | ((with_reducible refine And.intro zC ?_); conv => whnf)
    | ((with_reducible refine And.intro ?hb ?_); (case hb => exact ae (zzb rfl) (by omega)); (conv => whnf))
    | ((refine ag.a rfl rfl rfl rfl rfl rfl ?hb ?_); (case hb => exact zB); (conv => whnf))
    | ((refine ag.b rfl rfl rfl rfl rfl rfl rfl rfl ?hb ?ho ?_); (case hb => exact zB); (case ho => omega); (conv => whnf))
    | ((refine ag.c rfl rfl rfl rfl rfl ?hb ?_); (case hb => exact zB); (conv => whnf))
    | ((refine ag.d rfl rfl rfl rfl rfl rfl ?hb ?ho ?_); (case hb => exact zB); (case ho => omega); (conv => whnf))
    | (with_reducible refine Or.inl ?_)
    | ((with_reducible refine nil_no (by omega) ?_); (conv => whnf))
    | ((with_reducible refine ah ?_ (fun hn0 => ?_)) <;> (conv => whnf))
    | ((with_reducible refine aa.pure (iC ps c now h0 h1) rfl rfl ?_); conv => whnf) | ((with_reducible refine ai.pure (iC ps c now h0 h1) rfl rfl ?_); conv => whnf)
    | ((refine az (fun hc => ?_) (fun hc => ?_)) <;> (try simp only [decide_eq_true_eq, decide_eq_false_iff_not, Q5, Q20, Bool.and_eq_false_iff, Bool.or_eq_false_iff, Bool.not_eq_true', Bool.not_eq_false', beq_iff_eq, bne_iff_ne, ne_eq, beq_eq_false_iff_ne, bne_eq_false_iff_eq, Bool.not_eq_true, Bool.not_eq_false] at hc) <;> (try (exfalso; omega)) <;> (conv => whnf))))
  refine al.of [0, 1, 2, 3] rfl (fun i hi => by have : i = 0 ∨ i = 1 ∨ i = 2 ∨ i = 3 := (by omega); rcases this with h | h | h | h <;> subst h <;> rfl) rfl ?_ ?_
  · exact .rfl _
  · ((conv => whnf); repeat' (first | exact trivial | exact SV.Le.rfl _ | exact ⟨rfl, rfl, rfl⟩ | exact fun i hi => rfl | ((with_reducible refine And.intro ?_ ?_) <;> (conv => whnf))))
def fst (p : Cel → Bool) : List Cel → Nat
  | [] => 0
  | c :: r => if p c = true then 0 else fst p r + 1
theorem ov (p : Cel → Bool) : ∀ xs : List Cel, fst p xs ≤ xs.length
  | [] => Q4 _
  | c :: r => by unfold fst; split <;> simp [ov p r]
theorem gi (p : Cel → Bool) : ∀ (xs : List Cel) (k : Nat), k ≤ xs.length → (∀ j, j < k → p (xs.getD j default) = false) → fst p xs = k + fst p (xs.drop k)
  | xs, 0, _, _ => by simp
  | [], k + 1, h, _ => by simp at h
  | c :: r, k + 1, h, hp => by
    have h0 := hp 0 (by omega)
    rw [fst, if_neg (by simpa using h0), List.drop_succ_cons, gi p r k (by simpa using h) (fun j hj => by simpa using hp (j + 1) (by omega))]
    omega
theorem js (p : Cel → Bool) : ∀ (xs : List Cel) (j : Nat), j < fst p xs → p (xs.getD j default) = false
  | [], j, h => by simp [fst] at h
  | c :: r, j, h => by
    unfold fst at h
    split at h
    · omega
    · cases j with
      | zero => simpa using (by assumption : ¬ p c = true)
      | succ j => simpa using js p r j (by omega)
theorem lp (p : Cel → Bool) : ∀ (xs : List Cel), fst p xs < xs.length → p (xs.getD (fst p xs) default) = true
  | [], h => by simp at h
  | c :: r, h => by
    unfold fst at h ⊢
    split
    · simpa
    · rename_i hc; rw [if_neg hc] at h; simpa using lp p r (by simpa using h)
theorem iZ (p : Cel → Bool) (xs : List Cel) : ∀ k, k ≤ fst p xs → (xs.take k).filter (fun c => !p c) = xs.take k := by
  intro k hk
  rw [List.filter_eq_self]
  intro c hc
  obtain ⟨j, hj, rfl⟩ := List.getElem_of_mem hc
  simp at hj
  have := js p xs j (by omega)
  rw [Q1, Q0 (by omega)] at this
  simpa using this
theorem a9 (ps : List Pol) (room now : Int) (k : Nat) (xs : List Cel) (hp : ∀ j, j < xs.length → 0 ≤ (xs.getD j default).pol ∧ (xs.getD j default).pol < ps.length) (hlen : xs.length ≤ 4611686018427387903) :
    Fun TC 41 4 [.sl 0 4 0 xs.length, .fn (.func 24) [.ptr 2 0, .ptr 3 0]] (evH ps room now k xs.length xs) 4 (.i .i64 (if fst (fun c => bk ps c now) xs < xs.length then fst (fun c => bk ps c now) xs else -1)) (evH ps room now k xs.length xs) := by
  refine Fun.mk' Try.func41 rfl rfl (zzb rfl) (by decide) ?_
  (repeat' (first
    | with_reducible refine Wp.seq ?_
    | with_reducible refine Wp.block ?_
    | ((with_reducible first | refine Wp.region ?_ | refine Wp.drawL ac ?_ | refine Wp.cond ?_ | refine Wp.ret ?_ | refine Wp.skip ?_ | refine Wp.exit ?_ | refine Go.mk ?_ | apply ay.of); conv => whnf)
    | with_reducible exact rfl
    | ((with_reducible refine Ov.ok zO ?_); conv => whnf)
    | (with_reducible refine Ov.sh1 (by with_unfolding_all exact rfl) ?_)
    | ((with_reducible refine Ov.quo (by omega) (by omega) (by omega) (fun _ _ => ?_)); conv => whnf)
    | ((with_reducible refine And.intro (show aj _ _ _ _ = true by kernel_rfl) ?_); conv => whnf)
    | ((with_reducible refine And.intro zC ?_); conv => whnf)
    | ((with_reducible refine And.intro ?hb ?_); (case hb => exact ae (zzb rfl) (by omega)); (conv => whnf))
    | ((refine ag.a rfl rfl rfl rfl rfl rfl ?hb ?_); (case hb => exact zB); (conv => whnf))
    | ((refine ag.b rfl rfl rfl rfl rfl rfl rfl rfl ?hb ?ho ?_); (case hb => exact zB); (case ho => omega); (conv => whnf))
    | ((refine ag.c rfl rfl rfl rfl rfl ?hb ?_); (case hb => exact zB); (conv => whnf))
    | ((refine ag.d rfl rfl rfl rfl rfl rfl ?hb ?ho ?_); (case hb => exact zB); (case ho => omega); (conv => whnf))
    | (with_reducible refine Or.inl ?_)
    | ((with_reducible refine nil_no (by omega) ?_); (conv => whnf))
    | ((with_reducible refine ah ?_ (fun hn0 => ?_)) <;> (conv => whnf))
    
    | ((refine az (fun hc => ?_) (fun hc => ?_)) <;> (try simp only [decide_eq_true_eq, decide_eq_false_iff_not, Q5, Q20, Bool.and_eq_false_iff, Bool.or_eq_false_iff, Bool.not_eq_true', Bool.not_eq_false', beq_iff_eq, bne_iff_ne, ne_eq, beq_eq_false_iff_ne, bne_eq_false_iff_eq, Bool.not_eq_true, Bool.not_eq_false] at hc) <;> (try (exfalso; omega)) <;> (conv => whnf))))
  refine Wp.loopP (ι := Nat) (fun i => i ≤ xs.length ∧ ∀ j, j < i → bk ps (xs.getD j default) now = false) (fun i => ⟨⟨Try.f41.ntmps, 4⟩, 4, [(0, .sl 0 4 0 xs.length), (1, .fn (.func 24) [.ptr 2 0, .ptr 3 0]), (7, .i .i64 xs.length), (8, .i .i64 i)], evH ps room now k xs.length xs⟩) (fun i => xs.length - i) 0 ⟨by simp, by simp⟩ ?_ ?_
  · (refine Le.by [0,1,2,3] rfl rfl rfl rfl ?_ ?_ <;> (conv => whnf) <;> (repeat' (first | exact trivial | exact ab.rfl rfl | exact ab.ptr rfl | exact ab.sl rfl | ((with_reducible refine ab.fn ?_); (conv => whnf)) | ((refine ab.iref ?_); (conv => whnf)) | exact ⟨rfl, rfl, rfl⟩ | exact fun i hi => rfl | ((with_reducible refine And.intro ?_ ?_) <;> (conv => whnf)))))
  · rintro i ⟨h1, h2⟩
    (repeat' (first
    | with_reducible refine Wp.seq ?_
    | with_reducible refine Wp.block ?_
    | ((with_reducible first | refine Wp.region ?_ | refine Wp.drawL ac ?_ | refine Wp.cond ?_ | refine Wp.ret ?_ | refine Wp.skip ?_ | refine Wp.exit ?_ | refine Go.mk ?_ | apply ay.of); conv => whnf)
    | with_reducible exact rfl
    | ((with_reducible refine Ov.ok zO ?_); conv => whnf)
    | (with_reducible refine Ov.sh1 (by with_unfolding_all exact rfl) ?_)
    | ((with_reducible refine Ov.quo (by omega) (by omega) (by omega) (fun _ _ => ?_)); conv => whnf)
    | ((with_reducible refine And.intro (show aj _ _ _ _ = true by kernel_rfl) ?_); conv => whnf)
    | ((with_reducible refine And.intro zC ?_); conv => whnf)
    | ((with_reducible refine And.intro ?hb ?_); (case hb => exact ae (zzb rfl) (by omega)); (conv => whnf))
    | ((refine ag.a rfl rfl rfl rfl rfl rfl ?hb ?_); (case hb => exact zB); (conv => whnf))
    | ((refine ag.b rfl rfl rfl rfl rfl rfl rfl rfl ?hb ?ho ?_); (case hb => exact zB); (case ho => omega); (conv => whnf))
    | ((refine ag.c rfl rfl rfl rfl rfl ?hb ?_); (case hb => exact zB); (conv => whnf))
    | ((refine ag.d rfl rfl rfl rfl rfl rfl ?hb ?ho ?_); (case hb => exact zB); (case ho => omega); (conv => whnf))
    | (with_reducible refine Or.inl ?_)
    | ((with_reducible refine nil_no (by omega) ?_); (conv => whnf))
    | ((with_reducible refine ah ?_ (fun hn0 => ?_)) <;> (conv => whnf))
    | ((refine aa.fn (bF ps room now k xs.length xs (xs.getD (0 + (i : Int).toNat) default) (hp _ (by omega)).1 (hp _ (by omega)).2) [0,1,2,3] rfl rfl rfl rfl rfl ?ha ?hh ?_); (case ha => exact zA); (case hh => exact zH); (conv => whnf))
    | ((refine ai.fn (bF ps room now k xs.length xs (xs.getD (0 + (i : Int).toNat) default) (hp _ (by omega)).1 (hp _ (by omega)).2) [0,1,2,3] [0,1,2,3] rfl rfl rfl rfl rfl ?ha ?hh ?hs ?_); (case ha => exact zA); (case hh => exact zH); (case hs => exact zK); (conv => whnf)) | ((refine ai.new (bF ps room now k xs.length xs (xs.getD (0 + (i : Int).toNat) default) (hp _ (by omega)).1 (hp _ (by omega)).2) [0,1,2,3] [0,1,2,3] rfl rfl rfl rfl rfl rfl ?ha ?hh ?hs ?_); (case ha => exact zA); (case hh => exact zH); (case hs => exact zK); (conv => whnf))
    | ((refine ai.fn (bF ps room now k xs.length xs (xs.getD (0 + (i : Int).toNat) default) (hp _ (by omega)).1 (hp _ (by omega)).2) [0,1,2,3] [] rfl rfl rfl rfl rfl ?ha ?hh ?hs ?_); (case ha => exact zA); (case hh => exact zH); (case hs => exact zK); (conv => whnf)) | ((refine ai.new (bF ps room now k xs.length xs (xs.getD (0 + (i : Int).toNat) default) (hp _ (by omega)).1 (hp _ (by omega)).2) [0,1,2,3] [] rfl rfl rfl rfl rfl rfl ?ha ?hh ?hs ?_); (case ha => exact zA); (case hh => exact zH); (case hs => exact zK); (conv => whnf))
    | ((refine az (fun hc => ?_) (fun hc => ?_)) <;> (try simp only [decide_eq_true_eq, decide_eq_false_iff_not, Q5, Q20, Bool.and_eq_false_iff, Bool.or_eq_false_iff, Bool.not_eq_true', Bool.not_eq_false', beq_iff_eq, bne_iff_ne, ne_eq, beq_eq_false_iff_ne, bne_eq_false_iff_eq, Bool.not_eq_true, Bool.not_eq_false] at hc) <;> (try (exfalso; omega)) <;> (conv => whnf))))
    · simp only [Q13, Q19] at hc
      have hf : fst (fun c => bk ps c now) xs = i := by
        rw [gi _ xs i h1 h2, cX (by omega), fst, if_pos hc]; rfl
      refine al.of [0, 1, 2, 3] rfl (fun i hi => by have : i = 0 ∨ i = 1 ∨ i = 2 ∨ i = 3 := (by omega); rcases this with h | h | h | h <;> subst h <;> rfl) rfl ?_ ?_
      · exact .i (by rw [hf, if_pos (by omega)])
      · ((conv => whnf); repeat' (first | exact trivial | exact SV.Le.rfl _ | exact ⟨rfl, rfl, rfl⟩ | exact fun i hi => rfl | ((with_reducible refine And.intro ?_ ?_) <;> (conv => whnf))))
    · simp only [Q13, Q19] at hc
      refine ⟨i + 1, ⟨by omega, fun j hj => ?_⟩, by dsimp only; omega, ?_⟩
      · by_cases e : j = i
        · subst e; exact hc
        · exact h2 j (by omega)
      · (refine Le.by [0,1,2,3] rfl rfl rfl rfl ?_ ?_ <;> (conv => whnf) <;> (repeat' (first | exact trivial | exact ab.rfl rfl | exact ab.ptr rfl | exact ab.sl rfl | ((with_reducible refine ab.fn ?_); (conv => whnf)) | ((refine ab.iref ?_); (conv => whnf)) | exact ⟨rfl, rfl, rfl⟩ | exact fun i hi => rfl | ((with_reducible refine And.intro ?_ ?_) <;> (conv => whnf)))))
    · have hf : fst (fun c => bk ps c now) xs = xs.length := by
        rw [gi _ xs i h1 h2, List.drop_eq_nil_of_le (by omega), fst]; omega
      refine al.of [0, 1, 2, 3] rfl (fun i hi => by have : i = 0 ∨ i = 1 ∨ i = 2 ∨ i = 3 := (by omega); rcases this with h | h | h | h <;> subst h <;> rfl) rfl ?_ ?_
      · exact .i (by rw [hf, if_neg (by omega)])
      · ((conv => whnf); repeat' (first | exact trivial | exact SV.Le.rfl _ | exact ⟨rfl, rfl, rfl⟩ | exact fun i hi => rfl | ((with_reducible refine And.intro ?_ ?_) <;> (conv => whnf))))
def fM (ps : List Pol) (now : Int) (xs : List Cel) : List Cel := xs.filter fun c => !bk ps c now
theorem bi {xs : List Cel} {k : Nat} (h : k < xs.length) : xs.take (k + 1) = xs.take k ++ [xs.getD k default] := by
  rw [List.take_add_one, Q0 h]; simp [List.getD, Q0 h]
theorem bG (ps : List Pol) (room now : Int) (xs : List Cel) (hp : ∀ j, j < xs.length → 0 ≤ (xs.getD j default).pol ∧ (xs.getD j default).pol < ps.length) (hlen : xs.length ≤ 4611686018427387903) :
    Fun TC 23 4 [.sl 0 4 0 xs.length, .fn (.func 24) [.ptr 2 0, .ptr 3 0]] (evH ps room now xs.length xs.length xs) 4 (.sl 0 4 0 (fM ps now xs).length) (evH ps room now xs.length (fM ps now xs).length (fM ps now xs)) := by
  refine Fun.mk' Try.func23 rfl rfl (zzb rfl) (by decide) ?_
  have hfl := ov (fun c => bk ps c now) xs
  (repeat' (first
    | with_reducible refine Wp.seq ?_
    | with_reducible refine Wp.block ?_
    | ((with_reducible first | refine Wp.region ?_ | refine Wp.drawL ac ?_ | refine Wp.cond ?_ | refine Wp.ret ?_ | refine Wp.skip ?_ | refine Wp.exit ?_ | refine Go.mk ?_ | apply ay.of); conv => whnf)
    | with_reducible exact rfl
    | ((with_reducible refine Ov.ok zO ?_); conv => whnf)
    | (with_reducible refine Ov.sh1 (by with_unfolding_all exact rfl) ?_)
    | ((with_reducible refine Ov.quo (by omega) (by omega) (by omega) (fun _ _ => ?_)); conv => whnf)
    | ((with_reducible refine And.intro (show aj _ _ _ _ = true by kernel_rfl) ?_); conv => whnf)
    | ((with_reducible refine And.intro zC ?_); conv => whnf)
    | ((with_reducible refine And.intro ?hb ?_); (case hb => exact ae (zzb rfl) (by omega)); (conv => whnf))
    | ((refine ag.a rfl rfl rfl rfl rfl rfl ?hb ?_); (case hb => exact zB); (conv => whnf))
    | ((refine ag.b rfl rfl rfl rfl rfl rfl rfl rfl ?hb ?ho ?_); (case hb => exact zB); (case ho => omega); (conv => whnf))
    | ((refine ag.c rfl rfl rfl rfl rfl ?hb ?_); (case hb => exact zB); (conv => whnf))
    | ((refine ag.d rfl rfl rfl rfl rfl rfl ?hb ?ho ?_); (case hb => exact zB); (case ho => omega); (conv => whnf))
    | (with_reducible refine Or.inl ?_)
    | ((with_reducible refine nil_no (by omega) ?_); (conv => whnf))
    | ((with_reducible refine ah ?_ (fun hn0 => ?_)) <;> (conv => whnf))
    | ((refine aa.fn (a9 ps room now xs.length xs hp hlen) [0,1,2,3] rfl rfl rfl rfl rfl ?ha ?hh ?_); (case ha => exact zA); (case hh => exact zH); (conv => whnf))
    | ((refine ai.fn (a9 ps room now xs.length xs hp hlen) [0,1,2,3] [0,1,2,3] rfl rfl rfl rfl rfl ?ha ?hh ?hs ?_); (case ha => exact zA); (case hh => exact zH); (case hs => exact zK); (conv => whnf)) | ((refine ai.new (a9 ps room now xs.length xs hp hlen) [0,1,2,3] [0,1,2,3] rfl rfl rfl rfl rfl rfl ?ha ?hh ?hs ?_); (case ha => exact zA); (case hh => exact zH); (case hs => exact zK); (conv => whnf))
    | ((refine ai.fn (a9 ps room now xs.length xs hp hlen) [0,1,2,3] [] rfl rfl rfl rfl rfl ?ha ?hh ?hs ?_); (case ha => exact zA); (case hh => exact zH); (case hs => exact zK); (conv => whnf)) | ((refine ai.new (a9 ps room now xs.length xs hp hlen) [0,1,2,3] [] rfl rfl rfl rfl rfl rfl ?ha ?hh ?hs ?_); (case ha => exact zA); (case hh => exact zH); (case hs => exact zK); (conv => whnf))
    | ((refine az (fun hc => ?_) (fun hc => ?_)) <;> (try simp only [decide_eq_true_eq, decide_eq_false_iff_not, Q5, Q20, Bool.and_eq_false_iff, Bool.or_eq_false_iff, Bool.not_eq_true', Bool.not_eq_false', beq_iff_eq, bne_iff_ne, ne_eq, beq_eq_false_iff_ne, bne_eq_false_iff_eq, Bool.not_eq_true, Bool.not_eq_false] at hc) <;> (try (exfalso; omega)) <;> (conv => whnf))))
  · have hf : fst (fun c => bk ps c now) xs = xs.length := by
      by_cases h : fst (fun c => bk ps c now) xs < xs.length
      · rw [if_pos h] at hc; omega
      · omega
    have hst : fM ps now xs = xs := by
      have := iZ (fun c => bk ps c now) xs xs.length (by omega)
      rw [List.take_length] at this; exact this
    rw [hst]
    refine al.of [0, 1, 2, 3] rfl (fun i hi => by have : i = 0 ∨ i = 1 ∨ i = 2 ∨ i = 3 := (by omega); rcases this with h | h | h | h <;> subst h <;> rfl) rfl ?_ ?_
    · exact .rfl _
    · ((conv => whnf); repeat' (first | exact trivial | exact SV.Le.rfl _ | exact ⟨rfl, rfl, rfl⟩ | exact fun i hi => rfl | ((with_reducible refine And.intro ?_ ?_) <;> (conv => whnf))))
  · have hlt : fst (fun c => bk ps c now) xs < xs.length := by
      by_cases h : fst (fun c => bk ps c now) xs < xs.length
      · exact h
      · rw [if_neg h] at hc; exact absurd rfl hc
    rw [if_pos hlt]
    have h0 : fM ps now (xs.take (fst (fun c => bk ps c now) xs + 1)) = xs.take (fst (fun c => bk ps c now) xs) := by
      rw [bi hlt, fM, List.filter_append, iZ (fun c => bk ps c now) xs _ (Q4 _)]
      have := lp (fun c => bk ps c now) xs hlt
      simp only [List.filter_cons, List.filter_nil]
      rw [if_neg (by simpa using this), List.append_nil]
    generalize fst (fun c => bk ps c now) xs = q at *
    refine Wp.loopP (ι := Nat × Nat × List Cel) (fun k => k.1 < k.2.1 ∧ k.2.1 ≤ xs.length ∧ k.2.2.length = xs.length ∧ k.2.2.take k.1 = fM ps now (xs.take k.2.1) ∧ ∀ j, k.2.1 ≤ j → k.2.2.getD j default = xs.getD j default) (fun k => ⟨⟨Try.f23.ntmps, 4⟩, 4, [(0, .sl 0 4 0 xs.length), (1, .fn (.func 24) [.ptr 2 0, .ptr 3 0]), (5, .i .i64 k.1), (6, .i .i64 k.2.1)], evH ps room now xs.length xs.length k.2.2⟩) (fun k => xs.length - k.2.1) (q, q + 1, xs) ⟨by simp, hlt, rfl, h0.symm, fun _ _ => rfl⟩ ?_ ?_
    · (refine Le.by [0,1,2,3] rfl rfl rfl rfl ?_ ?_ <;> (conv => whnf) <;> (repeat' (first | exact trivial | exact ab.rfl rfl | exact ab.ptr rfl | exact ab.sl rfl | ((with_reducible refine ab.fn ?_); (conv => whnf)) | ((refine ab.iref ?_); (conv => whnf)) | exact ⟨rfl, rfl, rfl⟩ | exact fun i hi => rfl | ((with_reducible refine And.intro ?_ ?_) <;> (conv => whnf)))))
    · rintro ⟨i, j, zs⟩ ⟨h1, h2, h3, h4, h5⟩
      dsimp only at h1 h2 h3 h4 h5 ⊢
      have hpz : ∀ m, j ≤ m → m < xs.length → 0 ≤ (zs.getD m default).pol ∧ (zs.getD m default).pol < ps.length := fun m hm hm2 => by rw [h5 m hm]; exact hp m hm2
      (repeat' (first
    | with_reducible refine Wp.seq ?_
    | with_reducible refine Wp.block ?_
    | ((with_reducible first | refine Wp.region ?_ | refine Wp.drawL ac ?_ | refine Wp.cond ?_ | refine Wp.ret ?_ | refine Wp.skip ?_ | refine Wp.exit ?_ | refine Go.mk ?_ | apply ay.of); conv => whnf)
    | with_reducible exact rfl
    | ((with_reducible refine Ov.ok zO ?_); conv => whnf)
    | (with_reducible refine Ov.sh1 (by with_unfolding_all exact rfl) ?_)
    | ((with_reducible refine Ov.quo (by omega) (by omega) (by omega) (fun _ _ => ?_)); conv => whnf)
    | ((with_reducible refine And.intro (show aj _ _ _ _ = true by kernel_rfl) ?_); conv => whnf)
    | ((with_reducible refine And.intro zC ?_); conv => whnf)
    | ((with_reducible refine And.intro ?hb ?_); (case hb => exact ae (zzb rfl) (by omega)); (conv => whnf))
    | ((refine ag.a rfl rfl rfl rfl rfl rfl ?hb ?_); (case hb => exact zB); (conv => whnf))
    | ((refine ag.b rfl rfl rfl rfl rfl rfl rfl rfl ?hb ?ho ?_); (case hb => exact zB); (case ho => omega); (conv => whnf))
    | ((refine ag.c rfl rfl rfl rfl rfl ?hb ?_); (case hb => exact zB); (conv => whnf))
    | ((refine ag.d rfl rfl rfl rfl rfl rfl ?hb ?ho ?_); (case hb => exact zB); (case ho => omega); (conv => whnf))
    | (with_reducible refine Or.inl ?_)
    | ((with_reducible refine nil_no (by omega) ?_); (conv => whnf))
    | ((with_reducible refine ah ?_ (fun hn0 => ?_)) <;> (conv => whnf))
    | ((refine aa.fn (bF ps room now xs.length xs.length zs (zs.getD (0 + (j : Int).toNat) default) (hpz _ (by omega) (by omega)).1 (hpz _ (by omega) (by omega)).2) [0,1,2,3] rfl rfl rfl rfl rfl ?ha ?hh ?_); (case ha => exact zA); (case hh => exact zH); (conv => whnf))
    | ((refine ai.fn (bF ps room now xs.length xs.length zs (zs.getD (0 + (j : Int).toNat) default) (hpz _ (by omega) (by omega)).1 (hpz _ (by omega) (by omega)).2) [0,1,2,3] [0,1,2,3] rfl rfl rfl rfl rfl ?ha ?hh ?hs ?_); (case ha => exact zA); (case hh => exact zH); (case hs => exact zK); (conv => whnf)) | ((refine ai.new (bF ps room now xs.length xs.length zs (zs.getD (0 + (j : Int).toNat) default) (hpz _ (by omega) (by omega)).1 (hpz _ (by omega) (by omega)).2) [0,1,2,3] [0,1,2,3] rfl rfl rfl rfl rfl rfl ?ha ?hh ?hs ?_); (case ha => exact zA); (case hh => exact zH); (case hs => exact zK); (conv => whnf))
    | ((refine ai.fn (bF ps room now xs.length xs.length zs (zs.getD (0 + (j : Int).toNat) default) (hpz _ (by omega) (by omega)).1 (hpz _ (by omega) (by omega)).2) [0,1,2,3] [] rfl rfl rfl rfl rfl ?ha ?hh ?hs ?_); (case ha => exact zA); (case hh => exact zH); (case hs => exact zK); (conv => whnf)) | ((refine ai.new (bF ps room now xs.length xs.length zs (zs.getD (0 + (j : Int).toNat) default) (hpz _ (by omega) (by omega)).1 (hpz _ (by omega) (by omega)).2) [0,1,2,3] [] rfl rfl rfl rfl rfl rfl ?ha ?hh ?hs ?_); (case ha => exact zA); (case hh => exact zH); (case hs => exact zK); (conv => whnf))
    | ((refine az (fun hc => ?_) (fun hc => ?_)) <;> (try simp only [decide_eq_true_eq, decide_eq_false_iff_not, Q5, Q20, Bool.and_eq_false_iff, Bool.or_eq_false_iff, Bool.not_eq_true', Bool.not_eq_false', beq_iff_eq, bne_iff_ne, ne_eq, beq_eq_false_iff_ne, bne_eq_false_iff_eq, Bool.not_eq_true, Bool.not_eq_false] at hc) <;> (try (exfalso; omega)) <;> (conv => whnf))))
      all_goals simp only [Q13, Q19] at *
      · rename_i hj hc0
        have hx : bk ps (xs.getD j default) now = false := by rw [← h5 j (Q4 _)]; exact hc
        have hg : ∀ m, (zs.set i (zs.getD j default)).getD m default = if i = m then zs.getD j default else zs.getD m default := fun m => by
          simp only [Q1, List.getElem?_set]
          by_cases e : i = m
          · subst e; rw [if_pos rfl, if_pos (by omega), if_pos rfl]; rfl
          · rw [if_neg e, if_neg e]
        refine ⟨(i + 1, j + 1, zs.set i (zs.getD j default)), ⟨by dsimp only; omega, by dsimp only; omega, by simpa using h3, ?_, fun m hm => ?_⟩, by dsimp only; omega, ?_⟩
        · dsimp only
          rw [bi (by rw [List.length_set]; omega), List.take_set_of_le (Q4 _), h4, hg, if_pos rfl, bi (xs := xs) (by omega), fM, fM, List.filter_append, h5 j (Q4 _)]
          congr 1
          simp only [List.filter_cons, List.filter_nil]
          rw [if_pos (by rw [hx]; rfl)]
        · dsimp only at hm ⊢
          rw [hg, if_neg (by omega)]; exact h5 m (by omega)
        · (refine Le.by [0,1,2,3] rfl rfl rfl rfl ?_ ?_ <;> (conv => whnf) <;> (repeat' (first | exact trivial | exact ab.rfl rfl | exact ab.ptr rfl | exact ab.sl rfl | ((with_reducible refine ab.fn ?_); (conv => whnf)) | ((refine ab.iref ?_); (conv => whnf)) | exact ⟨rfl, rfl, rfl⟩ | exact fun i hi => rfl | ((with_reducible refine And.intro ?_ ?_) <;> (conv => whnf)))))
          intro m hm
          dsimp only
          rw [hg]
          by_cases e : i = m
          · subst e; simp; rfl
          · rw [if_neg e, if_neg (fun h => e (by omega))]
      · rename_i hj hc0
        have hx : bk ps (xs.getD j default) now = true := by rw [← h5 j (Q4 _)]; exact hc
        refine ⟨(i, j + 1, zs), ⟨by dsimp only; omega, by dsimp only; omega, h3, ?_, fun m hm => ?_⟩, by dsimp only; omega, ?_⟩
        · dsimp only
          rw [h4, bi (xs := xs) (by omega), fM, fM, List.filter_append]
          simp only [List.filter_cons, List.filter_nil]
          rw [if_neg (by rw [hx]; simp), List.append_nil]
        · exact h5 m (by dsimp only at hm; omega)
        · (refine Le.by [0,1,2,3] rfl rfl rfl rfl ?_ ?_ <;> (conv => whnf) <;> (repeat' (first | exact trivial | exact ab.rfl rfl | exact ab.ptr rfl | exact ab.sl rfl | ((with_reducible refine ab.fn ?_); (conv => whnf)) | ((refine ab.iref ?_); (conv => whnf)) | exact ⟨rfl, rfl, rfl⟩ | exact fun i hi => rfl | ((with_reducible refine And.intro ?_ ?_) <;> (conv => whnf)))))
      · have hj : j = xs.length := by omega
        subst hj
        rw [List.take_length] at h4
        have hl : (fM ps now xs).length = i := by rw [← h4, Q10, h3]; omega
        refine al.of [0, 1, 2, 3] rfl (fun i hi => by have : i = 0 ∨ i = 1 ∨ i = 2 ∨ i = 3 := (by omega); rcases this with h | h | h | h <;> subst h <;> rfl) rfl ?_ ?_
        · exact .of_eq (by rw [hl]; simp)
        · ((conv => whnf); repeat' (first | exact trivial | exact SV.Le.rfl _ | exact ⟨rfl, rfl, rfl⟩ | exact fun i hi => rfl | ((with_reducible refine And.intro ?_ ?_) <;> (conv => whnf))))
          · exact hl.symm
          · intro m hm
            dsimp only
            rw [← h4]
            simp only [Q1, Q15]
            rw [if_pos (by omega)]
theorem cP {ps : List Pol} (h : bo ps = 0) : ps.length ≤ 32 := by
  unfold bo at h
  split at h <;> omega
def newE (ps : List Pol) (cells : Int) : Int := if cells < 1 ∨ 4096 < cells then 1 else bo ps
theorem gt (ps : List Pol) (cells : Int) (h : newE ps cells = 0) : Fun TC 12 0 [.d (ao 4 Pol.D ps), .i .i64 cells] [] 2 (.tup [.ptr 0 0, .i .i64 0]) (nT ps cells []) := by
  have hc1 : 1 ≤ cells ∧ cells ≤ 4096 := by
    unfold newE at h
    split at h
    · omega
    · omega
  have hp : bo ps = 0 := by
    unfold newE at h
    split at h
    · omega
    · exact h
  have hl := cP hp
  refine Fun.mk' Try.func12 rfl rfl (zzb rfl) (by decide) ?_
  (repeat' (first
    | with_reducible refine Wp.seq ?_
    | with_reducible refine Wp.block ?_
    | ((with_reducible first | refine Wp.region ?_ | refine Wp.drawL ac ?_ | refine Wp.cond ?_ | refine Wp.ret ?_ | refine Wp.skip ?_ | refine Wp.exit ?_ | refine Go.mk ?_ | apply ay.of); conv => whnf)
    | with_reducible exact rfl
    | ((with_reducible refine Ov.ok zO ?_); conv => whnf)
    | (with_reducible refine Ov.sh1 (by with_unfolding_all exact rfl) ?_)
    | ((with_reducible refine Ov.quo (by omega) (by omega) (by omega) (fun _ _ => ?_)); conv => whnf)
    | ((with_reducible refine And.intro (show aj _ _ _ _ = true by kernel_rfl) ?_); conv => whnf)
    | ((with_reducible refine And.intro zC ?_); conv => whnf)
    | ((with_reducible refine And.intro ?hb ?_); (case hb => exact ae (zzb rfl) (by omega)); (conv => whnf))
    | ((refine ag.a rfl rfl rfl rfl rfl rfl ?hb ?_); (case hb => exact zB); (conv => whnf))
    | ((refine ag.b rfl rfl rfl rfl rfl rfl rfl rfl ?hb ?ho ?_); (case hb => exact zB); (case ho => omega); (conv => whnf))
    | ((refine ag.c rfl rfl rfl rfl rfl ?hb ?_); (case hb => exact zB); (conv => whnf))
    | ((refine ag.d rfl rfl rfl rfl rfl rfl ?hb ?ho ?_); (case hb => exact zB); (case ho => omega); (conv => whnf))
    | (with_reducible refine Or.inl ?_)
    | ((with_reducible refine nil_no (by omega) ?_); (conv => whnf))
    | ((with_reducible refine ah ?_ (fun hn0 => ?_)) <;> (conv => whnf))
    | ((with_reducible refine aa.pure (a6 _) rfl rfl ?_); conv => whnf) | ((with_reducible refine ai.pure (a6 _) rfl rfl ?_); conv => whnf)
    | ((with_reducible refine aa.pure (fk ps (by omega)) rfl rfl ?_); conv => whnf) | ((with_reducible refine ai.pure (fk ps (by omega)) rfl rfl ?_); conv => whnf)
    | ((refine az (fun hc => ?_) (fun hc => ?_)) <;> (try simp only [decide_eq_true_eq, decide_eq_false_iff_not, Q5, Q20, Bool.and_eq_false_iff, Bool.or_eq_false_iff, Bool.not_eq_true', Bool.not_eq_false', beq_iff_eq, bne_iff_ne, ne_eq, beq_eq_false_iff_ne, bne_eq_false_iff_eq, Bool.not_eq_true, Bool.not_eq_false] at hc) <;> (try (exfalso; omega)) <;> (conv => whnf))))
  all_goals try (exfalso; omega)
  refine al.virtC 0 2 78 4 (fun _ => []) (by decide) rfl rfl (by decide) ?_
  refine al.of [0, 1] rfl (fun i hi => by omega) rfl ?_ ?_
  · exact .rfl _
  · ((conv => whnf); repeat' (first | exact trivial | exact SV.Le.rfl _ | exact ⟨rfl, rfl, rfl⟩ | exact fun i hi => rfl | ((with_reducible refine And.intro ?_ ?_) <;> (conv => whnf))))
    exact fun i hi => absurd hi (Nat.not_lt_zero _)
def errR (e : Int) : Rpl := ⟨e, false, 0, 0, 0, 0⟩
def gQ (p : Pol) (c : Cel) (op n now serial : Int) : Rpl × Cel := if op = 1 then (lQ p c now n, dN p c now n) else if op = 2 then (acqR p c serial, jM p c serial) else (relR p c n, i7 p c n)
def nj (room : Int) (xs : List Cel) (pol : Int) (key : List Int) (z : Bool) (q : Rpl × Cel) : Rpl × List Cel :=
  if q.1.g = false ∨ z = true then (q.1, xs) else if bt xs (aC pol key) = false ∧ (xs.length : Int) = room then (errR 10, xs)
  else (q.1, cG xs (aO xs (aC pol key)) (bt xs (aC pol key)) q.2)
def doS (ps : List Pol) (room : Int) (xs : List Cel) (op pol : Int) (key : List Int) (n now serial : Int) : Rpl × List Cel :=
  if dP ps op pol key n now serial ≠ 0 then (errR (dP ps op pol key n now serial), xs)
  else if op = 5 then (⟨0, false, (xs.length : Int) - (fM ps now xs).length, 0, 0, now⟩, fM ps now xs)
  else if op = 6 then (errR 0, xs)
  else if op = 4 then (jW (ps.getD pol.toNat default) (aV xs pol key) now, xs)
  else nj room xs pol key (decide (op = 1 ∧ n = 0)) (gQ (ps.getD pol.toNat default) (aV xs pol key) op n now serial)
structure iE (ps : List Pol) (xs : List Cel) : Prop where
  len : xs.length ≤ 1000000
  byt : ∀ k, IsB (xs.getD k default).key
  key : ∀ k, (xs.getD k default).key.length ≤ 255
  held : ∀ k, (xs.getD k default).held.length ≤ 64
  pol : ∀ k, k < xs.length → 0 ≤ (xs.getD k default).pol ∧ (xs.getD k default).pol < ps.length
theorem lO {ps : List Pol} {op pol : Int} {key : List Int} {n now serial : Int} (h : dP ps op pol key n now serial = 0) : (0 ≤ now ∧ now ≤ 4611686018427387903) ∧ 1 ≤ op ∧ op ≤ 6 ∧ bo ps = 0 ∧ (op < 5 → key.length ≤ 255 ∧ 0 ≤ pol ∧ pol < ps.length) ∧ (op = 1 → 0 ≤ n ∧ n ≤ 4611686018427387903) ∧ (op = 2 → 1 ≤ serial ∧ serial ≤ 4611686018427387903) ∧
    (iN op ≠ 0 → (ps.getD pol.toNat default).kind = iN op) := by
  unfold dP at h
  split at h
  · omega
  · rename_i h0
    unfold chkE at h
    split at h
    · omega
    · rename_i h1
      split at h
      · omega
      · rename_i h2
        split at h
        · exact absurd h (by assumption)
        · rename_i h3
          split at h
          · omega
          · rename_i h4
            have t0 : cg now = true := by cases h : cg now with | true => rfl | false => exact absurd (Or.inl h) h0
            have t1 := (cM now).1 t0
            have h3 : bo ps = 0 := Classical.byContradiction h3
            refine ⟨t1, by omega, by omega, h3, fun h => by omega, fun h => ?_, fun h => by omega, fun h => ?_⟩
            · refine (cM n).1 ?_
              cases hq : cg n with | true => rfl | false => exact absurd (Or.inr (Or.inr ⟨h, hq⟩)) h1
            · refine Classical.byContradiction fun hne => h4 ⟨?_, Or.inr (Or.inr ⟨h, hne⟩)⟩
              unfold iN at h
              split at h
              · omega
              · split at h <;> omega
theorem kR {ps : List Pol} (h : bo ps = 0) : ∀ k, k < ps.length → iQ (ps.getD k default).kind (ps.getD k default).T (ps.getD k default).tau (ps.getD k default).permits = true := by
  intro k hk
  unfold bo at h
  split at h
  · omega
  · split at h
    · rename_i h2
      rw [Q23] at h2
      refine h2 _ ?_
      rw [Q1, Q0 hk]; exact Q14 hk
    · omega
theorem fU {room : Int} {xs : List Cel} {pol : Int} {key : List Int} {z : Bool} {q : Rpl × Cel} (h : q.1.g = false ∨ z = true) : nj room xs pol key z q = (q.1, xs) := by rw [nj, if_pos h]
theorem eu {room : Int} {xs : List Cel} {pol : Int} {key : List Int} {z : Bool} {q : Rpl × Cel} (h : q.1.g = true) (hz : z = false) (h2 : bt xs (aC pol key) = false) (h3 : (xs.length : Int) = room) : nj room xs pol key z q = (errR 10, xs) := by
  rw [nj, if_neg (by rw [h, hz]; simp), if_pos ⟨h2, h3⟩]
theorem dd {room : Int} {xs : List Cel} {pol : Int} {key : List Int} {z : Bool} {q : Rpl × Cel} (h : q.1.g = true) (hz : z = false) (h2 : ¬ (bt xs (aC pol key) = false ∧ (xs.length : Int) = room)) : nj room xs pol key z q = (q.1, cG xs (aO xs (aC pol key)) (bt xs (aC pol key)) q.2) := by
  rw [nj, if_neg (by rw [h, hz]; simp), if_neg h2]
theorem gP {p : Pol} {c : Cel} {op n now serial : Int} (h : op = 1) : gQ p c op n now serial = (lQ p c now n, dN p c now n) := by rw [gQ, if_pos h]
theorem jd {p : Pol} {c : Cel} {op n now serial : Int} (h : op = 2) : gQ p c op n now serial = (acqR p c serial, jM p c serial) := by rw [gQ, if_neg (by omega), if_pos h]
theorem jc {p : Pol} {c : Cel} {op n now serial : Int} (h : op = 3) : gQ p c op n now serial = (relR p c n, i7 p c n) := by rw [gQ, if_neg (by omega), if_neg (by omega)]
theorem c9 {p : Pol} {c : Cel} {n : Int} : (jM p c n).key = c.key := by unfold jM; split <;> rfl
theorem cO {p : Pol} {c : Cel} {n : Int} : (i7 p c n).key = c.key := by unfold i7; split <;> rfl
theorem book_Do (ps : List Pol) (room : Int) (xs : List Cel) (op pol : Int) (key : List Int) (n now serial : Int) (hb : iE ps xs) (hk : IsB key) :
    Fun TC 14 2 [.ptr 0 0, .agg [.i .u8 op, .i .i64 pol, .d (ao 1 (aW .u8) key), .i .i64 n], .i .i64 now, .i .i64 serial] (nT ps room xs) 3 (doS ps room xs op pol key n now serial).1.S
      [(0, some (.cells [.d (ao 4 Pol.D ps), .i .i64 room, .sl 2 4 0 (doS ps room xs op pol key n now serial).2.length])), (1, none), (2, some (aK 78 4 Cel.D (doS ps room xs op pol key n now serial).2))] := by
  have hlen := hb.len
  have hpos := kQ xs (aC pol key)
  by_cases hE : dP ps op pol key n now serial = 0
  · obtain ⟨hnow, hop1, hop2, hps, hkey, hn, hser, hkind⟩ := lO hE
    have hpl := cP hps
    have hperm : op < 5 → (ps.getD pol.toNat default).kind = 2 → -4611686018427387904 ≤ (ps.getD pol.toNat default).permits ∧ (ps.getD pol.toNat default).permits ≤ 4611686018427387903 := fun h1 h2 => by
      have := kR hps pol.toNat (by have := hkey h1; omega)
      unfold iQ at this
      rw [if_neg (by omega), if_pos h2] at this
      simp only [Q5, decide_eq_true_eq] at this
      omega
    have hheld : (aV xs pol key).held.length ≤ 64 := by
      unfold aV
      split
      · exact hb.held _
      · simp [aC]
    have hD : doS ps room xs op pol key n now serial = if op = 5 then (⟨0, false, (xs.length : Int) - (fM ps now xs).length, 0, 0, now⟩, fM ps now xs)
      else if op = 6 then (errR 0, xs)
      else if op = 4 then (jW (ps.getD pol.toNat default) (aV xs pol key) now, xs)
      else nj room xs pol key (decide (op = 1 ∧ n = 0)) (gQ (ps.getD pol.toNat default) (aV xs pol key) op n now serial) := by
      unfold doS; rw [if_neg (fun h => h hE)]
    have hst : (fM ps now xs).length ≤ xs.length := List.length_filter_le _ _
    rw [hD]
    clear hD
    have hposl : bt xs (aC pol key) = true → aO xs (aC pol key) < xs.length := fun h => ((dE _ _).1 h).1
    have hkk : op < 5 → (aV xs pol key).key.length ≤ 16777216 := fun h => by
      unfold aV
      split
      · have := hb.key (aO xs (aC pol key)); omega
      · have := (hkey h).1; simp only [aC]; omega
    refine Fun.mk' Try.func14 rfl rfl (zzb rfl) (by decide) ?_
    (repeat' (first
    | with_reducible refine Wp.seq ?_
    | with_reducible refine Wp.block ?_
    | ((with_reducible first | refine Wp.region ?_ | refine Wp.drawL ac ?_ | refine Wp.cond ?_ | refine Wp.ret ?_ | refine Wp.skip ?_ | refine Wp.exit ?_ | refine Go.mk ?_ | apply ay.of); conv => whnf)
    | with_reducible exact rfl
    | ((with_reducible refine Ov.ok zO ?_); conv => whnf)
    | (with_reducible refine Ov.sh1 (by with_unfolding_all exact rfl) ?_)
    | ((with_reducible refine Ov.quo (by omega) (by omega) (by omega) (fun _ _ => ?_)); conv => whnf)
    | ((with_reducible refine And.intro (show aj _ _ _ _ = true by kernel_rfl) ?_); conv => whnf)
    | ((with_reducible refine And.intro zC ?_); conv => whnf)
    | ((with_reducible refine And.intro ?hb ?_); (case hb => exact ae (zzb rfl) (by omega)); (conv => whnf))
    | ((refine ag.a rfl rfl rfl rfl rfl rfl ?hb ?_); (case hb => exact zB); (conv => whnf))
    | ((refine ag.b rfl rfl rfl rfl rfl rfl rfl rfl ?hb ?ho ?_); (case hb => exact zB); (case ho => omega); (conv => whnf))
    | ((refine ag.c rfl rfl rfl rfl rfl ?hb ?_); (case hb => exact zB); (conv => whnf))
    | ((refine ag.d rfl rfl rfl rfl rfl rfl ?hb ?ho ?_); (case hb => exact zB); (case ho => omega); (conv => whnf))
    | (with_reducible refine Or.inl ?_)
    | ((with_reducible refine nil_no (by omega) ?_); (conv => whnf))
    | ((with_reducible refine ah ?_ (fun hn0 => ?_)) <;> (conv => whnf))
    | ((refine aa.fn (aF ps room xs op pol key n now serial) [0,1] rfl rfl rfl rfl rfl ?ha ?hh ?_); (case ha => exact zA); (case hh => exact zH); (conv => whnf))
    | ((refine ai.fn (aF ps room xs op pol key n now serial) [0,1] [0,1] rfl rfl rfl rfl rfl ?ha ?hh ?hs ?_); (case ha => exact zA); (case hh => exact zH); (case hs => exact zK); (conv => whnf)) | ((refine ai.new (aF ps room xs op pol key n now serial) [0,1] [0,1] rfl rfl rfl rfl rfl rfl ?ha ?hh ?hs ?_); (case ha => exact zA); (case hh => exact zH); (case hs => exact zK); (conv => whnf))
    | ((refine ai.fn (aF ps room xs op pol key n now serial) [0,1] [] rfl rfl rfl rfl rfl ?ha ?hh ?hs ?_); (case ha => exact zA); (case hh => exact zH); (case hs => exact zK); (conv => whnf)) | ((refine ai.new (aF ps room xs op pol key n now serial) [0,1] [] rfl rfl rfl rfl rfl rfl ?ha ?hh ?hs ?_); (case ha => exact zA); (case hh => exact zH); (case hs => exact zK); (conv => whnf))
    | ((refine aa.fn (bG ps room now xs hb.pol (by omega)) [1,0,2,4] rfl rfl rfl rfl rfl ?ha ?hh ?_); (case ha => exact zA); (case hh => exact zH); (conv => whnf))
    | ((refine ai.fn (bG ps room now xs hb.pol (by omega)) [1,0,2,4] [0,2,4] rfl rfl rfl rfl rfl ?ha ?hh ?hs ?_); (case ha => exact zA); (case hh => exact zH); (case hs => exact zK); (conv => whnf)) | ((refine ai.new (bG ps room now xs hb.pol (by omega)) [1,0,2,4] [0,2,4] rfl rfl rfl rfl rfl rfl ?ha ?hh ?hs ?_); (case ha => exact zA); (case hh => exact zH); (case hs => exact zK); (conv => whnf))
    | ((refine aa.fn (co xs pol key (by omega) hb.byt hk) [1] rfl rfl rfl rfl rfl ?ha ?hh ?_); (case ha => exact zA); (case hh => exact zH); (conv => whnf))
    | ((refine ai.fn (co xs pol key (by omega) hb.byt hk) [1] [1] rfl rfl rfl rfl rfl ?ha ?hh ?hs ?_); (case ha => exact zA); (case hh => exact zH); (case hs => exact zK); (conv => whnf)) | ((refine ai.new (co xs pol key (by omega) hb.byt hk) [1] [1] rfl rfl rfl rfl rfl rfl ?ha ?hh ?hs ?_); (case ha => exact zA); (case hh => exact zH); (case hs => exact zK); (conv => whnf))
    | ((refine ai.fn (co xs pol key (by omega) hb.byt hk) [1] [] rfl rfl rfl rfl rfl ?ha ?hh ?hs ?_); (case ha => exact zA); (case hh => exact zH); (case hs => exact zK); (conv => whnf)) | ((refine ai.new (co xs pol key (by omega) hb.byt hk) [1] [] rfl rfl rfl rfl rfl rfl ?ha ?hh ?hs ?_); (case ha => exact zA); (case hh => exact zH); (case hs => exact zK); (conv => whnf))
    | ((with_reducible refine aa.pure (iB _ _ _ (hperm (by omega)) (by omega)) rfl rfl ?_); conv => whnf) | ((with_reducible refine ai.pure (iB _ _ _ (hperm (by omega)) (by omega)) rfl rfl ?_); conv => whnf)
    | ((with_reducible refine aa.pure (fD _ _ _ _) rfl rfl ?_); conv => whnf) | ((with_reducible refine ai.pure (fD _ _ _ _) rfl rfl ?_); conv => whnf)
    | ((with_reducible refine aa.pure (dM _ _ _) rfl rfl ?_); conv => whnf) | ((with_reducible refine ai.pure (dM _ _ _) rfl rfl ?_); conv => whnf)
    | ((with_reducible refine aa.pure (dL _ _ _) rfl rfl ?_); conv => whnf) | ((with_reducible refine ai.pure (dL _ _ _) rfl rfl ?_); conv => whnf)
    | ((refine aa.fn (ax xs (aO xs (aC pol key)) (bt xs (aC pol key)) (dN (ps.getD pol.toNat default) (aV xs pol key) now n) (by omega) (hkk (by omega)) hpos hposl) [1] rfl rfl rfl rfl rfl ?ha ?hh ?_); (case ha => exact zA); (case hh => exact zH); (conv => whnf))
    | ((refine ai.fn (ax xs (aO xs (aC pol key)) (bt xs (aC pol key)) (dN (ps.getD pol.toNat default) (aV xs pol key) now n) (by omega) (hkk (by omega)) hpos hposl) [1] [1] rfl rfl rfl rfl rfl ?ha ?hh ?hs ?_); (case ha => exact zA); (case hh => exact zH); (case hs => exact zK); (conv => whnf)) | ((refine ai.new (ax xs (aO xs (aC pol key)) (bt xs (aC pol key)) (dN (ps.getD pol.toNat default) (aV xs pol key) now n) (by omega) (hkk (by omega)) hpos hposl) [1] [1] rfl rfl rfl rfl rfl rfl ?ha ?hh ?hs ?_); (case ha => exact zA); (case hh => exact zH); (case hs => exact zK); (conv => whnf))
    | ((refine ai.fn (ax xs (aO xs (aC pol key)) (bt xs (aC pol key)) (dN (ps.getD pol.toNat default) (aV xs pol key) now n) (by omega) (hkk (by omega)) hpos hposl) [1] [] rfl rfl rfl rfl rfl ?ha ?hh ?hs ?_); (case ha => exact zA); (case hh => exact zH); (case hs => exact zK); (conv => whnf)) | ((refine ai.new (ax xs (aO xs (aC pol key)) (bt xs (aC pol key)) (dN (ps.getD pol.toNat default) (aV xs pol key) now n) (by omega) (hkk (by omega)) hpos hposl) [1] [] rfl rfl rfl rfl rfl rfl ?ha ?hh ?hs ?_); (case ha => exact zA); (case hh => exact zH); (case hs => exact zK); (conv => whnf))
    | ((refine aa.fn (ax xs (aO xs (aC pol key)) (bt xs (aC pol key)) (jM (ps.getD pol.toNat default) (aV xs pol key) serial) (by omega) (by rw [c9]; exact hkk (by omega)) hpos hposl) [1] rfl rfl rfl rfl rfl ?ha ?hh ?_); (case ha => exact zA); (case hh => exact zH); (conv => whnf))
    | ((refine ai.fn (ax xs (aO xs (aC pol key)) (bt xs (aC pol key)) (jM (ps.getD pol.toNat default) (aV xs pol key) serial) (by omega) (by rw [c9]; exact hkk (by omega)) hpos hposl) [1] [1] rfl rfl rfl rfl rfl ?ha ?hh ?hs ?_); (case ha => exact zA); (case hh => exact zH); (case hs => exact zK); (conv => whnf)) | ((refine ai.new (ax xs (aO xs (aC pol key)) (bt xs (aC pol key)) (jM (ps.getD pol.toNat default) (aV xs pol key) serial) (by omega) (by rw [c9]; exact hkk (by omega)) hpos hposl) [1] [1] rfl rfl rfl rfl rfl rfl ?ha ?hh ?hs ?_); (case ha => exact zA); (case hh => exact zH); (case hs => exact zK); (conv => whnf))
    | ((refine ai.fn (ax xs (aO xs (aC pol key)) (bt xs (aC pol key)) (jM (ps.getD pol.toNat default) (aV xs pol key) serial) (by omega) (by rw [c9]; exact hkk (by omega)) hpos hposl) [1] [] rfl rfl rfl rfl rfl ?ha ?hh ?hs ?_); (case ha => exact zA); (case hh => exact zH); (case hs => exact zK); (conv => whnf)) | ((refine ai.new (ax xs (aO xs (aC pol key)) (bt xs (aC pol key)) (jM (ps.getD pol.toNat default) (aV xs pol key) serial) (by omega) (by rw [c9]; exact hkk (by omega)) hpos hposl) [1] [] rfl rfl rfl rfl rfl rfl ?ha ?hh ?hs ?_); (case ha => exact zA); (case hh => exact zH); (case hs => exact zK); (conv => whnf))
    | ((refine aa.fn (ax xs (aO xs (aC pol key)) (bt xs (aC pol key)) (i7 (ps.getD pol.toNat default) (aV xs pol key) n) (by omega) (by rw [cO]; exact hkk (by omega)) hpos hposl) [1] rfl rfl rfl rfl rfl ?ha ?hh ?_); (case ha => exact zA); (case hh => exact zH); (conv => whnf))
    | ((refine ai.fn (ax xs (aO xs (aC pol key)) (bt xs (aC pol key)) (i7 (ps.getD pol.toNat default) (aV xs pol key) n) (by omega) (by rw [cO]; exact hkk (by omega)) hpos hposl) [1] [1] rfl rfl rfl rfl rfl ?ha ?hh ?hs ?_); (case ha => exact zA); (case hh => exact zH); (case hs => exact zK); (conv => whnf)) | ((refine ai.new (ax xs (aO xs (aC pol key)) (bt xs (aC pol key)) (i7 (ps.getD pol.toNat default) (aV xs pol key) n) (by omega) (by rw [cO]; exact hkk (by omega)) hpos hposl) [1] [1] rfl rfl rfl rfl rfl rfl ?ha ?hh ?hs ?_); (case ha => exact zA); (case hh => exact zH); (case hs => exact zK); (conv => whnf))
    | ((refine ai.fn (ax xs (aO xs (aC pol key)) (bt xs (aC pol key)) (i7 (ps.getD pol.toNat default) (aV xs pol key) n) (by omega) (by rw [cO]; exact hkk (by omega)) hpos hposl) [1] [] rfl rfl rfl rfl rfl ?ha ?hh ?hs ?_); (case ha => exact zA); (case hh => exact zH); (case hs => exact zK); (conv => whnf)) | ((refine ai.new (ax xs (aO xs (aC pol key)) (bt xs (aC pol key)) (i7 (ps.getD pol.toNat default) (aV xs pol key) n) (by omega) (by rw [cO]; exact hkk (by omega)) hpos hposl) [1] [] rfl rfl rfl rfl rfl rfl ?ha ?hh ?hs ?_); (case ha => exact zA); (case hh => exact zH); (case hs => exact zK); (conv => whnf))
    | ((refine az (fun hc => ?_) (fun hc => ?_)) <;> (try simp only [decide_eq_true_eq, decide_eq_false_iff_not, Q5, Q20, Bool.and_eq_false_iff, Bool.or_eq_false_iff, Bool.not_eq_true', Bool.not_eq_false', beq_iff_eq, bne_iff_ne, ne_eq, beq_eq_false_iff_ne, bne_eq_false_iff_eq, Bool.not_eq_true, Bool.not_eq_false] at hc) <;> (try (exfalso; omega)) <;> (conv => whnf))))
    · rw [if_pos (by assumption)]
      refine al.mv2 rfl rfl ?_ ?_
      · conv => whnf
        exact .rfl _
      · ((conv => whnf); repeat' (first | exact trivial | exact SV.Le.rfl _ | exact ⟨rfl, rfl, rfl⟩ | exact fun i hi => rfl | ((with_reducible refine And.intro ?_ ?_) <;> (conv => whnf))))
    · rw [if_neg (by omega), if_pos (by assumption)]
      refine al.mv2 rfl rfl ?_ ?_
      · conv => whnf
        exact .rfl _
      · ((conv => whnf); repeat' (first | exact trivial | exact SV.Le.rfl _ | exact ⟨rfl, rfl, rfl⟩ | exact fun i hi => rfl | ((with_reducible refine And.intro ?_ ?_) <;> (conv => whnf))))
    · rw [if_neg (by omega), if_neg (by omega), if_pos (by assumption)]
      refine al.mv2 rfl rfl ?_ ?_
      · conv => whnf
        exact .rfl _
      · ((conv => whnf); repeat' (first | exact trivial | exact SV.Le.rfl _ | exact ⟨rfl, rfl, rfl⟩ | exact fun i hi => rfl | ((with_reducible refine And.intro ?_ ?_) <;> (conv => whnf))))
    · rw [if_neg (by omega), if_neg (by omega), if_neg (by omega), gP (by assumption), fU (Or.inl (by assumption))]
      refine al.mv2 rfl rfl ?_ ?_
      · conv => whnf
        exact .rfl _
      · ((conv => whnf); repeat' (first | exact trivial | exact SV.Le.rfl _ | exact ⟨rfl, rfl, rfl⟩ | exact fun i hi => rfl | ((with_reducible refine And.intro ?_ ?_) <;> (conv => whnf))))
    · rw [if_neg (by omega), if_neg (by omega), if_neg (by omega), gP (by assumption), fU (Or.inr (decide_eq_true ⟨by assumption, by assumption⟩))]
      refine al.mv2 rfl rfl ?_ ?_
      · conv => whnf
        exact .rfl _
      · ((conv => whnf); repeat' (first | exact trivial | exact SV.Le.rfl _ | exact ⟨rfl, rfl, rfl⟩ | exact fun i hi => rfl | ((with_reducible refine And.intro ?_ ?_) <;> (conv => whnf))))
    · rw [if_neg (by omega), if_neg (by omega), if_neg (by omega), gP (by assumption), eu (by assumption) (decide_eq_false (by omega)) (by assumption) (by assumption)]
      refine al.mv2 rfl rfl ?_ ?_
      · conv => whnf
        exact .rfl _
      · ((conv => whnf); repeat' (first | exact trivial | exact SV.Le.rfl _ | exact ⟨rfl, rfl, rfl⟩ | exact fun i hi => rfl | ((with_reducible refine And.intro ?_ ?_) <;> (conv => whnf))))
    · rw [if_neg (by omega), if_neg (by omega), if_neg (by omega), gP (by assumption), dd (by assumption) (decide_eq_false (by omega)) (fun h => absurd h.2 (by assumption))]
      refine al.of [0, 1, 56] rfl (fun i hi => by have : i = 0 ∨ i = 1 := (by omega); rcases this with h | h <;> subst h <;> rfl) rfl ?_ ?_
      · conv => whnf
        exact .rfl _
      · ((conv => whnf); repeat' (first | exact trivial | exact SV.Le.rfl _ | exact ⟨rfl, rfl, rfl⟩ | exact fun i hi => rfl | ((with_reducible refine And.intro ?_ ?_) <;> (conv => whnf))))
    · rw [if_neg (by omega), if_neg (by omega), if_neg (by omega), gP (by assumption), dd (by assumption) (decide_eq_false (by omega)) (fun h => by rw [hc] at h; cases h.1)]
      refine al.of [0, 1, 56] rfl (fun i hi => by have : i = 0 ∨ i = 1 := (by omega); rcases this with h | h <;> subst h <;> rfl) rfl ?_ ?_
      · conv => whnf
        exact .rfl _
      · ((conv => whnf); repeat' (first | exact trivial | exact SV.Le.rfl _ | exact ⟨rfl, rfl, rfl⟩ | exact fun i hi => rfl | ((with_reducible refine And.intro ?_ ?_) <;> (conv => whnf))))
    · rw [if_neg (by omega), if_neg (by omega), if_neg (by omega), jd (by assumption), fU (Or.inl (by assumption))]
      refine al.mv2 rfl rfl ?_ ?_
      · conv => whnf
        exact .rfl _
      · ((conv => whnf); repeat' (first | exact trivial | exact SV.Le.rfl _ | exact ⟨rfl, rfl, rfl⟩ | exact fun i hi => rfl | ((with_reducible refine And.intro ?_ ?_) <;> (conv => whnf))))
    · rw [if_neg (by omega), if_neg (by omega), if_neg (by omega), jd (by assumption), eu (by assumption) (decide_eq_false (by omega)) (by assumption) (by assumption)]
      refine al.mv2 rfl rfl ?_ ?_
      · conv => whnf
        exact .rfl _
      · ((conv => whnf); repeat' (first | exact trivial | exact SV.Le.rfl _ | exact ⟨rfl, rfl, rfl⟩ | exact fun i hi => rfl | ((with_reducible refine And.intro ?_ ?_) <;> (conv => whnf))))
    · rw [if_neg (by omega), if_neg (by omega), if_neg (by omega), jd (by assumption), dd (by assumption) (decide_eq_false (by omega)) (fun h => absurd h.2 (by assumption))]
      refine al.of [0, 1, 56] rfl (fun i hi => by have : i = 0 ∨ i = 1 := (by omega); rcases this with h | h <;> subst h <;> rfl) rfl ?_ ?_
      · conv => whnf
        exact .rfl _
      · ((conv => whnf); repeat' (first | exact trivial | exact SV.Le.rfl _ | exact ⟨rfl, rfl, rfl⟩ | exact fun i hi => rfl | ((with_reducible refine And.intro ?_ ?_) <;> (conv => whnf))))
    · rw [if_neg (by omega), if_neg (by omega), if_neg (by omega), jd (by assumption), dd (by assumption) (decide_eq_false (by omega)) (fun h => by rw [hc] at h; cases h.1)]
      refine al.of [0, 1, 56] rfl (fun i hi => by have : i = 0 ∨ i = 1 := (by omega); rcases this with h | h <;> subst h <;> rfl) rfl ?_ ?_
      · conv => whnf
        exact .rfl _
      · ((conv => whnf); repeat' (first | exact trivial | exact SV.Le.rfl _ | exact ⟨rfl, rfl, rfl⟩ | exact fun i hi => rfl | ((with_reducible refine And.intro ?_ ?_) <;> (conv => whnf))))
    · rw [if_neg (by omega), if_neg (by omega), if_neg (by omega), jc (by assumption), fU (Or.inl (by assumption))]
      refine al.mv2 rfl rfl ?_ ?_
      · conv => whnf
        exact .rfl _
      · ((conv => whnf); repeat' (first | exact trivial | exact SV.Le.rfl _ | exact ⟨rfl, rfl, rfl⟩ | exact fun i hi => rfl | ((with_reducible refine And.intro ?_ ?_) <;> (conv => whnf))))
    · rw [if_neg (by omega), if_neg (by omega), if_neg (by omega), jc (by assumption), eu (by assumption) (decide_eq_false (by omega)) (by assumption) (by assumption)]
      refine al.mv2 rfl rfl ?_ ?_
      · conv => whnf
        exact .rfl _
      · ((conv => whnf); repeat' (first | exact trivial | exact SV.Le.rfl _ | exact ⟨rfl, rfl, rfl⟩ | exact fun i hi => rfl | ((with_reducible refine And.intro ?_ ?_) <;> (conv => whnf))))
    · rw [if_neg (by omega), if_neg (by omega), if_neg (by omega), jc (by assumption), dd (by assumption) (decide_eq_false (by omega)) (fun h => absurd h.2 (by assumption))]
      refine al.of [0, 1, 56] rfl (fun i hi => by have : i = 0 ∨ i = 1 := (by omega); rcases this with h | h <;> subst h <;> rfl) rfl ?_ ?_
      · conv => whnf
        exact .rfl _
      · ((conv => whnf); repeat' (first | exact trivial | exact SV.Le.rfl _ | exact ⟨rfl, rfl, rfl⟩ | exact fun i hi => rfl | ((with_reducible refine And.intro ?_ ?_) <;> (conv => whnf))))
    · rw [if_neg (by omega), if_neg (by omega), if_neg (by omega), jc (by assumption), dd (by assumption) (decide_eq_false (by omega)) (fun h => by rw [hc] at h; cases h.1)]
      refine al.of [0, 1, 56] rfl (fun i hi => by have : i = 0 ∨ i = 1 := (by omega); rcases this with h | h <;> subst h <;> rfl) rfl ?_ ?_
      · conv => whnf
        exact .rfl _
      · ((conv => whnf); repeat' (first | exact trivial | exact SV.Le.rfl _ | exact ⟨rfl, rfl, rfl⟩ | exact fun i hi => rfl | ((with_reducible refine And.intro ?_ ?_) <;> (conv => whnf))))
  · have hD : doS ps room xs op pol key n now serial = (errR (dP ps op pol key n now serial), xs) := by unfold doS; rw [if_pos hE]
    rw [hD]
    refine Fun.mk' Try.func14 rfl rfl (zzb rfl) (by decide) ?_
    (repeat' (first
    | with_reducible refine Wp.seq ?_
    | with_reducible refine Wp.block ?_
    | ((with_reducible first | refine Wp.region ?_ | refine Wp.drawL ac ?_ | refine Wp.cond ?_ | refine Wp.ret ?_ | refine Wp.skip ?_ | refine Wp.exit ?_ | refine Go.mk ?_ | apply ay.of); conv => whnf)
    | with_reducible exact rfl
    | ((with_reducible refine Ov.ok zO ?_); conv => whnf)
    | (with_reducible refine Ov.sh1 (by with_unfolding_all exact rfl) ?_)
    | ((with_reducible refine Ov.quo (by omega) (by omega) (by omega) (fun _ _ => ?_)); conv => whnf)
    | ((with_reducible refine And.intro (show aj _ _ _ _ = true by kernel_rfl) ?_); conv => whnf)
    | ((with_reducible refine And.intro zC ?_); conv => whnf)
    | ((with_reducible refine And.intro ?hb ?_); (case hb => exact ae (zzb rfl) (by omega)); (conv => whnf))
    | ((refine ag.a rfl rfl rfl rfl rfl rfl ?hb ?_); (case hb => exact zB); (conv => whnf))
    | ((refine ag.b rfl rfl rfl rfl rfl rfl rfl rfl ?hb ?ho ?_); (case hb => exact zB); (case ho => omega); (conv => whnf))
    | ((refine ag.c rfl rfl rfl rfl rfl ?hb ?_); (case hb => exact zB); (conv => whnf))
    | ((refine ag.d rfl rfl rfl rfl rfl rfl ?hb ?ho ?_); (case hb => exact zB); (case ho => omega); (conv => whnf))
    | (with_reducible refine Or.inl ?_)
    | ((with_reducible refine nil_no (by omega) ?_); (conv => whnf))
    | ((with_reducible refine ah ?_ (fun hn0 => ?_)) <;> (conv => whnf))
    | ((refine aa.fn (aF ps room xs op pol key n now serial) [0,1] rfl rfl rfl rfl rfl ?ha ?hh ?_); (case ha => exact zA); (case hh => exact zH); (conv => whnf))
    | ((refine ai.fn (aF ps room xs op pol key n now serial) [0,1] [0,1] rfl rfl rfl rfl rfl ?ha ?hh ?hs ?_); (case ha => exact zA); (case hh => exact zH); (case hs => exact zK); (conv => whnf)) | ((refine ai.new (aF ps room xs op pol key n now serial) [0,1] [0,1] rfl rfl rfl rfl rfl rfl ?ha ?hh ?hs ?_); (case ha => exact zA); (case hh => exact zH); (case hs => exact zK); (conv => whnf))
    | ((refine ai.fn (aF ps room xs op pol key n now serial) [0,1] [] rfl rfl rfl rfl rfl ?ha ?hh ?hs ?_); (case ha => exact zA); (case hh => exact zH); (case hs => exact zK); (conv => whnf)) | ((refine ai.new (aF ps room xs op pol key n now serial) [0,1] [] rfl rfl rfl rfl rfl rfl ?ha ?hh ?hs ?_); (case ha => exact zA); (case hh => exact zH); (case hs => exact zK); (conv => whnf))
    | exact absurd (by assumption) hE
    | ((refine az (fun hc => ?_) (fun hc => ?_)) <;> (try simp only [decide_eq_true_eq, decide_eq_false_iff_not, Q5, Q20, Bool.and_eq_false_iff, Bool.or_eq_false_iff, Bool.not_eq_true', Bool.not_eq_false', beq_iff_eq, bne_iff_ne, ne_eq, beq_eq_false_iff_ne, bne_eq_false_iff_eq, Bool.not_eq_true, Bool.not_eq_false] at hc) <;> (try (exfalso; omega)) <;> (conv => whnf))))
    refine al.mv2 rfl rfl ?_ ?_
    · conv => whnf
      exact .rfl _
    · ((conv => whnf); repeat' (first | exact trivial | exact SV.Le.rfl _ | exact ⟨rfl, rfl, rfl⟩ | exact fun i hi => rfl | ((with_reducible refine And.intro ?_ ?_) <;> (conv => whnf))))
def cs0 : List Cel := []
theorem ok_of {ps : List Pol} {xs : List Cel} (h : xs.length ≤ 1000000 ∧ ∀ c ∈ xs, (∀ b ∈ c.key, 0 ≤ b ∧ b ≤ 255) ∧ c.key.length ≤ 255 ∧ c.held.length ≤ 64 ∧ 0 ≤ c.pol ∧ c.pol < ps.length) : iE ps xs := by
  have key : ∀ k, k < xs.length → xs.getD k default ∈ xs := fun k hk => by
    rw [Q1, Q0 hk]; exact Q14 hk
  have dflt : ∀ k, ¬ k < xs.length → xs.getD k default = default := fun k hk => by
    rw [Q1, List.getElem?_eq_none (by omega)]; rfl
  refine ⟨h.1, fun k => ?_, fun k => ?_, fun k => ?_, fun k hk => ⟨(h.2 _ (key k hk)).2.2.2.1, (h.2 _ (key k hk)).2.2.2.2⟩⟩
  · by_cases hk : k < xs.length
    · exact (h.2 _ (key k hk)).1
    · rw [dflt k hk]; intro x hx; cases hx
  · by_cases hk : k < xs.length
    · exact (h.2 _ (key k hk)).2.1
    · rw [dflt k hk]; exact Nat.zero_le _
  · by_cases hk : k < xs.length
    · exact (h.2 _ (key k hk)).2.2.1
    · rw [dflt k hk]; exact Nat.zero_le _
section
inductive Sh where
  | int (k : IntKind)
  | bool
  | str
  | sl (z : Nat) (es : List Sh)
mutual
inductive jO : Sh → D → Prop
  | int {k : IntKind} {n : Int} (h : (Lit.int k n).wf = true) : jO (.int k) (.val (.int k n))
  | bool (b : Bool) : jO .bool (.val (.bool b))
  | str (s : ByteArray) (h : s.size ≤ maxLen) : jO .str (.val (.string s))
  | sl {z : Nat} {es : List Sh} {n : Nat} {f : Nat → List D} (hn : n ≤ maxLen) (h : ∀ i, i < n → dz es (f i)) : jO (.sl z es) (.sl z n f)
inductive dz : List Sh → List D → Prop
  | nil : dz [] []
  | cons {s : Sh} {d : D} {ss : List Sh} {ds : List D} (h : jO s d) (t : dz ss ds) : dz (s :: ss) (d :: ds)
end
theorem dz.len : ∀ {ss : List Sh} {ds : List D}, dz ss ds → ds.length = ss.length
  | _, _, .nil => rfl
  | _, _, .cons _ t => by simp [dz.len t]
theorem dz.append : ∀ {ss ss' : List Sh} {ds ds' : List D}, dz ss ds → dz ss' ds' → dz (ss ++ ss') (ds ++ ds')
  | _, _, _, _, .nil, h => h
  | _, _, _, _, .cons h t, h' => .cons h (t.append h')
def shF (r : TypeId → Option (List Sh)) (c : TypeId → Nat) : List Field → Nat → Option (List Sh)
  | [], _ => some []
  | f :: fs, o => if f.offset = o then (r f.type).bind fun a => if a.length = c f.type then (shF r c fs (o + a.length)).map (a ++ ·) else none else none
def shT (P : Program) : Nat → TypeId → Option (List Sh)
  | 0, _ => none
  | n + 1, t => match P.underlying t with
    | some .bool => some [.bool]
    | some (.int k) => some [.int k]
    | some .string => some [.str]
    | some (.slice e) => (shT P n e).bind fun es => if es.length = P.cellsOf e then some [.sl (P.cellsOf e) es] else none
    | some (.struct fs) => (shF (shT P n) P.cellsOf fs.toList 0).bind fun a => if a.length = P.cellsOf t then some a else none
    | _ => none
structure RLs (w : World) (ds : List D) (cs : List Value) : Prop where
  len : ds.length = cs.length
  out : ∀ (j : Nat) (d : D) (c : Value), ds[j]? = some d → cs[j]? = some c → RD w (fun b => b < w.heap.size) d c
theorem RLs.nil (w : World) : RLs w [] [] := ⟨rfl, fun j d c h => by simp at h⟩
theorem RLs.one {w : World} {d : D} {c : Value} (h : RD w (fun b => b < w.heap.size) d c) : RLs w [d] [c] := ⟨rfl, fun j d' c' hd hc => by
  cases j with
  | zero => simp at hd hc; subst hd hc; exact h
  | succ j => simp at hd⟩
theorem RLs.append {w : World} {ds ds' : List D} {cs cs' : List Value} (h : RLs w ds cs) (h' : RLs w ds' cs') : RLs w (ds ++ ds') (cs ++ cs') := by
  have hl := h.len
  refine ⟨by simp [h.len, h'.len], fun j d c hd hc => ?_⟩
  by_cases hj : j < ds.length
  · rw [Q11 hj] at hd
    rw [Q11 (by omega)] at hc
    exact h.out j d c hd hc
  · rw [Q12 (by omega)] at hd
    rw [Q12 (by omega)] at hc
    rw [← hl] at hc
    exact h'.out _ d c hd hc
section
variable {H : Type} {enc : TypeId × Value → H} {P : Program} {w : World} {spare : Nat → Bool}
theorem fw {r : TypeId → Option (List Sh)} {c : TypeId → Nat} {cs : List Value} : ∀ (fs : List Field) (o : Nat) (a : List Sh), shF r c fs o = some a → o + a.length ≤ cs.length →
    (∀ f ∈ fs, ∀ b, r f.type = some b → ∃ ds, dz b ds ∧ RLs w ds ((cs.drop f.offset).take (c f.type))) → ∃ ds, dz a ds ∧ RLs w ds ((cs.drop o).take a.length)
  | [], o, a, h, hl, hr => by
    simp only [shF, Option.some.injEq] at h; subst h
    exact ⟨[], .nil, by simpa using RLs.nil w⟩
  | f :: fs, o, a, h, hl, hr => by
    unfold shF at h
    split at h
    · rename_i ho
      obtain ⟨b, hb, h⟩ := Option.bind_eq_some_iff.1 h
      split at h
      · rename_i hc
        obtain ⟨a', ha', rfl⟩ := Option.map_eq_some_iff.1 h
        rw [Q9] at hl
        obtain ⟨ds, h1, h2⟩ := hr f (by simp) b hb
        obtain ⟨ds', h3, h4⟩ := fw fs _ a' ha' (by omega) (fun g hg => hr g (by simp [hg]))
        refine ⟨ds ++ ds', h1.append h3, ?_⟩
        rw [ho, ← hc] at h2
        have := h2.append h4
        rw [show (cs.drop o).take (b ++ a').length = (cs.drop o).take b.length ++ (cs.drop (o + b.length)).take a'.length by
          rw [Q9, List.take_add, List.drop_drop]]
        exact this
      · cases h
    · cases h
theorem gG {a : Addr} {v : Value} (h : w.cell? (a.add 0) = some v) : a.spot = none := by
  have := World.cell?_spot h
  unfold Addr.add at this
  simpa using this
theorem og : ∀ (m fuel : Nat) (t : TypeId) (cs : List Value) (x : DataW H × List MemPlace) (shs : List Sh), DataW.trod enc P w 0 spare true fuel t cs = some x → shT P m t = some shs → ∃ ds, dz shs ds ∧ RLs w ds cs
  | 0, fuel, t, cs, x, shs, h, hs => by simp [shT] at hs
  | m + 1, 0, t, cs, x, shs, h, hs => by simp [DataW.trod] at h
  | m + 1, fuel + 1, t, cs, x, shs, h, hs => by
    have ih := fun fuel t cs x shs h hs => og m fuel t cs x shs h hs
    unfold shT at hs
    split at hs
    · rename_i hu
      cases hs
      unfold DataW.trod at h
      rw [hu] at h
      split at h <;> simp_all
      exact ⟨_, .cons (.bool _) .nil, .one (.val _ rfl)⟩
    · rename_i k hu
      cases hs
      unfold DataW.trod at h
      rw [hu] at h
      split at h <;> simp_all
      rename_i n _ _
      obtain ⟨⟨rfl, hw⟩, _⟩ := h
      exact ⟨_, .cons (.int hw) .nil, .one (.val _ rfl)⟩
    · rename_i hu
      cases hs
      unfold DataW.trod at h
      rw [hu] at h
      split at h <;> simp_all
      exact ⟨_, .cons (.str _ h.1) .nil, .one (.val _ rfl)⟩
    · rename_i e hu
      obtain ⟨es, he, hs⟩ := Option.bind_eq_some_iff.1 hs
      split at hs
      case isFalse => cases hs
      rename_i hz
      cases hs
      rcases Go.Deep.open_slice hu h with ⟨rfl, _⟩ | ⟨a, len, cap, mm, n, Dd, Pl, rfl, _, hl, hm, hmm, _, hel⟩
      · refine ⟨[.sl (P.cellsOf e) 0 fun _ => []], .cons (.sl (by unfold maxLen; omega) fun i hi => by omega) .nil, .one (.sl _ 0 _ none 0 (fun _ _ => undef) (Q4 _) (by unfold maxLen; omega) (fun i hi => by omega) (fun h => by omega) (fun i j hi => by omega))⟩
      · have hle : len ≤ mm := by rw [hmm]; split <;> omega
        have hx : ∀ i, ∃ p : List Value × List D, i < len → w.cells? 0 (a.add (i * P.cellsOf e)) (P.cellsOf e) = some p.1 ∧ dz es p.2 ∧ RLs w p.2 p.1 := fun i => by
          by_cases hi : i < len
          · obtain ⟨cs', h1, h2⟩ := hel i (by omega)
            obtain ⟨ds, h3, h4⟩ := ih _ _ _ _ _ h2 he
            exact ⟨(cs', ds), fun _ => ⟨h1, h3, h4⟩⟩
          · exact ⟨([], []), fun h => absurd h hi⟩
        obtain ⟨F, hF⟩ := Classical.axiomOfChoice hx
        refine ⟨[.sl (P.cellsOf e) len fun i => (F i).2], .cons (.sl (by omega) fun i hi => (hF i hi).2.1) .nil, .one (.sl _ len _ (some a) cap (fun i j => ((F i).1[j]?).getD undef) hl hm (fun i hi => by rw [(hF i hi).2.1.len, hz]) (fun h0 => ?_) (fun i j hi hj => ?_))⟩
        · have h0' : 0 < len ∧ 0 < P.cellsOf e := ⟨Nat.pos_of_ne_zero fun h => by subst h; simp at h0, Nat.pos_of_ne_zero fun h => by rw [h] at h0; simp at h0⟩
          have hcell : ∀ i j, i < len → j < P.cellsOf e → ∃ v, (F i).1[j]? = some v ∧ w.cell? ((a.add (i * P.cellsOf e)).add j) = some v := fun i j hi hj => by
            obtain ⟨_, k2, k3⟩ := World.cells?_some (hF i hi).1
            have hj' : j < (F i).1.length := by omega
            refine ⟨_, Q0 hj', ?_⟩
            rw [k3 j hj, Q0 hj']
          obtain ⟨v0, _, c0⟩ := hcell 0 0 h0'.1 h0'.2
          rw [Nat.zero_mul] at c0
          have hsp : a.spot = none := gG (by
            have := World.cell?_spot c0
            have e1 : (a.add 0) = a := by unfold Addr.add; simp
            rw [e1] at c0; exact c0)
          obtain ⟨b, o, sp⟩ := a
          simp only at hsp
          subst hsp
          refine ⟨b, o, rfl, ?_, fun i j hi hj => ?_⟩
          · rw [Addr.add_mid, Addr.add_mid] at c0
            exact World.block_lt_of_cell? w _ c0
          · obtain ⟨v, k1, k2⟩ := hcell i j hi hj
            rw [Addr.add_mid, Addr.add_mid] at k2
            rw [k2, k1]; rfl
        · have h9 := (hF i hi).2.2
          have hl9 := h9.len
          have hj' : j < (F i).1.length := by rw [← hl9]; exact hj
          exact h9.out j _ _ (Q0 hj) (by rw [Q0 hj']; rfl)
    · rename_i fs hu
      obtain ⟨a, ha, hs⟩ := Option.bind_eq_some_iff.1 hs
      split at hs
      case isFalse => cases hs
      rename_i hz
      cases hs
      obtain ⟨xs, n, _, _, hl, _, hf⟩ := DataW.trod_struct hu h
      obtain ⟨ds, h1, h2⟩ := fw (w := w) (cs := cs) fs.toList 0 shs ha (by omega) (fun f hf' b hb => by
        obtain ⟨i, hi, e⟩ := List.getElem_of_mem hf'
        have hi' : i < fs.size := by simpa using hi
        have hfi : fs[i]? = some f := by rw [Array.getElem?_eq_getElem hi']; rw [← e]; simp
        have hq := hf i f hfi
        rename_i hxl _
        have hxi : ∃ y, xs[i]? = some y := ⟨xs[i]'(by omega), Q0 _⟩
        obtain ⟨y, hy⟩ := hxi
        rw [hy] at hq
        exact ih _ _ _ _ _ hq hb)
      refine ⟨ds, h1, ?_⟩
      rw [List.drop_zero, hz, ← hl, List.take_length] at h2
      exact h2
    · cases hs
end
end
end Go.Proofs.Ytpdhdnhkhidmpaa
