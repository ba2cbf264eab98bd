/- Lemmas of Bk12, Bk13, Bk14, Bk15, Bk16, Bk17, Br1, Br2, Br3a. No condition. -/
import Derived.Test.YtcbpkdhoibemcaaGreatMK6
import Derived.Deep.Slices
import Derived.ReadAgain
import Derived.ChangeSame
import Derived.ProofKit
import Derived.OpenShut
import Derived.JoinedCond
import Derived.WideWitness
import Derived.Test.YtcbpkdhoibemcaaGreatRows
set_option linter.unusedVariables false
set_option linter.unusedSimpArgs false
set_option maxHeartbeats 80000000
set_option maxRecDepth 100000
namespace Go.Proofs.YtcbpkdhoibemcaaGreat
open Go.RowKit
theorem nJ (lt : Nat → Bool) : ∀ (q i j : Nat), i ≤ j → i ≤ bsF lt q i j ∧ bsF lt q i j ≤ j
 | 0, i, j, h => ⟨Q4 _, h⟩
 | q + 1, i, j, h => by
  unfold bsF
  split
  ·split
   ·have := nJ lt q ((i + j) / 2 + 1) j (by omega); omega
   ·have := nJ lt q i ((i + j) / 2) (by omega); omega
  ·omega
theorem bs_le (lt : Nat → Bool) (n : Nat) : bs lt n ≤ n := (nJ lt (n + 1) 0 n (Nat.zero_le _)).2
theorem fw (xs : List Int) (n : Int) : bJ xs n ≤ xs.length := bs_le _ _
theorem j6 (xs : List Cel) (t : Cel) : aM xs t ≤ xs.length := bs_le _ _
theorem kg {xs : List Int} {n : Int} (h : jz xs n = true) : bJ xs n < xs.length := by simp [jz] at h; exact h.1
theorem ij (p : Int) (xs : List Int) : dx p xs = 0 → 1 ≤ p ∧ p ≤ 64 ∧ (xs.length : Int) ≤ p := by
 unfold dx; split
 ·intro _; omega
 ·intro h; omega
def bi (p : Int) (xs : List Int) (n : Int) : Int := if gz n = false then 1 else if dx p xs ≠ 0 then dx p xs else if jz xs n = true then 8 else if (xs.length : Int) = p then 9 else 0
def di (p : Int) (xs : List Int) (n : Int) : List Int := if bi p xs n = 0 then br xs (bJ xs n) n else []
def lR (p : Int) (xs : List Int) (n : Int) : Int := if bi p xs n = 0 then p else 0
theorem fy (p : Int) (xs : List Int) (n : Int) : Pure TC 48 [.agg [.i .i64 p, .d (aj 1 (ao .i64) xs)], .i .i64 n] (.tup [.agg [.i .i64 (lR p xs n), .d (aj 1 (ao .i64) (di p xs n))], .i .i64 (bi p xs n)]) := by
 have hb := ij p xs
 have hp := fw xs n
 refine Pure.mk' Tryz.func48 rfl rfl zN ?_
 (repeat' (first | ((first | refine Wp.any aa rfl ?_ | (with_reducible first | refine Go.mk ?_ | apply ak.of)); conv => whnf) | with_reducible exact rfl | ((with_reducible refine Ov.ok zO ?_); conv => whnf) | (with_reducible refine Ov.sh1 (by with_unfolding_all exact rfl) ?_) | ((first | with_reducible refine Ov.quo (by omega) (by omega) (by omega) (fun _ _ => ?_) | refine zV ?_ | with_reducible refine And.intro zC ?_); conv => whnf) | ((with_reducible refine And.intro ?hb ?_); (case hb => exact zz0); (conv => whnf)) | ((refine ae.a rfl rfl rfl rfl rfl rfl ?hb ?_); (case hb => exact zB); (conv => whnf)) | ((refine ae.b rfl rfl rfl rfl rfl rfl rfl rfl ?hb ?ho ?_); (case hb => exact zB); (case ho => omega); (conv => whnf)) | ((refine ae.c rfl rfl rfl rfl rfl ?hb ?_); (case hb => exact zB); (conv => whnf)) | ((refine ae.d rfl rfl rfl rfl rfl rfl ?hb ?ho ?_); (case hb => exact zB); (case ho => omega); (conv => whnf)) | (with_reducible refine Or.inl ?_) | ((with_reducible refine IxA.ptr ?_); conv => whnf) | ((with_reducible refine nil_no (by omega) ?_); (conv => whnf)) | ((with_reducible refine af ?_ (fun hn0 => ?_)) <;> (conv => whnf)) | ((with_reducible first | refine ab.pure (ck _) rfl rfl ?_ | refine ag.pure (ck _) rfl rfl ?_ | refine ab.pure (cU _ _) rfl rfl ?_ | refine ag.pure (cU _ _) rfl rfl ?_ | refine ab.pure (cP _ _ (by omega)) rfl rfl ?_ | refine ag.pure (cP _ _ (by omega)) rfl rfl ?_); conv => whnf) | ((refine ab.fn (bF xs (by omega)) [] rfl rfl rfl rfl rfl ?ha ?hh ?_); (case ha => exact zA); (case hh => exact zH); (conv => whnf)) | ((refine ag.fn (bF xs (by omega)) [] [] rfl rfl rfl rfl rfl ?ha ?hh ?hs ?_); (case ha => exact zA); (case hh => exact zH); (case hs => exact zK); (conv => whnf)) | ((refine ag.new (bF xs (by omega)) [] [] rfl rfl rfl rfl rfl rfl ?ha ?hh ?hs ?_); (case ha => exact zA); (case hh => exact zH); (case hs => exact zK); (conv => whnf)) | ((refine ab.fn (b7 xs (bJ xs n) n (by omega) (by omega)) [6,9] rfl rfl rfl rfl rfl ?ha ?hh ?_); (case ha => exact zA); (case hh => exact zH); (conv => whnf)) | ((refine ag.fn (b7 xs (bJ xs n) n (by omega) (by omega)) [6,9] [6,9] rfl rfl rfl rfl rfl ?ha ?hh ?hs ?_); (case ha => exact zA); (case hh => exact zH); (case hs => exact zK); (conv => whnf)) | ((refine ag.new (b7 xs (bJ xs n) n (by omega) (by omega)) [6,9] [6,9] rfl rfl rfl rfl rfl rfl ?ha ?hh ?hs ?_); (case ha => exact zA); (case hh => exact zH); (case hs => exact zK); (conv => whnf)) | ((refine ag.fn (b7 xs (bJ xs n) n (by omega) (by omega)) [6,9] [] rfl rfl rfl rfl rfl ?ha ?hh ?hs ?_); (case ha => exact zA); (case hh => exact zH); (case hs => exact zK); (conv => whnf)) | ((refine ag.new (b7 xs (bJ xs n) n (by omega) (by omega)) [6,9] [] rfl rfl rfl rfl rfl rfl ?ha ?hh ?hs ?_); (case ha => exact zA); (case hh => exact zH); (case hs => exact zK); (conv => whnf)) | ((refine am (fun hc => ?_) (fun hc => ?_)) <;> (try simp only [wz9] at hc) <;> (try (exfalso; omega)) <;> (conv => whnf))))
 ·have h : bi p xs n = 1 := by simp [bi, hc]
  rw [lR, di, h]; exact .tup (.cons (.agg (.cons (.rfl _) (.cons .nil .nil))) (.cons (.rfl _) .nil))
 ·rename_i h1
  have h : bi p xs n = dx p xs := by simp [bi, hc, h1]
  rw [lR, di, h, if_neg hc, if_neg hc]; exact .tup (.cons (.agg (.cons (.rfl _) (.cons .nil .nil))) (.cons (.rfl _) .nil))
 ·rename_i h1 h2
  have h : bi p xs n = 8 := by simp [bi, hc, h1, h2]
  rw [lR, di, h]; exact .tup (.cons (.agg (.cons (.rfl _) (.cons .nil .nil))) (.cons (.rfl _) .nil))
 ·rename_i h1 h2 h3
  have h : bi p xs n = 9 := by simp [bi, hc, h1, h2, h3]
  rw [lR, di, h]; exact .tup (.cons (.agg (.cons (.rfl _) (.cons .nil .nil))) (.cons (.rfl _) .nil))
 ·rename_i h1 h2 h3
  have h : bi p xs n = 0 := by simp [bi, hc, h1, h2, h3]
  rw [lR, di, h, if_pos rfl, if_pos rfl]
  exact .tup (.cons (.agg (.cons (.rfl _) (.cons (SV.Le.sl fun i hi => by rw [Q19]) .nil))) (.cons (.rfl _) .nil))
def bT (p : Int) (xs : List Int) (n : Int) : Int := if dx p xs ≠ 0 then dx p xs else if jz xs n = true then 0 else 11
def d7 (p : Int) (xs : List Int) (n : Int) : List Int := if bT p xs n = 0 then b9 xs (bJ xs n) else []
def pU (p : Int) (xs : List Int) (n : Int) : Int := if bT p xs n = 0 then p else 0
theorem fA (p : Int) (xs : List Int) (n : Int) : Pure TC 49 [.agg [.i .i64 p, .d (aj 1 (ao .i64) xs)], .i .i64 n] (.tup [.agg [.i .i64 (pU p xs n), .d (aj 1 (ao .i64) (d7 p xs n))], .i .i64 (bT p xs n)]) := by
 have hb := ij p xs
 have hp := fw xs n
 have hl := kg (xs := xs) (n := n)
 refine Pure.mk' Tryz.func49 rfl rfl zN ?_
 (repeat' (first | ((first | refine Wp.any aa rfl ?_ | (with_reducible first | refine Go.mk ?_ | apply ak.of)); conv => whnf) | with_reducible exact rfl | ((with_reducible refine Ov.ok zO ?_); conv => whnf) | (with_reducible refine Ov.sh1 (by with_unfolding_all exact rfl) ?_) | ((first | with_reducible refine Ov.quo (by omega) (by omega) (by omega) (fun _ _ => ?_) | refine zV ?_ | with_reducible refine And.intro zC ?_); conv => whnf) | ((with_reducible refine And.intro ?hb ?_); (case hb => exact zz0); (conv => whnf)) | ((refine ae.a rfl rfl rfl rfl rfl rfl ?hb ?_); (case hb => exact zB); (conv => whnf)) | ((refine ae.b rfl rfl rfl rfl rfl rfl rfl rfl ?hb ?ho ?_); (case hb => exact zB); (case ho => omega); (conv => whnf)) | ((refine ae.c rfl rfl rfl rfl rfl ?hb ?_); (case hb => exact zB); (conv => whnf)) | ((refine ae.d rfl rfl rfl rfl rfl rfl ?hb ?ho ?_); (case hb => exact zB); (case ho => omega); (conv => whnf)) | (with_reducible refine Or.inl ?_) | ((with_reducible refine IxA.ptr ?_); conv => whnf) | ((with_reducible refine nil_no (by omega) ?_); (conv => whnf)) | ((with_reducible refine af ?_ (fun hn0 => ?_)) <;> (conv => whnf)) | ((with_reducible first | refine ab.pure (cU _ _) rfl rfl ?_ | refine ag.pure (cU _ _) rfl rfl ?_ | refine ab.pure (cP _ _ (by omega)) rfl rfl ?_ | refine ag.pure (cP _ _ (by omega)) rfl rfl ?_); conv => whnf) | ((refine ab.fn (bF xs (by omega)) [] rfl rfl rfl rfl rfl ?ha ?hh ?_); (case ha => exact zA); (case hh => exact zH); (conv => whnf)) | ((refine ag.fn (bF xs (by omega)) [] [] rfl rfl rfl rfl rfl ?ha ?hh ?hs ?_); (case ha => exact zA); (case hh => exact zH); (case hs => exact zK); (conv => whnf)) | ((refine ag.new (bF xs (by omega)) [] [] rfl rfl rfl rfl rfl rfl ?ha ?hh ?hs ?_); (case ha => exact zA); (case hh => exact zH); (case hs => exact zK); (conv => whnf)) | ((refine ab.fn (b8 xs (bJ xs n) (hl (by assumption)) (by omega)) [6] rfl rfl rfl rfl rfl ?ha ?hh ?_); (case ha => exact zA); (case hh => exact zH); (conv => whnf)) | ((refine ag.fn (b8 xs (bJ xs n) (hl (by assumption)) (by omega)) [6] [6] rfl rfl rfl rfl rfl ?ha ?hh ?hs ?_); (case ha => exact zA); (case hh => exact zH); (case hs => exact zK); (conv => whnf)) | ((refine ag.new (b8 xs (bJ xs n) (hl (by assumption)) (by omega)) [6] [6] rfl rfl rfl rfl rfl rfl ?ha ?hh ?hs ?_); (case ha => exact zA); (case hh => exact zH); (case hs => exact zK); (conv => whnf)) | ((refine ag.fn (b8 xs (bJ xs n) (hl (by assumption)) (by omega)) [6] [] rfl rfl rfl rfl rfl ?ha ?hh ?hs ?_); (case ha => exact zA); (case hh => exact zH); (case hs => exact zK); (conv => whnf)) | ((refine ag.new (b8 xs (bJ xs n) (hl (by assumption)) (by omega)) [6] [] rfl rfl rfl rfl rfl rfl ?ha ?hh ?hs ?_); (case ha => exact zA); (case hh => exact zH); (case hs => exact zK); (conv => whnf)) | ((refine am (fun hc => ?_) (fun hc => ?_)) <;> (try simp only [wz9] at hc) <;> (try (exfalso; omega)) <;> (conv => whnf))))
 ·have h : bT p xs n = dx p xs := by simp [bT, hc]
  have h0 : ¬ bT p xs n = 0 := by rw [h]; exact hc
  rw [pU, d7, if_neg h0, if_neg h0, h]; exact .tup (.cons (.agg (.cons (.rfl _) (.cons .nil .nil))) (.cons (.rfl _) .nil))
 ·rename_i h1
  have h : bT p xs n = 11 := by simp [bT, hc, h1]
  rw [pU, d7, h]; exact .tup (.cons (.agg (.cons (.rfl _) (.cons .nil .nil))) (.cons (.rfl _) .nil))
 ·rename_i h1
  have h : bT p xs n = 0 := by simp [bT, hc, h1]
  rw [pU, d7, h, if_pos rfl, if_pos rfl]
  exact .tup (.cons (.agg (.cons (.rfl _) (.cons (SV.Le.sl fun i hi => by rw [Q19]) .nil))) (.cons (.rfl _) .nil))
def jV (p : Pol) (c : Cel) (n : Int) : Rpl := if bi p.permits c.held n = 0 then ⟨0, true, p.permits - (di p.permits c.held n).length, 0, n, 0⟩ else ⟨bi p.permits c.held n, false, 0, 0, 0, 0⟩
def dP (p : Pol) (c : Cel) (n : Int) : Cel := if bi p.permits c.held n = 0 then ⟨c.pol, c.key, c.tat, di p.permits c.held n⟩ else c
def kQ (p : Pol) (c : Cel) (n : Int) : Rpl := if bT p.permits c.held n = 0 then ⟨0, true, p.permits - (d7 p.permits c.held n).length, 0, 0, 0⟩ else ⟨bT p.permits c.held n, false, 0, 0, 0, 0⟩
def ew (p : Pol) (c : Cel) (n : Int) : Cel := if bT p.permits c.held n = 0 then ⟨c.pol, c.key, c.tat, d7 p.permits c.held n⟩ else c
theorem jY {p : Int} {xs : List Int} {n : Int} : bi p xs n = 0 ↔ gz n = true ∧ dx p xs = 0 ∧ jz xs n = false ∧ ¬ (xs.length : Int) = p := by
 unfold bi
 by_cases h1 : gz n = false
 ·rw [if_pos h1]; simp [h1]
 ·rw [if_neg h1]
  by_cases h2 : dx p xs = 0
  ·rw [if_neg (fun h => h h2)]
   by_cases h3 : jz xs n = true
   ·rw [if_pos h3]; simp [h3]
   ·rw [if_neg h3]
    by_cases h4 : (xs.length : Int) = p
    ·rw [if_pos h4]; simp [h4]
    ·rw [if_neg h4]; simp_all
  ·rw [if_pos h2]; simp [h2]
theorem kh {p : Int} {xs : List Int} {n : Int} : bT p xs n = 0 ↔ dx p xs = 0 ∧ jz xs n = true := by
 unfold bT
 by_cases h2 : dx p xs = 0
 ·rw [if_neg (fun h => h h2)]
  by_cases h3 : jz xs n = true
  ·rw [if_pos h3]; simp [h2, h3]
  ·rw [if_neg h3]; simp [h3]
 ·rw [if_pos h2]; simp [h2]
theorem ia {p : Int} {xs : List Int} {n : Int} (h : bi p xs n = 0) : 1 ≤ p ∧ p ≤ 64 ∧ ((di p xs n).length : Int) ≤ p := by
 obtain ⟨_, h1, _, h2⟩ := jY.1 h
 have hb := ij p xs h1
 rw [di, if_pos h, aB _ _ _ (fw _ _)]
 omega
theorem iK {p : Int} {xs : List Int} {n : Int} (h : bT p xs n = 0) : 1 ≤ p ∧ p ≤ 64 ∧ ((d7 p xs n).length : Int) < p := by
 obtain ⟨h1, hh⟩ := kh.1 h
 have hb := ij p xs h1
 have := kg hh
 rw [d7, if_pos h, cL _ _ this]
 omega
theorem eH (p : Pol) (c : Cel) (n : Int) : Pure TC 25 [p.S, c.S, .i .i64 n] (.tup [(jV p c n).S, (dP p c n).S]) := by
 have hb := ia (p := p.permits) (xs := c.held) (n := n)
 refine Pure.mk' Tryz.func25 rfl rfl zN ?_
 (repeat' (first | ((first | refine Wp.any aa rfl ?_ | (with_reducible first | refine Go.mk ?_ | apply ak.of)); conv => whnf) | with_reducible exact rfl | ((with_reducible refine Ov.ok zO ?_); conv => whnf) | (with_reducible refine Ov.sh1 (by with_unfolding_all exact rfl) ?_) | ((first | with_reducible refine Ov.quo (by omega) (by omega) (by omega) (fun _ _ => ?_) | refine zV ?_ | with_reducible refine And.intro zC ?_); conv => whnf) | ((with_reducible refine And.intro ?hb ?_); (case hb => exact zz0); (conv => whnf)) | ((refine ae.a rfl rfl rfl rfl rfl rfl ?hb ?_); (case hb => exact zB); (conv => whnf)) | ((refine ae.b rfl rfl rfl rfl rfl rfl rfl rfl ?hb ?ho ?_); (case hb => exact zB); (case ho => omega); (conv => whnf)) | ((refine ae.c rfl rfl rfl rfl rfl ?hb ?_); (case hb => exact zB); (conv => whnf)) | ((refine ae.d rfl rfl rfl rfl rfl rfl ?hb ?ho ?_); (case hb => exact zB); (case ho => omega); (conv => whnf)) | (with_reducible refine Or.inl ?_) | ((with_reducible refine IxA.ptr ?_); conv => whnf) | ((with_reducible refine nil_no (by omega) ?_); (conv => whnf)) | ((with_reducible refine af ?_ (fun hn0 => ?_)) <;> (conv => whnf)) | ((with_reducible first | refine ab.pure (fy _ _ _) rfl rfl ?_ | refine ag.pure (fy _ _ _) rfl rfl ?_); conv => whnf) | ((refine am (fun hc => ?_) (fun hc => ?_)) <;> (try simp only [wz9] at hc) <;> (try (exfalso; omega)) <;> (conv => whnf))))
 ·rw [jV, dP, if_neg hc, if_neg hc]; exact .rfl _
 ·rw [jV, dP, if_pos hc, if_pos hc]; exact .rfl _
theorem eF (p : Pol) (c : Cel) (n : Int) : Pure TC 26 [p.S, c.S, .i .i64 n] (.tup [(kQ p c n).S, (ew p c n).S]) := by
 have hb := iK (p := p.permits) (xs := c.held) (n := n)
 refine Pure.mk' Tryz.func26 rfl rfl zN ?_
 (repeat' (first | ((first | refine Wp.any aa rfl ?_ | (with_reducible first | refine Go.mk ?_ | apply ak.of)); conv => whnf) | with_reducible exact rfl | ((with_reducible refine Ov.ok zO ?_); conv => whnf) | (with_reducible refine Ov.sh1 (by with_unfolding_all exact rfl) ?_) | ((first | with_reducible refine Ov.quo (by omega) (by omega) (by omega) (fun _ _ => ?_) | refine zV ?_ | with_reducible refine And.intro zC ?_); conv => whnf) | ((with_reducible refine And.intro ?hb ?_); (case hb => exact zz0); (conv => whnf)) | ((refine ae.a rfl rfl rfl rfl rfl rfl ?hb ?_); (case hb => exact zB); (conv => whnf)) | ((refine ae.b rfl rfl rfl rfl rfl rfl rfl rfl ?hb ?ho ?_); (case hb => exact zB); (case ho => omega); (conv => whnf)) | ((refine ae.c rfl rfl rfl rfl rfl ?hb ?_); (case hb => exact zB); (conv => whnf)) | ((refine ae.d rfl rfl rfl rfl rfl rfl ?hb ?ho ?_); (case hb => exact zB); (case ho => omega); (conv => whnf)) | (with_reducible refine Or.inl ?_) | ((with_reducible refine IxA.ptr ?_); conv => whnf) | ((with_reducible refine nil_no (by omega) ?_); (conv => whnf)) | ((with_reducible refine af ?_ (fun hn0 => ?_)) <;> (conv => whnf)) | ((with_reducible first | refine ab.pure (fA _ _ _) rfl rfl ?_ | refine ag.pure (fA _ _ _) rfl rfl ?_); conv => whnf) | ((refine am (fun hc => ?_) (fun hc => ?_)) <;> (try simp only [wz9] at hc) <;> (try (exfalso; omega)) <;> (conv => whnf))))
 ·rw [kQ, ew, if_neg hc, if_neg hc]; exact .rfl _
 ·rw [kQ, ew, if_pos hc, if_pos hc]; exact .rfl _
theorem eD (xs : List Int) (hn : xs.length ≤ 16777216) : Pure TC 51 [.d (aj 1 (ao .u8) xs)] (.d (aj 1 (ao .u8) xs)) := by
 refine Pure.mk' Tryz.func51 rfl rfl zN ?_
 (repeat' (first | ((first | refine Wp.any aa rfl ?_ | (with_reducible first | refine Go.mk ?_ | apply ak.of)); conv => whnf) | with_reducible exact rfl | ((with_reducible refine Ov.ok zO ?_); conv => whnf) | (with_reducible refine Ov.sh1 (by with_unfolding_all exact rfl) ?_) | ((first | with_reducible refine Ov.quo (by omega) (by omega) (by omega) (fun _ _ => ?_) | refine zV ?_ | with_reducible refine And.intro zC ?_); conv => whnf) | ((with_reducible refine And.intro ?hb ?_); (case hb => exact zz0); (conv => whnf)) | ((refine ae.a rfl rfl rfl rfl rfl rfl ?hb ?_); (case hb => exact zB); (conv => whnf)) | ((refine ae.b rfl rfl rfl rfl rfl rfl rfl rfl ?hb ?ho ?_); (case hb => exact zB); (case ho => omega); (conv => whnf)) | ((refine ae.c rfl rfl rfl rfl rfl ?hb ?_); (case hb => exact zB); (conv => whnf)) | ((refine ae.d rfl rfl rfl rfl rfl rfl ?hb ?ho ?_); (case hb => exact zB); (case ho => omega); (conv => whnf)) | (with_reducible refine Or.inl ?_) | ((with_reducible refine IxA.ptr ?_); conv => whnf) | ((with_reducible refine nil_no (by omega) ?_); (conv => whnf)) | ((with_reducible refine af ?_ (fun hn0 => ?_)) <;> (conv => whnf)) | ((refine am (fun hc => ?_) (fun hc => ?_)) <;> (try simp only [wz9] at hc) <;> (try (exfalso; omega)) <;> (conv => whnf))))
 ·rw [Q19]; exact SV.Le.sl fun i hi => by simp [bh]
 ·obtain rfl := List.eq_nil_of_length_eq_zero hn0
  exact SV.Le.nil
theorem gD (xs : List Pol) (hn : xs.length ≤ 16777216) : Pure TC 16 [.d (aj 4 Pol.D xs)] (.d (aj 4 Pol.D xs)) := by
 refine Pure.mk' Tryz.func16 rfl rfl zN ?_
 (repeat' (first | ((first | refine Wp.any aa rfl ?_ | (with_reducible first | refine Go.mk ?_ | apply ak.of)); conv => whnf) | with_reducible exact rfl | ((with_reducible refine Ov.ok zO ?_); conv => whnf) | (with_reducible refine Ov.sh1 (by with_unfolding_all exact rfl) ?_) | ((first | with_reducible refine Ov.quo (by omega) (by omega) (by omega) (fun _ _ => ?_) | refine zV ?_ | with_reducible refine And.intro zC ?_); conv => whnf) | ((with_reducible refine And.intro ?hb ?_); (case hb => exact zz0); (conv => whnf)) | ((refine ae.a rfl rfl rfl rfl rfl rfl ?hb ?_); (case hb => exact zB); (conv => whnf)) | ((refine ae.b rfl rfl rfl rfl rfl rfl rfl rfl ?hb ?ho ?_); (case hb => exact zB); (case ho => omega); (conv => whnf)) | ((refine ae.c rfl rfl rfl rfl rfl ?hb ?_); (case hb => exact zB); (conv => whnf)) | ((refine ae.d rfl rfl rfl rfl rfl rfl ?hb ?ho ?_); (case hb => exact zB); (case ho => omega); (conv => whnf)) | (with_reducible refine Or.inl ?_) | ((with_reducible refine IxA.ptr ?_); conv => whnf) | ((with_reducible refine nil_no (by omega) ?_); (conv => whnf)) | ((with_reducible refine af ?_ (fun hn0 => ?_)) <;> (conv => whnf)) | ((refine am (fun hc => ?_) (fun hc => ?_)) <;> (try simp only [wz9] at hc) <;> (try (exfalso; omega)) <;> (conv => whnf))))
 ·rw [Q19]; exact SV.Le.sl fun i hi => by simp [bh]
 ·obtain rfl := List.eq_nil_of_length_eq_zero hn0
  exact SV.Le.nil
def cA (xs : List Cel) (at' : Nat) (there : Bool) (c : Cel) : List Cel := if there = true then xs.set at' c else br xs at' c
theorem ce (xs : List Cel) (at' : Nat) (there : Bool) (c : Cel) (hn : xs.length ≤ 16777215) (hk : c.key.length ≤ 16777216) (h1 : at' ≤ xs.length) (h2 : there = true → at' < xs.length) :
  Fun TC 27 1 [.sl 0 4 0 xs.length, .i .i64 at', .b there, c.S] [(0, some (ap 56 4 Cel.D xs))] 2 (.sl 1 4 0 (cA xs at' there c).length) [(0, some (ap 56 4 Cel.D xs)), (1, some (ap 56 4 Cel.D (cA xs at' there c)))] := by
 cases there with
 | true =>
  have h2 := h2 rfl
  refine Fun.mk' Tryz.func27 rfl rfl zN (by decide) ?_
  (repeat' (first | ((first | refine Wp.any aa rfl ?_ | (with_reducible first | refine Go.mk ?_ | apply ak.of)); conv => whnf) | with_reducible exact rfl | ((with_reducible refine Ov.ok zO ?_); conv => whnf) | (with_reducible refine Ov.sh1 (by with_unfolding_all exact rfl) ?_) | ((first | with_reducible refine Ov.quo (by omega) (by omega) (by omega) (fun _ _ => ?_) | refine zV ?_ | with_reducible refine And.intro zC ?_); conv => whnf) | ((with_reducible refine And.intro ?hb ?_); (case hb => exact zz0); (conv => whnf)) | ((refine ae.a rfl rfl rfl rfl rfl rfl ?hb ?_); (case hb => exact zB); (conv => whnf)) | ((refine ae.b rfl rfl rfl rfl rfl rfl rfl rfl ?hb ?ho ?_); (case hb => exact zB); (case ho => omega); (conv => whnf)) | ((refine ae.c rfl rfl rfl rfl rfl ?hb ?_); (case hb => exact zB); (conv => whnf)) | ((refine ae.d rfl rfl rfl rfl rfl rfl ?hb ?ho ?_); (case hb => exact zB); (case ho => omega); (conv => whnf)) | (with_reducible refine Or.inl ?_) | ((with_reducible refine IxA.ptr ?_); conv => whnf) | ((with_reducible refine nil_no (by omega) ?_); (conv => whnf)) | ((with_reducible refine af ?_ (fun hn0 => ?_)) <;> (conv => whnf)) | ((refine ab.fn (ar xs (by omega)) [0] rfl rfl rfl rfl rfl ?ha ?hh ?_); (case ha => exact zA); (case hh => exact zH); (conv => whnf)) | ((refine ag.fn (ar xs (by omega)) [0] [0] rfl rfl rfl rfl rfl ?ha ?hh ?hs ?_); (case ha => exact zA); (case hh => exact zH); (case hs => exact zK); (conv => whnf)) | ((refine ag.new (ar xs (by omega)) [0] [0] rfl rfl rfl rfl rfl rfl ?ha ?hh ?hs ?_); (case ha => exact zA); (case hh => exact zH); (case hs => exact zK); (conv => whnf)) | ((refine ag.fn (ar xs (by omega)) [0] [] rfl rfl rfl rfl rfl ?ha ?hh ?hs ?_); (case ha => exact zA); (case hh => exact zH); (case hs => exact zK); (conv => whnf)) | ((refine ag.new (ar xs (by omega)) [0] [] rfl rfl rfl rfl rfl rfl ?ha ?hh ?hs ?_); (case ha => exact zA); (case hh => exact zH); (case hs => exact zK); (conv => whnf)) | ((refine am (fun hc => ?_) (fun hc => ?_)) <;> (try simp only [wz9] at hc) <;> (try (exfalso; omega)) <;> (conv => whnf))))
  refine ah.of [0, 2] rfl (fun i hi => by obtain rfl : i = 0 := (by omega); rfl) rfl ?_ ?_
  ·exact .of_eq (congrArg (SV.sl _ _ _) (by simp [cA]))
  ·refine ⟨⟨⟨rfl, rfl, rfl⟩, fun i hi => rfl⟩, ⟨⟨rfl, rfl, by simp [cA]⟩, fun i hi => ?_⟩, trivial⟩
   simp only [cA, if_true, Q1, List.getElem?_set]
   by_cases h : at' = i
   ·subst h; simp [h2]; rfl
   ·rw [if_neg h, if_neg (fun e => h (by omega))]
 | false =>
  refine Fun.mk' Tryz.func27 rfl rfl zN (by decide) ?_
  (repeat' (first | ((first | refine Wp.any aa rfl ?_ | (with_reducible first | refine Go.mk ?_ | apply ak.of)); conv => whnf) | with_reducible exact rfl | ((with_reducible refine Ov.ok zO ?_); conv => whnf) | (with_reducible refine Ov.sh1 (by with_unfolding_all exact rfl) ?_) | ((first | with_reducible refine Ov.quo (by omega) (by omega) (by omega) (fun _ _ => ?_) | refine zV ?_ | with_reducible refine And.intro zC ?_); conv => whnf) | ((with_reducible refine And.intro ?hb ?_); (case hb => exact zz0); (conv => whnf)) | ((refine ae.a rfl rfl rfl rfl rfl rfl ?hb ?_); (case hb => exact zB); (conv => whnf)) | ((refine ae.b rfl rfl rfl rfl rfl rfl rfl rfl ?hb ?ho ?_); (case hb => exact zB); (case ho => omega); (conv => whnf)) | ((refine ae.c rfl rfl rfl rfl rfl ?hb ?_); (case hb => exact zB); (conv => whnf)) | ((refine ae.d rfl rfl rfl rfl rfl rfl ?hb ?ho ?_); (case hb => exact zB); (case ho => omega); (conv => whnf)) | (with_reducible refine Or.inl ?_) | ((with_reducible refine IxA.ptr ?_); conv => whnf) | ((with_reducible refine nil_no (by omega) ?_); (conv => whnf)) | ((with_reducible refine af ?_ (fun hn0 => ?_)) <;> (conv => whnf)) | ((refine ab.fn (ar xs (by omega)) [0] rfl rfl rfl rfl rfl ?ha ?hh ?_); (case ha => exact zA); (case hh => exact zH); (conv => whnf)) | ((refine ag.fn (ar xs (by omega)) [0] [0] rfl rfl rfl rfl rfl ?ha ?hh ?hs ?_); (case ha => exact zA); (case hh => exact zH); (case hs => exact zK); (conv => whnf)) | ((refine ag.new (ar xs (by omega)) [0] [0] rfl rfl rfl rfl rfl rfl ?ha ?hh ?hs ?_); (case ha => exact zA); (case hh => exact zH); (case hs => exact zK); (conv => whnf)) | ((refine ag.fn (ar xs (by omega)) [0] [] rfl rfl rfl rfl rfl ?ha ?hh ?hs ?_); (case ha => exact zA); (case hh => exact zH); (case hs => exact zK); (conv => whnf)) | ((refine ag.new (ar xs (by omega)) [0] [] rfl rfl rfl rfl rfl rfl ?ha ?hh ?hs ?_); (case ha => exact zA); (case hh => exact zH); (case hs => exact zK); (conv => whnf)) | ((with_reducible first | refine ab.pure (eD _ (by omega)) rfl rfl ?_ | refine ag.pure (eD _ (by omega)) rfl rfl ?_); conv => whnf) | ((refine ab.fn (bC xs at' c (by omega) (by omega)) [2,3] rfl rfl rfl rfl rfl ?ha ?hh ?_); (case ha => exact zA); (case hh => exact zH); (conv => whnf)) | ((refine ag.fn (bC xs at' c (by omega) (by omega)) [2,3] [2,3] rfl rfl rfl rfl rfl ?ha ?hh ?hs ?_); (case ha => exact zA); (case hh => exact zH); (case hs => exact zK); (conv => whnf)) | ((refine ag.new (bC xs at' c (by omega) (by omega)) [2,3] [2,3] rfl rfl rfl rfl rfl rfl ?ha ?hh ?hs ?_); (case ha => exact zA); (case hh => exact zH); (case hs => exact zK); (conv => whnf)) | ((refine ag.fn (bC xs at' c (by omega) (by omega)) [2,3] [] rfl rfl rfl rfl rfl ?ha ?hh ?hs ?_); (case ha => exact zA); (case hh => exact zH); (case hs => exact zK); (conv => whnf)) | ((refine ag.new (bC xs at' c (by omega) (by omega)) [2,3] [] rfl rfl rfl rfl rfl rfl ?ha ?hh ?hs ?_); (case ha => exact zA); (case hh => exact zH); (case hs => exact zK); (conv => whnf)) | ((refine am (fun hc => ?_) (fun hc => ?_)) <;> (try simp only [wz9] at hc) <;> (try (exfalso; omega)) <;> (conv => whnf))))
  refine ah.of [0, 4] rfl (fun i hi => by obtain rfl : i = 0 := (by omega); rfl) rfl ?_ ?_
  ·exact .rfl _
  ·exact ⟨⟨⟨rfl, rfl, rfl⟩, fun i hi => rfl⟩, ⟨⟨rfl, rfl, rfl⟩, fun i hi => rfl⟩, trivial⟩
@[reducible] def evH (ps : List Pol) (room now : Int) (k n : Nat) (xs : List Cel) : List (Nat × Option Blk) :=
 [(0, some (.row 56 4 n fun i => (xs.getD i default).D)), (1, some (.cells [.d (aj 4 Pol.D ps), .i .i64 room, .sl 0 4 0 k])), (2, some (.cells [.ptr 1 0])), (3, some (.cells [.i .i64 now]))]
theorem bW (ps : List Pol) (room now : Int) (k n : Nat) (xs : List Cel) (c : Cel) (h0 : 0 ≤ c.pol) (h1 : c.pol < ps.length) :
  Fun TC 20 4 [c.S, .ptr 2 0, .ptr 3 0] (evH ps room now k n xs) 4 (.b (aW ps c now)) (evH ps room now k n xs) := by
 refine Fun.mk' Tryz.func20 rfl rfl zN (by decide) ?_
 (repeat' (first | ((first | refine Wp.any aa rfl ?_ | (with_reducible first | refine Go.mk ?_ | apply ak.of)); conv => whnf) | with_reducible exact rfl | ((with_reducible refine Ov.ok zO ?_); conv => whnf) | (with_reducible refine Ov.sh1 (by with_unfolding_all exact rfl) ?_) | ((first | with_reducible refine Ov.quo (by omega) (by omega) (by omega) (fun _ _ => ?_) | refine zV ?_ | with_reducible refine And.intro zC ?_); conv => whnf) | ((with_reducible refine And.intro ?hb ?_); (case hb => exact zz0); (conv => whnf)) | ((refine ae.a rfl rfl rfl rfl rfl rfl ?hb ?_); (case hb => exact zB); (conv => whnf)) | ((refine ae.b rfl rfl rfl rfl rfl rfl rfl rfl ?hb ?ho ?_); (case hb => exact zB); (case ho => omega); (conv => whnf)) | ((refine ae.c rfl rfl rfl rfl rfl ?hb ?_); (case hb => exact zB); (conv => whnf)) | ((refine ae.d rfl rfl rfl rfl rfl rfl ?hb ?ho ?_); (case hb => exact zB); (case ho => omega); (conv => whnf)) | (with_reducible refine Or.inl ?_) | ((with_reducible refine IxA.ptr ?_); conv => whnf) | ((with_reducible refine nil_no (by omega) ?_); (conv => whnf)) | ((with_reducible refine af ?_ (fun hn0 => ?_)) <;> (conv => whnf)) | ((with_reducible first | refine ab.pure (jR ps c now h0 h1) rfl rfl ?_ | refine ag.pure (jR ps c now h0 h1) rfl rfl ?_); conv => whnf) | ((refine am (fun hc => ?_) (fun hc => ?_)) <;> (try simp only [wz9] at hc) <;> (try (exfalso; omega)) <;> (conv => whnf))))
 refine ah.of [0, 1, 2, 3] rfl (fun i hi => by have : i = 0 ∨ i = 1 ∨ i = 2 ∨ i = 3 := (by omega); rcases this with h | h | h | h <;> subst h <;> rfl) rfl ?_ ?_
 ·exact .rfl _
 ·((conv => whnf); repeat' (first | exact trivial | exact SV.Le.rfl _ | exact ⟨rfl, rfl, rfl⟩ | exact fun i hi => rfl | ((with_reducible refine And.intro ?_ ?_) <;> (conv => whnf))))
def fst (p : Cel → Bool) : List Cel → Nat
 | [] => 0
 | c :: r => if p c = true then 0 else fst p r + 1
theorem ng (p : Cel → Bool) : ∀ xs : List Cel, fst p xs ≤ xs.length
 | [] => Q4 _
 | c :: r => by unfold fst; split <;> simp [ng p r]
theorem dC (p : Cel → Bool) : ∀ (xs : List Cel) (k : Nat), k ≤ xs.length → (∀ j, j < k → p (xs.getD j default) = false) → fst p xs = k + fst p (xs.drop k)
 | xs, 0, _, _ => by simp
 | [], k + 1, h, _ => by simp at h
 | c :: r, k + 1, h, hp => by
  have h0 := hp 0 (by omega)
  rw [fst, if_neg (by simpa using h0), List.drop_succ_cons, dC p r k (by simpa using h) (fun j hj => by simpa using hp (j + 1) (by omega))]
  omega
theorem iM (p : Cel → Bool) : ∀ (xs : List Cel) (j : Nat), j < fst p xs → p (xs.getD j default) = false
 | [], j, h => by simp [fst] at h
 | c :: r, j, h => by
  unfold fst at h
  split at h
  ·omega
  ·cases j with
   | zero => simpa using (by assumption : ¬ p c = true)
   | succ j => simpa using iM p r j (by omega)
theorem iN (p : Cel → Bool) : ∀ (xs : List Cel), fst p xs < xs.length → p (xs.getD (fst p xs) default) = true
 | [], h => by simp at h
 | c :: r, h => by
  unfold fst at h ⊢
  split
  ·simpa
  ·rename_i hc; rw [if_neg hc] at h; simpa using iN p r (by simpa using h)
theorem kH (p : Cel → Bool) (xs : List Cel) : ∀ k, k ≤ fst p xs → (xs.take k).filter (fun c => !p c) = xs.take k := by
 intro k hk
 rw [List.filter_eq_self]
 intro c hc
 obtain ⟨j, hj, rfl⟩ := List.getElem_of_mem hc
 simp at hj
 have := iM p xs j (by omega)
 rw [Q1, Q0 (by omega)] at this
 simpa using this
theorem a9 (ps : List Pol) (room now : Int) (k : Nat) (xs : List Cel) (hp : ∀ j, j < xs.length → 0 ≤ (xs.getD j default).pol ∧ (xs.getD j default).pol < ps.length) (hlen : xs.length ≤ 4611686018427387903) :
  Fun TC 42 4 [.sl 0 4 0 xs.length, .fn (.func 20) [.ptr 2 0, .ptr 3 0]] (evH ps room now k xs.length xs) 4 (.i .i64 (if fst (fun c => aW ps c now) xs < xs.length then fst (fun c => aW ps c now) xs else -1)) (evH ps room now k xs.length xs) := by
 refine Fun.mk' Tryz.func42 rfl rfl zN (by decide) ?_
 (repeat' (first | ((first | refine Wp.any aa rfl ?_ | (with_reducible first | refine Go.mk ?_ | apply ak.of)); conv => whnf) | with_reducible exact rfl | ((with_reducible refine Ov.ok zO ?_); conv => whnf) | (with_reducible refine Ov.sh1 (by with_unfolding_all exact rfl) ?_) | ((first | with_reducible refine Ov.quo (by omega) (by omega) (by omega) (fun _ _ => ?_) | refine zV ?_ | with_reducible refine And.intro zC ?_); conv => whnf) | ((with_reducible refine And.intro ?hb ?_); (case hb => exact zz0); (conv => whnf)) | ((refine ae.a rfl rfl rfl rfl rfl rfl ?hb ?_); (case hb => exact zB); (conv => whnf)) | ((refine ae.b rfl rfl rfl rfl rfl rfl rfl rfl ?hb ?ho ?_); (case hb => exact zB); (case ho => omega); (conv => whnf)) | ((refine ae.c rfl rfl rfl rfl rfl ?hb ?_); (case hb => exact zB); (conv => whnf)) | ((refine ae.d rfl rfl rfl rfl rfl rfl ?hb ?ho ?_); (case hb => exact zB); (case ho => omega); (conv => whnf)) | (with_reducible refine Or.inl ?_) | ((with_reducible refine IxA.ptr ?_); conv => whnf) | ((with_reducible refine nil_no (by omega) ?_); (conv => whnf)) | ((with_reducible refine af ?_ (fun hn0 => ?_)) <;> (conv => whnf)) | ((refine am (fun hc => ?_) (fun hc => ?_)) <;> (try simp only [wz9] at hc) <;> (try (exfalso; omega)) <;> (conv => whnf))))
 refine Wp.loopP (ι := Nat) (fun i => i ≤ xs.length ∧ ∀ j, j < i → aW ps (xs.getD j default) now = false) (fun i => ⟨⟨Tryz.f42.ntmps, 4⟩, 4, [(0, .sl 0 4 0 xs.length), (1, .fn (.func 20) [.ptr 2 0, .ptr 3 0]), (7, .i .i64 xs.length), (8, .i .i64 i)], evH ps room now k xs.length xs⟩) (fun i => xs.length - i) 0 ⟨by simp, by simp⟩ ?_ ?_
 ·(refine Le.by [0,1,2,3] rfl rfl rfl rfl ?_ ?_ <;> (conv => whnf) <;> (repeat' (first | exact trivial | exact ac.rfl rfl | exact ac.ptr rfl | exact ac.sl rfl | ((with_reducible refine ac.fn ?_); (conv => whnf)) | ((refine ac.iref ?_); (conv => whnf)) | exact ⟨rfl, rfl, rfl⟩ | exact fun i hi => rfl | ((with_reducible refine And.intro ?_ ?_) <;> (conv => whnf)))))
 ·rintro i ⟨h1, h2⟩
  (repeat' (first | ((first | refine Wp.any aa rfl ?_ | (with_reducible first | refine Go.mk ?_ | apply ak.of)); conv => whnf) | with_reducible exact rfl | ((with_reducible refine Ov.ok zO ?_); conv => whnf) | (with_reducible refine Ov.sh1 (by with_unfolding_all exact rfl) ?_) | ((first | with_reducible refine Ov.quo (by omega) (by omega) (by omega) (fun _ _ => ?_) | refine zV ?_ | with_reducible refine And.intro zC ?_); conv => whnf) | ((with_reducible refine And.intro ?hb ?_); (case hb => exact zz0); (conv => whnf)) | ((refine ae.a rfl rfl rfl rfl rfl rfl ?hb ?_); (case hb => exact zB); (conv => whnf)) | ((refine ae.b rfl rfl rfl rfl rfl rfl rfl rfl ?hb ?ho ?_); (case hb => exact zB); (case ho => omega); (conv => whnf)) | ((refine ae.c rfl rfl rfl rfl rfl ?hb ?_); (case hb => exact zB); (conv => whnf)) | ((refine ae.d rfl rfl rfl rfl rfl rfl ?hb ?ho ?_); (case hb => exact zB); (case ho => omega); (conv => whnf)) | (with_reducible refine Or.inl ?_) | ((with_reducible refine IxA.ptr ?_); conv => whnf) | ((with_reducible refine nil_no (by omega) ?_); (conv => whnf)) | ((with_reducible refine af ?_ (fun hn0 => ?_)) <;> (conv => whnf)) | ((refine ab.fn (bW ps room now k xs.length xs (xs.getD (0 + (i : Int).toNat) default) (hp _ (by omega)).1 (hp _ (by omega)).2) [0,1,2,3] rfl rfl rfl rfl rfl ?ha ?hh ?_); (case ha => exact zA); (case hh => exact zH); (conv => whnf)) | ((refine ag.fn (bW ps room now k xs.length xs (xs.getD (0 + (i : Int).toNat) default) (hp _ (by omega)).1 (hp _ (by omega)).2) [0,1,2,3] [0,1,2,3] rfl rfl rfl rfl rfl ?ha ?hh ?hs ?_); (case ha => exact zA); (case hh => exact zH); (case hs => exact zK); (conv => whnf)) | ((refine ag.new (bW ps room now k xs.length xs (xs.getD (0 + (i : Int).toNat) default) (hp _ (by omega)).1 (hp _ (by omega)).2) [0,1,2,3] [0,1,2,3] rfl rfl rfl rfl rfl rfl ?ha ?hh ?hs ?_); (case ha => exact zA); (case hh => exact zH); (case hs => exact zK); (conv => whnf)) | ((refine ag.fn (bW ps room now k xs.length xs (xs.getD (0 + (i : Int).toNat) default) (hp _ (by omega)).1 (hp _ (by omega)).2) [0,1,2,3] [] rfl rfl rfl rfl rfl ?ha ?hh ?hs ?_); (case ha => exact zA); (case hh => exact zH); (case hs => exact zK); (conv => whnf)) | ((refine ag.new (bW ps room now k xs.length xs (xs.getD (0 + (i : Int).toNat) default) (hp _ (by omega)).1 (hp _ (by omega)).2) [0,1,2,3] [] rfl rfl rfl rfl rfl rfl ?ha ?hh ?hs ?_); (case ha => exact zA); (case hh => exact zH); (case hs => exact zK); (conv => whnf)) | ((refine am (fun hc => ?_) (fun hc => ?_)) <;> (try simp only [wz9] at hc) <;> (try (exfalso; omega)) <;> (conv => whnf))))
  ·simp only [Q13, Q19] at hc
   have hf : fst (fun c => aW ps c now) xs = i := by
    rw [dC _ xs i h1 h2, aQ (by omega), fst, if_pos hc]; rfl
   refine ah.of [0, 1, 2, 3] rfl (fun i hi => by have : i = 0 ∨ i = 1 ∨ i = 2 ∨ i = 3 := (by omega); rcases this with h | h | h | h <;> subst h <;> rfl) rfl ?_ ?_
   ·exact .i (by rw [hf, if_pos (by omega)])
   ·((conv => whnf); repeat' (first | exact trivial | exact SV.Le.rfl _ | exact ⟨rfl, rfl, rfl⟩ | exact fun i hi => rfl | ((with_reducible refine And.intro ?_ ?_) <;> (conv => whnf))))
  ·simp only [Q13, Q19] at hc
   refine ⟨i + 1, ⟨by omega, fun j hj => ?_⟩, by dsimp only; omega, ?_⟩
   ·by_cases e : j = i
    ·subst e; exact hc
    ·exact h2 j (by omega)
   ·(refine Le.by [0,1,2,3] rfl rfl rfl rfl ?_ ?_ <;> (conv => whnf) <;> (repeat' (first | exact trivial | exact ac.rfl rfl | exact ac.ptr rfl | exact ac.sl rfl | ((with_reducible refine ac.fn ?_); (conv => whnf)) | ((refine ac.iref ?_); (conv => whnf)) | exact ⟨rfl, rfl, rfl⟩ | exact fun i hi => rfl | ((with_reducible refine And.intro ?_ ?_) <;> (conv => whnf)))))
  ·have hf : fst (fun c => aW ps c now) xs = xs.length := by
    rw [dC _ xs i h1 h2, List.drop_eq_nil_of_le (by omega), fst]; omega
   refine ah.of [0, 1, 2, 3] rfl (fun i hi => by have : i = 0 ∨ i = 1 ∨ i = 2 ∨ i = 3 := (by omega); rcases this with h | h | h | h <;> subst h <;> rfl) rfl ?_ ?_
   ·exact .i (by rw [hf, if_neg (by omega)])
   ·((conv => whnf); repeat' (first | exact trivial | exact SV.Le.rfl _ | exact ⟨rfl, rfl, rfl⟩ | exact fun i hi => rfl | ((with_reducible refine And.intro ?_ ?_) <;> (conv => whnf))))
def cg (ps : List Pol) (now : Int) (xs : List Cel) : List Cel := xs.filter fun c => !aW ps c now
theorem aN {xs : List Cel} {k : Nat} (h : k < xs.length) : xs.take (k + 1) = xs.take k ++ [xs.getD k default] := by
 rw [List.take_add_one, Q0 h]; simp [List.getD, Q0 h]
theorem dh (ps : List Pol) (room now : Int) (xs : List Cel) (hp : ∀ j, j < xs.length → 0 ≤ (xs.getD j default).pol ∧ (xs.getD j default).pol < ps.length) (hlen : xs.length ≤ 4611686018427387903) :
  Fun TC 19 4 [.sl 0 4 0 xs.length, .fn (.func 20) [.ptr 2 0, .ptr 3 0]] (evH ps room now xs.length xs.length xs) 4 (.sl 0 4 0 (cg ps now xs).length) (evH ps room now xs.length (cg ps now xs).length (cg ps now xs)) := by
 refine Fun.mk' Tryz.func19 rfl rfl zN (by decide) ?_
 have hfl := ng (fun c => aW ps c now) xs
 (repeat' (first | ((first | refine Wp.any aa rfl ?_ | (with_reducible first | refine Go.mk ?_ | apply ak.of)); conv => whnf) | with_reducible exact rfl | ((with_reducible refine Ov.ok zO ?_); conv => whnf) | (with_reducible refine Ov.sh1 (by with_unfolding_all exact rfl) ?_) | ((first | with_reducible refine Ov.quo (by omega) (by omega) (by omega) (fun _ _ => ?_) | refine zV ?_ | with_reducible refine And.intro zC ?_); conv => whnf) | ((with_reducible refine And.intro ?hb ?_); (case hb => exact zz0); (conv => whnf)) | ((refine ae.a rfl rfl rfl rfl rfl rfl ?hb ?_); (case hb => exact zB); (conv => whnf)) | ((refine ae.b rfl rfl rfl rfl rfl rfl rfl rfl ?hb ?ho ?_); (case hb => exact zB); (case ho => omega); (conv => whnf)) | ((refine ae.c rfl rfl rfl rfl rfl ?hb ?_); (case hb => exact zB); (conv => whnf)) | ((refine ae.d rfl rfl rfl rfl rfl rfl ?hb ?ho ?_); (case hb => exact zB); (case ho => omega); (conv => whnf)) | (with_reducible refine Or.inl ?_) | ((with_reducible refine IxA.ptr ?_); conv => whnf) | ((with_reducible refine nil_no (by omega) ?_); (conv => whnf)) | ((with_reducible refine af ?_ (fun hn0 => ?_)) <;> (conv => whnf)) | ((refine ab.fn (a9 ps room now xs.length xs hp hlen) [0,1,2,3] rfl rfl rfl rfl rfl ?ha ?hh ?_); (case ha => exact zA); (case hh => exact zH); (conv => whnf)) | ((refine ag.fn (a9 ps room now xs.length xs hp hlen) [0,1,2,3] [0,1,2,3] rfl rfl rfl rfl rfl ?ha ?hh ?hs ?_); (case ha => exact zA); (case hh => exact zH); (case hs => exact zK); (conv => whnf)) | ((refine ag.new (a9 ps room now xs.length xs hp hlen) [0,1,2,3] [0,1,2,3] rfl rfl rfl rfl rfl rfl ?ha ?hh ?hs ?_); (case ha => exact zA); (case hh => exact zH); (case hs => exact zK); (conv => whnf)) | ((refine ag.fn (a9 ps room now xs.length xs hp hlen) [0,1,2,3] [] rfl rfl rfl rfl rfl ?ha ?hh ?hs ?_); (case ha => exact zA); (case hh => exact zH); (case hs => exact zK); (conv => whnf)) | ((refine ag.new (a9 ps room now xs.length xs hp hlen) [0,1,2,3] [] rfl rfl rfl rfl rfl rfl ?ha ?hh ?hs ?_); (case ha => exact zA); (case hh => exact zH); (case hs => exact zK); (conv => whnf)) | ((refine am (fun hc => ?_) (fun hc => ?_)) <;> (try simp only [wz9] at hc) <;> (try (exfalso; omega)) <;> (conv => whnf))))
 ·have hf : fst (fun c => aW ps c now) xs = xs.length := by
   by_cases h : fst (fun c => aW ps c now) xs < xs.length
   ·rw [if_pos h] at hc; omega
   ·omega
  have hst : cg ps now xs = xs := by
   have := kH (fun c => aW ps c now) xs xs.length (by omega)
   rw [List.take_length] at this; exact this
  rw [hst]
  refine ah.of [0, 1, 2, 3] rfl (fun i hi => by have : i = 0 ∨ i = 1 ∨ i = 2 ∨ i = 3 := (by omega); rcases this with h | h | h | h <;> subst h <;> rfl) rfl ?_ ?_
  ·exact .rfl _
  ·((conv => whnf); repeat' (first | exact trivial | exact SV.Le.rfl _ | exact ⟨rfl, rfl, rfl⟩ | exact fun i hi => rfl | ((with_reducible refine And.intro ?_ ?_) <;> (conv => whnf))))
 ·have hlt : fst (fun c => aW ps c now) xs < xs.length := by
   by_cases h : fst (fun c => aW ps c now) xs < xs.length
   ·exact h
   ·rw [if_neg h] at hc; exact absurd rfl hc
  rw [if_pos hlt]
  have h0 : cg ps now (xs.take (fst (fun c => aW ps c now) xs + 1)) = xs.take (fst (fun c => aW ps c now) xs) := by
   rw [aN hlt, cg, List.filter_append, kH (fun c => aW ps c now) xs _ (Q4 _)]
   have := iN (fun c => aW ps c now) xs hlt
   simp only [List.filter_cons, List.filter_nil]
   rw [if_neg (by simpa using this), List.append_nil]
  generalize fst (fun c => aW ps c now) xs = q at *
  refine Wp.loopP (ι := Nat × Nat × List Cel) (fun k => k.1 < k.2.1 ∧ k.2.1 ≤ xs.length ∧ k.2.2.length = xs.length ∧ k.2.2.take k.1 = cg ps now (xs.take k.2.1) ∧ ∀ j, k.2.1 ≤ j → k.2.2.getD j default = xs.getD j default) (fun k => ⟨⟨Tryz.f19.ntmps, 4⟩, 4, [(0, .sl 0 4 0 xs.length), (1, .fn (.func 20) [.ptr 2 0, .ptr 3 0]), (5, .i .i64 k.1), (6, .i .i64 k.2.1)], evH ps room now xs.length xs.length k.2.2⟩) (fun k => xs.length - k.2.1) (q, q + 1, xs) ⟨by simp, hlt, rfl, h0.symm, fun _ _ => rfl⟩ ?_ ?_
  ·(refine Le.by [0,1,2,3] rfl rfl rfl rfl ?_ ?_ <;> (conv => whnf) <;> (repeat' (first | exact trivial | exact ac.rfl rfl | exact ac.ptr rfl | exact ac.sl rfl | ((with_reducible refine ac.fn ?_); (conv => whnf)) | ((refine ac.iref ?_); (conv => whnf)) | exact ⟨rfl, rfl, rfl⟩ | exact fun i hi => rfl | ((with_reducible refine And.intro ?_ ?_) <;> (conv => whnf)))))
  ·rintro ⟨i, j, zs⟩ ⟨h1, h2, h3, h4, h5⟩
   dsimp only at h1 h2 h3 h4 h5 ⊢
   have hpz : ∀ m, j ≤ m → m < xs.length → 0 ≤ (zs.getD m default).pol ∧ (zs.getD m default).pol < ps.length := fun m hm hm2 => by rw [h5 m hm]; exact hp m hm2
   (repeat' (first | ((first | refine Wp.any aa rfl ?_ | (with_reducible first | refine Go.mk ?_ | apply ak.of)); conv => whnf) | with_reducible exact rfl | ((with_reducible refine Ov.ok zO ?_); conv => whnf) | (with_reducible refine Ov.sh1 (by with_unfolding_all exact rfl) ?_) | ((first | with_reducible refine Ov.quo (by omega) (by omega) (by omega) (fun _ _ => ?_) | refine zV ?_ | with_reducible refine And.intro zC ?_); conv => whnf) | ((with_reducible refine And.intro ?hb ?_); (case hb => exact zz0); (conv => whnf)) | ((refine ae.a rfl rfl rfl rfl rfl rfl ?hb ?_); (case hb => exact zB); (conv => whnf)) | ((refine ae.b rfl rfl rfl rfl rfl rfl rfl rfl ?hb ?ho ?_); (case hb => exact zB); (case ho => omega); (conv => whnf)) | ((refine ae.c rfl rfl rfl rfl rfl ?hb ?_); (case hb => exact zB); (conv => whnf)) | ((refine ae.d rfl rfl rfl rfl rfl rfl ?hb ?ho ?_); (case hb => exact zB); (case ho => omega); (conv => whnf)) | (with_reducible refine Or.inl ?_) | ((with_reducible refine IxA.ptr ?_); conv => whnf) | ((with_reducible refine nil_no (by omega) ?_); (conv => whnf)) | ((with_reducible refine af ?_ (fun hn0 => ?_)) <;> (conv => whnf)) | ((refine ab.fn (bW ps room now xs.length xs.length zs (zs.getD (0 + (j : Int).toNat) default) (hpz _ (by omega) (by omega)).1 (hpz _ (by omega) (by omega)).2) [0,1,2,3] rfl rfl rfl rfl rfl ?ha ?hh ?_); (case ha => exact zA); (case hh => exact zH); (conv => whnf)) | ((refine ag.fn (bW ps room now xs.length xs.length zs (zs.getD (0 + (j : Int).toNat) default) (hpz _ (by omega) (by omega)).1 (hpz _ (by omega) (by omega)).2) [0,1,2,3] [0,1,2,3] rfl rfl rfl rfl rfl ?ha ?hh ?hs ?_); (case ha => exact zA); (case hh => exact zH); (case hs => exact zK); (conv => whnf)) | ((refine ag.new (bW ps room now xs.length xs.length zs (zs.getD (0 + (j : Int).toNat) default) (hpz _ (by omega) (by omega)).1 (hpz _ (by omega) (by omega)).2) [0,1,2,3] [0,1,2,3] rfl rfl rfl rfl rfl rfl ?ha ?hh ?hs ?_); (case ha => exact zA); (case hh => exact zH); (case hs => exact zK); (conv => whnf)) | ((refine ag.fn (bW ps room now xs.length xs.length zs (zs.getD (0 + (j : Int).toNat) default) (hpz _ (by omega) (by omega)).1 (hpz _ (by omega) (by omega)).2) [0,1,2,3] [] rfl rfl rfl rfl rfl ?ha ?hh ?hs ?_); (case ha => exact zA); (case hh => exact zH); (case hs => exact zK); (conv => whnf)) | ((refine ag.new (bW ps room now xs.length xs.length zs (zs.getD (0 + (j : Int).toNat) default) (hpz _ (by omega) (by omega)).1 (hpz _ (by omega) (by omega)).2) [0,1,2,3] [] rfl rfl rfl rfl rfl rfl ?ha ?hh ?hs ?_); (case ha => exact zA); (case hh => exact zH); (case hs => exact zK); (conv => whnf)) | ((refine am (fun hc => ?_) (fun hc => ?_)) <;> (try simp only [wz9] at hc) <;> (try (exfalso; omega)) <;> (conv => whnf))))
   all_goals simp only [Q13, Q19] at *
   ·rename_i hj hc0
    have hx : aW ps (xs.getD j default) now = false := by rw [← h5 j (Q4 _)]; exact hc
    have hg : ∀ m, (zs.set i (zs.getD j default)).getD m default = if i = m then zs.getD j default else zs.getD m default := fun m => by
     simp only [Q1, List.getElem?_set]
     by_cases e : i = m
     ·subst e; rw [if_pos rfl, if_pos (by omega), if_pos rfl]; rfl
     ·rw [if_neg e, if_neg e]
    refine ⟨(i + 1, j + 1, zs.set i (zs.getD j default)), ⟨by dsimp only; omega, by dsimp only; omega, by simpa using h3, ?_, fun m hm => ?_⟩, by dsimp only; omega, ?_⟩
    ·dsimp only
     rw [aN (by rw [List.length_set]; omega), List.take_set_of_le (Q4 _), h4, hg, if_pos rfl, aN (xs := xs) (by omega), cg, cg, List.filter_append, h5 j (Q4 _)]
     congr 1
     simp only [List.filter_cons, List.filter_nil]
     rw [if_pos (by rw [hx]; rfl)]
    ·dsimp only at hm ⊢
     rw [hg, if_neg (by omega)]; exact h5 m (by omega)
    ·(refine Le.by [0,1,2,3] rfl rfl rfl rfl ?_ ?_ <;> (conv => whnf) <;> (repeat' (first | exact trivial | exact ac.rfl rfl | exact ac.ptr rfl | exact ac.sl rfl | ((with_reducible refine ac.fn ?_); (conv => whnf)) | ((refine ac.iref ?_); (conv => whnf)) | exact ⟨rfl, rfl, rfl⟩ | exact fun i hi => rfl | ((with_reducible refine And.intro ?_ ?_) <;> (conv => whnf)))))
     intro m hm
     dsimp only
     rw [hg]
     by_cases e : i = m
     ·subst e; simp; rfl
     ·rw [if_neg e, if_neg (fun h => e (by omega))]
   ·rename_i hj hc0
    have hx : aW ps (xs.getD j default) now = true := by rw [← h5 j (Q4 _)]; exact hc
    refine ⟨(i, j + 1, zs), ⟨by dsimp only; omega, by dsimp only; omega, h3, ?_, fun m hm => ?_⟩, by dsimp only; omega, ?_⟩
    ·dsimp only
     rw [h4, aN (xs := xs) (by omega), cg, cg, List.filter_append]
     simp only [List.filter_cons, List.filter_nil]
     rw [if_neg (by rw [hx]; simp), List.append_nil]
    ·exact h5 m (by dsimp only at hm; omega)
    ·(refine Le.by [0,1,2,3] rfl rfl rfl rfl ?_ ?_ <;> (conv => whnf) <;> (repeat' (first | exact trivial | exact ac.rfl rfl | exact ac.ptr rfl | exact ac.sl rfl | ((with_reducible refine ac.fn ?_); (conv => whnf)) | ((refine ac.iref ?_); (conv => whnf)) | exact ⟨rfl, rfl, rfl⟩ | exact fun i hi => rfl | ((with_reducible refine And.intro ?_ ?_) <;> (conv => whnf)))))
   ·have hj : j = xs.length := by omega
    subst hj
    rw [List.take_length] at h4
    have hl : (cg ps now xs).length = i := by rw [← h4, Q10, h3]; omega
    refine ah.of [0, 1, 2, 3] rfl (fun i hi => by have : i = 0 ∨ i = 1 ∨ i = 2 ∨ i = 3 := (by omega); rcases this with h | h | h | h <;> subst h <;> rfl) rfl ?_ ?_
    ·exact .of_eq (by rw [hl]; simp)
    ·((conv => whnf); repeat' (first | exact trivial | exact SV.Le.rfl _ | exact ⟨rfl, rfl, rfl⟩ | exact fun i hi => rfl | ((with_reducible refine And.intro ?_ ?_) <;> (conv => whnf))))
     ·exact hl.symm
     ·intro m hm
      dsimp only
      rw [← h4]
      simp only [Q1, Q15]
      rw [if_pos (by omega)]
theorem bD {ps : List Pol} (h : bq ps = 0) : ps.length ≤ 32 := by
 unfold bq at h
 split at h <;> omega
def gt (ps : List Pol) (cells : Int) : Int := if cells < 1 ∨ 4096 < cells then 1 else bq ps
theorem iX (ps : List Pol) (cells : Int) (h : gt ps cells = 0) : Fun TC 5 0 [.d (aj 4 Pol.D ps), .i .i64 cells] [] 2 (.tup [.ptr 0 0, .i .i64 0]) (iZ ps cells []) := by
 have hc1 : 1 ≤ cells ∧ cells ≤ 4096 := by
  unfold gt at h
  split at h
  ·omega
  ·omega
 have hp : bq ps = 0 := by
  unfold gt at h
  split at h
  ·omega
  ·exact h
 have hl := bD hp
 refine Fun.mk' Tryz.func5 rfl rfl zN (by decide) ?_
 (repeat' (first | ((first | refine Wp.any aa rfl ?_ | (with_reducible first | refine Go.mk ?_ | apply ak.of)); conv => whnf) | with_reducible exact rfl | ((with_reducible refine Ov.ok zO ?_); conv => whnf) | (with_reducible refine Ov.sh1 (by with_unfolding_all exact rfl) ?_) | ((first | with_reducible refine Ov.quo (by omega) (by omega) (by omega) (fun _ _ => ?_) | refine zV ?_ | with_reducible refine And.intro zC ?_); conv => whnf) | ((with_reducible refine And.intro ?hb ?_); (case hb => exact zz0); (conv => whnf)) | ((refine ae.a rfl rfl rfl rfl rfl rfl ?hb ?_); (case hb => exact zB); (conv => whnf)) | ((refine ae.b rfl rfl rfl rfl rfl rfl rfl rfl ?hb ?ho ?_); (case hb => exact zB); (case ho => omega); (conv => whnf)) | ((refine ae.c rfl rfl rfl rfl rfl ?hb ?_); (case hb => exact zB); (conv => whnf)) | ((refine ae.d rfl rfl rfl rfl rfl rfl ?hb ?ho ?_); (case hb => exact zB); (case ho => omega); (conv => whnf)) | (with_reducible refine Or.inl ?_) | ((with_reducible refine IxA.ptr ?_); conv => whnf) | ((with_reducible refine nil_no (by omega) ?_); (conv => whnf)) | ((with_reducible refine af ?_ (fun hn0 => ?_)) <;> (conv => whnf)) | ((with_reducible first | refine ab.pure (bA _) rfl rfl ?_ | refine ag.pure (bA _) rfl rfl ?_ | refine ab.pure (gD ps (by omega)) rfl rfl ?_ | refine ag.pure (gD ps (by omega)) rfl rfl ?_); conv => whnf) | ((refine am (fun hc => ?_) (fun hc => ?_)) <;> (try simp only [wz9] at hc) <;> (try (exfalso; omega)) <;> (conv => whnf))))
 all_goals try (exfalso; omega)
 refine ah.virtC 0 2 56 4 (fun _ => []) (by decide) rfl rfl (by decide) ?_
 refine ah.of [0, 1] rfl (fun i hi => by omega) rfl ?_ ?_
 ·exact .rfl _
 ·((conv => whnf); repeat' (first | exact trivial | exact SV.Le.rfl _ | exact ⟨rfl, rfl, rfl⟩ | exact fun i hi => rfl | ((with_reducible refine And.intro ?_ ?_) <;> (conv => whnf))))
  exact fun i hi => absurd hi (Nat.not_lt_zero _)
def dG (e : Int) : Rpl := ⟨e, false, 0, 0, 0, 0⟩
def bK (p : Pol) (c : Cel) (op n now serial : Int) : Rpl × Cel := if op = 1 then (dM p c now n, bt p c now n) else if op = 2 then (jV p c serial, dP p c serial) else (kQ p c n, ew p c n)
def mg (room : Int) (xs : List Cel) (pol : Int) (key : List Int) (z : Bool) (q : Rpl × Cel) : Rpl × List Cel :=
 if q.1.g = false ∨ z = true then (q.1, xs) else if bS xs (aw pol key) = false ∧ (xs.length : Int) = room then (dG 10, xs)
 else (q.1, cA xs (aM xs (aw pol key)) (bS xs (aw pol key)) q.2)
def doS (ps : List Pol) (room : Int) (xs : List Cel) (op pol : Int) (key : List Int) (n now serial : Int) : Rpl × List Cel :=
 if aR ps op pol key n now serial ≠ 0 then (dG (aR ps op pol key n now serial), xs)
 else if op = 5 then (⟨0, false, (xs.length : Int) - (cg ps now xs).length, 0, 0, now⟩, cg ps now xs)
 else if op = 6 then (dG 0, xs)
 else if op = 4 then (bZ (ps.getD pol.toNat default) (bz xs pol key) now, xs)
 else mg room xs pol key (decide (op = 1 ∧ n = 0)) (bK (ps.getD pol.toNat default) (bz xs pol key) op n now serial)
structure dO (ps : List Pol) (xs : List Cel) : Prop where
 len : xs.length ≤ 1000000
 byt : ∀ k, IsB (xs.getD k default).key
 key : ∀ k, (xs.getD k default).key.length ≤ 255
 held : ∀ k, (xs.getD k default).held.length ≤ 64
 pol : ∀ k, k < xs.length → 0 ≤ (xs.getD k default).pol ∧ (xs.getD k default).pol < ps.length
theorem dd {ps : List Pol} {op pol : Int} {key : List Int} {n now serial : Int} (h : aR ps op pol key n now serial = 0) : (0 ≤ now ∧ now ≤ 4611686018427387903) ∧ 1 ≤ op ∧ op ≤ 6 ∧ bq ps = 0 ∧ (op < 5 → key.length ≤ 255 ∧ 0 ≤ pol ∧ pol < ps.length) ∧ (op = 1 → 0 ≤ n ∧ n ≤ 4611686018427387903) ∧ (op = 2 → 1 ≤ serial ∧ serial ≤ 4611686018427387903) ∧
  (fF op ≠ 0 → (ps.getD pol.toNat default).kind = fF op) := by
 unfold aR at h
 split at h
 ·omega
 ·rename_i h0
  unfold cB at h
  split at h
  ·omega
  ·rename_i h1
   split at h
   ·omega
   ·rename_i h2
    split at h
    ·exact absurd h (by assumption)
    ·rename_i h3
     split at h
     ·omega
     ·rename_i h4
      have t0 : aD now = true := by cases h : aD now with | true => rfl | false => exact absurd (Or.inl h) h0
      have t1 := (dv now).1 t0
      have h3 : bq ps = 0 := Classical.byContradiction h3
      refine ⟨t1, by omega, by omega, h3, fun h => by omega, fun h => ?_, fun h => by omega, fun h => ?_⟩
      ·refine (dv n).1 ?_
       cases hq : aD n with | true => rfl | false => exact absurd (Or.inr (Or.inr ⟨h, hq⟩)) h1
      ·refine Classical.byContradiction fun hne => h4 ⟨?_, Or.inr (Or.inr ⟨h, hne⟩)⟩
       unfold fF at h
       split at h
       ·omega
       ·split at h <;> omega
theorem fx {ps : List Pol} (h : bq ps = 0) : ∀ k, k < ps.length → cI (ps.getD k default).kind (ps.getD k default).T (ps.getD k default).tau (ps.getD k default).permits = true := by
 intro k hk
 unfold bq at h
 split at h
 ·omega
 ·split at h
  ·rename_i h2
   rw [Q23] at h2
   refine h2 _ ?_
   rw [Q1, Q0 hk]; exact Q14 hk
  ·omega
theorem iv {room : Int} {xs : List Cel} {pol : Int} {key : List Int} {z : Bool} {q : Rpl × Cel} (h : q.1.g = false ∨ z = true) : mg room xs pol key z q = (q.1, xs) := by rw [mg, if_pos h]
theorem fq {room : Int} {xs : List Cel} {pol : Int} {key : List Int} {z : Bool} {q : Rpl × Cel} (h : q.1.g = true) (hz : z = false) (h2 : bS xs (aw pol key) = false) (h3 : (xs.length : Int) = room) : mg room xs pol key z q = (dG 10, xs) := by
 rw [mg, if_neg (by rw [h, hz]; simp), if_pos ⟨h2, h3⟩]
theorem dR {room : Int} {xs : List Cel} {pol : Int} {key : List Int} {z : Bool} {q : Rpl × Cel} (h : q.1.g = true) (hz : z = false) (h2 : ¬ (bS xs (aw pol key) = false ∧ (xs.length : Int) = room)) : mg room xs pol key z q = (q.1, cA xs (aM xs (aw pol key)) (bS xs (aw pol key)) q.2) := by
 rw [mg, if_neg (by rw [h, hz]; simp), if_neg h2]
theorem ez {p : Pol} {c : Cel} {op n now serial : Int} (h : op = 1) : bK p c op n now serial = (dM p c now n, bt p c now n) := by rw [bK, if_pos h]
theorem fC {p : Pol} {c : Cel} {op n now serial : Int} (h : op = 2) : bK p c op n now serial = (jV p c serial, dP p c serial) := by rw [bK, if_neg (by omega), if_pos h]
theorem fB {p : Pol} {c : Cel} {op n now serial : Int} (h : op = 3) : bK p c op n now serial = (kQ p c n, ew p c n) := by rw [bK, if_neg (by omega), if_neg (by omega)]
theorem i5 {p : Pol} {c : Cel} {n : Int} : (dP p c n).key = c.key := by unfold dP; split <;> rfl
theorem ip {p : Pol} {c : Cel} {n : Int} : (ew p c n).key = c.key := by unfold ew; split <;> rfl
theorem kv (ps : List Pol) (room : Int) (xs : List Cel) (op pol : Int) (key : List Int) (n now serial : Int) (hb : dO ps xs) (hk : IsB key) :
  Fun TC 8 2 [.ptr 0 0, .agg [.i .u8 op, .i .i64 pol, .d (aj 1 (ao .u8) key), .i .i64 n], .i .i64 now, .i .i64 serial] (iZ ps room xs) 3 (doS ps room xs op pol key n now serial).1.S
   [(0, some (.cells [.d (aj 4 Pol.D ps), .i .i64 room, .sl 2 4 0 (doS ps room xs op pol key n now serial).2.length])), (1, none), (2, some (ap 56 4 Cel.D (doS ps room xs op pol key n now serial).2))] := by
 have hlen := hb.len
 have hpos := j6 xs (aw pol key)
 by_cases hE : aR ps op pol key n now serial = 0
 ·obtain ⟨hnow, hop1, hop2, hps, hkey, hn, hser, hkind⟩ := dd hE
  have hpl := bD hps
  have hperm : op < 5 → (ps.getD pol.toNat default).kind = 2 → -4611686018427387904 ≤ (ps.getD pol.toNat default).permits ∧ (ps.getD pol.toNat default).permits ≤ 4611686018427387903 := fun h1 h2 => by
   have := fx hps pol.toNat (by have := hkey h1; omega)
   unfold cI at this
   rw [if_neg (by omega), if_pos h2] at this
   simp only [Q5, decide_eq_true_eq] at this
   omega
  have hheld : (bz xs pol key).held.length ≤ 64 := by
   unfold bz
   split
   ·exact hb.held _
   ·simp [aw]
  have hD : doS ps room xs op pol key n now serial = if op = 5 then (⟨0, false, (xs.length : Int) - (cg ps now xs).length, 0, 0, now⟩, cg ps now xs)
   else if op = 6 then (dG 0, xs)
   else if op = 4 then (bZ (ps.getD pol.toNat default) (bz xs pol key) now, xs)
   else mg room xs pol key (decide (op = 1 ∧ n = 0)) (bK (ps.getD pol.toNat default) (bz xs pol key) op n now serial) := by
   unfold doS; rw [if_neg (fun h => h hE)]
  have hst : (cg ps now xs).length ≤ xs.length := List.length_filter_le _ _
  rw [hD]
  clear hD
  have hposl : bS xs (aw pol key) = true → aM xs (aw pol key) < xs.length := fun h => ((c8 _ _).1 h).1
  have hkk : op < 5 → (bz xs pol key).key.length ≤ 16777216 := fun h => by
   unfold bz
   split
   ·have := hb.key (aM xs (aw pol key)); omega
   ·have := (hkey h).1; simp only [aw]; omega
  refine Fun.mk' Tryz.func8 rfl rfl zN (by decide) ?_
  (repeat' (first | ((first | refine Wp.any aa rfl ?_ | (with_reducible first | refine Go.mk ?_ | apply ak.of | refine Ov.ok zO ?_) | refine zV ?_ | with_reducible refine And.intro zC ?_); conv => whnf) | ((refine ab.fn (gR ps room xs op pol key n now serial) [0,1] rfl rfl rfl rfl rfl ?ha ?hh ?_); (case ha => exact zA); (case hh => exact zH); (conv => whnf)) | ((refine ag.fn (dh ps room now xs hb.pol (by omega)) [1,0,2,4] [0,2,4] rfl rfl rfl rfl rfl ?ha ?hh ?hs ?_); (case ha => exact zA); (case hh => exact zH); (case hs => exact zK); (conv => whnf)) | ((refine ag.fn (nN xs pol key (by omega) hb.byt hk) [1] [1] rfl rfl rfl rfl rfl ?ha ?hh ?hs ?_); (case ha => exact zA); (case hh => exact zH); (case hs => exact zK); (conv => whnf)) | ((with_reducible first | refine ab.pure (f5 _ _ _ (hperm (by omega)) (by omega)) rfl rfl ?_ | refine ab.pure (gU _ _ _ _) rfl rfl ?_ | refine ab.pure (eH _ _ _) rfl rfl ?_ | refine ab.pure (eF _ _ _) rfl rfl ?_); conv => whnf) | ((refine ag.new (ce xs (aM xs (aw pol key)) (bS xs (aw pol key)) (bt (ps.getD pol.toNat default) (bz xs pol key) now n) (by omega) (hkk (by omega)) hpos hposl) [1] [1] rfl rfl rfl rfl rfl rfl ?ha ?hh ?hs ?_); (case ha => exact zA); (case hh => exact zH); (case hs => exact zK); (conv => whnf)) | ((refine ag.new (ce xs (aM xs (aw pol key)) (bS xs (aw pol key)) (dP (ps.getD pol.toNat default) (bz xs pol key) serial) (by omega) (by rw [i5]; exact hkk (by omega)) hpos hposl) [1] [1] rfl rfl rfl rfl rfl rfl ?ha ?hh ?hs ?_); (case ha => exact zA); (case hh => exact zH); (case hs => exact zK); (conv => whnf)) | ((refine ag.new (ce xs (aM xs (aw pol key)) (bS xs (aw pol key)) (ew (ps.getD pol.toNat default) (bz xs pol key) n) (by omega) (by rw [ip]; exact hkk (by omega)) hpos hposl) [1] [1] rfl rfl rfl rfl rfl rfl ?ha ?hh ?hs ?_); (case ha => exact zA); (case hh => exact zH); (case hs => exact zK); (conv => whnf)) | ((refine am (fun hc => ?_) (fun hc => ?_)) <;> (try simp only [wz9] at hc) <;> (try (exfalso; omega)) <;> (conv => whnf))))
  ·rw [if_pos (by assumption)]
   refine ah.mv2 rfl rfl ?_ ?_
   ·conv => whnf
    exact .rfl _
   ·((conv => whnf); repeat' (first | exact zA9 | ((with_reducible refine And.intro ?_ ?_) <;> (conv => whnf))))
  ·rw [if_neg (by omega), if_pos (by assumption)]
   refine ah.mv2 rfl rfl ?_ ?_
   ·conv => whnf
    exact .rfl _
   ·((conv => whnf); repeat' (first | exact zA9 | ((with_reducible refine And.intro ?_ ?_) <;> (conv => whnf))))
  ·rw [if_neg (by omega), if_neg (by omega), if_pos (by assumption)]
   refine ah.mv2 rfl rfl ?_ ?_
   ·conv => whnf
    exact .rfl _
   ·((conv => whnf); repeat' (first | exact zA9 | ((with_reducible refine And.intro ?_ ?_) <;> (conv => whnf))))
  ·rw [if_neg (by omega), if_neg (by omega), if_neg (by omega), ez (by assumption), iv (Or.inl (by assumption))]
   refine ah.mv2 rfl rfl ?_ ?_
   ·conv => whnf
    exact .rfl _
   ·((conv => whnf); repeat' (first | exact zA9 | ((with_reducible refine And.intro ?_ ?_) <;> (conv => whnf))))
  ·rw [if_neg (by omega), if_neg (by omega), if_neg (by omega), ez (by assumption), iv (Or.inr (decide_eq_true ⟨by assumption, by assumption⟩))]
   refine ah.mv2 rfl rfl ?_ ?_
   ·conv => whnf
    exact .rfl _
   ·((conv => whnf); repeat' (first | exact zA9 | ((with_reducible refine And.intro ?_ ?_) <;> (conv => whnf))))
  ·rw [if_neg (by omega), if_neg (by omega), if_neg (by omega), ez (by assumption), fq (by assumption) (decide_eq_false (by omega)) (by assumption) (by assumption)]
   refine ah.mv2 rfl rfl ?_ ?_
   ·conv => whnf
    exact .rfl _
   ·((conv => whnf); repeat' (first | exact zA9 | ((with_reducible refine And.intro ?_ ?_) <;> (conv => whnf))))
  ·rw [if_neg (by omega), if_neg (by omega), if_neg (by omega), ez (by assumption), dR (by assumption) (decide_eq_false (by omega)) (fun h => absurd h.2 (by assumption))]
   refine ah.of [0, 1, 56] rfl (fun i hi => by have : i = 0 ∨ i = 1 := (by omega); rcases this with h | h <;> subst h <;> rfl) rfl ?_ ?_
   ·conv => whnf
    exact .rfl _
   ·((conv => whnf); repeat' (first | exact zA9 | ((with_reducible refine And.intro ?_ ?_) <;> (conv => whnf))))
  ·rw [if_neg (by omega), if_neg (by omega), if_neg (by omega), ez (by assumption), dR (by assumption) (decide_eq_false (by omega)) (fun h => by rw [hc] at h; cases h.1)]
   refine ah.of [0, 1, 56] rfl (fun i hi => by have : i = 0 ∨ i = 1 := (by omega); rcases this with h | h <;> subst h <;> rfl) rfl ?_ ?_
   ·conv => whnf
    exact .rfl _
   ·((conv => whnf); repeat' (first | exact zA9 | ((with_reducible refine And.intro ?_ ?_) <;> (conv => whnf))))
  ·rw [if_neg (by omega), if_neg (by omega), if_neg (by omega), fC (by assumption), iv (Or.inl (by assumption))]
   refine ah.mv2 rfl rfl ?_ ?_
   ·conv => whnf
    exact .rfl _
   ·((conv => whnf); repeat' (first | exact zA9 | ((with_reducible refine And.intro ?_ ?_) <;> (conv => whnf))))
  ·rw [if_neg (by omega), if_neg (by omega), if_neg (by omega), fC (by assumption), fq (by assumption) (decide_eq_false (by omega)) (by assumption) (by assumption)]
   refine ah.mv2 rfl rfl ?_ ?_
   ·conv => whnf
    exact .rfl _
   ·((conv => whnf); repeat' (first | exact zA9 | ((with_reducible refine And.intro ?_ ?_) <;> (conv => whnf))))
  ·rw [if_neg (by omega), if_neg (by omega), if_neg (by omega), fC (by assumption), dR (by assumption) (decide_eq_false (by omega)) (fun h => absurd h.2 (by assumption))]
   refine ah.of [0, 1, 56] rfl (fun i hi => by have : i = 0 ∨ i = 1 := (by omega); rcases this with h | h <;> subst h <;> rfl) rfl ?_ ?_
   ·conv => whnf
    exact .rfl _
   ·((conv => whnf); repeat' (first | exact zA9 | ((with_reducible refine And.intro ?_ ?_) <;> (conv => whnf))))
  ·rw [if_neg (by omega), if_neg (by omega), if_neg (by omega), fC (by assumption), dR (by assumption) (decide_eq_false (by omega)) (fun h => by rw [hc] at h; cases h.1)]
   refine ah.of [0, 1, 56] rfl (fun i hi => by have : i = 0 ∨ i = 1 := (by omega); rcases this with h | h <;> subst h <;> rfl) rfl ?_ ?_
   ·conv => whnf
    exact .rfl _
   ·((conv => whnf); repeat' (first | exact zA9 | ((with_reducible refine And.intro ?_ ?_) <;> (conv => whnf))))
  ·rw [if_neg (by omega), if_neg (by omega), if_neg (by omega), fB (by assumption), iv (Or.inl (by assumption))]
   refine ah.mv2 rfl rfl ?_ ?_
   ·conv => whnf
    exact .rfl _
   ·((conv => whnf); repeat' (first | exact zA9 | ((with_reducible refine And.intro ?_ ?_) <;> (conv => whnf))))
  ·rw [if_neg (by omega), if_neg (by omega), if_neg (by omega), fB (by assumption), fq (by assumption) (decide_eq_false (by omega)) (by assumption) (by assumption)]
   refine ah.mv2 rfl rfl ?_ ?_
   ·conv => whnf
    exact .rfl _
   ·((conv => whnf); repeat' (first | exact zA9 | ((with_reducible refine And.intro ?_ ?_) <;> (conv => whnf))))
  ·rw [if_neg (by omega), if_neg (by omega), if_neg (by omega), fB (by assumption), dR (by assumption) (decide_eq_false (by omega)) (fun h => absurd h.2 (by assumption))]
   refine ah.of [0, 1, 56] rfl (fun i hi => by have : i = 0 ∨ i = 1 := (by omega); rcases this with h | h <;> subst h <;> rfl) rfl ?_ ?_
   ·conv => whnf
    exact .rfl _
   ·((conv => whnf); repeat' (first | exact zA9 | ((with_reducible refine And.intro ?_ ?_) <;> (conv => whnf))))
  ·rw [if_neg (by omega), if_neg (by omega), if_neg (by omega), fB (by assumption), dR (by assumption) (decide_eq_false (by omega)) (fun h => by rw [hc] at h; cases h.1)]
   refine ah.of [0, 1, 56] rfl (fun i hi => by have : i = 0 ∨ i = 1 := (by omega); rcases this with h | h <;> subst h <;> rfl) rfl ?_ ?_
   ·conv => whnf
    exact .rfl _
   ·((conv => whnf); repeat' (first | exact zA9 | ((with_reducible refine And.intro ?_ ?_) <;> (conv => whnf))))
 ·have hD : doS ps room xs op pol key n now serial = (dG (aR ps op pol key n now serial), xs) := by unfold doS; rw [if_pos hE]
  rw [hD]
  refine Fun.mk' Tryz.func8 rfl rfl zN (by decide) ?_
  (repeat' (first | ((first | refine Wp.any aa rfl ?_ | (with_reducible first | refine Go.mk ?_ | apply ak.of)); conv => whnf) | ((refine ab.fn (gR ps room xs op pol key n now serial) [0,1] rfl rfl rfl rfl rfl ?ha ?hh ?_); (case ha => exact zA); (case hh => exact zH); (conv => whnf)) | ((refine am (fun hc => ?_) (fun hc => ?_)) <;> (try simp only [wz9] at hc) <;> (try (exfalso; omega)) <;> (conv => whnf))))
  refine ah.mv2 rfl rfl ?_ ?_
  ·conv => whnf
   exact .rfl _
  ·((conv => whnf); repeat' (first | exact zA9 | ((with_reducible refine And.intro ?_ ?_) <;> (conv => whnf))))
def tab : List Pol := [⟨1, 10, 20, 0⟩, ⟨2, 0, 0, 2⟩]
theorem js : Pure TC 14 [] (.d (aj 4 Pol.D tab)) := by
 refine Pure.mk' Tryz.func14 rfl rfl zN ?_
 (repeat' (first | ((first | refine Wp.any aa rfl ?_ | (with_reducible first | refine Go.mk ?_ | apply ak.of)); conv => whnf) | with_reducible exact rfl | ((with_reducible refine Ov.ok zO ?_); conv => whnf) | (with_reducible refine Ov.sh1 (by with_unfolding_all exact rfl) ?_) | ((first | with_reducible refine Ov.quo (by omega) (by omega) (by omega) (fun _ _ => ?_) | refine zV ?_ | with_reducible refine And.intro zC ?_); conv => whnf) | ((with_reducible refine And.intro ?hb ?_); (case hb => exact zz0); (conv => whnf)) | ((refine ae.a rfl rfl rfl rfl rfl rfl ?hb ?_); (case hb => exact zB); (conv => whnf)) | ((refine ae.b rfl rfl rfl rfl rfl rfl rfl rfl ?hb ?ho ?_); (case hb => exact zB); (case ho => omega); (conv => whnf)) | ((refine ae.c rfl rfl rfl rfl rfl ?hb ?_); (case hb => exact zB); (conv => whnf)) | ((refine ae.d rfl rfl rfl rfl rfl rfl ?hb ?ho ?_); (case hb => exact zB); (case ho => omega); (conv => whnf)) | (with_reducible refine Or.inl ?_) | ((with_reducible refine IxA.ptr ?_); conv => whnf) | ((with_reducible refine nil_no (by omega) ?_); (conv => whnf)) | ((with_reducible refine af ?_ (fun hn0 => ?_)) <;> (conv => whnf)) | ((refine am (fun hc => ?_) (fun hc => ?_)) <;> (try simp only [wz9] at hc) <;> (try (exfalso; omega)) <;> (conv => whnf))))
 exact SV.Le.sl fun i hi => by (rcases i with _ | _ | i) <;> first | rfl | (exfalso; have hi : i + 1 + 1 < 2 := hi; omega)
def cs0 : List Cel := []
def cs1 : List Cel := [⟨0, [97], 110, []⟩]
def cs2 : List Cel := [⟨0, [97], 110, []⟩, ⟨1, [107], 0, [5]⟩]
theorem aw1 : doS tab 2 cs0 1 0 [97] 1 100 0 = (⟨0, true, 2, 0, 0, 100⟩, cs1) := by rfl
theorem aw2 : doS tab 2 cs1 2 1 [107] 0 0 5 = (⟨0, true, 1, 0, 5, 0⟩, cs2) := by rfl
theorem aw3 : doS tab 2 cs2 3 1 [107] 6 0 0 = (⟨11, false, 0, 0, 0, 0⟩, cs2) := by rfl
theorem lY {ps : List Pol} {xs : List Cel} (h : xs.length ≤ 1000000 ∧ ∀ c ∈ xs, (∀ b ∈ c.key, 0 ≤ b ∧ b ≤ 255) ∧ c.key.length ≤ 255 ∧ c.held.length ≤ 64 ∧ 0 ≤ c.pol ∧ c.pol < ps.length) : dO ps xs := by
 have key : ∀ k, k < xs.length → xs.getD k default ∈ xs := fun k hk => by
  rw [Q1, Q0 hk]; exact Q14 hk
 have dflt : ∀ k, ¬ k < xs.length → xs.getD k default = default := fun k hk => by
  rw [Q1, List.getElem?_eq_none (by omega)]; rfl
 refine ⟨h.1, fun k => ?_, fun k => ?_, fun k => ?_, fun k hk => ⟨(h.2 _ (key k hk)).2.2.2.1, (h.2 _ (key k hk)).2.2.2.2⟩⟩
 ·by_cases hk : k < xs.length
  ·exact (h.2 _ (key k hk)).1
  ·rw [dflt k hk]; intro x hx; cases hx
 ·by_cases hk : k < xs.length
  ·exact (h.2 _ (key k hk)).2.1
  ·rw [dflt k hk]; exact Nat.zero_le _
 ·by_cases hk : k < xs.length
  ·exact (h.2 _ (key k hk)).2.2.1
  ·rw [dflt k hk]; exact Nat.zero_le _
theorem ok0 : dO tab cs0 := lY (by decide)
theorem ok1 : dO tab cs1 := lY (by decide)
theorem ok2 : dO tab cs2 := lY (by decide)
theorem awake : Pure TC 4 [] (.b true) := by
 have D1 := kv tab 2 cs0 1 0 [97] 1 100 0 ok0 (by intro x hx; simp at hx; omega)
 rw [aw1] at D1
 have D2 := kv tab 2 cs1 2 1 [107] 0 0 5 ok1 (by intro x hx; simp at hx; omega)
 rw [aw2] at D2
 have D3 := kv tab 2 cs2 3 1 [107] 6 0 0 ok2 (by intro x hx; simp at hx; omega)
 rw [aw3] at D3
 refine Pure.mk' Tryz.func4 rfl rfl zN ?_
 (repeat' (first | ((first | refine Wp.any aa rfl ?_ | (with_reducible first | refine Go.mk ?_ | apply ak.of)); conv => whnf) | with_reducible exact rfl | ((with_reducible refine Ov.ok zO ?_); conv => whnf) | (with_reducible refine Ov.sh1 (by with_unfolding_all exact rfl) ?_) | ((first | with_reducible refine Ov.quo (by omega) (by omega) (by omega) (fun _ _ => ?_) | refine zV ?_ | with_reducible refine And.intro zC ?_); conv => whnf) | ((with_reducible refine And.intro ?hb ?_); (case hb => exact zz0); (conv => whnf)) | ((refine ae.a rfl rfl rfl rfl rfl rfl ?hb ?_); (case hb => exact zB); (conv => whnf)) | ((refine ae.b rfl rfl rfl rfl rfl rfl rfl rfl ?hb ?ho ?_); (case hb => exact zB); (case ho => omega); (conv => whnf)) | ((refine ae.c rfl rfl rfl rfl rfl ?hb ?_); (case hb => exact zB); (conv => whnf)) | ((refine ae.d rfl rfl rfl rfl rfl rfl ?hb ?ho ?_); (case hb => exact zB); (case ho => omega); (conv => whnf)) | (with_reducible refine Or.inl ?_) | ((with_reducible refine IxA.ptr ?_); conv => whnf) | ((with_reducible refine nil_no (by omega) ?_); (conv => whnf)) | ((with_reducible refine af ?_ (fun hn0 => ?_)) <;> (conv => whnf)) | ((with_reducible first | refine ab.pure (js) rfl rfl ?_ | refine ag.pure (js) rfl rfl ?_); conv => whnf) | ((refine ab.fn (iX tab 2 rfl) [] rfl rfl rfl rfl rfl ?ha ?hh ?_); (case ha => exact zA); (case hh => exact zH); (conv => whnf)) | ((refine ag.fn (iX tab 2 rfl) [] [] rfl rfl rfl rfl rfl ?ha ?hh ?hs ?_); (case ha => exact zA); (case hh => exact zH); (case hs => exact zK); (conv => whnf)) | ((refine ag.new (iX tab 2 rfl) [] [] rfl rfl rfl rfl rfl rfl ?ha ?hh ?hs ?_); (case ha => exact zA); (case hh => exact zH); (case hs => exact zK); (conv => whnf)) | ((refine ab.fn (D1) [0,1] rfl rfl rfl rfl rfl ?ha ?hh ?_); (case ha => exact zA); (case hh => exact zH); (conv => whnf)) | ((refine ag.fn (D1) [0,1] [0,1] rfl rfl rfl rfl rfl ?ha ?hh ?hs ?_); (case ha => exact zA); (case hh => exact zH); (case hs => exact zK); (conv => whnf)) | ((refine ag.new (D1) [0,1] [0,1] rfl rfl rfl rfl rfl rfl ?ha ?hh ?hs ?_); (case ha => exact zA); (case hh => exact zH); (case hs => exact zK); (conv => whnf)) | ((refine ag.fn (D1) [0,1] [] rfl rfl rfl rfl rfl ?ha ?hh ?hs ?_); (case ha => exact zA); (case hh => exact zH); (case hs => exact zK); (conv => whnf)) | ((refine ag.new (D1) [0,1] [] rfl rfl rfl rfl rfl rfl ?ha ?hh ?hs ?_); (case ha => exact zA); (case hh => exact zH); (case hs => exact zK); (conv => whnf)) | ((refine ab.fn (D2) [0,3] rfl rfl rfl rfl rfl ?ha ?hh ?_); (case ha => exact zA); (case hh => exact zH); (conv => whnf)) | ((refine ag.fn (D2) [0,3] [0,3] rfl rfl rfl rfl rfl ?ha ?hh ?hs ?_); (case ha => exact zA); (case hh => exact zH); (case hs => exact zK); (conv => whnf)) | ((refine ag.new (D2) [0,3] [0,3] rfl rfl rfl rfl rfl rfl ?ha ?hh ?hs ?_); (case ha => exact zA); (case hh => exact zH); (case hs => exact zK); (conv => whnf)) | ((refine ag.fn (D2) [0,3] [] rfl rfl rfl rfl rfl ?ha ?hh ?hs ?_); (case ha => exact zA); (case hh => exact zH); (case hs => exact zK); (conv => whnf)) | ((refine ag.new (D2) [0,3] [] rfl rfl rfl rfl rfl rfl ?ha ?hh ?hs ?_); (case ha => exact zA); (case hh => exact zH); (case hs => exact zK); (conv => whnf)) | ((refine ab.fn (D3) [0,6] rfl rfl rfl rfl rfl ?ha ?hh ?_); (case ha => exact zA); (case hh => exact zH); (conv => whnf)) | ((refine ag.fn (D3) [0,6] [0,6] rfl rfl rfl rfl rfl ?ha ?hh ?hs ?_); (case ha => exact zA); (case hh => exact zH); (case hs => exact zK); (conv => whnf)) | ((refine ag.new (D3) [0,6] [0,6] rfl rfl rfl rfl rfl rfl ?ha ?hh ?hs ?_); (case ha => exact zA); (case hh => exact zH); (case hs => exact zK); (conv => whnf)) | ((refine ag.fn (D3) [0,6] [] rfl rfl rfl rfl rfl ?ha ?hh ?hs ?_); (case ha => exact zA); (case hh => exact zH); (case hs => exact zK); (conv => whnf)) | ((refine ag.new (D3) [0,6] [] rfl rfl rfl rfl rfl rfl ?ha ?hh ?hs ?_); (case ha => exact zA); (case hh => exact zH); (case hs => exact zK); (conv => whnf)) | ((refine ab.fn (dL tab 2 cs2) [0,9] rfl rfl rfl rfl rfl ?ha ?hh ?_); (case ha => exact zA); (case hh => exact zH); (conv => whnf)) | ((refine ag.fn (dL tab 2 cs2) [0,9] [0,9] rfl rfl rfl rfl rfl ?ha ?hh ?hs ?_); (case ha => exact zA); (case hh => exact zH); (case hs => exact zK); (conv => whnf)) | ((refine ag.new (dL tab 2 cs2) [0,9] [0,9] rfl rfl rfl rfl rfl rfl ?ha ?hh ?hs ?_); (case ha => exact zA); (case hh => exact zH); (case hs => exact zK); (conv => whnf)) | ((refine ag.fn (dL tab 2 cs2) [0,9] [] rfl rfl rfl rfl rfl ?ha ?hh ?hs ?_); (case ha => exact zA); (case hh => exact zH); (case hs => exact zK); (conv => whnf)) | ((refine ag.new (dL tab 2 cs2) [0,9] [] rfl rfl rfl rfl rfl rfl ?ha ?hh ?hs ?_); (case ha => exact zA); (case hh => exact zH); (case hs => exact zK); (conv => whnf)) | ((refine am (fun hc => ?_) (fun hc => ?_)) <;> (try simp only [wz9] at hc) <;> (try (exfalso; omega)) <;> (conv => whnf))))
 exact .b rfl
section
inductive Sh where
 | int (k : IntKind)
 | bool
 | str
 | sl (z : Nat) (es : List Sh)
mutual
inductive nZ : Sh → D → Prop
 | int {k : IntKind} {n : Int} (h : (Lit.int k n).wf = true) : nZ (.int k) (.val (.int k n))
 | bool (b : Bool) : nZ .bool (.val (.bool b))
 | str (s : ByteArray) (h : s.size ≤ maxLen) : nZ .str (.val (.string s))
 | sl {z : Nat} {es : List Sh} {n : Nat} {f : Nat → List D} (hn : n ≤ maxLen) (h : ∀ i, i < n → gh es (f i)) : nZ (.sl z es) (.sl z n f)
inductive gh : List Sh → List D → Prop
 | nil : gh [] []
 | cons {s : Sh} {d : D} {ss : List Sh} {ds : List D} (h : nZ s d) (t : gh ss ds) : gh (s :: ss) (d :: ds)
end
theorem gh.len : ∀ {ss : List Sh} {ds : List D}, gh ss ds → ds.length = ss.length
 | _, _, .nil => rfl
 | _, _, .cons _ t => by simp [gh.len t]
theorem gh.append : ∀ {ss ss' : List Sh} {ds ds' : List D}, gh ss ds → gh ss' ds' → gh (ss ++ ss') (ds ++ ds')
 | _, _, _, _, .nil, h => h
 | _, _, _, _, .cons h t, h' => .cons h (t.append h')
def shF (r : TypeId → Option (List Sh)) (c : TypeId → Nat) : List Field → Nat → Option (List Sh)
 | [], _ => some []
 | f :: fs, o => if f.offset = o then (r f.type).bind fun a => if a.length = c f.type then (shF r c fs (o + a.length)).map (a ++ ·) else none else none
def shT (P : Program) : Nat → TypeId → Option (List Sh)
 | 0, _ => none
 | n + 1, t => match P.underlying t with
  | some .bool => some [.bool]
  | some (.int k) => some [.int k]
  | some .string => some [.str]
  | some (.slice e) => (shT P n e).bind fun es => if es.length = P.cellsOf e then some [.sl (P.cellsOf e) es] else none
  | some (.struct fs) => (shF (shT P n) P.cellsOf fs.toList 0).bind fun a => if a.length = P.cellsOf t then some a else none
  | _ => none
structure RLs (w : World) (ds : List D) (cs : List Value) : Prop where
 len : ds.length = cs.length
 out : ∀ (j : Nat) (d : D) (c : Value), ds[j]? = some d → cs[j]? = some c → RD w (fun b => b < w.heap.size) d c
theorem RLs.nil (w : World) : RLs w [] [] := ⟨rfl, fun j d c h => by simp at h⟩
theorem RLs.one {w : World} {d : D} {c : Value} (h : RD w (fun b => b < w.heap.size) d c) : RLs w [d] [c] := ⟨rfl, fun j d' c' hd hc => by
 cases j with
 | zero => simp at hd hc; subst hd hc; exact h
 | succ j => simp at hd⟩
theorem RLs.append {w : World} {ds ds' : List D} {cs cs' : List Value} (h : RLs w ds cs) (h' : RLs w ds' cs') : RLs w (ds ++ ds') (cs ++ cs') := by
 have hl := h.len
 refine ⟨by simp [h.len, h'.len], fun j d c hd hc => ?_⟩
 by_cases hj : j < ds.length
 ·rw [Q11 hj] at hd
  rw [Q11 (by omega)] at hc
  exact h.out j d c hd hc
 ·rw [Q12 (by omega)] at hd
  rw [Q12 (by omega)] at hc
  rw [← hl] at hc
  exact h'.out _ d c hd hc
section
variable {H : Type} {enc : TypeId × Value → H} {P : Program} {w : World} {spare : Nat → Bool}
theorem mA {a : Addr} {v : Value} (h : w.cell? (a.add 0) = some v) : a.spot = none := by
 have := World.cell?_spot h
 unfold Addr.add at this
 simpa using this
end
end
section
open Go.ChangeShapes Go.WideShapes Go.ChangeAt Go.RowKit
section
variable {H : Type} {enc : TypeId × Value → H} {P : Program}
theorem jT {w w' : World} {base : Nat} {sp : Nat → Bool} {hd : Bool} : ∀ {ts : List TypeId} {vs : List Value} {ds : List (DataW H)} {ps : List MemPlace}, DataW.TrodAll enc P w base sp hd ts vs ds ps → (∀ p ∈ ps, w.sameAt w' p) → DataW.TrodAll enc P w' base sp hd ts vs ds ps
 | [], [], [], _, h, _ => h
 | t :: ts, v :: vs, d :: ds, ps, ⟨p, q, ⟨n, h1⟩, h2, e⟩, hs => ⟨p, q, ⟨n, DataW.trod_carry n _ _ _ h1 fun x hx => hs x (by rw [e]; exact List.mem_append_left _ hx)⟩, jT h2 fun x hx => hs x (by rw [e]; exact List.mem_append_right _ hx), e⟩
theorem kept_of {w w' : World} (h : Kp w w') (may : MemPlace → Prop) : w.keptBut w' may := by
 refine ⟨h.os, h.output, fun i hi => ?_⟩
 have hb := h.block i hi
 rw [hb]
 rcases hq : w.heap[i]? with _ | o
 ·simp
 ·cases o <;> simp
theorem pP {T : TypeId → Prop} (K : Kids P T) (hz : ∀ t e, T t → P.underlying t = some (.slice e) → 0 < P.cellsOf e) {f : Func} {s : ChangeSpec} {W W' : World} {args : Array Value} {ds gs : List (DataW H)} {before : List MemPlace} {tb : TypeId}
  (hT : ∀ t ∈ f.params.toList, T t) (hvars : s.vars = []) (hr : f.resultTypes = #[tb]) (hb : P.underlying tb = some .bool)
  (hfn : gs = [] → (s.fn H (ds ++ gs)).results = [.lit (.bool true)] ∧ (s.fn H (ds ++ gs)).args = ds ∧ (s.fn H (ds ++ gs)).vars = [])
  (hW : DataW.Whole enc P f.params.toList s.vars false W args.toList ds gs before) (hk : Kp W W') : s.post enc P f false true false false W args (.bool true) W' := by
 have hW0 := hW
 obtain ⟨p, q, hA, hV, rfl, hfz, _⟩ := hW
 rw [hvars] at hV
 have hgs : gs = [] ∧ q = [] := by
  cases gs with
  | nil => exact ⟨rfl, hV⟩
  | cons x r => exact hV.elim
 obtain ⟨rfl, rfl⟩ := hgs
 obtain ⟨h1, h2, h3⟩ := hfn rfl
 have hlt := hW0.lt
 have hsame : ∀ x ∈ p, W.sameAt W' x := fun x hx => by
  have hb := hk.block x.block (hlt x (by simpa using hx))
  cases x with
  | cell b o => exact World.cell?_of_block hb
  | map b => exact hb
 have hA' := jT hA hsame
 refine ⟨ds, [], p ++ [], [], p, [], hW0, ?_, ?_, ?_, kept_of hk _, fun h => by cases h⟩
 ·rw [h1, hr]
  exact ⟨[], [], shut_bool hb true, rfl, rfl⟩
 ·rw [h2]
  exact DataW.TrodAll.respare K hz hT hA' fun x hx => by simpa using hlt x (by simpa using hx)
 ·rw [h3, hvars]; rfl
end
end
section
open Go.ChangeShapes Go.WideShapes Go.ChangeAt Go.RowKit
theorem own : ownKnob Tryz.prog.godebug = none := by kernel_rfl
theorem kids : Kids Tryz.prog (· < Tryz.prog.types.size) := kids_rows (by kernel_rfl) (by kernel_rfl)
theorem full : ∀ t e, t < Tryz.prog.types.size → Tryz.prog.underlying t = some (.slice e) → 0 < Tryz.prog.cellsOf e := slices_full_of Tryz.prog (by kernel_rfl)
def shI (k : IntKind) (n : Int) : Prop := (Lit.int k n).wf = true
theorem bU {k : IntKind} {d : D} (h : nZ (.int k) d) : ∃ n, d = .val (.int k n) ∧ shI k n := by cases h with | int h => exact ⟨_, rfl, h⟩
theorem fit_sl {z : Nat} {es : List Sh} {d : D} (h : nZ (.sl z es) d) : ∃ n f, d = .sl z n f ∧ n ≤ maxLen ∧ ∀ i, i < n → gh es (f i) := by cases h with | sl hn h => exact ⟨_, _, rfl, hn, h⟩
theorem aU {s : Sh} {ss : List Sh} {ds : List D} (h : gh (s :: ss) ds) : ∃ d r, ds = d :: r ∧ nZ s d ∧ gh ss r := by cases h with | cons h t => exact ⟨_, _, rfl, h, t⟩
theorem iP {ds : List D} (h : gh [] ds) : ds = [] := by cases h; rfl
theorem wf_u8 {n : Int} (h : shI .u8 n) : 0 ≤ n ∧ n ≤ 255 := by simpa [shI, Lit.wf, IntKind.min, IntKind.max, IntKind.signed, IntKind.bits] using h
theorem kB {n : Int} (h : shI .i64 n) : -9223372036854775808 ≤ n ∧ n ≤ 9223372036854775807 := by simpa [shI, Lit.wf, IntKind.min, IntKind.max, IntKind.signed, IntKind.bits] using h
structure TLe (d d' : D) : Prop where
 out : ∀ w Im v, RD w Im d v → RD w Im d' v
theorem TLe.rfl (d : D) : TLe d d := ⟨fun _ _ _ h => h⟩
structure nY (ds ds' : List D) : Prop where
 len : ds.length = ds'.length
 out : ∀ (j : Nat) (d d' : D), ds[j]? = some d → ds'[j]? = some d' → TLe d d'
theorem nY.nil : nY [] [] := ⟨_root_.rfl, fun j d d' h => by simp at h⟩
theorem nY.cons {d d' : D} {ds ds' : List D} (h : TLe d d') (t : nY ds ds') : nY (d :: ds) (d' :: ds') :=
 ⟨by simp [t.len], fun j x y hx hy => by
  cases j with
  | zero => simp at hx hy; subst hx hy; exact h
  | succ j => simp at hx hy; exact t.out j x y hx hy⟩
theorem TLe.sl {z n : Nat} {f g : Nat → List D} (h : ∀ i, i < n → nY (f i) (g i)) : TLe (.sl z n f) (.sl z n g) := by
 refine ⟨fun w Im v hv => ?_⟩
 cases hv with
 | sl _ _ _ a cap gv hc hm hl ha hg =>
  refine .sl z n g a cap gv hc hm (fun i hi => by rw [← (h i hi).len]; exact hl i hi) ha fun i j hi hj => ?_
  have hj' : j < (f i).length := by rw [(h i hi).len]; exact hj
  exact ((h i hi).out j _ _ (Q0 hj') (Q0 hj)).out _ _ _ (hg i j hi hj')
theorem list_of {α : Type} [Inhabited α] {enc : α → List D} {p : α → Prop} {n : Nat} {f : Nat → List D} (h : ∀ i, i < n → ∃ x, nY (f i) (enc x) ∧ p x) : ∃ xs : List α, xs.length = n ∧ (∀ i, i < n → nY (f i) (enc (xs.getD i default))) ∧ ∀ x ∈ xs, p x := by
 induction n with
 | zero => exact ⟨[], rfl, fun i hi => by omega, fun x hx => by simp at hx⟩
 | succ n ih =>
  obtain ⟨xs, h1, h2, h3⟩ := ih fun i hi => h i (by omega)
  obtain ⟨x, h4, h5⟩ := h n (by omega)
  refine ⟨xs ++ [x], by simp [h1], fun i hi => ?_, fun y hy => ?_⟩
  ·by_cases hin : i < n
   ·have := h2 i hin
    rw [show (xs ++ [x]).getD i default = xs.getD i default by simp [List.getD, Q11 (show i < xs.length by omega)]]
    exact this
   ·obtain rfl : i = n := by omega
    rw [show (xs ++ [x]).getD i default = x by simp [List.getD, h1]]
    exact h4
  ·rcases List.mem_append.1 hy with hy | hy
   ·exact h3 y hy
   ·simp at hy; subst hy; exact h5
end
end Go.Proofs.YtcbpkdhoibemcaaGreat
