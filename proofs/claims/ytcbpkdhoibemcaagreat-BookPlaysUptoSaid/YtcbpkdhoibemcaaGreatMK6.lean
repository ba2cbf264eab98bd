/- Lemmas of Bk4, Bk5, Bk6, Bk7a, Bk7, Bk8, Bk9, Bk10, SlLibI64, SlLibCell, Bk11. No condition. -/
import Derived.Test.YtcbpkdhoibemcaaGreatMK5
import Derived.Lib.BytesEntry
import Derived.Laws.Externs
import Derived.Test.YtcbpkdhoibemcaaGreatRows
import Derived.WalkKit
import Derived.WalkSpells
import Derived.WalkLawsBesides
import Derived.IntWalk
import Derived.BigQuiet
import Derived.Deep.QuietTactic
import Derived.StillTailTactics
import Derived.Deep.RegionWith
import Derived.Deep.RegionHeld3
import Derived.Lib.Hide
set_option linter.unusedVariables false
set_option linter.unusedSimpArgs false
set_option maxHeartbeats 80000000
set_option maxRecDepth 100000
namespace Go.Proofs.YtcbpkdhoibemcaaGreat
open Go.RowKit
theorem jJ (n : Int) : Pure TC 99 [.i .i64 n] (.b false) := by
 refine Pure.mk' Tryz.func99 rfl rfl zN ?_
 (repeat' (first | ((first | refine Wp.any aa rfl ?_ | (with_reducible first | refine Go.mk ?_ | apply ak.of)); conv => whnf) | with_reducible exact rfl | ((with_reducible refine Ov.ok zO ?_); conv => whnf) | (with_reducible refine Ov.sh1 (by with_unfolding_all exact rfl) ?_) | ((first | with_reducible refine Ov.quo (by omega) (by omega) (by omega) (fun _ _ => ?_) | refine zV ?_ | with_reducible refine And.intro zC ?_); conv => whnf) | ((with_reducible refine And.intro ?hb ?_); (case hb => exact zz0); (conv => whnf)) | ((refine ae.a rfl rfl rfl rfl rfl rfl ?hb ?_); (case hb => exact zB); (conv => whnf)) | ((refine ae.b rfl rfl rfl rfl rfl rfl rfl rfl ?hb ?ho ?_); (case hb => exact zB); (case ho => omega); (conv => whnf)) | ((refine ae.c rfl rfl rfl rfl rfl ?hb ?_); (case hb => exact zB); (conv => whnf)) | ((refine ae.d rfl rfl rfl rfl rfl rfl ?hb ?ho ?_); (case hb => exact zB); (case ho => omega); (conv => whnf)) | (with_reducible refine Or.inl ?_) | ((with_reducible refine IxA.ptr ?_); conv => whnf) | ((with_reducible refine nil_no (by omega) ?_); (conv => whnf)) | ((with_reducible refine af ?_ (fun hn0 => ?_)) <;> (conv => whnf)) | ((refine am (fun hc => ?_) (fun hc => ?_)) <;> (try simp only [wz9] at hc) <;> (try (exfalso; omega)) <;> (conv => whnf))))
 all_goals exact .b (by simp)
theorem eu (n : Int) : Pure TC 89 [.i .i64 n] (.b false) := by
 refine Pure.mk' Tryz.func89 rfl rfl zN ?_
 (repeat' (first | ((first | refine Wp.any aa rfl ?_ | (with_reducible first | refine Go.mk ?_ | apply ak.of)); conv => whnf) | with_reducible exact rfl | ((with_reducible refine Ov.ok zO ?_); conv => whnf) | (with_reducible refine Ov.sh1 (by with_unfolding_all exact rfl) ?_) | ((first | with_reducible refine Ov.quo (by omega) (by omega) (by omega) (fun _ _ => ?_) | refine zV ?_ | with_reducible refine And.intro zC ?_); conv => whnf) | ((with_reducible refine And.intro ?hb ?_); (case hb => exact zz0); (conv => whnf)) | ((refine ae.a rfl rfl rfl rfl rfl rfl ?hb ?_); (case hb => exact zB); (conv => whnf)) | ((refine ae.b rfl rfl rfl rfl rfl rfl rfl rfl ?hb ?ho ?_); (case hb => exact zB); (case ho => omega); (conv => whnf)) | ((refine ae.c rfl rfl rfl rfl rfl ?hb ?_); (case hb => exact zB); (conv => whnf)) | ((refine ae.d rfl rfl rfl rfl rfl rfl ?hb ?ho ?_); (case hb => exact zB); (case ho => omega); (conv => whnf)) | (with_reducible refine Or.inl ?_) | ((with_reducible refine IxA.ptr ?_); conv => whnf) | ((with_reducible refine nil_no (by omega) ?_); (conv => whnf)) | ((with_reducible refine af ?_ (fun hn0 => ?_)) <;> (conv => whnf)) | ((refine am (fun hc => ?_) (fun hc => ?_)) <;> (try simp only [wz9] at hc) <;> (try (exfalso; omega)) <;> (conv => whnf))))
 all_goals exact .b (by simp)
theorem lE (a b : Int) : Pure TC 88 [.i .i64 a, .i .i64 b] (.b (decide (a < b))) := by
 refine Pure.mk' Tryz.func88 rfl rfl zN ?_
 (repeat' (first | ((first | refine Wp.any aa rfl ?_ | (with_reducible first | refine Go.mk ?_ | apply ak.of)); conv => whnf) | with_reducible exact rfl | ((with_reducible refine Ov.ok zO ?_); conv => whnf) | (with_reducible refine Ov.sh1 (by with_unfolding_all exact rfl) ?_) | ((first | with_reducible refine Ov.quo (by omega) (by omega) (by omega) (fun _ _ => ?_) | refine zV ?_ | with_reducible refine And.intro zC ?_); conv => whnf) | ((with_reducible refine And.intro ?hb ?_); (case hb => exact zz0); (conv => whnf)) | ((refine ae.a rfl rfl rfl rfl rfl rfl ?hb ?_); (case hb => exact zB); (conv => whnf)) | ((refine ae.b rfl rfl rfl rfl rfl rfl rfl rfl ?hb ?ho ?_); (case hb => exact zB); (case ho => omega); (conv => whnf)) | ((refine ae.c rfl rfl rfl rfl rfl ?hb ?_); (case hb => exact zB); (conv => whnf)) | ((refine ae.d rfl rfl rfl rfl rfl rfl ?hb ?ho ?_); (case hb => exact zB); (case ho => omega); (conv => whnf)) | (with_reducible refine Or.inl ?_) | ((with_reducible refine IxA.ptr ?_); conv => whnf) | ((with_reducible refine nil_no (by omega) ?_); (conv => whnf)) | ((with_reducible refine af ?_ (fun hn0 => ?_)) <;> (conv => whnf)) | ((with_reducible first | refine ab.pure (jJ _) rfl rfl ?_ | refine ag.pure (jJ _) rfl rfl ?_); conv => whnf) | ((refine am (fun hc => ?_) (fun hc => ?_)) <;> (try simp only [wz9] at hc) <;> (try (exfalso; omega)) <;> (conv => whnf))))
 all_goals exact .b (by simp; try omega)
def bJ (xs : List Int) (t : Int) : Nat := bs (fun k => decide (xs.getD k default < t)) xs.length
def jz (xs : List Int) (t : Int) : Bool := decide (bJ xs t < xs.length) && decide (xs.getD (bJ xs t) default = t)
theorem cP (xs : List Int) (t : Int) (hlen : xs.length ≤ 4611686018427387903) : Pure TC 77 [.d (aj 1 (ao .i64) xs), .i .i64 t] (.tup [.i .i64 (bJ xs t), .b (jz xs t)]) := by
 refine Pure.mk' Tryz.func77 rfl rfl zN ?_
 (repeat' (first | ((first | refine Wp.any aa rfl ?_ | (with_reducible first | refine Go.mk ?_ | apply ak.of)); conv => whnf) | with_reducible exact rfl | ((with_reducible refine Ov.ok zO ?_); conv => whnf) | (with_reducible refine Ov.sh1 (by with_unfolding_all exact rfl) ?_) | ((first | with_reducible refine Ov.quo (by omega) (by omega) (by omega) (fun _ _ => ?_) | refine zV ?_ | with_reducible refine And.intro zC ?_); conv => whnf) | ((with_reducible refine And.intro ?hb ?_); (case hb => exact zz0); (conv => whnf)) | ((refine ae.a rfl rfl rfl rfl rfl rfl ?hb ?_); (case hb => exact zB); (conv => whnf)) | ((refine ae.b rfl rfl rfl rfl rfl rfl rfl rfl ?hb ?ho ?_); (case hb => exact zB); (case ho => omega); (conv => whnf)) | ((refine ae.c rfl rfl rfl rfl rfl ?hb ?_); (case hb => exact zB); (conv => whnf)) | ((refine ae.d rfl rfl rfl rfl rfl rfl ?hb ?ho ?_); (case hb => exact zB); (case ho => omega); (conv => whnf)) | (with_reducible refine Or.inl ?_) | ((with_reducible refine IxA.ptr ?_); conv => whnf) | ((with_reducible refine nil_no (by omega) ?_); (conv => whnf)) | ((with_reducible refine af ?_ (fun hn0 => ?_)) <;> (conv => whnf)) | ((refine am (fun hc => ?_) (fun hc => ?_)) <;> (try simp only [wz9] at hc) <;> (try (exfalso; omega)) <;> (conv => whnf))))
 refine Wp.loopP (ι := Nat × Nat × Nat) (fun k => k.1 ≤ k.2.1 ∧ k.2.1 ≤ xs.length ∧ k.2.1 - k.1 < k.2.2 ∧ bsF (fun k => decide (xs.getD k default < t)) k.2.2 k.1 k.2.1 = bJ xs t) (fun k => ⟨⟨Tryz.f77.ntmps, 0⟩, 0, [(0, .d (aj 1 (ao .i64) xs)), (1, .i .i64 t), (6, .i .i64 xs.length), (7, .i .i64 k.1), (8, .i .i64 k.2.1)], []⟩) (fun k => k.2.1 - k.1) (0, xs.length, xs.length + 1) ⟨by simp, by simp, by simp, rfl⟩ ?_ ?_
 ·(refine Le.by [] rfl rfl rfl rfl ?_ ?_ <;> (conv => whnf) <;> (repeat' (first | exact trivial | exact ac.rfl rfl | exact ac.ptr rfl | exact ac.sl rfl | ((with_reducible refine ac.fn ?_); (conv => whnf)) | ((refine ac.iref ?_); (conv => whnf)) | exact ⟨rfl, rfl, rfl⟩ | exact fun i hi => rfl | ((with_reducible refine And.intro ?_ ?_) <;> (conv => whnf)))))
 ·rintro ⟨i, j, q⟩ ⟨h1, h2, h3, h4⟩
  dsimp only at h1 h2 h3 h4 ⊢
  (repeat' (first | ((first | refine Wp.any aa rfl ?_ | (with_reducible first | refine Go.mk ?_ | apply ak.of)); conv => whnf) | with_reducible exact rfl | ((with_reducible refine Ov.ok zO ?_); conv => whnf) | (with_reducible refine Ov.sh1 (by with_unfolding_all exact rfl) ?_) | ((first | with_reducible refine Ov.quo (by omega) (by omega) (by omega) (fun _ _ => ?_) | refine zV ?_ | with_reducible refine And.intro zC ?_); conv => whnf) | ((with_reducible refine And.intro ?hb ?_); (case hb => exact zz0); (conv => whnf)) | ((refine ae.a rfl rfl rfl rfl rfl rfl ?hb ?_); (case hb => exact zB); (conv => whnf)) | ((refine ae.b rfl rfl rfl rfl rfl rfl rfl rfl ?hb ?ho ?_); (case hb => exact zB); (case ho => omega); (conv => whnf)) | ((refine ae.c rfl rfl rfl rfl rfl ?hb ?_); (case hb => exact zB); (conv => whnf)) | ((refine ae.d rfl rfl rfl rfl rfl rfl ?hb ?ho ?_); (case hb => exact zB); (case ho => omega); (conv => whnf)) | (with_reducible refine Or.inl ?_) | ((with_reducible refine IxA.ptr ?_); conv => whnf) | ((with_reducible refine nil_no (by omega) ?_); (conv => whnf)) | ((with_reducible refine af ?_ (fun hn0 => ?_)) <;> (conv => whnf)) | ((with_reducible first | refine ab.pure (lE _ _) rfl rfl ?_ | refine ag.pure (lE _ _) rfl rfl ?_ | refine ab.pure (eu _) rfl rfl ?_ | refine ag.pure (eu _) rfl rfl ?_); conv => whnf) | ((refine am (fun hc => ?_) (fun hc => ?_)) <;> (try simp only [wz9] at hc) <;> (try (exfalso; omega)) <;> (conv => whnf))))
  ·rw [show (((i : Int) + j) / 2).toNat = (i + j) / 2 by omega] at hc
   have hh : decide (xs.getD ((i + j) / 2) default < t) = true := by simpa using hc
   refine ⟨((i + j) / 2 + 1, j, q - 1), ⟨by dsimp only; omega, h2, by dsimp only; omega, ?_⟩, by dsimp only; omega, ?_⟩
   ·rw [← h4]
    obtain ⟨q, rfl⟩ : ∃ r, q = r + 1 := ⟨q - 1, by omega⟩
    rw [bsF, if_pos (by omega), if_pos hh]; rfl
   ·(refine Le.by [] rfl rfl rfl rfl ?_ ?_ <;> (conv => whnf) <;> (repeat' (first | exact trivial | exact ac.rfl rfl | exact ac.ptr rfl | exact ac.sl rfl | ((with_reducible refine ac.fn ?_); (conv => whnf)) | ((refine ac.iref ?_); (conv => whnf)) | exact ⟨rfl, rfl, rfl⟩ | exact fun i hi => rfl | ((with_reducible refine And.intro ?_ ?_) <;> (conv => whnf)))))
  ·rw [show (((i : Int) + j) / 2).toNat = (i + j) / 2 by omega] at hc
   have hh : ¬ decide (xs.getD ((i + j) / 2) default < t) = true := by simpa using hc
   refine ⟨(i, (i + j) / 2, q - 1), ⟨by dsimp only; omega, by dsimp only; omega, by dsimp only; omega, ?_⟩, by dsimp only; omega, ?_⟩
   ·rw [← h4]
    obtain ⟨q, rfl⟩ : ∃ r, q = r + 1 := ⟨q - 1, by omega⟩
    rw [bsF, if_pos (by omega), if_neg hh]; rfl
   ·(refine Le.by [] rfl rfl rfl rfl ?_ ?_ <;> (conv => whnf) <;> (repeat' (first | exact trivial | exact ac.rfl rfl | exact ac.ptr rfl | exact ac.sl rfl | ((with_reducible refine ac.fn ?_); (conv => whnf)) | ((refine ac.iref ?_); (conv => whnf)) | exact ⟨rfl, rfl, rfl⟩ | exact fun i hi => rfl | ((with_reducible refine And.intro ?_ ?_) <;> (conv => whnf)))))
  all_goals rw [ko (by omega)] at h4
  all_goals subst h4
  ·exact .of_eq (by simp [jz]; simp_all)
  ·exact .of_eq (by simp [jz]; simp_all)
  ·exact .of_eq (by simp [jz]; intros; omega)
def gz (n : Int) : Bool := decide (1 ≤ n) && decide (n ≤ 4611686018427387903)
theorem ck (n : Int) : Pure TC 75 [.i .i64 n] (.b (gz n)) := by
 refine Pure.mk' Tryz.func75 rfl rfl zN ?_
 (repeat' (first | ((first | refine Wp.any aa rfl ?_ | (with_reducible first | refine Go.mk ?_ | apply ak.of)); conv => whnf) | with_reducible exact rfl | ((with_reducible refine Ov.ok zO ?_); conv => whnf) | (with_reducible refine Ov.sh1 (by with_unfolding_all exact rfl) ?_) | ((first | with_reducible refine Ov.quo (by omega) (by omega) (by omega) (fun _ _ => ?_) | refine zV ?_ | with_reducible refine And.intro zC ?_); conv => whnf) | ((with_reducible refine And.intro ?hb ?_); (case hb => exact zz0); (conv => whnf)) | ((refine ae.a rfl rfl rfl rfl rfl rfl ?hb ?_); (case hb => exact zB); (conv => whnf)) | ((refine ae.b rfl rfl rfl rfl rfl rfl rfl rfl ?hb ?ho ?_); (case hb => exact zB); (case ho => omega); (conv => whnf)) | ((refine ae.c rfl rfl rfl rfl rfl ?hb ?_); (case hb => exact zB); (conv => whnf)) | ((refine ae.d rfl rfl rfl rfl rfl rfl ?hb ?ho ?_); (case hb => exact zB); (case ho => omega); (conv => whnf)) | (with_reducible refine Or.inl ?_) | ((with_reducible refine IxA.ptr ?_); conv => whnf) | ((with_reducible refine nil_no (by omega) ?_); (conv => whnf)) | ((with_reducible refine af ?_ (fun hn0 => ?_)) <;> (conv => whnf)) | ((refine am (fun hc => ?_) (fun hc => ?_)) <;> (try simp only [wz9] at hc) <;> (try (exfalso; omega)) <;> (conv => whnf))))
 all_goals exact .b (by simp [gz]; try omega)
def cj : Int → List Int → Bool
 | _, [] => true
 | l, x :: r => gz x && decide (l < x) && cj x r
def dx (p : Int) (xs : List Int) : Int := if 1 ≤ p ∧ p ≤ 64 ∧ (xs.length : Int) ≤ p ∧ cj 0 xs = true then 0 else 3
theorem aQ {α : Type} [Inhabited α] {xs : List α} {k : Nat} (h : k < xs.length) : xs.drop k = xs.getD k default :: xs.drop (k + 1) := by
 rw [List.drop_eq_getElem_cons h]; simp [List.getD, Q0 h]
theorem cU (p : Int) (xs : List Int) : Pure TC 76 [.agg [.i .i64 p, .d (aj 1 (ao .i64) xs)]] (.i .i64 (dx p xs)) := by
 refine Pure.mk' Tryz.func76 rfl rfl zN ?_
 (repeat' (first | ((first | refine Wp.any aa rfl ?_ | (with_reducible first | refine Go.mk ?_ | apply ak.of)); conv => whnf) | with_reducible exact rfl | ((with_reducible refine Ov.ok zO ?_); conv => whnf) | (with_reducible refine Ov.sh1 (by with_unfolding_all exact rfl) ?_) | ((first | with_reducible refine Ov.quo (by omega) (by omega) (by omega) (fun _ _ => ?_) | refine zV ?_ | with_reducible refine And.intro zC ?_); conv => whnf) | ((with_reducible refine And.intro ?hb ?_); (case hb => exact zz0); (conv => whnf)) | ((refine ae.a rfl rfl rfl rfl rfl rfl ?hb ?_); (case hb => exact zB); (conv => whnf)) | ((refine ae.b rfl rfl rfl rfl rfl rfl rfl rfl ?hb ?ho ?_); (case hb => exact zB); (case ho => omega); (conv => whnf)) | ((refine ae.c rfl rfl rfl rfl rfl ?hb ?_); (case hb => exact zB); (conv => whnf)) | ((refine ae.d rfl rfl rfl rfl rfl rfl ?hb ?ho ?_); (case hb => exact zB); (case ho => omega); (conv => whnf)) | (with_reducible refine Or.inl ?_) | ((with_reducible refine IxA.ptr ?_); conv => whnf) | ((with_reducible refine nil_no (by omega) ?_); (conv => whnf)) | ((with_reducible refine af ?_ (fun hn0 => ?_)) <;> (conv => whnf)) | ((refine am (fun hc => ?_) (fun hc => ?_)) <;> (try simp only [wz9] at hc) <;> (try (exfalso; omega)) <;> (conv => whnf))))
 ·exact .i (by rw [dx, if_neg (by omega)])
 ·exact .i (by rw [dx, if_neg (by omega)])
 ·exact .i (by rw [dx, if_neg (by omega)])
 refine Wp.loopP (ι := Nat × Int) (fun k => k.1 ≤ xs.length ∧ cj k.2 (xs.drop k.1) = cj 0 xs) (fun k => ⟨⟨Tryz.f76.ntmps, 0⟩, 0, [(3, .i .i64 k.2), (23, .d (aj 1 (ao .i64) xs)), (24, .i .i64 xs.length), (25, .i .i64 k.1)], []⟩) (fun k => xs.length - k.1) (0, 0) ⟨by simp, by simp⟩ ?_ ?_
 ·(refine Le.by [] rfl rfl rfl rfl ?_ ?_ <;> (conv => whnf) <;> (repeat' (first | exact trivial | exact ac.rfl rfl | exact ac.ptr rfl | exact ac.sl rfl | ((with_reducible refine ac.fn ?_); (conv => whnf)) | ((refine ac.iref ?_); (conv => whnf)) | exact ⟨rfl, rfl, rfl⟩ | exact fun i hi => rfl | ((with_reducible refine And.intro ?_ ?_) <;> (conv => whnf)))))
 ·rintro ⟨k, l⟩ ⟨h1, h2⟩
  dsimp only at h1 h2 ⊢
  (repeat' (first | ((first | refine Wp.any aa rfl ?_ | (with_reducible first | refine Go.mk ?_ | apply ak.of)); conv => whnf) | with_reducible exact rfl | ((with_reducible refine Ov.ok zO ?_); conv => whnf) | (with_reducible refine Ov.sh1 (by with_unfolding_all exact rfl) ?_) | ((first | with_reducible refine Ov.quo (by omega) (by omega) (by omega) (fun _ _ => ?_) | refine zV ?_ | with_reducible refine And.intro zC ?_); conv => whnf) | ((with_reducible refine And.intro ?hb ?_); (case hb => exact zz0); (conv => whnf)) | ((refine ae.a rfl rfl rfl rfl rfl rfl ?hb ?_); (case hb => exact zB); (conv => whnf)) | ((refine ae.b rfl rfl rfl rfl rfl rfl rfl rfl ?hb ?ho ?_); (case hb => exact zB); (case ho => omega); (conv => whnf)) | ((refine ae.c rfl rfl rfl rfl rfl ?hb ?_); (case hb => exact zB); (conv => whnf)) | ((refine ae.d rfl rfl rfl rfl rfl rfl ?hb ?ho ?_); (case hb => exact zB); (case ho => omega); (conv => whnf)) | (with_reducible refine Or.inl ?_) | ((with_reducible refine IxA.ptr ?_); conv => whnf) | ((with_reducible refine nil_no (by omega) ?_); (conv => whnf)) | ((with_reducible refine af ?_ (fun hn0 => ?_)) <;> (conv => whnf)) | ((with_reducible first | refine ab.pure (ck _) rfl rfl ?_ | refine ag.pure (ck _) rfl rfl ?_); conv => whnf) | ((refine am (fun hc => ?_) (fun hc => ?_)) <;> (try simp only [wz9] at hc) <;> (try (exfalso; omega)) <;> (conv => whnf))))
  all_goals try simp only [Q13] at *
  ·rw [aQ (by omega), cj, hc] at h2
   exact .i (by rw [dx, if_neg (by rw [← h2]; simp)])
  ·rw [aQ (by omega), cj, decide_eq_false (by omega)] at h2
   exact .i (by rw [dx, if_neg (by rw [← h2]; simp)])
  ·rename_i hs
   rw [aQ (by omega), cj, hs, decide_eq_true (by omega)] at h2
   refine ⟨(k + 1, xs.getD k default), ⟨by dsimp only; omega, by simpa using h2⟩, by dsimp only; omega, ?_⟩
   (refine Le.by [] rfl rfl rfl rfl ?_ ?_ <;> (conv => whnf) <;> (repeat' (first | exact trivial | exact ac.rfl rfl | exact ac.ptr rfl | exact ac.sl rfl | ((with_reducible refine ac.fn ?_); (conv => whnf)) | ((refine ac.iref ?_); (conv => whnf)) | exact ⟨rfl, rfl, rfl⟩ | exact fun i hi => rfl | ((with_reducible refine And.intro ?_ ?_) <;> (conv => whnf)))))
  ·rw [List.drop_eq_nil_of_le (by omega), cj] at h2
   exact .i (by rw [dx, if_pos ⟨by omega, by omega, by omega, h2.symm⟩])
structure Cel where
 pol : Int
 key : List Int
 tat : Int
 held : List Int
 deriving Inhabited
def Cel.D (c : Cel) : List D := [.val (.int .i64 c.pol), aj 1 (ao .u8) c.key, .val (.int .i64 c.tat), aj 1 (ao .i64) c.held]
theorem km (xs : List Int) (hn : xs.length ≤ 16777216) : Fun TC 51 0 [.d (aj 1 (ao .u8) xs)] [] 1 (.sl 0 1 0 xs.length) [(0, some (ap 5 1 (ao .u8) xs))] := by
 refine Fun.mk' Tryz.func51 rfl rfl zN (by decide) ?_
 (repeat' (first | ((first | refine Wp.any aa rfl ?_ | (with_reducible first | refine Go.mk ?_ | apply ak.of)); conv => whnf) | with_reducible exact rfl | ((with_reducible refine Ov.ok zO ?_); conv => whnf) | (with_reducible refine Ov.sh1 (by with_unfolding_all exact rfl) ?_) | ((first | with_reducible refine Ov.quo (by omega) (by omega) (by omega) (fun _ _ => ?_) | refine zV ?_ | with_reducible refine And.intro zC ?_); conv => whnf) | ((with_reducible refine And.intro ?hb ?_); (case hb => exact zz0); (conv => whnf)) | ((refine ae.a rfl rfl rfl rfl rfl rfl ?hb ?_); (case hb => exact zB); (conv => whnf)) | ((refine ae.b rfl rfl rfl rfl rfl rfl rfl rfl ?hb ?ho ?_); (case hb => exact zB); (case ho => omega); (conv => whnf)) | ((refine ae.c rfl rfl rfl rfl rfl ?hb ?_); (case hb => exact zB); (conv => whnf)) | ((refine ae.d rfl rfl rfl rfl rfl rfl ?hb ?ho ?_); (case hb => exact zB); (case ho => omega); (conv => whnf)) | (with_reducible refine Or.inl ?_) | ((with_reducible refine IxA.ptr ?_); conv => whnf) | ((with_reducible refine nil_no (by omega) ?_); (conv => whnf)) | ((with_reducible refine af ?_ (fun hn0 => ?_)) <;> (conv => whnf)) | ((refine am (fun hc => ?_) (fun hc => ?_)) <;> (try simp only [wz9] at hc) <;> (try (exfalso; omega)) <;> (conv => whnf))))
 ·refine ah.of [1] rfl (by simp) rfl ?_ ?_
  ·exact .of_eq (congrArg (SV.sl _ _ _) (Q19 _))
  ·refine ⟨⟨⟨rfl, rfl, Q19 _⟩, fun i hi => ?_⟩, trivial⟩
   simp [bh]
 ·obtain rfl := List.eq_nil_of_length_eq_zero hn0
  refine ah.virt 5 1 (fun i => (ao .u8) (([] : List Int).getD i default)) (by decide) (by decide) ?_
  refine ah.of [0] rfl (by simp) rfl ?_ ?_
  ·exact .of_eq rfl
  ·exact ⟨⟨⟨rfl, rfl, rfl⟩, fun i hi => rfl⟩, trivial⟩
theorem bF (xs : List Int) (hn : xs.length ≤ 16777216) : Fun TC 64 0 [.d (aj 1 (ao .i64) xs)] [] 1 (.sl 0 1 0 xs.length) [(0, some (ap 2 1 (ao .i64) xs))] := by
 refine Fun.mk' Tryz.func64 rfl rfl zN (by decide) ?_
 (repeat' (first | ((first | refine Wp.any aa rfl ?_ | (with_reducible first | refine Go.mk ?_ | apply ak.of)); conv => whnf) | with_reducible exact rfl | ((with_reducible refine Ov.ok zO ?_); conv => whnf) | (with_reducible refine Ov.sh1 (by with_unfolding_all exact rfl) ?_) | ((first | with_reducible refine Ov.quo (by omega) (by omega) (by omega) (fun _ _ => ?_) | refine zV ?_ | with_reducible refine And.intro zC ?_); conv => whnf) | ((with_reducible refine And.intro ?hb ?_); (case hb => exact zz0); (conv => whnf)) | ((refine ae.a rfl rfl rfl rfl rfl rfl ?hb ?_); (case hb => exact zB); (conv => whnf)) | ((refine ae.b rfl rfl rfl rfl rfl rfl rfl rfl ?hb ?ho ?_); (case hb => exact zB); (case ho => omega); (conv => whnf)) | ((refine ae.c rfl rfl rfl rfl rfl ?hb ?_); (case hb => exact zB); (conv => whnf)) | ((refine ae.d rfl rfl rfl rfl rfl rfl ?hb ?ho ?_); (case hb => exact zB); (case ho => omega); (conv => whnf)) | (with_reducible refine Or.inl ?_) | ((with_reducible refine IxA.ptr ?_); conv => whnf) | ((with_reducible refine nil_no (by omega) ?_); (conv => whnf)) | ((with_reducible refine af ?_ (fun hn0 => ?_)) <;> (conv => whnf)) | ((refine am (fun hc => ?_) (fun hc => ?_)) <;> (try simp only [wz9] at hc) <;> (try (exfalso; omega)) <;> (conv => whnf))))
 ·refine ah.of [1] rfl (by simp) rfl ?_ ?_
  ·exact .of_eq (congrArg (SV.sl _ _ _) (Q19 _))
  ·refine ⟨⟨⟨rfl, rfl, Q19 _⟩, fun i hi => ?_⟩, trivial⟩
   simp [bh]
 ·obtain rfl := List.eq_nil_of_length_eq_zero hn0
  refine ah.virt 2 1 (fun i => (ao .i64) (([] : List Int).getD i default)) (by decide) (by decide) ?_
  refine ah.of [0] rfl (by simp) rfl ?_ ?_
  ·exact .of_eq rfl
  ·exact ⟨⟨⟨rfl, rfl, rfl⟩, fun i hi => rfl⟩, trivial⟩
theorem ar (xs : List Cel) (hn : xs.length ≤ 16777216) : Fun TC 50 1 [.sl 0 4 0 xs.length] [(0, some (ap 56 4 Cel.D xs))] 2 (.sl 1 4 0 xs.length) [(0, some (ap 56 4 Cel.D xs)), (1, some (ap 56 4 Cel.D xs))] := by
 refine Fun.mk' Tryz.func50 rfl rfl zN (by decide) ?_
 (repeat' (first | ((first | refine Wp.any aa rfl ?_ | (with_reducible first | refine Go.mk ?_ | apply ak.of)); conv => whnf) | with_reducible exact rfl | ((with_reducible refine Ov.ok zO ?_); conv => whnf) | (with_reducible refine Ov.sh1 (by with_unfolding_all exact rfl) ?_) | ((first | with_reducible refine Ov.quo (by omega) (by omega) (by omega) (fun _ _ => ?_) | refine zV ?_ | with_reducible refine And.intro zC ?_); conv => whnf) | ((with_reducible refine And.intro ?hb ?_); (case hb => exact zz0); (conv => whnf)) | ((refine ae.a rfl rfl rfl rfl rfl rfl ?hb ?_); (case hb => exact zB); (conv => whnf)) | ((refine ae.b rfl rfl rfl rfl rfl rfl rfl rfl ?hb ?ho ?_); (case hb => exact zB); (case ho => omega); (conv => whnf)) | ((refine ae.c rfl rfl rfl rfl rfl ?hb ?_); (case hb => exact zB); (conv => whnf)) | ((refine ae.d rfl rfl rfl rfl rfl rfl ?hb ?ho ?_); (case hb => exact zB); (case ho => omega); (conv => whnf)) | (with_reducible refine Or.inl ?_) | ((with_reducible refine IxA.ptr ?_); conv => whnf) | ((with_reducible refine nil_no (by omega) ?_); (conv => whnf)) | ((with_reducible refine af ?_ (fun hn0 => ?_)) <;> (conv => whnf)) | ((refine am (fun hc => ?_) (fun hc => ?_)) <;> (try simp only [wz9] at hc) <;> (try (exfalso; omega)) <;> (conv => whnf))))
 ·refine ah.of [0, 2] rfl (fun i hi => by have : i = 0 := (by omega); subst this; rfl) rfl ?_ ?_
  ·exact .of_eq (congrArg (SV.sl _ _ _) (Q19 _))
  ·refine ⟨⟨⟨rfl, rfl, rfl⟩, fun i hi => rfl⟩, ⟨⟨rfl, rfl, Q19 _⟩, fun i hi => ?_⟩, trivial⟩
   simp [bh]
 ·obtain rfl := List.eq_nil_of_length_eq_zero hn0
  refine ah.virt 56 4 (fun i => Cel.D (([] : List Cel).getD i default)) (by decide) (by decide) ?_
  refine ah.of [0, 1] rfl (fun i hi => by have : i = 0 := (by omega); subst this; rfl) rfl ?_ ?_
  ·exact .of_eq rfl
  ·exact ⟨⟨⟨rfl, rfl, rfl⟩, fun i hi => rfl⟩, ⟨⟨rfl, rfl, rfl⟩, fun i hi => rfl⟩, trivial⟩
def b6 (p : Int) (key : List Int) : Int := if p < 0 ∨ 32 ≤ p then 1 else if 255 < key.length then 2 else 0
def cy (p : Int) (key : List Int) : List Int := if b6 p key = 0 then p :: key else []
theorem gK (p : Int) (key : List Int) : Pure TC 68 [.i .i64 p, .d (aj 1 (ao .u8) key)] (.tup [.d (aj 1 (ao .u8) (cy p key)), .i .i64 (b6 p key)]) := by
 refine Pure.mk' Tryz.func68 rfl rfl zN ?_
 (repeat' (first | ((first | refine Wp.any aa rfl ?_ | (with_reducible first | refine Go.mk ?_ | apply ak.of)); conv => whnf) | with_reducible exact rfl | ((with_reducible refine Ov.ok zO ?_); conv => whnf) | (with_reducible refine Ov.sh1 (by with_unfolding_all exact rfl) ?_) | ((first | with_reducible refine Ov.quo (by omega) (by omega) (by omega) (fun _ _ => ?_) | refine zV ?_ | with_reducible refine And.intro zC ?_); conv => whnf) | ((with_reducible refine And.intro ?hb ?_); (case hb => exact zz0); (conv => whnf)) | ((refine ae.a rfl rfl rfl rfl rfl rfl ?hb ?_); (case hb => exact zB); (conv => whnf)) | ((refine ae.b rfl rfl rfl rfl rfl rfl rfl rfl ?hb ?ho ?_); (case hb => exact zB); (case ho => omega); (conv => whnf)) | ((refine ae.c rfl rfl rfl rfl rfl ?hb ?_); (case hb => exact zB); (conv => whnf)) | ((refine ae.d rfl rfl rfl rfl rfl rfl ?hb ?ho ?_); (case hb => exact zB); (case ho => omega); (conv => whnf)) | (with_reducible refine Or.inl ?_) | ((with_reducible refine IxA.ptr ?_); conv => whnf) | ((with_reducible refine nil_no (by omega) ?_); (conv => whnf)) | ((with_reducible refine af ?_ (fun hn0 => ?_)) <;> (conv => whnf)) | ((refine am (fun hc => ?_) (fun hc => ?_)) <;> (try simp only [wz9] at hc) <;> (try (exfalso; omega)) <;> (conv => whnf))))
 ·have hE : b6 p key = 1 := by rw [b6, if_pos (by omega)]
  rw [cy, hE]; exact .tup (.cons .nil (.cons (.rfl _) .nil))
 ·have hE : b6 p key = 1 := by rw [b6, if_pos (by omega)]
  rw [cy, hE]; exact .tup (.cons .nil (.cons (.rfl _) .nil))
 ·have hE : b6 p key = 2 := by rw [b6, if_neg (by omega), if_pos (by omega)]
  rw [cy, hE]; exact .tup (.cons .nil (.cons (.rfl _) .nil))
 ·have hE : b6 p key = 0 := by rw [b6, if_neg (by omega), if_neg (by omega)]
  rw [cy, hE, Nat.add_comm 1]
  refine .tup (.cons (SV.Le.sl fun i hi => ?_) (.cons (.rfl _) .nil))
  rcases i with _ | i
  ·rfl
  ·simp [bh]
def aW (ps : List Pol) (c : Cel) (now : Int) : Bool := if (ps.getD c.pol.toNat default).kind = 2 then (c.held.length : Int) == 0 else decide (c.tat ≤ now)
@[reducible] def Cel.S (c : Cel) : SV := .agg [.i .i64 c.pol, .d (aj 1 (ao .u8) c.key), .i .i64 c.tat, .d (aj 1 (ao .i64) c.held)]
theorem jR (ps : List Pol) (c : Cel) (now : Int) (h0 : 0 ≤ c.pol) (h1 : c.pol < ps.length) : Pure TC 21 [.d (aj 4 Pol.D ps), c.S, .i .i64 now] (.b (aW ps c now)) := by
 refine Pure.mk' Tryz.func21 rfl rfl zN ?_
 (repeat' (first | ((first | refine Wp.any aa rfl ?_ | (with_reducible first | refine Go.mk ?_ | apply ak.of)); conv => whnf) | with_reducible exact rfl | ((with_reducible refine Ov.ok zO ?_); conv => whnf) | (with_reducible refine Ov.sh1 (by with_unfolding_all exact rfl) ?_) | ((first | with_reducible refine Ov.quo (by omega) (by omega) (by omega) (fun _ _ => ?_) | refine zV ?_ | with_reducible refine And.intro zC ?_); conv => whnf) | ((with_reducible refine And.intro ?hb ?_); (case hb => exact zz0); (conv => whnf)) | ((refine ae.a rfl rfl rfl rfl rfl rfl ?hb ?_); (case hb => exact zB); (conv => whnf)) | ((refine ae.b rfl rfl rfl rfl rfl rfl rfl rfl ?hb ?ho ?_); (case hb => exact zB); (case ho => omega); (conv => whnf)) | ((refine ae.c rfl rfl rfl rfl rfl ?hb ?_); (case hb => exact zB); (conv => whnf)) | ((refine ae.d rfl rfl rfl rfl rfl rfl ?hb ?ho ?_); (case hb => exact zB); (case ho => omega); (conv => whnf)) | (with_reducible refine Or.inl ?_) | ((with_reducible refine IxA.ptr ?_); conv => whnf) | ((with_reducible refine nil_no (by omega) ?_); (conv => whnf)) | ((with_reducible refine af ?_ (fun hn0 => ?_)) <;> (conv => whnf)) | ((refine am (fun hc => ?_) (fun hc => ?_)) <;> (try simp only [wz9] at hc) <;> (try (exfalso; omega)) <;> (conv => whnf))))
 ·exact .b (by rw [aW, if_pos hc])
 ·exact .b (by rw [aW, if_neg hc])
structure Rpl where
 e : Int
 g : Bool
 left : Int
 wait : Int
 serial : Int
 now : Int
 deriving Inhabited
@[reducible] def Rpl.S (r : Rpl) : SV := .agg [.i .i64 r.e, .b r.g, .i .i64 r.left, .i .i64 r.wait, .i .i64 r.serial, .i .i64 r.now]
@[reducible] def Pol.S (p : Pol) : SV := .agg [.i .u8 p.kind, .i .i64 p.T, .i .i64 p.tau, .i .i64 p.permits]
def dM (p : Pol) (c : Cel) (now n : Int) : Rpl := let a := lB p.T p.tau c.tat now n; ⟨0, a.g, a.left, a.wait, 0, now⟩
def bt (p : Pol) (c : Cel) (now n : Int) : Cel := ⟨c.pol, c.key, (lB p.T p.tau c.tat now n).tat, c.held⟩
theorem gU (p : Pol) (c : Cel) (now n : Int) : Pure TC 24 [p.S, c.S, .i .i64 now, .i .i64 n] (.tup [(dM p c now n).S, (bt p c now n).S]) := by
 refine Pure.mk' Tryz.func24 rfl rfl zN ?_
 (repeat' (first | ((first | refine Wp.any aa rfl ?_ | (with_reducible first | refine Go.mk ?_ | apply ak.of)); conv => whnf) | with_reducible exact rfl | ((with_reducible refine Ov.ok zO ?_); conv => whnf) | (with_reducible refine Ov.sh1 (by with_unfolding_all exact rfl) ?_) | ((first | with_reducible refine Ov.quo (by omega) (by omega) (by omega) (fun _ _ => ?_) | refine zV ?_ | with_reducible refine And.intro zC ?_); conv => whnf) | ((with_reducible refine And.intro ?hb ?_); (case hb => exact zz0); (conv => whnf)) | ((refine ae.a rfl rfl rfl rfl rfl rfl ?hb ?_); (case hb => exact zB); (conv => whnf)) | ((refine ae.b rfl rfl rfl rfl rfl rfl rfl rfl ?hb ?ho ?_); (case hb => exact zB); (case ho => omega); (conv => whnf)) | ((refine ae.c rfl rfl rfl rfl rfl ?hb ?_); (case hb => exact zB); (conv => whnf)) | ((refine ae.d rfl rfl rfl rfl rfl rfl ?hb ?ho ?_); (case hb => exact zB); (case ho => omega); (conv => whnf)) | (with_reducible refine Or.inl ?_) | ((with_reducible refine IxA.ptr ?_); conv => whnf) | ((with_reducible refine nil_no (by omega) ?_); (conv => whnf)) | ((with_reducible refine af ?_ (fun hn0 => ?_)) <;> (conv => whnf)) | ((with_reducible first | refine ab.pure (dq _ _ _ _ _) rfl rfl ?_ | refine ag.pure (dq _ _ _ _ _) rfl rfl ?_); conv => whnf) | ((refine am (fun hc => ?_) (fun hc => ?_)) <;> (try simp only [wz9] at hc) <;> (try (exfalso; omega)) <;> (conv => whnf))))
 exact .of_eq rfl
def bZ (p : Pol) (c : Cel) (now : Int) : Rpl := if p.kind = 2 then ⟨0, false, p.permits - c.held.length, 0, 0, 0⟩ else ⟨0, false, if jU p.T p.tau [c.tat, now] = 0 then aV p.T p.tau c.tat now else 0, mt c.tat now, 0, now⟩
theorem f5 (p : Pol) (c : Cel) (now : Int) (h1 : p.kind = 2 → -4611686018427387904 ≤ p.permits ∧ p.permits ≤ 4611686018427387903) (h3 : c.held.length ≤ 4611686018427387903) : Pure TC 23 [p.S, c.S, .i .i64 now] (bZ p c now).S := by
 refine Pure.mk' Tryz.func23 rfl rfl zN ?_
 (repeat' (first | ((first | refine Wp.any aa rfl ?_ | (with_reducible first | refine Go.mk ?_ | apply ak.of)); conv => whnf) | with_reducible exact rfl | ((with_reducible refine Ov.ok zO ?_); conv => whnf) | (with_reducible refine Ov.sh1 (by with_unfolding_all exact rfl) ?_) | ((first | with_reducible refine Ov.quo (by omega) (by omega) (by omega) (fun _ _ => ?_) | refine zV ?_ | with_reducible refine And.intro zC ?_); conv => whnf) | ((with_reducible refine And.intro ?hb ?_); (case hb => exact zz0); (conv => whnf)) | ((refine ae.a rfl rfl rfl rfl rfl rfl ?hb ?_); (case hb => exact zB); (conv => whnf)) | ((refine ae.b rfl rfl rfl rfl rfl rfl rfl rfl ?hb ?ho ?_); (case hb => exact zB); (case ho => omega); (conv => whnf)) | ((refine ae.c rfl rfl rfl rfl rfl ?hb ?_); (case hb => exact zB); (conv => whnf)) | ((refine ae.d rfl rfl rfl rfl rfl rfl ?hb ?ho ?_); (case hb => exact zB); (case ho => omega); (conv => whnf)) | (with_reducible refine Or.inl ?_) | ((with_reducible refine IxA.ptr ?_); conv => whnf) | ((with_reducible refine nil_no (by omega) ?_); (conv => whnf)) | ((with_reducible refine af ?_ (fun hn0 => ?_)) <;> (conv => whnf)) | ((with_reducible first | refine ab.pure (jB _ _ _ _) rfl rfl ?_ | refine ag.pure (jB _ _ _ _) rfl rfl ?_ | refine ab.pure (kF _ _) rfl rfl ?_ | refine ag.pure (kF _ _) rfl rfl ?_); conv => whnf) | ((refine am (fun hc => ?_) (fun hc => ?_)) <;> (try simp only [wz9] at hc) <;> (try (exfalso; omega)) <;> (conv => whnf))))
 ·exact .of_eq (by rw [bZ, if_pos hc])
 ·exact .of_eq (by rw [bZ, if_neg hc])
def IsB (xs : List Int) : Prop := ∀ x ∈ xs, 0 ≤ x ∧ x ≤ 255
theorem IsB.cons {x : Int} {xs : List Int} (h : IsB (x :: xs)) : (0 ≤ x ∧ x ≤ 255) ∧ IsB xs := ⟨h x (by simp), fun y hy => h y (by simp [hy])⟩
def be : List Int → List Int → Int
 | [], [] => 0
 | [], _ :: _ => -1
 | _ :: _, [] => 1
 | a :: r, b :: s => if a < b then -1 else if b < a then 1 else be r s
theorem gP : ∀ (a b : List Int), IsB a → IsB b → Lib.compareBytes (Lib.bytesOf a) (Lib.bytesOf b) = be a b
 | [], [], _, _ => rfl
 | [], _ :: _, _, _ => rfl
 | _ :: _, [], _, _ => rfl
 | x :: a, y :: b, ha, hb => by
  obtain ⟨hx, ha'⟩ := ha.cons
  obtain ⟨hy, hb'⟩ := hb.cons
  have ih := gP a b ha' hb'
  have e1 : (x.toNat.toUInt8 < y.toNat.toUInt8) ↔ x < y := by
   rw [UInt8.lt_iff_toNat_lt]; simp only [Nat.toUInt8, UInt8.toNat_ofNat']; omega
  have e2 : (y.toNat.toUInt8 < x.toNat.toUInt8) ↔ y < x := by
   rw [UInt8.lt_iff_toNat_lt]; simp only [Nat.toUInt8, UInt8.toNat_ofNat']; omega
  show Lib.compareBytes (x.toNat.toUInt8 :: Lib.bytesOf a) (y.toNat.toUInt8 :: Lib.bytesOf b) = _
  simp only [Lib.compareBytes, be, e1, e2, ih]
theorem fl {P : Program} {Im : Nat → Prop} {w : World} {v : Value} {xs : List Int} (h : RD w Im (aj 1 (ao .u8) xs) v) : (∃ a cap, v = .slice a xs.length cap) ∧ (Extern.Bytes.bytesOf v).run P w = .ok ⟨(Lib.bytesOf xs).toArray⟩ w := by
 cases h with
 | sl _ _ _ a cap g hc hm hl ha hg =>
  refine ⟨⟨a, cap, rfl⟩, ?_⟩
  cases a with
  | none =>
   cases xs with
   | nil => simp [Extern.Bytes.bytesOf, Lib.bytesOf]; rfl
   | cons x r => obtain ⟨b, o, e, _⟩ := ha (by simp); cases e
  | some ad =>
   have := Lib.run_loadBytesX (P := P) w xs ad .empty (fun j x hj => by
    have hjl := (Q3 hj).1
    obtain ⟨b, o, e, _, hcell⟩ := ha (by omega)
    cases e
    have h1 := hcell j 0 hjl (by omega)
    have h2 := hg j 0 hjl (by simp [ao])
    have h3 : (ao .u8 (xs.getD j default))[0]'(by simp [ao]) = .val (.int .u8 x) := by
     simp [ao, List.getD, hj]
    rw [h3] at h2
    have h4 : g j 0 = .int .u8 x := by generalize g j 0 = y at h2; cases h2; rfl
    rw [h4] at h1
    rw [Addr.add_lit]
    simpa using h1)
   simp only [Extern.Bytes.bytesOf, this]
   simp
theorem dJ (a b : List Int) (ba : IsB a) (bb : IsB b) : Pure TC 86 [.d (aj 1 (ao .u8) a), .d (aj 1 (ao .u8) b)] (.i .i64 (be a b)) := by
 refine ⟨.mk Tryz.func86 rfl rfl, fun E w vs hIm hsz hargs => ?_⟩
 obtain ⟨va, vb, rfl⟩ : ∃ va vb, vs = #[va, vb] := ⟨vs[0]'(by simp at hsz; omega), vs[1]'(by simp at hsz; omega), by
  apply Array.ext (by simpa using hsz)
  intro i h1 h2
  have : i = 0 ∨ i = 1 := by simp at h2; omega
  rcases this with rfl | rfl <;> rfl⟩
 have ha : RD w E.Im (aj 1 (ao .u8) a) va := by
  have := hargs 0 (by simp)
  cases this with | d _ _ h => exact h
 have hb : RD w E.Im (aj 1 (ao .u8) b) vb := by
  have := hargs 1 (by simp)
  cases this with | d _ _ h => exact h
 obtain ⟨⟨a1, c1, rfl⟩, h1⟩ := fl (P := Tryz.prog) ha
 obtain ⟨⟨a2, c2, rfl⟩, h2⟩ := fl (P := Tryz.prog) hb
 have hr : (callFunc 97 #[.slice a1 a.length c1, .slice a2 b.length c2]).run Tryz.prog w = .ok (.value (.int .i64 (be a b))) w := by
  rw [run_callFunc_extern Tryz.func97 (by kernel_rfl) (by kernel_rfl) (by kernel_rfl) (e := Extern.BytealgCompare.compare) (by kernel_rfl)]
  have h3 : (Extern.BytealgCompare.compare #[.slice a1 a.length c1, .slice a2 b.length c2]).run Tryz.prog w = .ok (.int .i64 (be a b)) w := by
   change Sem.run Tryz.prog (do pure (goInt (Extern.BytealgCompare.cmp (← Extern.Bytes.bytesOf (.slice a1 a.length c1)) (← Extern.Bytes.bytesOf (.slice a2 b.length c2))))) w = _
   simp only [Sem.run_bind, h1, h2, Result.andThen_ok, Sem.run_pure, Lib.cmp_eq]
   rw [gP a b ba bb]
   rfl
  rw [h3]; rfl
 have hc : Calls Tryz.prog 86 #[.slice a1 a.length c1, .slice a2 b.length c2] w fun e w' => e = .returned (.int .i64 (be a b)) ∧ w = w' := by
  clear ha hb ba bb h1 h2 hargs hIm hsz
  go_enter Tryz.func86, Tryz.ntmps86
  go_wp2_with (rw [hr])
  go_ret
  exact ⟨rfl, rfl⟩
 refine hc.mono ?_
 rintro e w' ⟨rfl, rfl⟩
 exact ⟨_, rfl, Kp.refl _, .d _ _ (.val _ rfl)⟩
theorem gJ (a b : List Int) (ba : IsB a) (bb : IsB b) : Pure TC 69 [.d (aj 1 (ao .u8) a), .d (aj 1 (ao .u8) b)] (.i .i64 (be a b)) := by
 refine Pure.mk' Tryz.func69 rfl rfl zN ?_
 (repeat' (first | ((first | refine Wp.any aa rfl ?_ | (with_reducible first | refine Go.mk ?_ | apply ak.of)); conv => whnf) | with_reducible exact rfl | ((with_reducible refine Ov.ok zO ?_); conv => whnf) | (with_reducible refine Ov.sh1 (by with_unfolding_all exact rfl) ?_) | ((first | with_reducible refine Ov.quo (by omega) (by omega) (by omega) (fun _ _ => ?_) | refine zV ?_ | with_reducible refine And.intro zC ?_); conv => whnf) | ((with_reducible refine And.intro ?hb ?_); (case hb => exact zz0); (conv => whnf)) | ((refine ae.a rfl rfl rfl rfl rfl rfl ?hb ?_); (case hb => exact zB); (conv => whnf)) | ((refine ae.b rfl rfl rfl rfl rfl rfl rfl rfl ?hb ?ho ?_); (case hb => exact zB); (case ho => omega); (conv => whnf)) | ((refine ae.c rfl rfl rfl rfl rfl ?hb ?_); (case hb => exact zB); (conv => whnf)) | ((refine ae.d rfl rfl rfl rfl rfl rfl ?hb ?ho ?_); (case hb => exact zB); (case ho => omega); (conv => whnf)) | (with_reducible refine Or.inl ?_) | ((with_reducible refine IxA.ptr ?_); conv => whnf) | ((with_reducible refine nil_no (by omega) ?_); (conv => whnf)) | ((with_reducible refine af ?_ (fun hn0 => ?_)) <;> (conv => whnf)) | ((with_reducible first | refine ab.pure (dJ a b ba bb) rfl rfl ?_ | refine ag.pure (dJ a b ba bb) rfl rfl ?_); conv => whnf) | ((refine am (fun hc => ?_) (fun hc => ?_)) <;> (try simp only [wz9] at hc) <;> (try (exfalso; omega)) <;> (conv => whnf))))
 exact .i rfl
theorem eU {p : Int} {key : List Int} (h : IsB key) : IsB (cy p key) := by
 by_cases h0 : b6 p key = 0
 ·rw [cy, if_pos h0]
  unfold b6 at h0
  intro x hx
  rcases Q22 hx with rfl | hx
  ·split at h0 <;> omega
  ·exact h x hx
 ·rw [cy, if_neg h0]; intro x hx; simp at hx
def i9 (a b : Cel) : Int := be (cy a.pol a.key) (cy b.pol b.key)
theorem ej (a b : Cel) (ha : IsB a.key) (hb : IsB b.key) : Pure TC 44 [a.S, b.S] (.i .i64 (i9 a b)) := by
 refine Pure.mk' Tryz.func44 rfl rfl zN ?_
 (repeat' (first | ((first | refine Wp.any aa rfl ?_ | (with_reducible first | refine Go.mk ?_ | apply ak.of)); conv => whnf) | with_reducible exact rfl | ((with_reducible refine Ov.ok zO ?_); conv => whnf) | (with_reducible refine Ov.sh1 (by with_unfolding_all exact rfl) ?_) | ((first | with_reducible refine Ov.quo (by omega) (by omega) (by omega) (fun _ _ => ?_) | refine zV ?_ | with_reducible refine And.intro zC ?_); conv => whnf) | ((with_reducible refine And.intro ?hb ?_); (case hb => exact zz0); (conv => whnf)) | ((refine ae.a rfl rfl rfl rfl rfl rfl ?hb ?_); (case hb => exact zB); (conv => whnf)) | ((refine ae.b rfl rfl rfl rfl rfl rfl rfl rfl ?hb ?ho ?_); (case hb => exact zB); (case ho => omega); (conv => whnf)) | ((refine ae.c rfl rfl rfl rfl rfl ?hb ?_); (case hb => exact zB); (conv => whnf)) | ((refine ae.d rfl rfl rfl rfl rfl rfl ?hb ?ho ?_); (case hb => exact zB); (case ho => omega); (conv => whnf)) | (with_reducible refine Or.inl ?_) | ((with_reducible refine IxA.ptr ?_); conv => whnf) | ((with_reducible refine nil_no (by omega) ?_); (conv => whnf)) | ((with_reducible refine af ?_ (fun hn0 => ?_)) <;> (conv => whnf)) | ((with_reducible first | refine ab.pure (gK _ _) rfl rfl ?_ | refine ag.pure (gK _ _) rfl rfl ?_ | refine ab.pure (gJ _ _ (eU ha) (eU hb)) rfl rfl ?_ | refine ag.pure (gJ _ _ (eU ha) (eU hb)) rfl rfl ?_); conv => whnf) | ((refine am (fun hc => ?_) (fun hc => ?_)) <;> (try simp only [wz9] at hc) <;> (try (exfalso; omega)) <;> (conv => whnf))))
 exact .i rfl
def aM (xs : List Cel) (t : Cel) : Nat := bs (fun k => decide (i9 (xs.getD k default) t < 0)) xs.length
def bS (xs : List Cel) (t : Cel) : Bool := decide (aM xs t < xs.length) && decide (i9 (xs.getD (aM xs t) default) t = 0)
theorem bX (xs : List Cel) (t : Cel) (hlen : xs.length ≤ 4611686018427387903) (hx : ∀ k, IsB (xs.getD k default).key) (ht : IsB t.key) :
  Fun TC 43 1 [.sl 0 4 0 xs.length, t.S, .d (.fn (.func 44) [])] [(0, some (ap 56 4 Cel.D xs))] 1 (.tup [.i .i64 (aM xs t), .b (bS xs t)]) [(0, some (ap 56 4 Cel.D xs))] := by
 refine Fun.mk' Tryz.func43 rfl rfl zN (by decide) ?_
 (repeat' (first | ((first | refine Wp.any aa rfl ?_ | (with_reducible first | refine Go.mk ?_ | apply ak.of)); conv => whnf) | with_reducible exact rfl | ((with_reducible refine Ov.ok zO ?_); conv => whnf) | (with_reducible refine Ov.sh1 (by with_unfolding_all exact rfl) ?_) | ((first | with_reducible refine Ov.quo (by omega) (by omega) (by omega) (fun _ _ => ?_) | refine zV ?_ | with_reducible refine And.intro zC ?_); conv => whnf) | ((with_reducible refine And.intro ?hb ?_); (case hb => exact zz0); (conv => whnf)) | ((refine ae.a rfl rfl rfl rfl rfl rfl ?hb ?_); (case hb => exact zB); (conv => whnf)) | ((refine ae.b rfl rfl rfl rfl rfl rfl rfl rfl ?hb ?ho ?_); (case hb => exact zB); (case ho => omega); (conv => whnf)) | ((refine ae.c rfl rfl rfl rfl rfl ?hb ?_); (case hb => exact zB); (conv => whnf)) | ((refine ae.d rfl rfl rfl rfl rfl rfl ?hb ?ho ?_); (case hb => exact zB); (case ho => omega); (conv => whnf)) | (with_reducible refine Or.inl ?_) | ((with_reducible refine IxA.ptr ?_); conv => whnf) | ((with_reducible refine nil_no (by omega) ?_); (conv => whnf)) | ((with_reducible refine af ?_ (fun hn0 => ?_)) <;> (conv => whnf)) | ((refine am (fun hc => ?_) (fun hc => ?_)) <;> (try simp only [wz9] at hc) <;> (try (exfalso; omega)) <;> (conv => whnf))))
 refine Wp.loopP (ι := Nat × Nat × Nat) (fun k => k.1 ≤ k.2.1 ∧ k.2.1 ≤ xs.length ∧ k.2.1 - k.1 < k.2.2 ∧ bsF (fun k => decide (i9 (xs.getD k default) t < 0)) k.2.2 k.1 k.2.1 = aM xs t) (fun k => ⟨⟨Tryz.f43.ntmps, 1⟩, 2, [(0, .sl 0 4 0 xs.length), (2, .d (.fn (.func 44) [])), (4, .ptr 1 0), (8, .i .i64 xs.length), (9, .i .i64 k.1), (10, .i .i64 k.2.1)], [(0, some (ap 56 4 Cel.D xs)), (1, some (.cells [.i .i64 t.pol, .d (aj 1 (ao .u8) t.key), .i .i64 t.tat, .d (aj 1 (ao .i64) t.held)]))]⟩) (fun k => k.2.1 - k.1) (0, xs.length, xs.length + 1) ⟨by simp, by simp, by simp, rfl⟩ ?_ ?_
 ·(refine Le.by [0,1] rfl rfl rfl rfl ?_ ?_ <;> (conv => whnf) <;> (repeat' (first | exact trivial | exact ac.rfl rfl | exact ac.ptr rfl | exact ac.sl rfl | ((with_reducible refine ac.fn ?_); (conv => whnf)) | ((refine ac.iref ?_); (conv => whnf)) | exact ⟨rfl, rfl, rfl⟩ | exact fun i hi => rfl | ((with_reducible refine And.intro ?_ ?_) <;> (conv => whnf)))))
 ·rintro ⟨i, j, q⟩ ⟨h1, h2, h3, h4⟩
  dsimp only at h1 h2 h3 h4 ⊢
  (repeat' (first | ((first | refine Wp.any aa rfl ?_ | (with_reducible first | refine Go.mk ?_ | apply ak.of)); conv => whnf) | with_reducible exact rfl | ((with_reducible refine Ov.ok zO ?_); conv => whnf) | (with_reducible refine Ov.sh1 (by with_unfolding_all exact rfl) ?_) | ((first | with_reducible refine Ov.quo (by omega) (by omega) (by omega) (fun _ _ => ?_) | refine zV ?_ | with_reducible refine And.intro zC ?_); conv => whnf) | ((with_reducible refine And.intro ?hb ?_); (case hb => exact zz0); (conv => whnf)) | ((refine ae.a rfl rfl rfl rfl rfl rfl ?hb ?_); (case hb => exact zB); (conv => whnf)) | ((refine ae.b rfl rfl rfl rfl rfl rfl rfl rfl ?hb ?ho ?_); (case hb => exact zB); (case ho => omega); (conv => whnf)) | ((refine ae.c rfl rfl rfl rfl rfl ?hb ?_); (case hb => exact zB); (conv => whnf)) | ((refine ae.d rfl rfl rfl rfl rfl rfl ?hb ?ho ?_); (case hb => exact zB); (case ho => omega); (conv => whnf)) | (with_reducible refine Or.inl ?_) | ((with_reducible refine IxA.ptr ?_); conv => whnf) | ((with_reducible refine nil_no (by omega) ?_); (conv => whnf)) | ((with_reducible refine af ?_ (fun hn0 => ?_)) <;> (conv => whnf)) | ((with_reducible first | refine ab.pure (ej (xs.getD _ default) t (hx _) ht) rfl rfl ?_ | refine ag.pure (ej (xs.getD _ default) t (hx _) ht) rfl rfl ?_); conv => whnf) | ((refine am (fun hc => ?_) (fun hc => ?_)) <;> (try simp only [wz9] at hc) <;> (try (exfalso; omega)) <;> (conv => whnf))))
  ·rw [show 0 + (((i : Int) + j) / 2).toNat = (i + j) / 2 by omega] at hc
   have hh : decide (i9 (xs.getD ((i + j) / 2) default) t < 0) = true := by simpa using hc
   refine ⟨((i + j) / 2 + 1, j, q - 1), ⟨by dsimp only; omega, h2, by dsimp only; omega, ?_⟩, by dsimp only; omega, ?_⟩
   ·rw [← h4]
    obtain ⟨q, rfl⟩ : ∃ r, q = r + 1 := ⟨q - 1, by omega⟩
    rw [bsF, if_pos (by omega), if_pos hh]; rfl
   ·(refine Le.by [0,1] rfl rfl rfl rfl ?_ ?_ <;> (conv => whnf) <;> (repeat' (first | exact trivial | exact ac.rfl rfl | exact ac.ptr rfl | exact ac.sl rfl | ((with_reducible refine ac.fn ?_); (conv => whnf)) | ((refine ac.iref ?_); (conv => whnf)) | exact ⟨rfl, rfl, rfl⟩ | exact fun i hi => rfl | ((with_reducible refine And.intro ?_ ?_) <;> (conv => whnf)))))
  ·rw [show 0 + (((i : Int) + j) / 2).toNat = (i + j) / 2 by omega] at hc
   have hh : ¬ decide (i9 (xs.getD ((i + j) / 2) default) t < 0) = true := by simpa using hc
   refine ⟨(i, (i + j) / 2, q - 1), ⟨by dsimp only; omega, by dsimp only; omega, by dsimp only; omega, ?_⟩, by dsimp only; omega, ?_⟩
   ·rw [← h4]
    obtain ⟨q, rfl⟩ : ∃ r, q = r + 1 := ⟨q - 1, by omega⟩
    rw [bsF, if_pos (by omega), if_neg hh]; rfl
   ·(refine Le.by [0,1] rfl rfl rfl rfl ?_ ?_ <;> (conv => whnf) <;> (repeat' (first | exact trivial | exact ac.rfl rfl | exact ac.ptr rfl | exact ac.sl rfl | ((with_reducible refine ac.fn ?_); (conv => whnf)) | ((refine ac.iref ?_); (conv => whnf)) | exact ⟨rfl, rfl, rfl⟩ | exact fun i hi => rfl | ((with_reducible refine And.intro ?_ ?_) <;> (conv => whnf)))))
  all_goals rw [ko (by omega)] at h4
  all_goals subst h4
  all_goals refine ah.of [0] rfl (fun i hi => by have : i = 0 := (by omega); subst this; rfl) rfl ?_ ⟨⟨⟨rfl, rfl, rfl⟩, fun i hi => rfl⟩, trivial⟩
  all_goals (conv => whnf)
  ·rw [show 0 + ((aM xs t : Nat) : Int).toNat = aM xs t by omega]
   exact .of_eq (by rw [show bS xs t = (i9 (xs.getD (aM xs t) default) t == 0) by
    unfold bS; rw [decide_eq_true (by omega), Bool.true_and]; rfl])
  ·exact .of_eq (by rw [show bS xs t = false by unfold bS; rw [decide_eq_false (by omega), Bool.false_and]])
def aw (pol : Int) (key : List Int) : Cel := ⟨pol, key, 0, []⟩
def bz (xs : List Cel) (pol : Int) (key : List Int) : Cel := if bS xs (aw pol key) = true then xs.getD (aM xs (aw pol key)) default else aw pol key
theorem c8 (xs : List Cel) (t : Cel) : bS xs t = true ↔ aM xs t < xs.length ∧ i9 (xs.getD (aM xs t) default) t = 0 := by simp [bS]
theorem hasC_f (xs : List Cel) (t : Cel) : bS xs t = false ↔ ¬ (aM xs t < xs.length ∧ i9 (xs.getD (aM xs t) default) t = 0) := by rw [← c8]; simp
theorem nN (xs : List Cel) (pol : Int) (key : List Int) (hlen : xs.length ≤ 4611686018427387903) (hx : ∀ k, IsB (xs.getD k default).key) (ht : IsB key) :
  Fun TC 22 1 [.sl 0 4 0 xs.length, .i .i64 pol, .d (aj 1 (ao .u8) key)] [(0, some (ap 56 4 Cel.D xs))] 1
   (.tup [.i .i64 (aM xs (aw pol key)), .b (bS xs (aw pol key)), (bz xs pol key).S]) [(0, some (ap 56 4 Cel.D xs))] := by
 refine Fun.mk' Tryz.func22 rfl rfl zN (by decide) ?_
 (repeat' (first | ((first | refine Wp.any aa rfl ?_ | (with_reducible first | refine Go.mk ?_ | apply ak.of)); conv => whnf) | with_reducible exact rfl | ((with_reducible refine Ov.ok zO ?_); conv => whnf) | (with_reducible refine Ov.sh1 (by with_unfolding_all exact rfl) ?_) | ((first | with_reducible refine Ov.quo (by omega) (by omega) (by omega) (fun _ _ => ?_) | refine zV ?_ | with_reducible refine And.intro zC ?_); conv => whnf) | ((with_reducible refine And.intro ?hb ?_); (case hb => exact zz0); (conv => whnf)) | ((refine ae.a rfl rfl rfl rfl rfl rfl ?hb ?_); (case hb => exact zB); (conv => whnf)) | ((refine ae.b rfl rfl rfl rfl rfl rfl rfl rfl ?hb ?ho ?_); (case hb => exact zB); (case ho => omega); (conv => whnf)) | ((refine ae.c rfl rfl rfl rfl rfl ?hb ?_); (case hb => exact zB); (conv => whnf)) | ((refine ae.d rfl rfl rfl rfl rfl rfl ?hb ?ho ?_); (case hb => exact zB); (case ho => omega); (conv => whnf)) | (with_reducible refine Or.inl ?_) | ((with_reducible refine IxA.ptr ?_); conv => whnf) | ((with_reducible refine nil_no (by omega) ?_); (conv => whnf)) | ((with_reducible refine af ?_ (fun hn0 => ?_)) <;> (conv => whnf)) | ((refine ab.fn (bX xs (aw pol key) hlen hx ht) [0] rfl rfl rfl rfl rfl ?ha ?hh ?_); (case ha => exact zz2); (case hh => exact zH); (conv => whnf)) | ((refine ag.fn (bX xs (aw pol key) hlen hx ht) [0] [0] rfl rfl rfl rfl rfl ?ha ?hh ?hs ?_); (case ha => exact zz2); (case hh => exact zH); (case hs => exact zK); (conv => whnf)) | ((refine ag.new (bX xs (aw pol key) hlen hx ht) [0] [0] rfl rfl rfl rfl rfl rfl ?ha ?hh ?hs ?_); (case ha => exact zz2); (case hh => exact zH); (case hs => exact zK); (conv => whnf)) | ((refine ag.fn (bX xs (aw pol key) hlen hx ht) [0] [] rfl rfl rfl rfl rfl ?ha ?hh ?hs ?_); (case ha => exact zz2); (case hh => exact zH); (case hs => exact zK); (conv => whnf)) | ((refine ag.new (bX xs (aw pol key) hlen hx ht) [0] [] rfl rfl rfl rfl rfl rfl ?ha ?hh ?hs ?_); (case ha => exact zz2); (case hh => exact zH); (case hs => exact zK); (conv => whnf)) | ((refine am (fun hc => ?_) (fun hc => ?_)) <;> (try simp only [wz9, c8, hasC_f] at hc) <;> (try (exfalso; omega)) <;> (conv => whnf))))
 all_goals refine ah.of [0] rfl (fun i hi => by have : i = 0 := (by omega); subst this; rfl) rfl ?_ ⟨⟨⟨rfl, rfl, rfl⟩, fun i hi => rfl⟩, trivial⟩
 all_goals (conv => whnf)
 ·rw [show 0 + ((aM xs (aw pol key) : Nat) : Int).toNat = aM xs (aw pol key) by omega, show bz xs pol key = xs.getD (aM xs (aw pol key)) default by rw [bz, if_pos ((c8 ..).2 hc)]]
  exact .rfl _
 ·rw [show bz xs pol key = aw pol key by rw [bz, if_neg (by rw [c8]; exact hc)]]
  exact .tup (.cons (.rfl _) (.cons (.rfl _) (.cons (.agg (.cons (.rfl _) (.cons (.rfl _) (.cons (.rfl _) (.cons .nil .nil))))) .nil)))
@[reducible] def iZ (ps : List Pol) (room : Int) (xs : List Cel) : List (Nat × Option Blk) :=
 [(0, some (.cells [.d (aj 4 Pol.D ps), .i .i64 room, .sl 1 4 0 xs.length])), (1, some (ap 56 4 Cel.D xs))]
theorem dL (ps : List Pol) (room : Int) (xs : List Cel) : Fun TC 13 2 [.ptr 0 0] (iZ ps room xs) 2 (.i .i64 xs.length) (iZ ps room xs) := by
 refine Fun.mk' Tryz.func13 rfl rfl zN (by decide) ?_
 (repeat' (first | ((first | refine Wp.any aa rfl ?_ | (with_reducible first | refine Go.mk ?_ | apply ak.of)); conv => whnf) | with_reducible exact rfl | ((with_reducible refine Ov.ok zO ?_); conv => whnf) | (with_reducible refine Ov.sh1 (by with_unfolding_all exact rfl) ?_) | ((first | with_reducible refine Ov.quo (by omega) (by omega) (by omega) (fun _ _ => ?_) | refine zV ?_ | with_reducible refine And.intro zC ?_); conv => whnf) | ((with_reducible refine And.intro ?hb ?_); (case hb => exact zz0); (conv => whnf)) | ((refine ae.a rfl rfl rfl rfl rfl rfl ?hb ?_); (case hb => exact zB); (conv => whnf)) | ((refine ae.b rfl rfl rfl rfl rfl rfl rfl rfl ?hb ?ho ?_); (case hb => exact zB); (case ho => omega); (conv => whnf)) | ((refine ae.c rfl rfl rfl rfl rfl ?hb ?_); (case hb => exact zB); (conv => whnf)) | ((refine ae.d rfl rfl rfl rfl rfl rfl ?hb ?ho ?_); (case hb => exact zB); (case ho => omega); (conv => whnf)) | (with_reducible refine Or.inl ?_) | ((with_reducible refine IxA.ptr ?_); conv => whnf) | ((with_reducible refine nil_no (by omega) ?_); (conv => whnf)) | ((with_reducible refine af ?_ (fun hn0 => ?_)) <;> (conv => whnf)) | ((refine am (fun hc => ?_) (fun hc => ?_)) <;> (try simp only [wz9] at hc) <;> (try (exfalso; omega)) <;> (conv => whnf))))
 refine ah.of [0, 1] rfl (fun i hi => by have : i = 0 ∨ i = 1 := (by omega); rcases this with h | h <;> subst h <;> rfl) rfl ?_ ?_
 ·exact .i rfl
 ·((conv => whnf); repeat' (first | exact trivial | exact SV.Le.rfl _ | exact ⟨rfl, rfl, rfl⟩ | exact fun i hi => rfl | ((with_reducible refine And.intro ?_ ?_) <;> (conv => whnf))))
theorem eG : Pure TC 13 [.d (.val (.pointer none))] (.i .i64 0) := by
 refine Pure.mk' Tryz.func13 rfl rfl zN ?_
 (repeat' (first | ((first | refine Wp.any aa rfl ?_ | (with_reducible first | refine Go.mk ?_ | apply ak.of)); conv => whnf) | with_reducible exact rfl | ((with_reducible refine Ov.ok zO ?_); conv => whnf) | (with_reducible refine Ov.sh1 (by with_unfolding_all exact rfl) ?_) | ((first | with_reducible refine Ov.quo (by omega) (by omega) (by omega) (fun _ _ => ?_) | refine zV ?_ | with_reducible refine And.intro zC ?_); conv => whnf) | ((with_reducible refine And.intro ?hb ?_); (case hb => exact zz0); (conv => whnf)) | ((refine ae.a rfl rfl rfl rfl rfl rfl ?hb ?_); (case hb => exact zB); (conv => whnf)) | ((refine ae.b rfl rfl rfl rfl rfl rfl rfl rfl ?hb ?ho ?_); (case hb => exact zB); (case ho => omega); (conv => whnf)) | ((refine ae.c rfl rfl rfl rfl rfl ?hb ?_); (case hb => exact zB); (conv => whnf)) | ((refine ae.d rfl rfl rfl rfl rfl rfl ?hb ?ho ?_); (case hb => exact zB); (case ho => omega); (conv => whnf)) | (with_reducible refine Or.inl ?_) | ((with_reducible refine IxA.ptr ?_); conv => whnf) | ((with_reducible refine nil_no (by omega) ?_); (conv => whnf)) | ((with_reducible refine af ?_ (fun hn0 => ?_)) <;> (conv => whnf)) | ((refine am (fun hc => ?_) (fun hc => ?_)) <;> (try simp only [wz9] at hc) <;> (try (exfalso; omega)) <;> (conv => whnf))))
 exact .i rfl
def aR (ps : List Pol) (op pol : Int) (key : List Int) (n now serial : Int) : Int :=
 if aD now = false ∨ (op = 2 ∧ (serial < 1 ∨ 4611686018427387903 < serial)) then 1 else cB ps op pol key n
theorem gR (ps : List Pol) (room : Int) (xs : List Cel) (op pol : Int) (key : List Int) (n now serial : Int) : Fun TC 18 2 [.ptr 0 0, .agg [.i .u8 op, .i .i64 pol, .d (aj 1 (ao .u8) key), .i .i64 n], .i .i64 now, .i .i64 serial] (iZ ps room xs) 2 (.i .i64 (aR ps op pol key n now serial)) (iZ ps room xs) := by
 refine Fun.mk' Tryz.func18 rfl rfl zN (by decide) ?_
 (repeat' (first | ((first | refine Wp.any aa rfl ?_ | (with_reducible first | refine Go.mk ?_ | apply ak.of)); conv => whnf) | with_reducible exact rfl | ((with_reducible refine Ov.ok zO ?_); conv => whnf) | (with_reducible refine Ov.sh1 (by with_unfolding_all exact rfl) ?_) | ((first | with_reducible refine Ov.quo (by omega) (by omega) (by omega) (fun _ _ => ?_) | refine zV ?_ | with_reducible refine And.intro zC ?_); conv => whnf) | ((with_reducible refine And.intro ?hb ?_); (case hb => exact zz0); (conv => whnf)) | ((refine ae.a rfl rfl rfl rfl rfl rfl ?hb ?_); (case hb => exact zB); (conv => whnf)) | ((refine ae.b rfl rfl rfl rfl rfl rfl rfl rfl ?hb ?ho ?_); (case hb => exact zB); (case ho => omega); (conv => whnf)) | ((refine ae.c rfl rfl rfl rfl rfl ?hb ?_); (case hb => exact zB); (conv => whnf)) | ((refine ae.d rfl rfl rfl rfl rfl rfl ?hb ?ho ?_); (case hb => exact zB); (case ho => omega); (conv => whnf)) | (with_reducible refine Or.inl ?_) | ((with_reducible refine IxA.ptr ?_); conv => whnf) | ((with_reducible refine nil_no (by omega) ?_); (conv => whnf)) | ((with_reducible refine af ?_ (fun hn0 => ?_)) <;> (conv => whnf)) | ((with_reducible first | refine ab.pure (aJ _) rfl rfl ?_ | refine ag.pure (aJ _) rfl rfl ?_ | refine ab.pure (ek _ _ _ _ _) rfl rfl ?_ | refine ag.pure (ek _ _ _ _ _) rfl rfl ?_); conv => whnf) | ((refine am (fun hc => ?_) (fun hc => ?_)) <;> (try simp only [wz9] at hc) <;> (try (exfalso; omega)) <;> (conv => whnf))))
 all_goals refine ah.of [0, 1] rfl (fun i hi => by have : i = 0 ∨ i = 1 := (by omega); rcases this with h | h <;> subst h <;> rfl) rfl ?_ ?_
 all_goals first | ((conv => whnf); repeat' (first | exact trivial | exact SV.Le.rfl _ | exact ⟨rfl, rfl, rfl⟩ | exact fun i hi => rfl | ((with_reducible refine And.intro ?_ ?_) <;> (conv => whnf)))) | skip
 all_goals (conv => whnf)
 all_goals exact .i (by
  unfold aR
  repeat' split
  all_goals first | rfl | omega | (exfalso; simp_all; try omega) | simp_all)
theorem lO : (Tryz.prog.info? 2).map (fun i => (i.zero, i.size, i.bytes)) = some (some (.int .i64 0), 1, 8) := by kernel_rfl
theorem ql (w : World) : (sizeOf 2).run Tryz.prog w = .ok 1 w := by kernel_rfl
theorem md (B : Nat) (v : Value) (n i vb cv : Nat) (vcur : Array Value) (xs vs : List Value) (w : World) (hin : i ≤ n) (hown : w.ownsRow B 2 1 v n xs) (hB : B ≤ w.heap.size) (hn : n ≤ 16777216)
  (hvl : vs.length = 1) (hvb : w.heap[vb]? = some (.cells vcur 2 (0, 0))) (hvc : ∀ (j : Nat) (u : Value), vs[j]? = some u → vcur[j]? = some u) (hne : v.ownBlock ≠ some vb) (hv1 : ∀ u ∈ vs, u.oneCell' = true) (hx1 : ∀ u ∈ xs, u.oneCell' = true) :
  Calls Tryz.prog 78 #[v, .int .i64 i, .slice (some ⟨vb, 0, none⟩) 1 cv] w fun e w' =>
   ∃ v', e = .returned v' ∧ w'.ownsRow B 2 1 v' (n + 1) (xs.take (i * 1) ++ vs ++ xs.drop (i * 1)) ∧ w.grownBy w' v.ownBlock ∧ ∀ k, v'.ownBlock = some k → v.ownBlock = some k ∨ w.heap.size ≤ k := by
 have hv2 := hown.2
 obtain ⟨i0, hi0, hz0, hz1, hz2⟩ := info_parts lO
 have hxl := hown.1
 have hvcell : ∀ j u, vs[j]? = some u → w.cell? ⟨vb, j, none⟩ = some u := fun j u hj => by simp [World.cell?, hvb]; exact hvc j u hj
 have hvlt : vb < w.heap.size := (Q17 hvb).1
 have append_end : ∀ (W : World), W = w → n = i → Calls Tryz.prog 78 #[v, .int .i64 i, .slice (some ⟨vb, 0, none⟩) 1 cv] w fun e w' =>
   ∃ v', e = .returned v' ∧ w'.ownsRow B 2 1 v' (n + 1) (xs ++ vs) ∧ w.grownBy w' v.ownBlock ∧ ∀ k, v'.ownBlock = some k → v.ownBlock = some k ∨ w.heap.size ≤ k := by
  intro W _ hni
  subst hni
  have Hown := Lib.hid hown
  have hva : ∀ j u, vs[j]? = some u → w.cell? ((⟨vb, 0, none⟩ : Addr).add j) = some u := fun j u hj => by
   have := hvcell j u hj
   unfold Addr.add; split
   ·rename_i h; subst h; exact this
   ·simpa using this
  have Hva := Lib.hid hva; have Hl := Lib.hid hvl; have Hne := Lib.hid hne
  clear hva hvcell hvb hvc hvl hne hxl
  rcases hv2 with ⟨rfl, rfl⟩ | ⟨g, cap, cur, rfl, hBg, hg, hnc, hcm, hcs, htk⟩
  ·clear hown
   go_enter Tryz.func78, Tryz.ntmps78
   go_wp2_with (first | (at_builtin; refine aS _ rfl _ _ 54 rfl B 2 i0 (.int .i64 0) 1 8 Tryz.underlying54 hi0 hz0 hz1 hz2 rfl (by decide) _ _ _ rfl Hown.out ⟨vb, 0, none⟩ 1 _ vs rfl (by rw [Hl.out]) Hva.out hv1 (by unfold maxLen; omega) (by omega) hB ?_; intro v' w1 hown1 hg1 hloc1))
   go_ret
   exact ⟨_, rfl, hown1, hg1, hloc1⟩
  ·unfold maxLen at hcm
   have Hg := Lib.hid hg; clear hg
   have Hcs := Lib.hid hcs; have Htk := Lib.hid htk; clear hcs htk hown
   go_enter Tryz.func78, Tryz.ntmps78
   go_wp2_with (first | (at_builtin; refine aS _ rfl _ _ 54 rfl B 2 i0 (.int .i64 0) 1 8 Tryz.underlying54 hi0 hz0 hz1 hz2 rfl (by decide) _ _ _ rfl Hown.out ⟨vb, 0, none⟩ 1 _ vs rfl (by rw [Hl.out]) Hva.out hv1 (by unfold maxLen; omega) (by omega) hB ?_; intro v' w1 hown1 hg1 hloc1))
   all_goals (go_ret; exact ⟨_, rfl, hown1, hg1, hloc1⟩)
 by_cases hi : n = i
 ·have h := append_end w rfl hi
  rw [Q21 (by rw [hxl, hi]; exact Q4 _), List.drop_of_length_le (by rw [hxl, hi]; exact Q4 _), List.append_nil]
  exact h
 ·clear append_end
  have hlt : i < n := by omega
  rcases hv2 with ⟨rfl, rfl⟩ | ⟨g, cap, cur, rfl, hBg, hg, hnc, hcm, hcs, htk⟩
  ·omega
  ·unfold maxLen at hcm
   have hd0 : ((i : Int) == n) = false := by simp; omega
   have hcu : ∀ j, j < cap * 1 → ∃ u, cur[j]? = some u := fun j hj => ⟨cur[j]'(by omega), by rw [Array.getElem?_eq_getElem (by omega)]⟩
   by_cases hroom : n + 1 ≤ cap
   ·have hov : ∀ lb cb, (callFunc 90 #[.slice (some ⟨vb, 0, none⟩) 1 cv, .slice (some ⟨g, i + 1, none⟩) lb cb]).run Tryz.prog w = .ok (.value (.bool false)) w := fun lb cb => by
     rw [run_callFunc_extern Tryz.func90 (by kernel_rfl) (by kernel_rfl) (by kernel_rfl) (e := Extern.SlicesOverlaps.overlaps #[54, 54] #[4]) (by kernel_rfl),
      Lib.run_overlaps_apart w 54 4 2 Tryz.underlying54 1 ql ⟨vb, 0, none⟩ ⟨g, i + 1, none⟩ 1 cv lb cb (by intro h; apply hne; simp only at h; rw [h]; rfl) 2 2 vcur.size cur.size
       (by simp [World.shape?, hvb]) (by simp [World.shape?, hg]) (by omega) (by simp [World.frozen?, hvb]) (by simp [World.frozen?, hvb])]
     rfl
    go_enter Tryz.func78, Tryz.ntmps78
    go_wp2_with (simp only [hov])
    have hsrc1 : ∀ j u, (xs.drop (i * 1))[j]? = some u → w.drew.cell? ((⟨g, i, none⟩ : Addr).add j) = some u := fun j u hj => by
     show w.cell? _ = _
     rw [Addr.add_lit, show w.cell? ⟨g, i + j, none⟩ = cur[i + j]? from by simp [World.cell?, hg], ← Array.getElem?_toList]
     rw [List.getElem?_drop, ← htk, Q15] at hj
     split at hj
     ·simpa using hj
     ·cases hj
    have hw1 : IntKind.i64.wrap ((i : Int) + 1) = (i : Int) + 1 := IntWalk.i64_in _ (by omega)
    have hb1 : (0 : Int) ≤ (i : Int) + 1 := by omega
    have htn : ((i : Int) + 1).toNat = i + 1 := by omega
    have hb2 : ¬ (cap = i + 1) := by omega
    have hb3 : (i : Int) ≤ (n : Int) + 1 := by omega
    have hb4 : ¬ (cap = i) := by omega
    have hmul : i * 1 + 1 ≤ n * 1 := by omega
    have hdl : (xs.drop (i * 1)).length = (n - i) * 1 := by rw [List.length_drop, hxl]; omega
    have L := lp cur.toList xs vs (i * 1) (n * 1) 1 (cap * 1) (by simpa using hcs) htk hvl (by omega) (by omega)
    obtain ⟨C1, hC1⟩ : ∃ C1 : Array Value, C1 = (cur.toList.take (i + 1) ++ xs.drop (i * 1) ++ cur.toList.drop (i + 1 + (xs.drop (i * 1)).length)).toArray := ⟨_, rfl⟩
    obtain ⟨C2, hC2⟩ : ∃ C2 : Array Value, C2 = (C1.toList.take (i * 1) ++ vs ++ C1.toList.drop (i * 1 + vs.length)).toArray := ⟨_, rfl⟩
    have hC1s : C1.size = cap * 1 := by rw [hC1]; simp; omega
    have HC1 := Lib.hid hC1; have HC2 := Lib.hid hC2
    have hcp2 : ∀ ty dc, (Builtin.copy_ #[54, 54] ty #[.slice (some ⟨g, i, none⟩) (n + 1 - i) dc, .slice (some ⟨vb, 0, none⟩) 1 cv]).run Tryz.prog (w.drew.setRow g C1) = .ok (goInt ((1 : Nat) : Int)) ((w.drew.setRow g C1).setRow g C2) := by
     intro ty dc
     have hm : Nat.min 1 (n + 1 - i) = 1 := by simp only [Nat.min_def]; split <;> omega
     have hgn : vb ≠ g := by intro h; apply hne; rw [h]; rfl
     have := bj (P := Tryz.prog) (w.drew.setRow g C1) 54 54 ty 2 i0 g (i) (n + 1 - i) dc ⟨vb, 0, none⟩ 1 cv C1 2 vs Tryz.underlying54 hi0 (setRow_heap _ g _ _ _ _ hg) (by rw [hvl, hm, hz1])
      (fun j u hj => by rw [Addr.add_lit, cell_setRow_other _ _ _ _ hgn]; simpa using hvcell j u hj) (by rw [hvl, hC1s]; omega) hv1
     rw [hm] at this
     rw [this, hC2]; try simp only [Nat.mul_one]
    have Hcp2 := Lib.hid hcp2; clear hcp2
    have hcp1 : ∀ ty dc sc, (Builtin.copy_ #[54, 54] ty #[.slice (some ⟨g, i + 1, none⟩) (n - i) dc, .slice (some ⟨g, i, none⟩) (n + 1 - i) sc]).run Tryz.prog w.drew = .ok (goInt ((n - i : Nat) : Int)) (w.drew.setRow g C1) := by
     intro ty dc sc
     have hm : Nat.min (n + 1 - i) (n - i) = n - i := by simp only [Nat.min_def]; split <;> omega
     have := bj (P := Tryz.prog) w.drew 54 54 ty 2 i0 g (i + 1) (n - i) dc ⟨g, i, none⟩ (n + 1 - i) sc cur 2 (xs.drop (i * 1)) Tryz.underlying54 hi0 hg (by rw [hdl, hm, hz1]) hsrc1 (by rw [hdl]; omega) (fun u hu => hx1 u (List.mem_of_mem_drop hu))
     rw [hm] at this; rw [this, hC1]
    have Hcp1 := Lib.hid hcp1; clear hcp1 hC1 hC2
    go_region_law (refine bu rfl _ _ 54 54 rfl _ _ (by simp [Act.eval, Act.put]) (by simp [Act.eval, Act.put]) (Hcp1.out _ (cap - (i + 1)) (cap - i)) ?_)
    go_wp2_with (refine aX _ rfl _ _ 54 54 rfl _ _ rfl rfl (Hcp2.out _ (cap - i)) ?_)
    go_ret
    have e1 : i + 1 = i * 1 + 1 := by omega
    have h1 := HC1.out; have h2 := HC2.out
    rw [e1] at h1
    rw [h1] at h2
    simp only [List.toList_toArray] at h2
    obtain ⟨L1, L2⟩ := L
    refine ⟨_, rfl, ⟨?_, Or.inr ⟨g, cap, C2, rfl, hBg, setRow_heap _ g _ _ _ _ (setRow_heap _ g _ _ _ _ hg), hroom, by unfold maxLen; omega, ?_, ?_⟩⟩, ?_⟩
    ·simp only [Q9, Q10, List.length_drop, hxl, hvl]; omega
    ·rw [h2]; simpa using L1
    ·rw [h2, show (n + 1) * 1 = n * 1 + 1 from by omega]; simpa using L2
    ·exact ⟨aq (aq bg (aP _) (fun x hx => by cases hx; exact Or.inl rfl)) (aP _) (fun x hx => by cases hx; exact Or.inl rfl), fun k hk => Or.inl hk⟩
   ·have hcap : cap = n := by omega
    have hk1 : 0 < n + 1 - i := by omega
    have holds : (Builtin.firstCells i0.size i (.slice (some ⟨g, 0, none⟩) i cap)).run Tryz.prog w.drew = .ok (xs.take (i * 1)).toArray w.drew := by
     have := run_firstCells_some (P := Tryz.prog) w.drew i0.size i ⟨g, 0, none⟩ i cap (xs.take (i * 1)) (by rw [Q10, hz1]; omega) (fun j u hj => by
      show w.cell? _ = _
      rw [Addr.add_lit, show w.cell? ⟨g, 0 + j, none⟩ = cur[0 + j]? from by simp [World.cell?, hg], ← Array.getElem?_toList]
      rw [← htk, Q15, Q15] at hj
      split at hj
      ·split at hj
       ·simpa using hj
       ·cases hj
      ·cases hj)
     exact this
    obtain ⟨gc, hgc⟩ : ∃ gc, gc = grownCap w (i + (n + 1 - i)) cap 2 := ⟨_, rfl⟩
    have hgc1 : n + 1 ≤ gc := by have := grownCap_ge w (i + (n + 1 - i)) cap 2; omega
    have hgc2 : gc ≤ 9223372036854775807 := by have := grownCap_le_maxLen w (i + (n + 1 - i)) cap 2 (by unfold maxLen; omega); unfold maxLen at this; omega
    obtain ⟨Zs, hZs⟩ : ∃ Zs : List Value, Zs = (Builtin.zeroCells (.int .i64 0 : Value).cells (n + 1 - i)).toList ++ (Builtin.zeroCells (.int .i64 0 : Value).cells (gc - (n + 1))).toList := ⟨_, rfl⟩
    have hzc : (.int .i64 0 : Value).cells.size = 1 := rfl
    have hZl : Zs.length = (gc - i) * 1 := by rw [hZs]; simp only [Q9, Array.length_toList, size_zeroCells, hzc]; omega
    obtain ⟨W1, hW1⟩ : ∃ W1, W1 = w.drew.alloc (.cells (xs.take (i * 1) ++ Zs).toArray 2) := ⟨_, rfl⟩
    have happ : ∀ ty, (Builtin.append_ #[54, 3] ty #[.slice (some ⟨g, 0, none⟩) i cap, .int .i64 ((n : Int) + 1 - (i : Int))]).run Tryz.prog w = .ok (.slice (some ⟨w.heap.size, 0, none⟩) (n + 1) gc) W1 := by
     intro ty
     have := Lib.run_append_grow_zeros (P := Tryz.prog) w 54 3 ty 2 i0 (.int .i64 0) .i64 .i64 Tryz.underlying54 Tryz.underlying3 hi0 hz0 (some ⟨g, 0, none⟩) i cap (xs.take (i * 1)) holds (n + 1 - i) hk1 (by rw [hz1]; decide) (by omega) (by omega) (by rw [hz2]; omega) (growslice_fits (by omega) (by rw [hz2]; omega))
     rw [show ((n : Int) + 1 - (i : Int)) = ((n + 1 - i : Nat) : Int) from by omega, this, hW1, ← hgc, hZs, show i + (n + 1 - i) = n + 1 from by omega]
     congr 3
     apply Array.ext'
     simp [List.append_assoc]
    have hW1a : W1.heap[w.heap.size]? = some (.cells (xs.take (i * 1) ++ Zs).toArray 2 (0, 0)) := by rw [hW1]; exact ay w.drew _
    have hW1b : ∀ k, k < w.heap.size → W1.heap[k]? = w.heap[k]? := fun k hk => by rw [hW1]; exact heap_alloc_old w.drew _ hk
    have hW1g : w.grownBy W1 none := by rw [hW1]; exact aq bg (World.grownBy_alloc _ _ none) (fun x hx => by cases hx)
    have hglt : g < w.heap.size := (Q17 hg).1
    obtain ⟨A1, hA1⟩ : ∃ A1 : Array Value, A1 = ((xs.take (i * 1) ++ Zs).take (i) ++ vs ++ (xs.take (i * 1) ++ Zs).drop (i + vs.length)).toArray := ⟨_, rfl⟩
    obtain ⟨W2, hW2⟩ : ∃ W2, W2 = W1.setRow w.heap.size A1 := ⟨_, rfl⟩
    have hcpA : ∀ ty dc, (Builtin.copy_ #[54, 54] ty #[.slice (some ⟨w.heap.size, i, none⟩) (n + 1 - i) dc, .slice (some ⟨vb, 0, none⟩) 1 cv]).run Tryz.prog W1 = .ok (goInt ((1 : Nat) : Int)) W2 := by
     intro ty dc
     have hm : Nat.min 1 (n + 1 - i) = 1 := by simp only [Nat.min_def]; split <;> omega
     have := bj (P := Tryz.prog) W1 54 54 ty 2 i0 w.heap.size (i) (n + 1 - i) dc ⟨vb, 0, none⟩ 1 cv _ 2 vs Tryz.underlying54 hi0 hW1a (by rw [hvl, hm, hz1])
      (fun j u hj => by rw [Addr.add_lit, World.cell?_of_block (hW1b vb hvlt)]; simpa using hvcell j u hj) (by rw [hvl]; simp only [List.size_toArray, Q9, Q10, hZl, hxl]; omega) hv1
     rw [hm] at this
     rw [this, hW2, hA1]
    have hA1s : A1.size = gc * 1 := by rw [hA1]; simp only [List.size_toArray, Q9, Q10, List.length_drop, hZl, hxl, hvl]; omega
    have hW2a : W2.heap[w.heap.size]? = some (.cells A1 2 (0, 0)) := by rw [hW2]; exact setRow_heap _ _ _ _ _ _ hW1a
    have hW2b : ∀ k, k < w.heap.size → W2.heap[k]? = w.heap[k]? := fun k hk => by rw [hW2, setRow_other _ _ _ _ (by omega)]; exact hW1b k hk
    have hdl : (xs.drop (i * 1)).length = (n - i) * 1 := by rw [List.length_drop, hxl]; omega
    obtain ⟨A2, hA2⟩ : ∃ A2 : Array Value, A2 = (A1.toList.take (i + 1) ++ xs.drop (i * 1) ++ A1.toList.drop (i + 1 + (xs.drop (i * 1)).length)).toArray := ⟨_, rfl⟩
    obtain ⟨W3, hW3⟩ : ∃ W3, W3 = W2.drew.setRow w.heap.size A2 := ⟨_, rfl⟩
    have hcpB : ∀ ty dc sc, (Builtin.copy_ #[54, 54] ty #[.slice (some ⟨w.heap.size, i + 1, none⟩) (n - i) dc, .slice (some ⟨g, i, none⟩) (n - i) sc]).run Tryz.prog W2.drew = .ok (goInt ((n - i : Nat) : Int)) W3 := by
     intro ty dc sc
     have hm : Nat.min (n - i) (n - i) = n - i := Nat.min_self _
     have := bj (P := Tryz.prog) W2.drew 54 54 ty 2 i0 w.heap.size (i + 1) (n - i) dc ⟨g, i, none⟩ (n - i) sc A1 2 (xs.drop (i * 1)) Tryz.underlying54 hi0 hW2a (by rw [hdl, hm, hz1])
      (fun j u hj => by
       show W2.cell? _ = _
       rw [Addr.add_lit, World.cell?_of_block (hW2b g hglt), show w.cell? ⟨g, i + j, none⟩ = cur[i + j]? from by simp [World.cell?, hg], ← Array.getElem?_toList]
       rw [List.getElem?_drop, ← htk, Q15] at hj
       split at hj
       ·simpa using hj
       ·cases hj) (by rw [hdl, hA1s]; omega) (fun u hu => hx1 u (List.mem_of_mem_drop hu))
     rw [hm] at this
     rw [this, hW3, hA2]
    have L := m5 xs vs Zs (i * 1) (n * 1) 1 (by rw [hxl]) hvl (by omega) (by rw [hZl]; omega)
    have hW3a : W3.heap[w.heap.size]? = some (.cells A2 2 (0, 0)) := by rw [hW3]; exact setRow_heap _ _ _ _ _ _ hW2a
    have hW3g : w.grownBy W3 (some g) := by
     rw [hW3, hW2]
     exact aq (aq (aq (r := some g) (⟨hW1g.os, hW1g.tape, hW1g.output, hW1g.size, fun k hk _ => hW1b k hk⟩) (aP _) (fun x hx => by cases hx; exact Or.inr (Q4 _))) bg (s := none) (fun x hx => by cases hx)) (aP _) (fun x hx => by cases hx; exact Or.inr (Q4 _))
    have HA1 := Lib.hid hA1; have HA2 := Lib.hid hA2; have Happ := Lib.hid happ; have HcpA := Lib.hid hcpA; have HcpB := Lib.hid hcpB; have HL := Lib.hid L; have HW3a := Lib.hid hW3a; have HW3g := Lib.hid hW3g; have Hxl := Lib.hid hxl; have Hvl := Lib.hid hvl; have HZl := Lib.hid hZl
    clear hA1 hA2 happ hcpA hcpB L hW3a hW3g hW1 hW2 hW3 hZs hgc holds hW1a hW1b hW1g hA1s hW2a hW2b hdl hzc hZl hxl hvl hown htk hcs hcu hvb hvc hvcell hx1 hv1 hne hg
    have hw1 : IntKind.i64.wrap ((i : Int) + 1) = (i : Int) + 1 := IntWalk.i64_in _ (by omega)
    have hb1 : (0 : Int) ≤ (i : Int) + 1 := by omega
    have htn : ((i : Int) + 1).toNat = i + 1 := by omega
    have hb2 : ¬ (gc = i + 1) := by omega
    have hb3 : (i : Int) ≤ (n : Int) + 1 := by omega
    have hb4 : ¬ (gc = i) := by omega
    have hb5 : ¬ (cap = i) := by omega
    clear hcap
    go_enter Tryz.func78, Tryz.ntmps78
    go_wp2_with (first | (at_builtin; refine Lib.wpList_append_run _ rfl _ _ 54 3 rfl _ _ rfl rfl _ _ (Happ.out _) ?_) | (refine aX _ rfl _ _ 54 54 rfl _ _ rfl rfl (HcpA.out _ (gc - i)) ?_))
    go_region_law (refine bu rfl _ _ 54 54 rfl _ _ (by simp [Act.eval, Act.put]) (by simp [Act.eval, Act.put]) (HcpB.out _ (gc - (i + 1)) (cap - i)) ?_)
    go_wp2
    go_ret
    have e1 : i + 1 = i * 1 + 1 := by omega
    have h1 : A1 = ((xs.take (i * 1) ++ Zs).take (i * 1) ++ vs ++ (xs.take (i * 1) ++ Zs).drop (i * 1 + vs.length)).toArray := by have := HA1.out; simpa only [Nat.mul_one] using this
    have h2 := HA2.out
    rw [e1, h1] at h2
    simp only [List.toList_toArray] at h2
    obtain ⟨L1, L2⟩ := HL.out
    refine ⟨_, rfl, ⟨?_, Or.inr ⟨w.heap.size, gc, A2, rfl, hB, HW3a.out, hgc1, by unfold maxLen; omega, ?_, ?_⟩⟩, HW3g.out, fun k hk => by cases hk; exact Or.inr (Q4 _)⟩
    ·simp only [Q9, Q10, List.length_drop, Hxl.out, Hvl.out]; omega
    ·rw [h2]; simp only [List.size_toArray]; rw [L1, HZl.out]; omega
    ·rw [h2, show (n + 1) * 1 = n * 1 + 1 from by omega]; simpa using L2
theorem me (B : Nat) (v : Value) (n i : Nat) (xs : List Value) (w : World) (hin : i < n) (hown : w.ownsRow B 2 1 v n xs) (hn : n ≤ 16777216) (hx1 : ∀ u ∈ xs, u.oneCell' = true) :
  Calls Tryz.prog 79 #[v, .int .i64 i, .int .i64 ((i : Int) + 1)] w fun e w' =>
   ∃ v', e = .returned v' ∧ w'.ownsRow B 2 1 v' (n - 1) (xs.take (i * 1) ++ xs.drop (i * 1 + 1)) ∧ w.grownBy w' v.ownBlock ∧ ∃ cap, v' = .slice (v.ownBlock.map fun k => ⟨k, 0, none⟩) (n - 1) cap ∧ 0 < cap := by
 have hv2 := hown.2
 obtain ⟨i0, hi0, hz0, hz1, hz2⟩ := info_parts lO
 have hxl := hown.1
 rcases hv2 with ⟨rfl, rfl⟩ | ⟨g, cap, cur, rfl, hBg, hg, hnc, hcm, hcs, htk⟩
 ·omega
 ·unfold maxLen at hcm
  have hd0 : ((i : Int) == (i : Int) + 1) = false := by simp; omega
  obtain ⟨Zs, hZs⟩ : ∃ Zs : List Value, Zs = (Builtin.zeroCells (.int .i64 0 : Value).cells 1).toList := ⟨_, rfl⟩
  have hzc : (.int .i64 0 : Value).cells.size = 1 := rfl
  have hZl : Zs.length = 1 := by rw [hZs]; simp only [Array.length_toList, size_zeroCells, hzc]
  have hdl : (xs.drop (i * 1 + 1)).length = (n - (i + 1)) * 1 := by rw [List.length_drop, hxl]; omega
  have L := p7 cur.toList xs Zs (i * 1) (n * 1) 1 (cap * 1) (by simpa using hcs) htk hZl (by omega) (by omega)
  obtain ⟨C1, hC1⟩ : ∃ C1 : Array Value, C1 = (cur.toList.take (i * 1) ++ xs.drop (i * 1 + 1) ++ cur.toList.drop (i * 1 + (xs.drop (i * 1 + 1)).length)).toArray := ⟨_, rfl⟩
  have hC1s : C1.size = cap * 1 := by rw [hC1]; simp only [List.size_toArray, Q9, Q10, List.length_drop, Array.length_toList, hdl, hxl]; omega
  obtain ⟨W1, hW1⟩ : ∃ W1, W1 = w.drew.setRow g C1 := ⟨_, rfl⟩
  have happ : ∀ ty (a : Addr) c, (n - (i + 1) ≠ 0 → a = ⟨g, i + 1, none⟩) → (Builtin.append_ #[54, 54] ty #[.slice (some ⟨g, 0, none⟩) i cap, .slice (some a) (n - (i + 1)) c]).run Tryz.prog w.drew = .ok (.slice (some ⟨g, 0, none⟩) (n - 1) cap) W1 := by
   intro ty a c ha
   have := run_append_room (P := Tryz.prog) w.drew 54 ty 2 i0 Tryz.underlying54 hi0 g i cap cur hg a (n - (i + 1)) c (xs.drop (i * 1 + 1)) (by rw [hdl, hz1]) (fun j u hj => by
     have hjl := (Q3 hj).1
     rw [hdl] at hjl
     rw [ha (by omega)]
     show w.cell? _ = _
     rw [Addr.add_lit, show w.cell? ⟨g, i + 1 + j, none⟩ = cur[i + 1 + j]? from by simp [World.cell?, hg], ← Array.getElem?_toList]
     rw [List.getElem?_drop, ← htk, Q15] at hj
     split at hj
     ·rw [← hj]; congr 1; omega
     ·cases hj) (fun u hu => hx1 u (List.mem_of_mem_drop hu)) (by omega) (by rw [hdl, hz1, hcs]; omega)
   rw [this, hW1, hC1, hz1, show i + (n - (i + 1)) = n - 1 from by omega]
  obtain ⟨C2, hC2⟩ : ∃ C2 : Array Value, C2 = (C1.toList.take ((n - 1) * 1) ++ Zs ++ C1.toList.drop ((n - 1) * 1 + 1)).toArray := ⟨_, rfl⟩
  obtain ⟨W2, hW2⟩ : ∃ W2, W2 = W1.setRow g C2 := ⟨_, rfl⟩
  have hclr : ∀ ty c, (Builtin.clear_ #[54] ty #[.slice (some ⟨g, n - 1, none⟩) (n - (n - 1)) c]).run Tryz.prog W1 = .ok (.tuple #[]) W2 := by
   intro ty c
   have hW1g : W1.heap[g]? = some (.cells C1 2 (0, 0)) := by rw [hW1]; exact setRow_heap _ _ _ _ _ _ hg
   have := gB (P := Tryz.prog) W1 54 ty 2 i0 (.int .i64 0) g (n - 1) 1 c C1 2 Tryz.underlying54 hi0 hz0 (by rw [hz1]; rfl) (by decide) hW1g (by rw [hz1, hC1s]; omega)
   rw [show n - (n - 1) = 1 from by omega, this, hW2, hC2, hZs, hz1]; try simp only [Nat.mul_one, Nat.one_mul]
  have hgr : w.grownBy W2 (some g) := by
   rw [hW2, hW1]
   exact aq (aq bg (aP _) (fun x hx => by cases hx; exact Or.inl rfl)) (aP _) (fun x hx => by cases hx; exact Or.inl rfl)
  have hW2a : W2.heap[g]? = some (.cells C2 2 (0, 0)) := by rw [hW2]; exact setRow_heap _ _ _ _ _ _ (by rw [hW1]; exact setRow_heap _ _ _ _ _ _ hg)
  have fin : W2.ownsRow B 2 1 (.slice (some ⟨g, 0, none⟩) (n - 1) cap) (n - 1) (xs.take (i * 1) ++ xs.drop (i * 1 + 1)) := by
   rw [hC1] at hC2
   simp only [List.toList_toArray] at hC2
   rw [show (n - 1) * 1 = n * 1 - 1 from by omega] at hC2
   obtain ⟨L1, L2⟩ := L
   refine ⟨?_, Or.inr ⟨g, cap, C2, rfl, hBg, hW2a, by omega, by unfold maxLen; omega, ?_, ?_⟩⟩
   ·rw [Q9, hdl, Q10, hxl]; omega
   ·rw [hC2]; simpa using L1
   ·rw [hC2, show (n - 1) * 1 = n * 1 - 1 from by omega]; simpa using L2
  have Happ := Lib.hid happ; have Hclr := Lib.hid hclr; have Hgr := Lib.hid hgr; have Hfin := Lib.hid fin
  clear happ hclr hgr fin hW1 hW2 hC1 hC2 hW2a L hZs hZl hdl hzc hC1s hxl hx1 hown htk hcs hg
  have hw1 : IntKind.i64.wrap ((i : Int) + 1) = (i : Int) + 1 := IntWalk.i64_in _ (by omega)
  have hb1 : (0 : Int) ≤ (i : Int) + 1 := by omega
  have htn : ((i : Int) + 1).toNat = i + 1 := by omega
  have hb3 : (i : Int) + 1 ≤ (n : Int) := by omega
  have hb4 : ¬ (cap = n - 1) := by omega
  have hb6 : ¬ (n = i) := by omega
  have hb7 : ¬ (cap = i) := by omega
  have hb8 : ((n - 1 : Nat) : Int) ≤ (n : Int) := by omega
  have hb9 : (n : Int) ≤ (cap : Int) := by omega
  have hb10 : (i : Int) ≤ (cap : Int) := by omega
  have hb11 : (i : Int) + 1 ≤ (cap : Int) := by omega
  have hb12 : (i : Int) < (n : Int) := by omega
  by_cases hb2 : cap = i + 1
  ·have Happ2 := fun ty c => Happ.out ty ⟨g, 0, none⟩ c (fun h => absurd h (by omega))
   have hn0 : n - (i + 1) = 0 := by omega
   rw [hn0] at Happ2
   have HA := Lib.hid Happ2; clear Happ Happ2 hn0
   subst hb2
   have hb13 : (i : Int) ≤ (i : Int) + 1 := by omega
   go_enter Tryz.func79, Tryz.ntmps79
   go_wp2_with fail
   go_region_law (refine cE rfl _ _ 54 54 rfl _ _ (by simp [Act.eval, Act.put]) (by simp [Act.eval, Act.put]) (HA.out _ 0) ?_)
   go_wp2_with (refine cu _ rfl _ 54 rfl _ rfl (Hclr.out _ (i + 1 - (n - 1))) ?_)
   go_ret
   exact ⟨_, rfl, Hfin.out, Hgr.out, _, rfl, by omega⟩
  ·have Happ2 := fun ty c => Happ.out ty ⟨g, i + 1, none⟩ c (fun _ => rfl)
   have HA := Lib.hid Happ2; clear Happ Happ2
   go_enter Tryz.func79, Tryz.ntmps79
   go_wp2_with fail
   go_region_law (refine cE rfl _ _ 54 54 rfl _ _ (by simp [Act.eval, Act.put]) (by simp [Act.eval, Act.put]) (HA.out _ (cap - (i + 1))) ?_)
   go_wp2_with (refine cu _ rfl _ 54 rfl _ rfl (Hclr.out _ (cap - (n - 1))) ?_)
   go_ret
   exact ⟨_, rfl, Hfin.out, Hgr.out, _, rfl, by omega⟩
theorem n8 : (Tryz.prog.info? 56).map (fun i => (i.zero, i.size, i.bytes)) = some (some (.agg #[.int .i64 0, .slice none 0 0, .int .i64 0, .slice none 0 0]), 4, 64) := by kernel_rfl
theorem n7 (w : World) : (sizeOf 56).run Tryz.prog w = .ok 4 w := by kernel_rfl
theorem kz (B : Nat) (v : Value) (n i vb cv : Nat) (vcur : Array Value) (xs vs : List Value) (w : World) (hin : i ≤ n) (hown : w.ownsRow B 56 4 v n xs) (hB : B ≤ w.heap.size) (hn : n ≤ 16777216)
  (hvl : vs.length = 4) (hvb : w.heap[vb]? = some (.cells vcur 56 (0, 0))) (hvc : ∀ (j : Nat) (u : Value), vs[j]? = some u → vcur[j]? = some u) (hne : v.ownBlock ≠ some vb) (hv1 : ∀ u ∈ vs, u.oneCell' = true) (hx1 : ∀ u ∈ xs, u.oneCell' = true) :
  Calls Tryz.prog 52 #[v, .int .i64 i, .slice (some ⟨vb, 0, none⟩) 1 cv] w fun e w' =>
   ∃ v', e = .returned v' ∧ w'.ownsRow B 56 4 v' (n + 1) (xs.take (i * 4) ++ vs ++ xs.drop (i * 4)) ∧ w.grownBy w' v.ownBlock ∧ ∀ k, v'.ownBlock = some k → v.ownBlock = some k ∨ w.heap.size ≤ k := by
 have hv2 := hown.2
 obtain ⟨i0, hi0, hz0, hz1, hz2⟩ := info_parts n8
 have hxl := hown.1
 have hvcell : ∀ j u, vs[j]? = some u → w.cell? ⟨vb, j, none⟩ = some u := fun j u hj => by simp [World.cell?, hvb]; exact hvc j u hj
 have hvlt : vb < w.heap.size := (Q17 hvb).1
 have append_end : ∀ (W : World), W = w → n = i → Calls Tryz.prog 52 #[v, .int .i64 i, .slice (some ⟨vb, 0, none⟩) 1 cv] w fun e w' =>
   ∃ v', e = .returned v' ∧ w'.ownsRow B 56 4 v' (n + 1) (xs ++ vs) ∧ w.grownBy w' v.ownBlock ∧ ∀ k, v'.ownBlock = some k → v.ownBlock = some k ∨ w.heap.size ≤ k := by
  intro W _ hni
  subst hni
  have Hown := Lib.hid hown
  have hva : ∀ j u, vs[j]? = some u → w.cell? ((⟨vb, 0, none⟩ : Addr).add j) = some u := fun j u hj => by
   have := hvcell j u hj
   unfold Addr.add; split
   ·rename_i h; subst h; exact this
   ·simpa using this
  have Hva := Lib.hid hva; have Hl := Lib.hid hvl; have Hne := Lib.hid hne
  clear hva hvcell hvb hvc hvl hne hxl
  rcases hv2 with ⟨rfl, rfl⟩ | ⟨g, cap, cur, rfl, hBg, hg, hnc, hcm, hcs, htk⟩
  ·clear hown
   go_enter Tryz.func52, Tryz.ntmps52
   go_wp2_with (first | (at_builtin; refine aS _ rfl _ _ 48 rfl B 56 i0 (.agg #[.int .i64 0, .slice none 0 0, .int .i64 0, .slice none 0 0]) 4 64 Tryz.underlying48 hi0 hz0 hz1 hz2 rfl (by decide) _ _ _ rfl Hown.out ⟨vb, 0, none⟩ 1 _ vs rfl (by rw [Hl.out]) Hva.out hv1 (by unfold maxLen; omega) (by omega) hB ?_; intro v' w1 hown1 hg1 hloc1))
   go_ret
   exact ⟨_, rfl, hown1, hg1, hloc1⟩
  ·unfold maxLen at hcm
   have Hg := Lib.hid hg; clear hg
   have Hcs := Lib.hid hcs; have Htk := Lib.hid htk; clear hcs htk hown
   go_enter Tryz.func52, Tryz.ntmps52
   go_wp2_with (first | (at_builtin; refine aS _ rfl _ _ 48 rfl B 56 i0 (.agg #[.int .i64 0, .slice none 0 0, .int .i64 0, .slice none 0 0]) 4 64 Tryz.underlying48 hi0 hz0 hz1 hz2 rfl (by decide) _ _ _ rfl Hown.out ⟨vb, 0, none⟩ 1 _ vs rfl (by rw [Hl.out]) Hva.out hv1 (by unfold maxLen; omega) (by omega) hB ?_; intro v' w1 hown1 hg1 hloc1))
   all_goals (go_ret; exact ⟨_, rfl, hown1, hg1, hloc1⟩)
 by_cases hi : n = i
 ·have h := append_end w rfl hi
  rw [Q21 (by rw [hxl, hi]; exact Q4 _), List.drop_of_length_le (by rw [hxl, hi]; exact Q4 _), List.append_nil]
  exact h
 ·clear append_end
  have hlt : i < n := by omega
  rcases hv2 with ⟨rfl, rfl⟩ | ⟨g, cap, cur, rfl, hBg, hg, hnc, hcm, hcs, htk⟩
  ·omega
  ·unfold maxLen at hcm
   have hd0 : ((i : Int) == n) = false := by simp; omega
   have hcu : ∀ j, j < cap * 4 → ∃ u, cur[j]? = some u := fun j hj => ⟨cur[j]'(by omega), by rw [Array.getElem?_eq_getElem (by omega)]⟩
   by_cases hroom : n + 1 ≤ cap
   ·have hov : ∀ lb cb, (callFunc 80 #[.slice (some ⟨vb, 0, none⟩) 1 cv, .slice (some ⟨g, (i + 1) * 4, none⟩) lb cb]).run Tryz.prog w = .ok (.value (.bool false)) w := fun lb cb => by
     rw [run_callFunc_extern Tryz.func80 (by kernel_rfl) (by kernel_rfl) (by kernel_rfl) (e := Extern.SlicesOverlaps.overlaps #[48, 48] #[4]) (by kernel_rfl),
      Lib.run_overlaps_apart w 48 4 56 Tryz.underlying48 4 n7 ⟨vb, 0, none⟩ ⟨g, (i + 1) * 4, none⟩ 1 cv lb cb (by intro h; apply hne; simp only at h; rw [h]; rfl) 56 56 vcur.size cur.size
       (by simp [World.shape?, hvb]) (by simp [World.shape?, hg]) (by omega) (by simp [World.frozen?, hvb]) (by simp [World.frozen?, hvb])]
     rfl
    go_enter Tryz.func52, Tryz.ntmps52
    go_wp2_with (simp only [hov])
    have hsrc1 : ∀ j u, (xs.drop (i * 4))[j]? = some u → w.drew.cell? ((⟨g, i * 4, none⟩ : Addr).add j) = some u := fun j u hj => by
     show w.cell? _ = _
     rw [Addr.add_lit, show w.cell? ⟨g, i * 4 + j, none⟩ = cur[i * 4 + j]? from by simp [World.cell?, hg], ← Array.getElem?_toList]
     rw [List.getElem?_drop, ← htk, Q15] at hj
     split at hj
     ·simpa using hj
     ·cases hj
    have hw1 : IntKind.i64.wrap ((i : Int) + 1) = (i : Int) + 1 := IntWalk.i64_in _ (by omega)
    have hb1 : (0 : Int) ≤ (i : Int) + 1 := by omega
    have htn : ((i : Int) + 1).toNat = i + 1 := by omega
    have hb2 : ¬ (cap = i + 1) := by omega
    have hb3 : (i : Int) ≤ (n : Int) + 1 := by omega
    have hb4 : ¬ (cap = i) := by omega
    have hmul : i * 4 + 4 ≤ n * 4 := by omega
    have hdl : (xs.drop (i * 4)).length = (n - i) * 4 := by rw [List.length_drop, hxl]; omega
    have L := lp cur.toList xs vs (i * 4) (n * 4) 4 (cap * 4) (by simpa using hcs) htk hvl (by omega) (by omega)
    obtain ⟨C1, hC1⟩ : ∃ C1 : Array Value, C1 = (cur.toList.take ((i + 1) * 4) ++ xs.drop (i * 4) ++ cur.toList.drop ((i + 1) * 4 + (xs.drop (i * 4)).length)).toArray := ⟨_, rfl⟩
    obtain ⟨C2, hC2⟩ : ∃ C2 : Array Value, C2 = (C1.toList.take (i * 4) ++ vs ++ C1.toList.drop (i * 4 + vs.length)).toArray := ⟨_, rfl⟩
    have hC1s : C1.size = cap * 4 := by rw [hC1]; simp; omega
    have HC1 := Lib.hid hC1; have HC2 := Lib.hid hC2
    have hcp2 : ∀ ty dc, (Builtin.copy_ #[48, 48] ty #[.slice (some ⟨g, i * 4, none⟩) (n + 1 - i) dc, .slice (some ⟨vb, 0, none⟩) 1 cv]).run Tryz.prog (w.drew.setRow g C1) = .ok (goInt ((1 : Nat) : Int)) ((w.drew.setRow g C1).setRow g C2) := by
     intro ty dc
     have hm : Nat.min 1 (n + 1 - i) = 1 := by simp only [Nat.min_def]; split <;> omega
     have hgn : vb ≠ g := by intro h; apply hne; rw [h]; rfl
     have := bj (P := Tryz.prog) (w.drew.setRow g C1) 48 48 ty 56 i0 g (i * 4) (n + 1 - i) dc ⟨vb, 0, none⟩ 1 cv C1 56 vs Tryz.underlying48 hi0 (setRow_heap _ g _ _ _ _ hg) (by rw [hvl, hm, hz1])
      (fun j u hj => by rw [Addr.add_lit, cell_setRow_other _ _ _ _ hgn]; simpa using hvcell j u hj) (by rw [hvl, hC1s]; omega) hv1
     rw [hm] at this
     rw [this, hC2]; try simp only [Nat.mul_one]
    have Hcp2 := Lib.hid hcp2; clear hcp2
    have hcp1 : ∀ ty dc sc, (Builtin.copy_ #[48, 48] ty #[.slice (some ⟨g, (i + 1) * 4, none⟩) (n - i) dc, .slice (some ⟨g, i * 4, none⟩) (n + 1 - i) sc]).run Tryz.prog w.drew = .ok (goInt ((n - i : Nat) : Int)) (w.drew.setRow g C1) := by
     intro ty dc sc
     have hm : Nat.min (n + 1 - i) (n - i) = n - i := by simp only [Nat.min_def]; split <;> omega
     have := bj (P := Tryz.prog) w.drew 48 48 ty 56 i0 g ((i + 1) * 4) (n - i) dc ⟨g, i * 4, none⟩ (n + 1 - i) sc cur 56 (xs.drop (i * 4)) Tryz.underlying48 hi0 hg (by rw [hdl, hm, hz1]) hsrc1 (by rw [hdl]; omega) (fun u hu => hx1 u (List.mem_of_mem_drop hu))
     rw [hm] at this; rw [this, hC1]
    have Hcp1 := Lib.hid hcp1; clear hcp1 hC1 hC2
    go_region_law (refine bu rfl _ _ 48 48 rfl _ _ (by simp [Act.eval, Act.put]) (by simp [Act.eval, Act.put]) (Hcp1.out _ (cap - (i + 1)) (cap - i)) ?_)
    go_wp2_with (refine aX _ rfl _ _ 48 48 rfl _ _ rfl rfl (Hcp2.out _ (cap - i)) ?_)
    go_ret
    have e1 : (i + 1) * 4 = i * 4 + 4 := by omega
    have h1 := HC1.out; have h2 := HC2.out
    rw [e1] at h1
    rw [h1] at h2
    simp only [List.toList_toArray] at h2
    obtain ⟨L1, L2⟩ := L
    refine ⟨_, rfl, ⟨?_, Or.inr ⟨g, cap, C2, rfl, hBg, setRow_heap _ g _ _ _ _ (setRow_heap _ g _ _ _ _ hg), hroom, by unfold maxLen; omega, ?_, ?_⟩⟩, ?_⟩
    ·simp only [Q9, Q10, List.length_drop, hxl, hvl]; omega
    ·rw [h2]; simpa using L1
    ·rw [h2, show (n + 1) * 4 = n * 4 + 4 from by omega]; simpa using L2
    ·exact ⟨aq (aq bg (aP _) (fun x hx => by cases hx; exact Or.inl rfl)) (aP _) (fun x hx => by cases hx; exact Or.inl rfl), fun k hk => Or.inl hk⟩
   ·have hcap : cap = n := by omega
    have hk1 : 0 < n + 1 - i := by omega
    have holds : (Builtin.firstCells i0.size i (.slice (some ⟨g, 0, none⟩) i cap)).run Tryz.prog w.drew = .ok (xs.take (i * 4)).toArray w.drew := by
     have := run_firstCells_some (P := Tryz.prog) w.drew i0.size i ⟨g, 0, none⟩ i cap (xs.take (i * 4)) (by rw [Q10, hz1]; omega) (fun j u hj => by
      show w.cell? _ = _
      rw [Addr.add_lit, show w.cell? ⟨g, 0 + j, none⟩ = cur[0 + j]? from by simp [World.cell?, hg], ← Array.getElem?_toList]
      rw [← htk, Q15, Q15] at hj
      split at hj
      ·split at hj
       ·simpa using hj
       ·cases hj
      ·cases hj)
     exact this
    obtain ⟨gc, hgc⟩ : ∃ gc, gc = grownCap w (i + (n + 1 - i)) cap 56 := ⟨_, rfl⟩
    have hgc1 : n + 1 ≤ gc := by have := grownCap_ge w (i + (n + 1 - i)) cap 56; omega
    have hgc2 : gc ≤ 9223372036854775807 := by have := grownCap_le_maxLen w (i + (n + 1 - i)) cap 56 (by unfold maxLen; omega); unfold maxLen at this; omega
    obtain ⟨Zs, hZs⟩ : ∃ Zs : List Value, Zs = (Builtin.zeroCells (.agg #[.int .i64 0, .slice none 0 0, .int .i64 0, .slice none 0 0] : Value).cells (n + 1 - i)).toList ++ (Builtin.zeroCells (.agg #[.int .i64 0, .slice none 0 0, .int .i64 0, .slice none 0 0] : Value).cells (gc - (n + 1))).toList := ⟨_, rfl⟩
    have hzc : (.agg #[.int .i64 0, .slice none 0 0, .int .i64 0, .slice none 0 0] : Value).cells.size = 4 := rfl
    have hZl : Zs.length = (gc - i) * 4 := by rw [hZs]; simp only [Q9, Array.length_toList, size_zeroCells, hzc]; omega
    obtain ⟨W1, hW1⟩ : ∃ W1, W1 = w.drew.alloc (.cells (xs.take (i * 4) ++ Zs).toArray 56) := ⟨_, rfl⟩
    have happ : ∀ ty, (Builtin.append_ #[48, 3] ty #[.slice (some ⟨g, 0, none⟩) i cap, .int .i64 ((n : Int) + 1 - (i : Int))]).run Tryz.prog w = .ok (.slice (some ⟨w.heap.size, 0, none⟩) (n + 1) gc) W1 := by
     intro ty
     have := Lib.run_append_grow_zeros (P := Tryz.prog) w 48 3 ty 56 i0 (.agg #[.int .i64 0, .slice none 0 0, .int .i64 0, .slice none 0 0]) .i64 .i64 Tryz.underlying48 Tryz.underlying3 hi0 hz0 (some ⟨g, 0, none⟩) i cap (xs.take (i * 4)) holds (n + 1 - i) hk1 (by rw [hz1]; decide) (by omega) (by omega) (by rw [hz2]; omega) (growslice_fits (by omega) (by rw [hz2]; omega))
     rw [show ((n : Int) + 1 - (i : Int)) = ((n + 1 - i : Nat) : Int) from by omega, this, hW1, ← hgc, hZs, show i + (n + 1 - i) = n + 1 from by omega]
     congr 3
     apply Array.ext'
     simp [List.append_assoc]
    have hW1a : W1.heap[w.heap.size]? = some (.cells (xs.take (i * 4) ++ Zs).toArray 56 (0, 0)) := by rw [hW1]; exact ay w.drew _
    have hW1b : ∀ k, k < w.heap.size → W1.heap[k]? = w.heap[k]? := fun k hk => by rw [hW1]; exact heap_alloc_old w.drew _ hk
    have hW1g : w.grownBy W1 none := by rw [hW1]; exact aq bg (World.grownBy_alloc _ _ none) (fun x hx => by cases hx)
    have hglt : g < w.heap.size := (Q17 hg).1
    obtain ⟨A1, hA1⟩ : ∃ A1 : Array Value, A1 = ((xs.take (i * 4) ++ Zs).take (i * 4) ++ vs ++ (xs.take (i * 4) ++ Zs).drop (i * 4 + vs.length)).toArray := ⟨_, rfl⟩
    obtain ⟨W2, hW2⟩ : ∃ W2, W2 = W1.setRow w.heap.size A1 := ⟨_, rfl⟩
    have hcpA : ∀ ty dc, (Builtin.copy_ #[48, 48] ty #[.slice (some ⟨w.heap.size, i * 4, none⟩) (n + 1 - i) dc, .slice (some ⟨vb, 0, none⟩) 1 cv]).run Tryz.prog W1 = .ok (goInt ((1 : Nat) : Int)) W2 := by
     intro ty dc
     have hm : Nat.min 1 (n + 1 - i) = 1 := by simp only [Nat.min_def]; split <;> omega
     have := bj (P := Tryz.prog) W1 48 48 ty 56 i0 w.heap.size (i * 4) (n + 1 - i) dc ⟨vb, 0, none⟩ 1 cv _ 56 vs Tryz.underlying48 hi0 hW1a (by rw [hvl, hm, hz1])
      (fun j u hj => by rw [Addr.add_lit, World.cell?_of_block (hW1b vb hvlt)]; simpa using hvcell j u hj) (by rw [hvl]; simp only [List.size_toArray, Q9, Q10, hZl, hxl]; omega) hv1
     rw [hm] at this
     rw [this, hW2, hA1]
    have hA1s : A1.size = gc * 4 := by rw [hA1]; simp only [List.size_toArray, Q9, Q10, List.length_drop, hZl, hxl, hvl]; omega
    have hW2a : W2.heap[w.heap.size]? = some (.cells A1 56 (0, 0)) := by rw [hW2]; exact setRow_heap _ _ _ _ _ _ hW1a
    have hW2b : ∀ k, k < w.heap.size → W2.heap[k]? = w.heap[k]? := fun k hk => by rw [hW2, setRow_other _ _ _ _ (by omega)]; exact hW1b k hk
    have hdl : (xs.drop (i * 4)).length = (n - i) * 4 := by rw [List.length_drop, hxl]; omega
    obtain ⟨A2, hA2⟩ : ∃ A2 : Array Value, A2 = (A1.toList.take ((i + 1) * 4) ++ xs.drop (i * 4) ++ A1.toList.drop ((i + 1) * 4 + (xs.drop (i * 4)).length)).toArray := ⟨_, rfl⟩
    obtain ⟨W3, hW3⟩ : ∃ W3, W3 = W2.drew.setRow w.heap.size A2 := ⟨_, rfl⟩
    have hcpB : ∀ ty dc sc, (Builtin.copy_ #[48, 48] ty #[.slice (some ⟨w.heap.size, (i + 1) * 4, none⟩) (n - i) dc, .slice (some ⟨g, i * 4, none⟩) (n - i) sc]).run Tryz.prog W2.drew = .ok (goInt ((n - i : Nat) : Int)) W3 := by
     intro ty dc sc
     have hm : Nat.min (n - i) (n - i) = n - i := Nat.min_self _
     have := bj (P := Tryz.prog) W2.drew 48 48 ty 56 i0 w.heap.size ((i + 1) * 4) (n - i) dc ⟨g, i * 4, none⟩ (n - i) sc A1 56 (xs.drop (i * 4)) Tryz.underlying48 hi0 hW2a (by rw [hdl, hm, hz1])
      (fun j u hj => by
       show W2.cell? _ = _
       rw [Addr.add_lit, World.cell?_of_block (hW2b g hglt), show w.cell? ⟨g, i * 4 + j, none⟩ = cur[i * 4 + j]? from by simp [World.cell?, hg], ← Array.getElem?_toList]
       rw [List.getElem?_drop, ← htk, Q15] at hj
       split at hj
       ·simpa using hj
       ·cases hj) (by rw [hdl, hA1s]; omega) (fun u hu => hx1 u (List.mem_of_mem_drop hu))
     rw [hm] at this
     rw [this, hW3, hA2]
    have L := m5 xs vs Zs (i * 4) (n * 4) 4 (by rw [hxl]) hvl (by omega) (by rw [hZl]; omega)
    have hW3a : W3.heap[w.heap.size]? = some (.cells A2 56 (0, 0)) := by rw [hW3]; exact setRow_heap _ _ _ _ _ _ hW2a
    have hW3g : w.grownBy W3 (some g) := by
     rw [hW3, hW2]
     exact aq (aq (aq (r := some g) (⟨hW1g.os, hW1g.tape, hW1g.output, hW1g.size, fun k hk _ => hW1b k hk⟩) (aP _) (fun x hx => by cases hx; exact Or.inr (Q4 _))) bg (s := none) (fun x hx => by cases hx)) (aP _) (fun x hx => by cases hx; exact Or.inr (Q4 _))
    have HA1 := Lib.hid hA1; have HA2 := Lib.hid hA2; have Happ := Lib.hid happ; have HcpA := Lib.hid hcpA; have HcpB := Lib.hid hcpB; have HL := Lib.hid L; have HW3a := Lib.hid hW3a; have HW3g := Lib.hid hW3g; have Hxl := Lib.hid hxl; have Hvl := Lib.hid hvl; have HZl := Lib.hid hZl
    clear hA1 hA2 happ hcpA hcpB L hW3a hW3g hW1 hW2 hW3 hZs hgc holds hW1a hW1b hW1g hA1s hW2a hW2b hdl hzc hZl hxl hvl hown htk hcs hcu hvb hvc hvcell hx1 hv1 hne hg
    have hw1 : IntKind.i64.wrap ((i : Int) + 1) = (i : Int) + 1 := IntWalk.i64_in _ (by omega)
    have hb1 : (0 : Int) ≤ (i : Int) + 1 := by omega
    have htn : ((i : Int) + 1).toNat = i + 1 := by omega
    have hb2 : ¬ (gc = i + 1) := by omega
    have hb3 : (i : Int) ≤ (n : Int) + 1 := by omega
    have hb4 : ¬ (gc = i) := by omega
    have hb5 : ¬ (cap = i) := by omega
    clear hcap
    go_enter Tryz.func52, Tryz.ntmps52
    go_wp2_with (first | (at_builtin; refine Lib.wpList_append_run _ rfl _ _ 48 3 rfl _ _ rfl rfl _ _ (Happ.out _) ?_) | (refine aX _ rfl _ _ 48 48 rfl _ _ rfl rfl (HcpA.out _ (gc - i)) ?_))
    go_region_law (refine bu rfl _ _ 48 48 rfl _ _ (by simp [Act.eval, Act.put]) (by simp [Act.eval, Act.put]) (HcpB.out _ (gc - (i + 1)) (cap - i)) ?_)
    go_wp2
    go_ret
    have e1 : (i + 1) * 4 = i * 4 + 4 := by omega
    have h1 : A1 = ((xs.take (i * 4) ++ Zs).take (i * 4) ++ vs ++ (xs.take (i * 4) ++ Zs).drop (i * 4 + vs.length)).toArray := by have := HA1.out; simpa only [Nat.mul_one] using this
    have h2 := HA2.out
    rw [e1, h1] at h2
    simp only [List.toList_toArray] at h2
    obtain ⟨L1, L2⟩ := HL.out
    refine ⟨_, rfl, ⟨?_, Or.inr ⟨w.heap.size, gc, A2, rfl, hB, HW3a.out, hgc1, by unfold maxLen; omega, ?_, ?_⟩⟩, HW3g.out, fun k hk => by cases hk; exact Or.inr (Q4 _)⟩
    ·simp only [Q9, Q10, List.length_drop, Hxl.out, Hvl.out]; omega
    ·rw [h2]; simp only [List.size_toArray]; rw [L1, HZl.out]; omega
    ·rw [h2, show (n + 1) * 4 = n * 4 + 4 from by omega]; simpa using L2
theorem b7 (xs : List Int) (i : Nat) (x : Int) (hi : i ≤ xs.length) (hn : xs.length ≤ 16777215) :
  Fun TC 78 2 [.sl 0 1 0 xs.length, .i .i64 i, .sl 1 1 0 1] [(0, some (ap 2 1 (ao .i64) xs)), (1, some (ap 2 1 (ao .i64) [x]))] 3 (.sl 2 1 0 (br xs i x).length) [(0, none), (1, none), (2, some (ap 2 1 (ao .i64) (br xs i x)))] := by
 by_cases hlt : i < xs.length
 ·refine qx (C := TC) (z := 1) (enc := (ao .i64)) zN (.mk Tryz.func78 rfl rfl) (fun x => rfl) xs i x hlt ?_
  intro v vb cv vcur F vs w h1 h2 h3 h4 h5 h6 h7
  exact md 0 v xs.length i vb cv vcur F vs w hi h1 (Nat.zero_le _) (by omega) h2 h3 h4 h5 h6 h7
 ·obtain rfl : i = xs.length := by omega
  refine Fun.mk' Tryz.func78 rfl rfl zN (by decide) ?_
  (repeat' (first | ((first | refine Wp.any aa rfl ?_ | (with_reducible first | refine Go.mk ?_ | apply ak.of)); conv => whnf) | with_reducible exact rfl | ((with_reducible refine Ov.ok zO ?_); conv => whnf) | (with_reducible refine Ov.sh1 (by with_unfolding_all exact rfl) ?_) | ((first | with_reducible refine Ov.quo (by omega) (by omega) (by omega) (fun _ _ => ?_) | refine zV ?_ | with_reducible refine And.intro zC ?_); conv => whnf) | ((with_reducible refine And.intro ?hb ?_); (case hb => exact zz0); (conv => whnf)) | ((refine ae.a rfl rfl rfl rfl rfl rfl ?hb ?_); (case hb => exact zB); (conv => whnf)) | ((refine ae.b rfl rfl rfl rfl rfl rfl rfl rfl ?hb ?ho ?_); (case hb => exact zB); (case ho => omega); (conv => whnf)) | ((refine ae.c rfl rfl rfl rfl rfl ?hb ?_); (case hb => exact zB); (conv => whnf)) | ((refine ae.d rfl rfl rfl rfl rfl rfl ?hb ?ho ?_); (case hb => exact zB); (case ho => omega); (conv => whnf)) | (with_reducible refine Or.inl ?_) | ((with_reducible refine IxA.ptr ?_); conv => whnf) | ((with_reducible refine nil_no (by omega) ?_); (conv => whnf)) | ((with_reducible refine af ?_ (fun hn0 => ?_)) <;> (conv => whnf)) | ((refine am (fun hc => ?_) (fun hc => ?_)) <;> (try simp only [wz9] at hc) <;> (try (exfalso; omega)) <;> (conv => whnf))))
  all_goals try exact absurd trivial hc
  refine ah.of [0, 1, 2] rfl (fun i hi => by have : i = 0 ∨ i = 1 := (by omega); rcases this with h | h <;> subst h <;> rfl) rfl ?_ ?_
  ·exact .of_eq (congrArg (SV.sl _ _ _) (aB xs _ x (by omega)).symm)
  ·refine ⟨⟨⟨rfl, rfl, (aB xs _ x (by omega)).symm⟩, fun i hi => ?_⟩, trivial⟩
   dsimp only
   rw [d6 xs _ x (by omega)]
   simp only [bh]
   by_cases h : i < xs.length
   ·rw [if_pos h, if_pos h]
   ·rw [if_neg h, if_neg h, if_pos (by omega), show i - xs.length = 0 by omega]; rfl
theorem bC (xs : List Cel) (i : Nat) (x : Cel) (hi : i ≤ xs.length) (hn : xs.length ≤ 16777215) :
  Fun TC 52 2 [.sl 0 4 0 xs.length, .i .i64 i, .sl 1 4 0 1] [(0, some (ap 56 4 Cel.D xs)), (1, some (ap 56 4 Cel.D [x]))] 3 (.sl 2 4 0 (br xs i x).length) [(0, none), (1, none), (2, some (ap 56 4 Cel.D (br xs i x)))] := by
 by_cases hlt : i < xs.length
 ·refine qx (C := TC) (z := 4) (enc := Cel.D) zN (.mk Tryz.func52 rfl rfl) (fun x => rfl) xs i x hlt ?_
  intro v vb cv vcur F vs w h1 h2 h3 h4 h5 h6 h7
  exact kz 0 v xs.length i vb cv vcur F vs w hi h1 (Nat.zero_le _) (by omega) h2 h3 h4 h5 h6 h7
 ·obtain rfl : i = xs.length := by omega
  refine Fun.mk' Tryz.func52 rfl rfl zN (by decide) ?_
  (repeat' (first | ((first | refine Wp.any aa rfl ?_ | (with_reducible first | refine Go.mk ?_ | apply ak.of)); conv => whnf) | with_reducible exact rfl | ((with_reducible refine Ov.ok zO ?_); conv => whnf) | (with_reducible refine Ov.sh1 (by with_unfolding_all exact rfl) ?_) | ((first | with_reducible refine Ov.quo (by omega) (by omega) (by omega) (fun _ _ => ?_) | refine zV ?_ | with_reducible refine And.intro zC ?_); conv => whnf) | ((with_reducible refine And.intro ?hb ?_); (case hb => exact zz0); (conv => whnf)) | ((refine ae.a rfl rfl rfl rfl rfl rfl ?hb ?_); (case hb => exact zB); (conv => whnf)) | ((refine ae.b rfl rfl rfl rfl rfl rfl rfl rfl ?hb ?ho ?_); (case hb => exact zB); (case ho => omega); (conv => whnf)) | ((refine ae.c rfl rfl rfl rfl rfl ?hb ?_); (case hb => exact zB); (conv => whnf)) | ((refine ae.d rfl rfl rfl rfl rfl rfl ?hb ?ho ?_); (case hb => exact zB); (case ho => omega); (conv => whnf)) | (with_reducible refine Or.inl ?_) | ((with_reducible refine IxA.ptr ?_); conv => whnf) | ((with_reducible refine nil_no (by omega) ?_); (conv => whnf)) | ((with_reducible refine af ?_ (fun hn0 => ?_)) <;> (conv => whnf)) | ((refine am (fun hc => ?_) (fun hc => ?_)) <;> (try simp only [wz9] at hc) <;> (try (exfalso; omega)) <;> (conv => whnf))))
  all_goals try exact absurd trivial hc
  refine ah.of [0, 1, 2] rfl (fun i hi => by have : i = 0 ∨ i = 1 := (by omega); rcases this with h | h <;> subst h <;> rfl) rfl ?_ ?_
  ·exact .of_eq (congrArg (SV.sl _ _ _) (aB xs _ x (by omega)).symm)
  ·refine ⟨⟨⟨rfl, rfl, (aB xs _ x (by omega)).symm⟩, fun i hi => ?_⟩, trivial⟩
   dsimp only
   rw [d6 xs _ x (by omega)]
   simp only [bh]
   by_cases h : i < xs.length
   ·rw [if_pos h, if_pos h]
   ·rw [if_neg h, if_neg h, if_pos (by omega), show i - xs.length = 0 by omega]; rfl
theorem b8 (xs : List Int) (i : Nat) (hi : i < xs.length) (hn : xs.length ≤ 16777215) :
  Fun TC 79 1 [.sl 0 1 0 xs.length, .i .i64 i, .i .i64 ((i : Int) + 1)] [(0, some (ap 2 1 (ao .i64) xs))] 2 (.sl 1 1 0 (b9 xs i).length) [(0, none), (1, some (ap 2 1 (ao .i64) (b9 xs i)))] := by
 refine delFun (C := TC) (z := 1) (enc := ao .i64) zN (.mk Tryz.func79 rfl rfl) (fun x => rfl) xs i hi (by unfold maxLen; omega) ?_
 intro v F w h1 h2
 exact me 0 v xs.length i F w hi h1 (by omega) h2
end Go.Proofs.YtcbpkdhoibemcaaGreat
