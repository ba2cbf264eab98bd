/- Lemmas of Smi. No condition. -/
import Derived.Test.YtpdhdnhkhidmpaaGreatMS24
set_option linter.unusedVariables false
set_option linter.unusedSimpArgs false
set_option maxHeartbeats 80000000
set_option maxRecDepth 100000
namespace Go.Proofs.YtpdhdnhkhidmpaaGreat
open Go.RowKit
open Sim
theorem mT (room : Int) (work : List (List Req)) (picks : List (Int × Int)) (fin : Bool) (at_ : Int) (hr : -9223372036854775808 ≤ room ∧ room ≤ 9223372036854775807) (hw : ∀ w ∈ work, ∀ c ∈ w, c.ok)
  (hp : ∀ p ∈ picks, (-9223372036854775808 ≤ p.1 ∧ p.1 ≤ 9223372036854775807) ∧ (-9223372036854775808 ≤ p.2 ∧ p.2 ≤ 9223372036854775807)) (ha : 0 ≤ at_ ∧ at_ ≤ 65535) :
  Pure TC 5 [cfgD .any room work picks fin, .i .u16 at_] (.b true) := by
 have hF := ma room work picks fin false hr hw hp
 have hW := oY hw
 have hrb := sQ room
 have hP : ∀ p ∈ (picks.take 400).map (iU (lE work).length), PickOk (lE work).length p ∧ 0 ≤ p.2 := fun p hm => by
  obtain ⟨q, _, rfl⟩ := List.mem_map.1 hm
  exact sS _ q
 have hPl : ((picks.take 400).map (iU (lE work).length)).length ≤ 400 := by rw [List.length_map, Q10]; omega
 generalize (picks.take 400).map (iU (lE work).length) = P at hF hP hPl
 generalize lE work = W at hF hP hW
 generalize sR room = R at hF hrb
 have hR1 := kg (room := R) (by omega) hW (P := P) (by omega) (fun p hm => (hP p hm).1) false
 have htm : at_.tmod (P.length + 1) = at_ % (P.length + 1) := Q6 ha.1
 have hm0 := Int.emod_nonneg at_ (b := (P.length : Int) + 1) (by omega)
 have hm1 := Int.emod_lt_of_pos at_ (b := (P.length : Int) + 1) (by omega)
 have hR2 := kg (room := R) (by omega) hW (P := P.take (at_.tmod (P.length + 1)).toNat) (by rw [Q10]; omega) (fun p hm => (hP p (List.mem_of_mem_take hm)).1) false
 have hg := nf (P := aa am R) (P.drop (at_.tmod (P.length + 1)).toNat) (Sim.picks (aa am R) (ss0 W) (P.take (at_.tmod (P.length + 1)).toNat))
 have hc2 := l4 (P := aa am R) (P.take (at_.tmod (P.length + 1)).toNat) (ss0 W) (fun p hm => (hP p (List.mem_of_mem_take hm)).2) (by show (0 : Int) ≤ 4611686018427387903; decide)
 have hc1 := l4 (P := aa am R) (P.drop (at_.tmod (P.length + 1)).toNat) (Sim.picks (aa am R) (ss0 W) (P.take (at_.tmod (P.length + 1)).toNat)) (fun p hm => (hP p (List.mem_of_mem_drop hm)).2) hc2.2
 rw [← dA, List.take_append_drop] at hg hc1
 rw [jF] at hR1 hR2
 have ho2 := lY (aa am R) (P.take (at_.tmod (P.length + 1)).toNat) (ss0 W)
 rw [Q10] at ho2
 replace ho2 : (Sim.picks (aa am R) (ss0 W) (P.take (at_.tmod (P.length + 1)).toNat)).out.length ≤ 400 := by
  have : (ss0 W).out.length = 0 := rfl
  omega
 generalize Sim.picks (aa am R) (ss0 W) P = S1 at *
 generalize Sim.picks (aa am R) (ss0 W) (P.take (at_.tmod (P.length + 1)).toNat) = S2 at *
 obtain ⟨⟨l, hl⟩, hgk⟩ := hg
 have hlen : S1.out.length = S2.out.length + l.length := by rw [hl, Q9]
 refine Pure.mk' Tryz.func5 rfl rfl zN ?_
 have hR2' := hR2.leX (args := [.agg [.d (ak 4 Pol.D am), .i .i64 R, .d (ak 1 aF W), .d (.sl 2 ((at_.tmod (P.length + 1)).toNat - 0) fun i => (fun i => bi (P.getD i default)) (0 + i)), .b false]])
  (.cons (.agg (.cons (.rfl _) (.cons (.rfl _) (.cons (.rfl _) (.cons (gR bi P _ (by rw [Q10]; omega)) (.cons (.rfl _) .nil)))))) .nil)
 (repeat' (first | ((first | refine Wp.any ac rfl ?_ | (with_reducible first | refine Go.mk ?_ | apply ah.of | refine Ov.ok zO ?_) | refine zV ?_ | (with_reducible first | refine And.intro zC ?_ | refine ab.pure (tB) rfl rfl ?_ | refine ab.pure (hF) rfl rfl ?_ | refine ab.pure (hR1) rfl rfl ?_ | refine ab.pure (hR2') rfl rfl ?_)); conv => whnf) | ((refine aq (fun hc => ?_) (fun hc => ?_)) <;> (try simp only [wz9] at hc) <;> (try (exfalso; omega)) <;> (conv => whnf))))
 refine Wp.loopP (ι := Nat) (fun i => i ≤ S2.out.length) (fun i => ⟨⟨Tryz.f5.ntmps, 0⟩, 1, [(6, .ptr 0 0), (70, .d (ak 13 Dn.D S2.out)), (71, .i .i64 S2.out.length), (72, .i .i64 i)],
  [(0, some (.cells [.d (ak 13 Dn.D S1.out), .any, .any, .any, .any, .any]))]⟩) (fun i => S2.out.length - i) 0 (Nat.zero_le _) ?_ ?_
 ·(refine Le.by [2] rfl rfl rfl rfl ?_ ?_ <;> ((conv => whnf); repeat' (first | exact trivial | exact ae.rfl rfl | exact ae.ptr rfl | exact ae.free SV.Le.any rfl | ((with_reducible refine And.intro ?_ ?_) <;> (conv => whnf)))))
 ·rintro i h1
  by_cases hi : i < S2.out.length
  ·have hx : S1.out.getD (i : Int).toNat default = S2.out.getD (i : Int).toNat default := by
    rw [Q13, hl, Q1, Q1, Q11 hi]
   have hCa := jz (S2.out.getD (i : Int).toNat default).c
   have hCb : Pure TC 21 [(S2.out.getD (i : Int).toNat default).c.S, (S1.out.getD (i : Int).toNat default).c.S] (.b true) := by rw [hx]; exact hCa
   have q1 := congrArg Dn.who hx
   have q2 := congrArg Dn.first hx
   have q3 := congrArg Dn.last hx
   have q4 := congrArg Dn.r hx
   (repeat' (first | ((first | refine Wp.any ac rfl ?_ | (with_reducible first | refine Go.mk ?_ | apply ah.of | refine Ov.ok zO ?_ | refine And.intro zC ?_ | refine ab.pure (hCb) rfl rfl ?_)); conv => whnf) | ((refine aq (fun hc => ?_) (fun hc => ?_)) <;> (try simp only [wz9] at hc) <;> (try (exfalso; omega)) <;> (conv => whnf))))
   ·rw [hx] at hc
    exact absurd hc (by simp)
   ·refine ⟨i + 1, by dsimp only; omega, by dsimp only; omega, ?_⟩
    (refine Le.by [0] rfl rfl rfl rfl ?_ ?_ <;> ((conv => whnf); repeat' (first | exact trivial | exact ae.rfl rfl | exact ae.ptr rfl | ((with_reducible refine And.intro ?_ ?_) <;> (conv => whnf)))))
  ·(repeat' (first | ((first | refine Wp.any ac rfl ?_ | (with_reducible first | refine Go.mk ?_ | apply ah.of)); conv => whnf) | ((refine aq (fun hc => ?_) (fun hc => ?_)) <;> (try simp only [wz9] at hc) <;> (try (exfalso; omega)) <;> (conv => whnf))))
   exact .rfl _
end Go.Proofs.YtpdhdnhkhidmpaaGreat
