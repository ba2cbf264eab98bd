/- Lemmas of Smk. No condition. -/
import Derived.Test.YtpdhdnhkhidmpaaGreatMS24
set_option linter.unusedVariables false
set_option linter.unusedSimpArgs false
set_option maxHeartbeats 80000000
set_option maxRecDepth 100000
namespace Go.Proofs.YtpdhdnhkhidmpaaGreat
open Go.RowKit
open Sim
theorem vD {α : Type} [Inhabited α] (D : α → List D) (z : Nat) (zs : List α) (d e : α) (c c2 : Nat → List Go.Proofs.YtpdhdnhkhidmpaaGreat.D) (hc : c 0 = D d) (hc2 : c2 0 = D e) : ∀ k, k < zs.length + 1 + 1 → bo (zs.length + 1) (bo zs.length (fun i => D (zs.getD i default)) c) c2 k = D ((zs ++ [d] ++ [e]).getD k default) := fun k hk => by
 have h1 := b5 D z (zs ++ [d]) e c2 hc2 k (by rw [Q9, List.length_singleton]; omega)
 rw [← h1]
 unfold bo
 rw [Q9, List.length_singleton]
 by_cases e1 : k < zs.length + 1
 ·rw [if_pos e1, if_pos e1]
  exact b5 D z zs d c hc k e1
 ·rw [if_neg e1, if_neg e1]
theorem lA (room : Int) (work : List (List Req)) (picks : List (Int × Int)) (fin : Bool) (at_ : List Int) (hr : -9223372036854775808 ≤ room ∧ room ≤ 9223372036854775807) (hw : ∀ w ∈ work, ∀ c ∈ w, c.ok)
    (hp : ∀ p ∈ picks, (-9223372036854775808 ≤ p.1 ∧ p.1 ≤ 9223372036854775807) ∧ (-9223372036854775808 ≤ p.2 ∧ p.2 ≤ 9223372036854775807)) (ha : ∀ x ∈ at_, 0 ≤ x ∧ x ≤ 255) :
    Pure TC 6 [cfgD .any room work picks fin, .d (ak 1 (aI .u8) at_)] (.b true) := by
  have hF := ma room work picks fin fin hr hw hp
  have hW := oY hw
  have hW5 : (lE work).length ≤ 5 := by unfold lE; rw [List.length_map, Q10]; omega
  have hrb := sQ room
  have hP : ∀ p ∈ (picks.take 400).map (iU (lE work).length), PickOk (lE work).length p ∧ 0 ≤ p.2 := fun p hm => by
    obtain ⟨q, _, rfl⟩ := List.mem_map.1 hm
    exact sS _ q
  have hPl : ((picks.take 400).map (iU (lE work).length)).length ≤ 400 := by rw [List.length_map, Q10]; omega
  generalize (picks.take 400).map (iU (lE work).length) = P at hF hP hPl
  generalize lE work = W at hF hP hW hW5
  generalize sR room = R at hF hrb
  have hR1 := kg (room := R) (by omega) hW (P := P) (by omega) (fun p hm => (hP p hm).1) fin
  refine Pure.mk' Tryz.func6 rfl rfl zN ?_
  (repeat' (first | ((first | refine Wp.any ac rfl ?_ | (with_reducible first | refine Go.mk ?_ | apply ah.of | refine And.intro zC ?_)); conv => whnf) | ((with_reducible refine And.intro ?hb ?_); (case hb => exact zz5); (conv => whnf)) | ((with_reducible first | refine ab.pure (tB) rfl rfl ?_ | refine ab.pure (hF) rfl rfl ?_); conv => whnf)))
  refine Wp.le (Le.rowD 6 (fun i => aF ((W ++ [[]]).getD i default)) rfl fun i hi => ?_) ?_
  · show fp (bo (0 + W.length) (bo 0 (a6 [] ti55.size) fun i => aF (W.getD i default)) (fun i => a6 [D.val (.slice none 0 0)] ti55.size (0 + i)) i) _
    rw [Q19] at hi ⊢
    unfold bo
    by_cases e : i < W.length
    · rw [if_pos e, if_neg (Nat.not_lt_zero _), Nat.sub_zero]
      have e0 : (W ++ [[]]).getD i default = W.getD i default := by rw [Q1, Q1, Q11 e]
      rw [e0]
      exact .refl _
    · obtain rfl : i = W.length := by omega
      have e0 : (W ++ [[]]).getD W.length default = [] := by simp
      rw [if_neg e, Nat.sub_self, e0]
      exact ⟨.nil, trivial⟩
  refine Wp.le (Le.virtC 2 3 57 2 (fun i => bi (([] : List (Int × Int)).getD i default)) (by decide) rfl rfl) ?_
  refine Wp.loopP (ι := Nat) (fun i => i ≤ P.length) (fun i => ⟨⟨Tryz.f6.ntmps, 0⟩, 4, [(1, .d (ak 1 (aI .u8) at_)), (5, .ptr 0 0), (6, .i .i64 W.length), (7, .ptr 1 0), (36, .d (ak 2 bi P)), (37, .i .i64 P.length), (38, .i .i64 i)],
    [(0, some (.cells [.d (ak 4 Pol.D am), .i .i64 R, .d (ak 1 aF W), .d (ak 2 bi P), .b fin])), (1, some (.cells [.d (ak 4 Pol.D am), .i .i64 R, .sl 2 1 0 (W ++ [[]]).length, .sl 3 2 0 (mix W.length at_ P i).length, .b fin])),
      (2, some (aD 55 1 aF (W ++ [[]]))), (3, some (aD 57 2 bi (mix W.length at_ P i)))]⟩) (fun i => P.length - i) 0 (Nat.zero_le _) ?_ ?_
  · (refine Le.by [1,2,6,7] rfl rfl rfl rfl ?_ ?_ <;> ((conv => whnf); repeat' (first | exact trivial | exact ae.rfl rfl | exact ae.ptr rfl | exact ae.sl rfl | exact ⟨rfl, rfl, rfl⟩ | exact fun i hi => rfl | ((with_reducible refine And.intro ?_ ?_) <;> (conv => whnf)))))
    · rw [show 0 + W.length + 1 = (W ++ [[]]).length by rw [Q19, Q9]; rfl]; exact ae.sl rfl
    · rfl
    · rw [Q19, Q9]; rfl
  · rintro i h1
    have hml := rR W.length at_ P i
    by_cases hi : i < P.length
    · have hpi : P.getD (i : Int).toNat default = P.getD i default := by rw [Q13]
      (repeat' (first | ((first | refine Wp.any ac rfl ?_ | (with_reducible first | refine Go.mk ?_ | apply ah.of | refine Ov.ok zO ?_ | refine And.intro zC ?_)); conv => whnf) | ((with_reducible refine And.intro ?hb ?_); (case hb => exact zz5); (conv => whnf)) | ((refine aq (fun hc => ?_) (fun hc => ?_)) <;> (try simp only [wz9] at hc) <;> (try (exfalso; omega)) <;> (conv => whnf))))
      all_goals
        refine ⟨i + 1, by dsimp only; omega, by dsimp only; omega, ?_⟩
        have hev : (at_.getD (i : Int).toNat default).tmod 2 = at_.getD i default % 2 ∨ at_.length ≤ i := by
          by_cases e : i < at_.length
          · left
            rw [Q13]
            refine Q6 ?_
            rw [Q1, Q0 e]
            exact (ha _ (Q14 e)).1
          · right; omega
        dsimp only [mix]
      · rw [if_pos (by omega)]
        (refine Le.by [0,1,2,8] rfl rfl rfl rfl ?_ ?_ <;> ((conv => whnf); repeat' (first | exact trivial | exact ae.rfl rfl | exact ae.ptr rfl | exact ae.sl rfl | exact ⟨rfl, rfl, rfl⟩ | exact fun i hi => rfl | ((with_reducible refine And.intro ?_ ?_) <;> (conv => whnf)))))
        all_goals first
          | (rw [Q9, Q9]; exact ae.sl rfl)
          | rfl
          | (rw [Q9, Q9]; rfl)
          | (rw [hpi]; exact vD bi 2 _ ((W.length : Int), 9) (P.getD i default) _ _ rfl rfl)
      · rw [if_neg (by omega), List.append_nil]
        (refine Le.by [0,1,2,6] rfl rfl rfl rfl ?_ ?_ <;> ((conv => whnf); repeat' (first | exact trivial | exact ae.rfl rfl | exact ae.ptr rfl | exact ae.sl rfl | exact ⟨rfl, rfl, rfl⟩ | exact fun i hi => rfl | ((with_reducible refine And.intro ?_ ?_) <;> (conv => whnf)))))
        all_goals first
          | (rw [Q9]; exact ae.sl rfl)
          | rfl
          | (rw [Q9]; rfl)
          | (rw [hpi]; exact b5 bi 2 _ (P.getD i default) _ rfl)
      · rw [if_neg (by omega), List.append_nil]
        (refine Le.by [0,1,2,6] rfl rfl rfl rfl ?_ ?_ <;> ((conv => whnf); repeat' (first | exact trivial | exact ae.rfl rfl | exact ae.ptr rfl | exact ae.sl rfl | exact ⟨rfl, rfl, rfl⟩ | exact fun i hi => rfl | ((with_reducible refine And.intro ?_ ?_) <;> (conv => whnf)))))
        all_goals first
          | (rw [Q9]; exact ae.sl rfl)
          | rfl
          | (rw [Q9]; rfl)
          | (rw [hpi]; exact b5 bi 2 _ (P.getD i default) _ rfl)
    · obtain rfl : i = P.length := by omega
      have hWf : Few (W ++ [[]]) := ⟨by rw [Q9, List.length_singleton]; omega, fun w hm => by
          rcases List.mem_append.1 hm with hm | hm
          · exact hW.each w hm
          · rw [List.mem_singleton.1 hm]; exact Nat.zero_le _, fun w hm c hc => by
          rcases List.mem_append.1 hm with hm | hm
          · exact hW.call w hm c hc
          · rw [List.mem_singleton.1 hm] at hc; exact absurd hc (by simp)⟩
      have hR2 := kg (room := R) (by omega) hWf (P := mix W.length at_ P P.length) (by omega) (fun p hm => by
        have hl : (W ++ [[]]).length = W.length + 1 := by rw [Q9, List.length_singleton]
        rcases rQ (Q4 _) hm with rfl | hm
        · exact ⟨by show (-1 : Int) ≤ (W.length : Int); omega, by show (W.length : Int) < ((W ++ [[]]).length : Int); omega, fun e => by have : (W.length : Int) = -1 := e; omega⟩
        · have h := (hP p hm).1
          exact ⟨h.1, by have := h.2.1; omega, h.2.2⟩) fin
      obtain ⟨j1, j2⟩ := u2 (P := aa am R) fin W P at_ fun p hm => ⟨(hP p hm).1.1, (hP p hm).1.2.1⟩
      rw [j1] at hR2
      dsimp only [repS] at hR2
      rw [j2] at hR2
      have hof := out_few hrb hW hPl (fun p hm => (hP p hm).1) fin
      generalize fins (aa am R) fin W.length (Sim.picks (aa am R) (ss0 W) P) = S1 at *
      have hR2' := hR2.leX (args := [.agg [.d (ak 4 Pol.D am), .i .i64 R, .d (.sl 1 (W ++ [[]]).length fun i => (fun i => aF ((W ++ [[]]).getD i default)) (0 + i)), .d (.sl 2 (mix W.length at_ P P.length).length fun i => (fun i => bi ((mix W.length at_ P P.length).getD i default)) (0 + i)), .b fin]])
        (.cons (.agg (.cons (.rfl _) (.cons (.rfl _) (.cons (SV.Le.sl fun i _ => by rw [Q19]) (.cons (SV.Le.sl fun i _ => by rw [Q19]) (.cons (.rfl _) .nil)))))) .nil)
      have hSm := uC (jW am R S1.M) (jW am R S1.M)
      rw [decide_eq_true rfl] at hSm
      refine Wp.frzC 1 2 rfl rfl rfl (by decide) (by simp) ?_
      refine Wp.frzC 1 3 rfl rfl rfl (by decide) (by simp) ?_
      (repeat' (first | ((first | refine Wp.any ac rfl ?_ | (with_reducible first | refine Go.mk ?_ | apply ah.of | refine ab.pure (hR1) rfl rfl ?_ | refine ab.pure (hR2') rfl rfl ?_ | refine ab.pure (hSm) rfl rfl ?_)); conv => whnf) | ((refine aq (fun hc => ?_) (fun hc => ?_)) <;> (try simp only [wz9] at hc) <;> (try (exfalso; omega)) <;> (conv => whnf))))
      all_goals first
        | exact absurd trivial hc
        | exact absurd rfl hc
        | skip
      refine Wp.loopP (ι := Nat) (fun i => i ≤ S1.out.length) (fun i => ⟨⟨Tryz.f6.ntmps, 0⟩, 1, [(12, .ptr 0 0), (131, .d (ak 13 Dn.D S1.out)), (132, .i .i64 S1.out.length), (133, .i .i64 i)],
        [(0, some (.cells [.d (ak 13 Dn.D S1.out), .any, .any, .any, .any, .any]))]⟩) (fun i => S1.out.length - i) 0 (Nat.zero_le _) ?_ ?_
      · (refine Le.by [5] rfl rfl rfl rfl ?_ ?_ <;> ((conv => whnf); repeat' (first | exact trivial | exact ae.rfl rfl | exact ae.ptr rfl | exact ae.free SV.Le.any rfl | ((with_reducible refine And.intro ?_ ?_) <;> (conv => whnf)))))
      · rintro i h1
        by_cases hi : i < S1.out.length
        · have hCa := jz (S1.out.getD (i : Int).toNat default).c
          (repeat' (first | ((first | refine Wp.any ac rfl ?_ | (with_reducible first | refine Go.mk ?_ | apply ah.of | refine Ov.ok zO ?_ | refine And.intro zC ?_ | refine ab.pure (hCa) rfl rfl ?_)); conv => whnf) | ((refine aq (fun hc => ?_) (fun hc => ?_)) <;> (try simp only [wz9] at hc) <;> (try (exfalso; omega)) <;> (conv => whnf))))
          all_goals first
            | exact absurd trivial hc
            | exact absurd rfl hc
            | (exfalso; simp at hc; done)
            | (refine ⟨i + 1, by dsimp only; omega, by dsimp only; omega, ?_⟩
               (refine Le.by [0] rfl rfl rfl rfl ?_ ?_ <;> ((conv => whnf); repeat' (first | exact trivial | exact ae.rfl rfl | exact ae.ptr rfl | ((with_reducible refine And.intro ?_ ?_) <;> (conv => whnf))))))
        · (repeat' (first | ((first | refine Wp.any ac rfl ?_ | (with_reducible first | refine Go.mk ?_ | apply ah.of)); conv => whnf) | ((refine aq (fun hc => ?_) (fun hc => ?_)) <;> (try simp only [wz9] at hc) <;> (try (exfalso; omega)) <;> (conv => whnf))))
          exact .rfl _
end Go.Proofs.YtpdhdnhkhidmpaaGreat
