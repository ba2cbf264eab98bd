/- Parts of the proof, one behind the other: Cf4b. Lemmas and contracts of functions; no condition of its own. -/
import Derived.Test.YtplpofmnhcclbaaGreatM21
set_option linter.unusedVariables false
set_option linter.unusedSimpArgs false
set_option maxHeartbeats 1000000
namespace Go.Proofs.YtplpofmnhcclbaaGreat
open Go.RowKit
set_option maxRecDepth 100000
set_option maxHeartbeats 16000000
theorem has_R (xs : List Int) (n : Int) (ha : xs.length ≤ 16777216) : Fun TC 25 1 [.sl 0 1 0 xs.length, .i .i64 n] [(0, some (rowOf 2 1 (encI .i64) xs))] 1 (.b (decide (n ∈ xs))) [(0, some (rowOf 2 1 (encI .i64) xs))] := by
 refine Fun.mk' Tryz.func25 rfl rfl zN (by decide) ?_
 (repeat' (first | ((first | refine Wp.any TC_mixed rfl ?_ | (with_reducible first | refine Go.mk ?_ | apply Eff1.of)); conv => whnf)))
 refine Wp.loopP (ι := Nat) (fun j => j ≤ xs.length ∧ n ∉ xs.take j) (fun j => ⟨⟨Tryz.f25.ntmps, 1⟩, 1, [(1, .i .i64 n), (7, .sl 0 1 0 xs.length), (8, .i .i64 xs.length), (9, .i .i64 j)], [(0, some (rowOf 2 1 (encI .i64) xs))]⟩) (fun j => xs.length - j) 0 ⟨Nat.zero_le _, by simp⟩ ?_ ?_
 ·(refine Le.by [0] rfl rfl rfl rfl ?_ ?_ <;> (conv => whnf) <;> (repeat' (first | exact trivial | exact ArgLe.rfl rfl | exact ArgLe.sl rfl | exact ⟨rfl, rfl, rfl⟩ | exact fun i hi => rfl | ((with_reducible refine And.intro ?_ ?_) <;> (conv => whnf)))))
 ·rintro j ⟨h1, h2⟩
  (repeat' (first | ((first | refine Wp.any TC_mixed rfl ?_ | (with_reducible first | refine Go.mk ?_ | apply Eff1.of | refine Ov.ok zO ?_ | refine And.intro zC ?_)); conv => whnf) | ((refine ways (fun hc => ?_) (fun hc => ?_)) <;> (try simp only [wz9] at hc) <;> (try (exfalso; omega)) <;> (conv => whnf))))
  ·have hj : j < xs.length := by omega
   rw [gI hj] at hc
   rw [decide_eq_true (show n ∈ xs by rw [← hc]; exact List.getElem_mem hj)]
   (refine FinLe.sealB [0] rfl rfl rfl ?_ ?_); (focus ((conv => whnf); (repeat' (first | exact zE)))); (focus ((conv => whnf); (repeat' (first | exact zE | ((refine And.intro ?_ ?_) <;> (conv => whnf))))))
  ·refine ⟨j + 1, ⟨by omega, ?_⟩, by dsimp only; omega, ?_⟩
   ·have hj : j < xs.length := by omega
    rw [gI hj] at hc
    rw [List.take_succ_eq_append_getElem hj, List.mem_append, List.mem_singleton]
    rintro (h | h)
    ·exact h2 h
    ·exact hc h.symm
   ·(refine Le.by [0] rfl rfl rfl rfl ?_ ?_ <;> (conv => whnf) <;> (repeat' (first | exact trivial | exact ArgLe.rfl rfl | exact ArgLe.sl rfl | exact ⟨rfl, rfl, rfl⟩ | exact fun i hi => rfl | ((with_reducible refine And.intro ?_ ?_) <;> (conv => whnf)))))
  ·obtain rfl : j = xs.length := by omega
   rw [List.take_length] at h2
   rw [decide_eq_false h2]
   (refine FinLe.sealB [0] rfl rfl rfl ?_ ?_); (focus ((conv => whnf); (repeat' (first | exact zE)))); (focus ((conv => whnf); (repeat' (first | exact zE | ((refine And.intro ?_ ?_) <;> (conv => whnf))))))
theorem CoreSerials_holds (wk : Int) (b0 : 0 ≤ wk) (b1 : wk ≤ 255) (script : List Pick) (hs : ∀ a ∈ script, a.ok) : Pure TC 6 [.i .u8 wk, .d (slOf 7 Pick.D script)] (.b true) := by
 refine Pure.lens (.mk Tryz.func6 rfl rfl) fun hlen => ?_
 have hl0 := hlen script.length (by simp [lensOf, slOf])
 clear hlen
 have hm : wk.tmod 6 = wk % 6 := Int.tmod_eq_emod_of_nonneg b0
 have hroom : 1 ≤ 1 + wk.tmod 6 ∧ 1 + wk.tmod 6 ≤ 4096 := by omega
 have hN := core_New (ps := tab2) (room := 1 + wk.tmod 6) (tab2_new hroom)
 have x0 : ∀ i j, SV.Lt 1 ((xs0 i).f j) := fun _ _ => .any
 have L0 := law0 hroom
 refine Pure.mk' Tryz.func6 rfl rfl zN ?_
 (repeat' (first | ((first | refine Wp.any TC_mixed rfl ?_ | (with_reducible first | refine Go.mk ?_ | apply Eff1.of | refine Ov.ok zO ?_ | refine And.intro zC ?_ | refine CallStop.pure (awake_T) rfl rfl ?_ | refine CallStop.pure (law_table) rfl rfl ?_)); conv => whnf) | ((refine CallStop.fn (hN) [] rfl rfl rfl rfl rfl ?ha ?hh ?_); (case ha => exact zA); (case hh => exact zH); (conv => whnf))))
 refine Wp.le (Le.virt 8 2 1 (fun i => encI .i64 (([] : List Int).getD i default)) (by decide) rfl) ?_
 refine Wp.loopP (ι := Nat × Nat × Cst × List Int × Int)
  (fun k => k.1 ≤ script.length ∧ k.1 ≤ 400 ∧ k.2.1 ≤ k.1 ∧ LawC tab2 (1 + wk.tmod 6) k.2.1 k.2.2.1.M k.2.2.1.S k.2.2.1.xs k.2.2.1.nl ((k.2.1 : Int) + 1) ∧ SerI k.2.2.1.M k.2.2.1.S k.2.2.2.1 k.2.2.2.2 ∧ k.2.2.2.1.length ≤ k.1 ∧ (0 ≤ k.2.2.2.2 ∧ k.2.2.2.2 ≤ k.1))
  (fun k => ⟨⟨Tryz.f6.ntmps, 0⟩, 15, [(5, .ptr 0 0), (7, .i .i64 k.2.2.2.2), (8, .sl 14 1 0 k.2.2.2.1.length), (31, .d (slOf 7 Pick.D script)), (32, .i .i64 script.length), (33, .i .i64 k.1)], coreH tab2 (1 + wk.tmod 6) (gOf (coreOps tab2 (1 + wk.tmod 6)) 4 k.2.2.1.S) k.2.2.1.M k.2.2.1.xs k.2.2.1.nl k.2.2.1.f ((k.2.1 : Int) + 1) ++ [(14, some (rowOf 2 1 (encI .i64) k.2.2.2.1))]⟩)
  (fun k => script.length - k.1) (0, 0, cst0, [], 0)
  ⟨Nat.zero_le _, Nat.zero_le _, Nat.le_refl _, L0, .zero, Nat.le_refl _, Int.le_refl _, Int.le_refl _⟩ ?_ ?_
 ·(refine Le.by [0,1,2,3,4,5,6,7,8,9,10,11,12,13,14] rfl rfl rfl rfl ?_ ?_ <;> ((conv => whnf); repeat' (first | exact trivial | exact law_argR (by decide) (fun l hl => by rcases l with _ | _ | _ | _ | l <;> first | exact ⟨Nat.le_of_ble_eq_true rfl, rfl⟩ | exact ⟨Nat.le_of_ble_eq_true rfl, rfl, rfl⟩ | omega) (fun q hq => by rcases q with _ | _ | _ | _ | _ | _ | _ | _ | _ | q <;> first | exact ⟨Nat.le_of_ble_eq_true rfl, rfl⟩ | omega) | exact ArgLe.rfl rfl | exact ArgLe.ptr rfl | exact ArgLe.sl rfl | exact ⟨rfl, rfl, rfl⟩ | exact ⟨rfl, Nat.le_of_ble_eq_true rfl⟩ | exact x_argRA (by assumption) rfl | exact fun i hi => rfl | ((with_reducible refine And.intro ?_ ?_) <;> (conv => whnf)))))
 ·rintro ⟨i, k, c, L, n⟩ ⟨h1, h2, h3, h4, h5, h6, h7⟩
  dsimp only at h1 h2 h3 h4 h5 h6 h7 ⊢
  have xc := h4.xl
  have hok := Pick.at hs (i : Int).toNat
  have hfit := law_fit _ hok
  have hF := fitP_Fit hok
  generalize fitP (script.getD (i : Int).toNat default) = p at hfit hF
  obtain ⟨k', c', hk', e1, e2, hL, hP⟩ := law_play h4 (by omega) p hF
  have xc' := hL.xl
  have hS := play_ser h4 (by omega) hF h5 rfl
  rw [← e1, ← e2] at hS
  generalize (playC (coreOps tab2 (1 + wk.tmod 6)) c.M c.S p).r = r at hP hS
  generalize (playC (coreOps tab2 (1 + wk.tmod 6)) c.M c.S p).e = er at hP hS
  obtain ⟨pk, pw, po, pp, pky, pn, pt⟩ := p
  have hkk := hF.kind
  have hoo := hF.op
  dsimp only at hkk hoo
  clear e1 e2 hF hok
  obtain ⟨dn, ⟨re, rg, rl, rw', rs', rn⟩⟩ := r
  by_cases hi : i < script.length ∧ i < 400
  ·obtain ⟨n', hn'⟩ : ∃ n', n' = wantC ⟨pk, pw, po, pp, pky, pn, pt⟩ er n := ⟨_, rfl⟩
   have hn2 : n' = if pk = 1 ∧ po = 2 ∧ er = 0 then n + 1 else n := hn'
   rw [← hn'] at hS
   clear hn'
   dsimp only at hS
   have hnb : 0 ≤ n' ∧ n' ≤ ((i + 1 : Nat) : Int) := by split at hn2 <;> omega
   by_cases hq : pk = 1 ∧ po = 2 ∧ er = 0
   ·rw [if_pos hq] at hn2
    subst hn2
    rcases hS with ⟨s0, hS⟩ | ⟨s0, s1, s2, s3, hS⟩
    ·(repeat' (first | ((first | refine Wp.any TC_mixed rfl ?_ | (with_reducible first | refine Go.mk ?_ | apply Eff1.of | refine Ov.ok zO ?_ | refine And.intro zC ?_ | refine CallStop.pure (hfit) rfl rfl ?_)); conv => whnf) | ((refine CallStop.fn (hP) [0,1,2,3,4,5,6,7,8,9,10,11,12,13] rfl rfl rfl rfl rfl ?ha ?hh ?_); (case ha => exact zA); (case hh => exact zz2); (conv => whnf)) | ((refine ways (fun hc => ?_) (fun hc => ?_)) <;> (try simp only [wz9] at hc) <;> (try (exfalso; omega)) <;> (conv => whnf))))
     all_goals first
      | exact .b rfl
      | (refine ⟨(i + 1, k', c', L, _), ⟨by dsimp only; omega, by dsimp only; omega, by dsimp only; omega, hL, hS, by dsimp only; omega, hnb⟩, by dsimp only; omega, ?_⟩; dsimp only; (refine Le.by [0,1,2,3,16,17,18,19,20,21,22,23,24,25,14] rfl rfl rfl rfl ?_ ?_ <;> ((conv => whnf); repeat' (first | exact trivial | exact law_argR (by decide) (fun l hl => by rcases l with _ | _ | _ | _ | l <;> first | exact ⟨Nat.le_of_ble_eq_true rfl, rfl⟩ | exact ⟨Nat.le_of_ble_eq_true rfl, rfl, rfl⟩ | omega) (fun q hq => by rcases q with _ | _ | _ | _ | _ | _ | _ | _ | _ | q <;> first | exact ⟨Nat.le_of_ble_eq_true rfl, rfl⟩ | omega) | exact ArgLe.rfl rfl | exact ArgLe.ptr rfl | exact ArgLe.sl rfl | exact ⟨rfl, rfl, rfl⟩ | exact ⟨rfl, Nat.le_of_ble_eq_true rfl⟩ | exact x_argRA (by assumption) rfl | exact fun i hi => rfl | ((with_reducible refine And.intro ?_ ?_) <;> (conv => whnf))))); done)
    ·have hH := has_R L rs' (by omega)
     rw [decide_eq_false s2] at hH
     obtain rfl : rg = true := s3
     have hlen : (L ++ [rs']).length = L.length + 1 := by simp
     (repeat' (first | ((first | refine Wp.any TC_mixed rfl ?_ | (with_reducible first | refine Go.mk ?_ | apply Eff1.of | refine Ov.ok zO ?_ | refine And.intro zC ?_)); conv => whnf) | ((with_reducible refine And.intro ?hb ?_); (case hb => exact zz9); (conv => whnf)) | ((with_reducible refine CallStop.pure (hfit) rfl rfl ?_); conv => whnf) | ((refine CallStop.fn (hP) [0,1,2,3,4,5,6,7,8,9,10,11,12,13] rfl rfl rfl rfl rfl ?ha ?hh ?_); (case ha => exact zA); (case hh => exact zz2); (conv => whnf)) | ((refine CallStop.fn (hH) [14] rfl rfl rfl rfl rfl ?ha ?hh ?_); (case ha => exact zA); (case hh => exact zH); (conv => whnf)) | ((refine ways (fun hc => ?_) (fun hc => ?_)) <;> (try simp only [wz9] at hc) <;> (try (exfalso; omega)) <;> (conv => whnf))))
     all_goals first
      | exact .b rfl
      | (refine ⟨(i + 1, k', c', L ++ [rs'], _), ⟨by dsimp only; omega, by dsimp only; omega, by dsimp only; omega, hL, hS, by dsimp only; omega, hnb⟩, by dsimp only; omega, ?_⟩; dsimp only [rowOf]; rw [hlen]; (refine Le.by [0,1,2,3,16,17,18,19,20,21,22,23,24,25,28] rfl rfl rfl rfl ?_ ?_ <;> ((conv => whnf); repeat' (first | exact trivial | exact law_argR (by decide) (fun l hl => by rcases l with _ | _ | _ | _ | l <;> first | exact ⟨Nat.le_of_ble_eq_true rfl, rfl⟩ | exact ⟨Nat.le_of_ble_eq_true rfl, rfl, rfl⟩ | omega) (fun q hq => by rcases q with _ | _ | _ | _ | _ | _ | _ | _ | _ | q <;> first | exact ⟨Nat.le_of_ble_eq_true rfl, rfl⟩ | omega) | exact ArgLe.rfl rfl | exact ArgLe.ptr rfl | exact ArgLe.sl rfl | exact ⟨rfl, rfl, rfl⟩ | exact ⟨rfl, Nat.le_of_ble_eq_true rfl⟩ | exact x_argRA (by assumption) rfl | exact fun i hi => rfl | ((with_reducible refine And.intro ?_ ?_) <;> (conv => whnf))))); all_goals exact app_rowI _ _; done)
   ·rw [if_neg hq] at hn2
    subst hn2
    rcases hS with ⟨s0, hS⟩ | ⟨s0, s1, s2, s3, hS⟩
    ·(repeat' (first | ((first | refine Wp.any TC_mixed rfl ?_ | (with_reducible first | refine Go.mk ?_ | apply Eff1.of | refine Ov.ok zO ?_ | refine And.intro zC ?_ | refine CallStop.pure (hfit) rfl rfl ?_)); conv => whnf) | ((refine CallStop.fn (hP) [0,1,2,3,4,5,6,7,8,9,10,11,12,13] rfl rfl rfl rfl rfl ?ha ?hh ?_); (case ha => exact zA); (case hh => exact zz2); (conv => whnf)) | ((refine ways (fun hc => ?_) (fun hc => ?_)) <;> (try simp only [wz9] at hc) <;> (try (exfalso; omega)) <;> (conv => whnf))))
     all_goals first
      | exact .b rfl
      | (refine ⟨(i + 1, k', c', L, _), ⟨by dsimp only; omega, by dsimp only; omega, by dsimp only; omega, hL, hS, by dsimp only; omega, hnb⟩, by dsimp only; omega, ?_⟩; dsimp only; (refine Le.by [0,1,2,3,16,17,18,19,20,21,22,23,24,25,14] rfl rfl rfl rfl ?_ ?_ <;> ((conv => whnf); repeat' (first | exact trivial | exact law_argR (by decide) (fun l hl => by rcases l with _ | _ | _ | _ | l <;> first | exact ⟨Nat.le_of_ble_eq_true rfl, rfl⟩ | exact ⟨Nat.le_of_ble_eq_true rfl, rfl, rfl⟩ | omega) (fun q hq => by rcases q with _ | _ | _ | _ | _ | _ | _ | _ | _ | q <;> first | exact ⟨Nat.le_of_ble_eq_true rfl, rfl⟩ | omega) | exact ArgLe.rfl rfl | exact ArgLe.ptr rfl | exact ArgLe.sl rfl | exact ⟨rfl, rfl, rfl⟩ | exact ⟨rfl, Nat.le_of_ble_eq_true rfl⟩ | exact x_argRA (by assumption) rfl | exact fun i hi => rfl | ((with_reducible refine And.intro ?_ ?_) <;> (conv => whnf))))); done)
    ·have hH := has_R L rs' (by omega)
     rw [decide_eq_false s2] at hH
     obtain rfl : rg = true := s3
     have hlen : (L ++ [rs']).length = L.length + 1 := by simp
     (repeat' (first | ((first | refine Wp.any TC_mixed rfl ?_ | (with_reducible first | refine Go.mk ?_ | apply Eff1.of | refine Ov.ok zO ?_ | refine And.intro zC ?_)); conv => whnf) | ((with_reducible refine And.intro ?hb ?_); (case hb => exact zz9); (conv => whnf)) | ((with_reducible refine CallStop.pure (hfit) rfl rfl ?_); conv => whnf) | ((refine CallStop.fn (hP) [0,1,2,3,4,5,6,7,8,9,10,11,12,13] rfl rfl rfl rfl rfl ?ha ?hh ?_); (case ha => exact zA); (case hh => exact zz2); (conv => whnf)) | ((refine CallStop.fn (hH) [14] rfl rfl rfl rfl rfl ?ha ?hh ?_); (case ha => exact zA); (case hh => exact zH); (conv => whnf)) | ((refine ways (fun hc => ?_) (fun hc => ?_)) <;> (try simp only [wz9] at hc) <;> (try (exfalso; omega)) <;> (conv => whnf))))
     all_goals first
      | exact .b rfl
      | (refine ⟨(i + 1, k', c', L ++ [rs'], _), ⟨by dsimp only; omega, by dsimp only; omega, by dsimp only; omega, hL, hS, by dsimp only; omega, hnb⟩, by dsimp only; omega, ?_⟩; dsimp only [rowOf]; rw [hlen]; (refine Le.by [0,1,2,3,16,17,18,19,20,21,22,23,24,25,28] rfl rfl rfl rfl ?_ ?_ <;> ((conv => whnf); repeat' (first | exact trivial | exact law_argR (by decide) (fun l hl => by rcases l with _ | _ | _ | _ | l <;> first | exact ⟨Nat.le_of_ble_eq_true rfl, rfl⟩ | exact ⟨Nat.le_of_ble_eq_true rfl, rfl, rfl⟩ | omega) (fun q hq => by rcases q with _ | _ | _ | _ | _ | _ | _ | _ | _ | q <;> first | exact ⟨Nat.le_of_ble_eq_true rfl, rfl⟩ | omega) | exact ArgLe.rfl rfl | exact ArgLe.ptr rfl | exact ArgLe.sl rfl | exact ⟨rfl, rfl, rfl⟩ | exact ⟨rfl, Nat.le_of_ble_eq_true rfl⟩ | exact x_argRA (by assumption) rfl | exact fun i hi => rfl | ((with_reducible refine And.intro ?_ ?_) <;> (conv => whnf))))); all_goals exact app_rowI _ _; done)
  ·(repeat' (first | ((first | refine Wp.any TC_mixed rfl ?_ | (with_reducible first | refine Go.mk ?_ | apply Eff1.of | refine And.intro zC ?_)); conv => whnf) | ((refine ways (fun hc => ?_) (fun hc => ?_)) <;> (try simp only [wz9] at hc) <;> (try (exfalso; omega)) <;> (conv => whnf))))
   all_goals exact .b rfl
end Go.Proofs.YtplpofmnhcclbaaGreat
