/- Parts of the proof, one behind the other: Cf1. Lemmas and contracts of functions; no condition of its own. -/
import Derived.Test.YtplpofmnhcclbaaGreatM21
set_option linter.unusedVariables false
set_option linter.unusedSimpArgs false
set_option maxHeartbeats 1000000
namespace Go.Proofs.YtplpofmnhcclbaaGreat
open Go.RowKit
set_option maxRecDepth 100000
set_option maxHeartbeats 8000000
theorem CoreAlone_holds (wk : Int) (b0 : 0 ≤ wk) (b1 : wk ≤ 255) (script : List Pick) (hs : ∀ a ∈ script, a.ok) (op pol : Int) (key : List Int) (m : Int) (hl : Pick.ok ⟨0, 0, op, pol, key, m, 0⟩) : Pure TC 4 [.i .u8 wk, .d (slOf 7 Pick.D script), callS op pol key m] (.b true) := by
 refine Pure.lens (.mk Tryz.func4 rfl rfl) fun hlen => ?_
 have hl0 := hlen script.length (by simp [lensOf, slOf])
 clear hlen
 have hm : wk.tmod 6 = wk % 6 := Int.tmod_eq_emod_of_nonneg b0
 have hroom : 1 ≤ 1 + wk.tmod 6 ∧ 1 + wk.tmod 6 ≤ 4096 := by omega
 have hN := core_New (ps := tab2) (room := 1 + wk.tmod 6) (tab2_new hroom)
 have x0 : ∀ i j, SV.Lt 1 ((xs0 i).f j) := fun _ _ => .any
 have L0 := law0 hroom
 refine Pure.mk' Tryz.func4 rfl rfl zN ?_
 (repeat' (first | ((first | refine Wp.any TC_mixed rfl ?_ | (with_reducible first | refine Go.mk ?_ | apply Eff1.of | refine Ov.ok zO ?_ | refine And.intro zC ?_ | refine CallStop.pure (awake_T) rfl rfl ?_ | refine CallStop.pure (law_table) rfl rfl ?_)); conv => whnf) | ((refine CallStop.fn (hN) [] rfl rfl rfl rfl rfl ?ha ?hh ?_); (case ha => exact zA); (case hh => exact zH); (conv => whnf))))
 refine Wp.loopP (ι := Nat × Nat × Cst)
  (fun k => k.1 ≤ script.length ∧ k.1 ≤ 300 ∧ k.2.1 ≤ k.1 ∧ LawC tab2 (1 + wk.tmod 6) k.2.1 k.2.2.M k.2.2.S k.2.2.xs k.2.2.nl ((k.2.1 : Int) + 1) ∧ ∀ j, 5 ≤ j → (k.2.2.S j).s = .none)
  (fun k => ⟨⟨Tryz.f4.ntmps, 0⟩, 15, [(5, .ptr 14 0), (7, .ptr 0 0), (32, .d (slOf 7 Pick.D script)), (33, .i .i64 script.length), (34, .i .i64 k.1)], coreH tab2 (1 + wk.tmod 6) (gOf (coreOps tab2 (1 + wk.tmod 6)) 4 k.2.2.S) k.2.2.M k.2.2.xs k.2.2.nl k.2.2.f ((k.2.1 : Int) + 1) ++ [(14, some (.cells [.i .u8 op, .i .i64 pol, .d (slOf 1 (encI .u8) key), .i .i64 m]))]⟩)
  (fun k => script.length - k.1) (0, 0, cst0)
  ⟨Nat.zero_le _, Nat.zero_le _, Nat.le_refl _, L0, fun _ _ => rfl⟩ ?_ ?_
 ·(refine Le.by [1,2,3,4,5,6,7,8,9,10,11,12,13,14,0] rfl rfl rfl rfl ?_ ?_ <;> ((conv => whnf); repeat' (first | exact trivial | exact law_argR (by decide) (fun l hl => by rcases l with _ | _ | _ | _ | l <;> first | exact ⟨Nat.le_of_ble_eq_true rfl, rfl⟩ | exact ⟨Nat.le_of_ble_eq_true rfl, rfl, rfl⟩ | omega) (fun q hq => by rcases q with _ | _ | _ | _ | _ | _ | _ | _ | _ | q <;> first | exact ⟨Nat.le_of_ble_eq_true rfl, rfl⟩ | omega) | exact ArgLe.rfl rfl | exact ArgLe.ptr rfl | exact ArgLe.sl rfl | exact ⟨rfl, rfl, rfl⟩ | exact ⟨rfl, Nat.le_of_ble_eq_true rfl⟩ | exact fun i hi => rfl | ((with_reducible refine And.intro ?_ ?_) <;> (conv => whnf)))))
  all_goals exact fun j hj => absurd hj (Nat.not_lt_zero j)
 ·rintro ⟨i, k, c⟩ ⟨h1, h2, h3, h4, h5⟩
  dsimp only at h1 h2 h3 h4 h5 ⊢
  have xc := h4.xl
  by_cases hi : i < script.length ∧ i < 300
  ·have hok := Pick.at hs (i : Int).toNat
   have hfit := law_fit _ hok
   have hF := fitP_Fit hok
   generalize fitP (script.getD (i : Int).toNat default) = p at hfit hF
   obtain ⟨k', c', hk', e1, e2, hL, hP⟩ := law_play h4 (by omega) p hF
   have xc' := hL.xl
   have hoth : ∀ j, 5 ≤ j → (c'.S j).s = .none := fun j hj => by rw [e2, play_oth hF j hj]; exact h5 j hj
   generalize (playC (coreOps tab2 (1 + wk.tmod 6)) c.M c.S p).r = r at hP
   generalize (playC (coreOps tab2 (1 + wk.tmod 6)) c.M c.S p).e = er at hP
   clear e1 e2 hF hok
   (repeat' (first | ((first | refine Wp.any TC_mixed rfl ?_ | (with_reducible first | refine Go.mk ?_ | apply Eff1.of | refine Ov.ok zO ?_ | refine And.intro zC ?_ | refine CallStop.pure (hfit) rfl rfl ?_)); conv => whnf) | ((refine CallStop.fn (hP) [0,1,2,3,4,5,6,7,8,9,10,11,12,13] rfl rfl rfl rfl rfl ?ha ?hh ?_); (case ha => exact zA); (case hh => exact zz2); (conv => whnf)) | ((refine ways (fun hc => ?_) (fun hc => ?_)) <;> (try simp only [wz9] at hc) <;> (try (exfalso; omega)) <;> (conv => whnf))))
   refine ⟨(i + 1, k', c'), ⟨by dsimp only; omega, by dsimp only; omega, by dsimp only; omega, hL, hoth⟩, by dsimp only; omega, ?_⟩
   dsimp only
   (refine Le.by [0,1,2,3,16,17,18,19,20,21,22,23,24,25,14] rfl rfl rfl rfl ?_ ?_ <;> ((conv => whnf); repeat' (first | exact trivial | exact law_argR (by decide) (fun l hl => by rcases l with _ | _ | _ | _ | l <;> first | exact ⟨Nat.le_of_ble_eq_true rfl, rfl⟩ | exact ⟨Nat.le_of_ble_eq_true rfl, rfl, rfl⟩ | omega) (fun q hq => by rcases q with _ | _ | _ | _ | _ | _ | _ | _ | _ | q <;> first | exact ⟨Nat.le_of_ble_eq_true rfl, rfl⟩ | omega) | exact ArgLe.rfl rfl | exact ArgLe.ptr rfl | exact ArgLe.sl rfl | exact ⟨rfl, rfl, rfl⟩ | exact ⟨rfl, Nat.le_of_ble_eq_true rfl⟩ | exact x_argRA (by assumption) rfl | exact fun i hi => rfl | ((with_reducible refine And.intro ?_ ?_) <;> (conv => whnf)))))
  ·have hfit := law_fit _ hl
   have hF := fitP_Fit hl
   generalize fitP ⟨0, 0, op, pol, key, m, 0⟩ = p at hfit hF
   obtain ⟨pk, pw, po, pp, pky, pn, pt⟩ := p
   obtain ⟨xs', n, tr, rs, hn, A, hRun⟩ := law_alone h4 (by omega) (w := 9) (.inr rfl) (h5 9 (by omega)) po pp pky pn hF.chk (by have := hF.len; dsimp only at this; omega) hF.kx 512 (by decide) (by decide)
   have hE := A.ends
   have hLn := A.law n (Nat.le_refl _)
   have xn := hLn.xl
   have hPd := law_Pending (f := (tr n).f) hLn (by omega) (w := 9) (by decide)
   rw [isC_none hE] at hPd
   rw [show ((k : Int) + n + 1) = (k : Int) + n + 1 from rfl] at hRun
   have hn0 := A.pos
   generalize tr n = cn at hRun hPd xn
   generalize rs (n - 1) = r at hRun
   clear A hLn hE hs hN
   by_cases hi1 : i < script.length
   ·(repeat' (first | ((first | refine Wp.any TC_mixed rfl ?_ | (with_reducible first | refine Go.mk ?_ | apply Eff1.of | refine And.intro zC ?_ | refine CallStop.pure (hfit) rfl rfl ?_)); conv => whnf) | ((refine CallStop.fn (hRun) [0,1,2,3,4,5,6,7,8,9,10,11,12,13] rfl rfl rfl rfl rfl ?ha ?hh ?_); (case ha => exact zA); (case hh => exact zz2); (conv => whnf)) | ((refine CallStop.fn (hPd) [0,1,2,3,17,18,19,20,21,22,23,24,25,26] rfl rfl rfl rfl rfl ?ha ?hh ?_); (case ha => exact zA); (case hh => exact zz2); (conv => whnf)) | ((refine ways (fun hc => ?_) (fun hc => ?_)) <;> (try simp only [wz9] at hc) <;> (try (exfalso; omega)) <;> (conv => whnf))))
    all_goals exact .b (by decide)
   ·(repeat' (first | ((first | refine Wp.any TC_mixed rfl ?_ | (with_reducible first | refine Go.mk ?_ | apply Eff1.of | refine CallStop.pure (hfit) rfl rfl ?_)); conv => whnf) | ((refine CallStop.fn (hRun) [0,1,2,3,4,5,6,7,8,9,10,11,12,13] rfl rfl rfl rfl rfl ?ha ?hh ?_); (case ha => exact zA); (case hh => exact zz2); (conv => whnf)) | ((refine CallStop.fn (hPd) [0,1,2,3,16,17,18,19,20,21,22,23,24,25] rfl rfl rfl rfl rfl ?ha ?hh ?_); (case ha => exact zA); (case hh => exact zz2); (conv => whnf)) | ((refine ways (fun hc => ?_) (fun hc => ?_)) <;> (try simp only [wz9] at hc) <;> (try (exfalso; omega)) <;> (conv => whnf))))
    all_goals exact .b (by decide)
end Go.Proofs.YtplpofmnhcclbaaGreat
