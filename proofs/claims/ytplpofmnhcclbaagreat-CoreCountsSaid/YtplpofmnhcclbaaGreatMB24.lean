/- Parts of the proof, one behind the other: Cu2. Lemmas and contracts of functions; no condition of its own. -/
import Derived.Test.YtplpofmnhcclbaaGreatMB23
set_option linter.unusedVariables false
set_option linter.unusedSimpArgs false
set_option maxHeartbeats 1000000
namespace Go.Proofs.YtplpofmnhcclbaaGreat
open Go.RowKit
set_option maxRecDepth 100000
set_option maxHeartbeats 16000000
theorem owes_zero {S : Nat → Core.Wk} (h : ∀ j, (S j).s = .none) : (Core.sumI 64 fun i => Core.owes (S i).x (S i).s) = 0 := by
 have : (fun i => Core.owes (S i).x (S i).s) = fun _ => 0 := funext fun i => by rw [h]; rfl
 rw [this, Core.sumI_zero]
theorem LawC.cnt0 {ps : List Pol} {room : Int} {k : Nat} {M : Core.Mc} {S : Nat → Core.Wk} {xs : Nat → XB} {nl : Nat} {cnt : Int} (h : LawC ps room k M S xs nl cnt) (hn : ∀ j, (S j).s = .none) : M.W 32 = ((cellsC ps room M).length : Int) := by
 have h1 := h.all.cnt
 rw [owes_zero hn] at h1
 rw [cells_len]; omega
theorem CoreCounts_holds (wk : Int) (b0 : 0 ≤ wk) (b1 : wk ≤ 255) (script : List Pick) (hs : ∀ a ∈ script, a.ok) : Pure TC 8 [.i .u8 wk, .d (slOf 7 Pick.D script)] (.b true) := by
 refine Pure.lens (.mk Tryz.func8 rfl rfl) fun hlen => ?_
 have hl0 := hlen script.length (by simp [lensOf, slOf])
 clear hlen
 have hm : wk.tmod 6 = wk % 6 := Int.tmod_eq_emod_of_nonneg b0
 have hroom : 1 ≤ 1 + wk.tmod 6 ∧ 1 + wk.tmod 6 ≤ 4096 := by omega
 have hr12 : 1 + wk.tmod 6 ≤ 12 := by omega
 have hN := core_New (ps := tab2) (room := 1 + wk.tmod 6) (tab2_new hroom)
 have x0 : ∀ i j, SV.Lt 1 ((xs0 i).f j) := fun _ _ => .any
 have L0 := law0 hroom
 refine Pure.mk' Tryz.func8 rfl rfl zN ?_
 (repeat' (first | ((first | refine Wp.any TC_mixed rfl ?_ | (with_reducible first | refine Go.mk ?_ | apply Eff1.of)); conv => whnf) | with_reducible exact rfl | ((with_reducible refine Ov.ok zO ?_); conv => whnf) | (with_reducible refine Ov.sh1 (by with_unfolding_all exact rfl) ?_) | ((first | with_reducible refine Ov.quo (by omega) (by omega) (by omega) (fun _ _ => ?_) | refine zV ?_ | with_reducible refine And.intro zC ?_); conv => whnf) | ((with_reducible refine And.intro ?hb ?_); (case hb => exact zz3); (conv => whnf)) | ((refine DApp.a rfl rfl rfl rfl rfl rfl ?hb ?_); (case hb => exact zB); (conv => whnf)) | ((refine DApp.b rfl rfl rfl rfl rfl rfl rfl rfl ?hb ?ho ?_); (case hb => exact zB); (case ho => omega); (conv => whnf)) | ((refine DApp.c rfl rfl rfl rfl rfl ?hb ?_); (case hb => exact zB); (conv => whnf)) | ((refine DApp.d rfl rfl rfl rfl rfl rfl ?hb ?ho ?_); (case hb => exact zB); (case ho => omega); (conv => whnf)) | ((with_reducible refine nil_no (by omega) ?_); (conv => whnf)) | ((with_reducible refine nil_any ?_ (fun hn0 => ?_)) <;> (conv => whnf)) | ((with_reducible first | refine CallStop.pure (awake_T) rfl rfl ?_ | refine DCall.pure (awake_T) rfl rfl ?_ | refine CallStop.pure (law_table) rfl rfl ?_ | refine DCall.pure (law_table) rfl rfl ?_); conv => whnf) | ((refine CallStop.fn (hN) [] rfl rfl rfl rfl rfl ?ha ?hh ?_); (case ha => exact zA); (case hh => exact zH); (conv => whnf)) | ((refine DCall.fn (hN) [] [] rfl rfl rfl rfl rfl ?ha ?hh ?hs ?_); (case ha => exact zA); (case hh => exact zH); (case hs => exact zK); (conv => whnf)) | ((refine DCall.new (hN) [] [] rfl rfl rfl rfl rfl rfl ?ha ?hh ?hs ?_); (case ha => exact zA); (case hh => exact zH); (case hs => exact zK); (conv => whnf)) | ((refine ways (fun hc => ?_) (fun hc => ?_)) <;> (try simp only [wz9] at hc) <;> (try (exfalso; omega)) <;> (conv => whnf))))
 refine Wp.loopP (ι := Nat × Nat × Cst)
  (fun k => k.1 ≤ script.length ∧ k.1 ≤ 400 ∧ k.2.1 ≤ k.1 ∧ LawC tab2 (1 + wk.tmod 6) k.2.1 k.2.2.M k.2.2.S k.2.2.xs k.2.2.nl ((k.2.1 : Int) + 1) ∧ (∃ A R L n, PmI (1 + wk.tmod 6) k.2.2.M k.2.2.S A R L n) ∧ ∀ j, 5 ≤ j → (k.2.2.S j).s = .none)
  (fun k => ⟨⟨Tryz.f8.ntmps, 0⟩, 14, [(5, .i .i64 (1 + wk.tmod 6)), (6, .ptr 0 0), (36, .d (slOf 7 Pick.D script)), (37, .i .i64 script.length), (38, .i .i64 k.1)], coreH tab2 (1 + wk.tmod 6) (gOf (coreOps tab2 (1 + wk.tmod 6)) 4 k.2.2.S) k.2.2.M k.2.2.xs k.2.2.nl k.2.2.f ((k.2.1 : Int) + 1)⟩)
  (fun k => script.length - k.1) (0, 0, cst0)
  ⟨Nat.zero_le _, Nat.zero_le _, Nat.le_refl _, L0, ⟨0, [], [], 0, .zero _⟩, fun _ _ => rfl⟩ ?_ ?_
 ·(refine Le.by [0,1,2,3,4,5,6,7,8,9,10,11,12,13] rfl rfl rfl rfl ?_ ?_ <;> ((conv => whnf); repeat' (first | exact trivial | exact law_argR (by decide) (fun l hl => by rcases l with _ | _ | _ | _ | l <;> first | exact ⟨Nat.le_of_ble_eq_true rfl, rfl⟩ | exact ⟨Nat.le_of_ble_eq_true rfl, rfl, rfl⟩ | omega) (fun q hq => by rcases q with _ | _ | _ | _ | _ | _ | _ | _ | _ | q <;> first | exact ⟨Nat.le_of_ble_eq_true rfl, rfl⟩ | omega) | exact law_argI (by decide) (by decide) (fun l hl => by rcases l with _ | _ | _ | _ | l <;> first | exact ⟨Nat.le_of_ble_eq_true rfl, rfl⟩ | exact ⟨Nat.le_of_ble_eq_true rfl, rfl, rfl⟩ | omega) (fun q hq => by rcases q with _ | _ | _ | _ | _ | _ | _ | _ | _ | q <;> first | exact ⟨Nat.le_of_ble_eq_true rfl, rfl⟩ | omega) | exact ArgLe.rfl rfl | exact ArgLe.ptr rfl | exact ArgLe.sl rfl | exact ⟨rfl, rfl, rfl⟩ | exact ⟨rfl, Nat.le_of_ble_eq_true rfl⟩ | exact x_argRA (by assumption) rfl | exact x_argA (by assumption) | exact fun i hi => rfl | ((with_reducible refine And.intro ?_ ?_) <;> (conv => whnf)))))
 ·rintro ⟨i, k, c⟩ ⟨h1, h2, h3, h4, ⟨A, R, L, n, h5⟩, h6⟩
  dsimp only at h1 h2 h3 h4 h5 h6 ⊢
  have xc := h4.xl
  by_cases hi : i < script.length ∧ i < 400
  ·have hok := Pick.at hs (i : Int).toNat
   have hfit := law_fit _ hok
   have hF := fitP_Fit hok
   generalize fitP (script.getD (i : Int).toNat default) = p at hfit hF
   obtain ⟨k', c', hk', e1, e2, hL, hP⟩ := law_play h4 (by omega) p hF
   have xc' := hL.xl
   have hoth : ∀ j, 5 ≤ j → (c'.S j).s = .none := fun j hj => by rw [e2, play_oth hF j hj]; exact h6 j hj
   have hpm := play_pmi h4 (by omega) hF h5 rfl
   have hfull := play_full h4 h5 (p := p) rfl
   rw [← e1, ← e2] at hpm
   rw [← e1] at hfull
   generalize (playC (coreOps tab2 (1 + wk.tmod 6)) c.M c.S p).r = r at hP hfull hpm
   generalize (playC (coreOps tab2 (1 + wk.tmod 6)) c.M c.S p).e = er at hP hpm
   have hC1 := law_Cells (f := c.f) h4 (by omega) hr12
   have hC2 := law_Count (f := c.f) h4 (by omega)
   have hC3 := law_Cells (f := c'.f) hL (by omega) hr12
   have hC4 := law_Count (f := c'.f) hL (by omega)
   have hP0 := law_Pending (f := c'.f) hL (by omega) (w := 0) (by decide)
   have hP1 := law_Pending (f := c'.f) hL (by omega) (w := 1) (by decide)
   have hP2 := law_Pending (f := c'.f) hL (by omega) (w := 2) (by decide)
   have hP3 := law_Pending (f := c'.f) hL (by omega) (w := 3) (by decide)
   have hP4 := law_Pending (f := c'.f) hL (by omega) (w := 4) (by decide)
   have f1 : ((cellsC tab2 (1 + wk.tmod 6) c'.M).length : Int) ≤ c'.M.W 32 := by rw [cells_len]; exact hL.all.ge
   have f2 : c'.M.W 32 ≤ 1 + wk.tmod 6 := hL.all.room
   have f3 : isC (c'.S 0).s = false → isC (c'.S 1).s = false → isC (c'.S 2).s = false → isC (c'.S 3).s = false → isC (c'.S 4).s = false → c'.M.W 32 = ((cellsC tab2 (1 + wk.tmod 6) c'.M).length : Int) := fun a0 a1 a2 a3 a4 => hL.cnt0 fun j => by
    by_cases hj : 5 ≤ j
    ·exact hoth j hj
    ·have : j = 0 ∨ j = 1 ∨ j = 2 ∨ j = 3 ∨ j = 4 := by omega
     rcases this with rfl | rfl | rfl | rfl | rfl
     ·exact isC_no a0
     ·exact isC_no a1
     ·exact isC_no a2
     ·exact isC_no a3
     ·exact isC_no a4
   generalize isC (c'.S 0).s = d0 at hP0 f3
   generalize isC (c'.S 1).s = d1 at hP1 f3
   generalize isC (c'.S 2).s = d2 at hP2 f3
   generalize isC (c'.S 3).s = d3 at hP3 f3
   generalize isC (c'.S 4).s = d4 at hP4 f3
   obtain ⟨dn, ⟨re, rg, rl, rw', rs', rn⟩⟩ := r
   have hW := h4.c32
   have hW' := hL.c32
   have hSm : Pure TC 29 [.d (slOf 4 Cel.D (cellsC tab2 (1 + wk.tmod 6) c'.M)), .d (slOf 4 Cel.D (cellsC tab2 (1 + wk.tmod 6) c.M))] (.b (decide (cellsC tab2 (1 + wk.tmod 6) c'.M = cellsC tab2 (1 + wk.tmod 6) c.M))) := r16_Same _ _
   have g1 : re = 10 → c.M.W 32 = 1 + wk.tmod 6 := fun e => (hfull e).1
   have g2 : re = 10 → c'.M.W 32 = c.M.W 32 := fun e => by rw [(hfull e).2]
   have g3 : re = 10 → decide (cellsC tab2 (1 + wk.tmod 6) c'.M = cellsC tab2 (1 + wk.tmod 6) c.M) = true := fun e => decide_eq_true (by rw [(hfull e).2])
   generalize decide (cellsC tab2 (1 + wk.tmod 6) c'.M = cellsC tab2 (1 + wk.tmod 6) c.M) = sm at hSm g3
   generalize cellsC tab2 (1 + wk.tmod 6) c'.M = l' at *
   generalize cellsC tab2 (1 + wk.tmod 6) c.M = l0 at *
   clear hfull e1 e2 hF hok
   (repeat' (first | ((first | refine Wp.any TC_mixed rfl ?_ | (with_reducible first | refine Go.mk ?_ | apply Eff1.of)); conv => whnf) | with_reducible exact rfl | ((with_reducible refine Ov.ok zO ?_); conv => whnf) | (with_reducible refine Ov.sh1 (by with_unfolding_all exact rfl) ?_) | ((first | with_reducible refine Ov.quo (by omega) (by omega) (by omega) (fun _ _ => ?_) | refine zV ?_ | with_reducible refine And.intro zC ?_); conv => whnf) | ((with_reducible refine And.intro ?hb ?_); (case hb => exact zz3); (conv => whnf)) | ((refine DApp.a rfl rfl rfl rfl rfl rfl ?hb ?_); (case hb => exact zB); (conv => whnf)) | ((refine DApp.b rfl rfl rfl rfl rfl rfl rfl rfl ?hb ?ho ?_); (case hb => exact zB); (case ho => omega); (conv => whnf)) | ((refine DApp.c rfl rfl rfl rfl rfl ?hb ?_); (case hb => exact zB); (conv => whnf)) | ((refine DApp.d rfl rfl rfl rfl rfl rfl ?hb ?ho ?_); (case hb => exact zB); (case ho => omega); (conv => whnf)) | ((with_reducible refine nil_no (by omega) ?_); (conv => whnf)) | ((with_reducible refine nil_any ?_ (fun hn0 => ?_)) <;> (conv => whnf)) | ((with_reducible first | refine CallStop.pure (hfit) rfl rfl ?_ | refine DCall.pure (hfit) rfl rfl ?_ | refine CallStop.pure (hSm) rfl rfl ?_ | refine DCall.pure (hSm) rfl rfl ?_); conv => whnf) | ((refine CallStop.fn (hC1) [0,1,2,3,4,5,6,7,8,9,10,11,12,13] rfl rfl rfl rfl rfl ?ha ?hh ?_); (case ha => exact zA); (case hh => exact zz9); (conv => whnf)) | ((refine CallStop.fn (hC2) [0,1,2,3,4,5,6,7,8,9,10,11,12,13] rfl rfl rfl rfl rfl ?ha ?hh ?_); (case ha => exact zA); (case hh => exact zz9); (conv => whnf)) | ((refine CallStop.fn (hP) [0,1,2,3,4,5,6,7,8,9,10,11,12,13] rfl rfl rfl rfl rfl ?ha ?hh ?_); (case ha => exact zA); (case hh => exact zz9); (conv => whnf)) | ((refine CallStop.fn (hC3) [0,1,2,3,15,16,17,18,19,20,21,22,23,24] rfl rfl rfl rfl rfl ?ha ?hh ?_); (case ha => exact zA); (case hh => exact zz9); (conv => whnf)) | ((refine CallStop.fn (hC4) [0,1,2,3,15,16,17,18,19,20,21,22,23,24] rfl rfl rfl rfl rfl ?ha ?hh ?_); (case ha => exact zA); (case hh => exact zz9); (conv => whnf)) | ((with_reducible refine Wp.loopN 7 ?_); conv => whnf) | ((refine CallStop.fn (hP0) [0,1,2,3,15,16,17,18,19,20,21,22,23,24] rfl rfl rfl rfl rfl ?ha ?hh ?_); (case ha => exact zA); (case hh => exact zz9); (conv => whnf)) | ((refine CallStop.fn (hP1) [0,1,2,3,15,16,17,18,19,20,21,22,23,24] rfl rfl rfl rfl rfl ?ha ?hh ?_); (case ha => exact zA); (case hh => exact zz9); (conv => whnf)) | ((refine CallStop.fn (hP2) [0,1,2,3,15,16,17,18,19,20,21,22,23,24] rfl rfl rfl rfl rfl ?ha ?hh ?_); (case ha => exact zA); (case hh => exact zz9); (conv => whnf)) | ((refine CallStop.fn (hP3) [0,1,2,3,15,16,17,18,19,20,21,22,23,24] rfl rfl rfl rfl rfl ?ha ?hh ?_); (case ha => exact zA); (case hh => exact zz9); (conv => whnf)) | ((refine CallStop.fn (hP4) [0,1,2,3,15,16,17,18,19,20,21,22,23,24] rfl rfl rfl rfl rfl ?ha ?hh ?_); (case ha => exact zA); (case hh => exact zz9); (conv => whnf)) | ((refine ways (fun hc => ?_) (fun hc => ?_)) <;> (try simp only [wz9] at hc) <;> (try (exfalso; omega)) <;> (conv => whnf))))
   all_goals first
    | (refine ⟨(i + 1, k', c'), ⟨by dsimp only; omega, by dsimp only; omega, by dsimp only; omega, hL, ⟨_, _, _, _, hpm⟩, hoth⟩, by dsimp only; omega, ?_⟩; dsimp only; (refine Le.by [0,1,2,3,15,16,17,18,19,20,21,22,23,24] rfl rfl rfl rfl ?_ ?_ <;> ((conv => whnf); repeat' (first | exact trivial | exact law_argR (by decide) (fun l hl => by rcases l with _ | _ | _ | _ | l <;> first | exact ⟨Nat.le_of_ble_eq_true rfl, rfl⟩ | exact ⟨Nat.le_of_ble_eq_true rfl, rfl, rfl⟩ | omega) (fun q hq => by rcases q with _ | _ | _ | _ | _ | _ | _ | _ | _ | q <;> first | exact ⟨Nat.le_of_ble_eq_true rfl, rfl⟩ | omega) | exact law_argI (by decide) (by decide) (fun l hl => by rcases l with _ | _ | _ | _ | l <;> first | exact ⟨Nat.le_of_ble_eq_true rfl, rfl⟩ | exact ⟨Nat.le_of_ble_eq_true rfl, rfl, rfl⟩ | omega) (fun q hq => by rcases q with _ | _ | _ | _ | _ | _ | _ | _ | _ | q <;> first | exact ⟨Nat.le_of_ble_eq_true rfl, rfl⟩ | omega) | exact ArgLe.rfl rfl | exact ArgLe.ptr rfl | exact ArgLe.sl rfl | exact ⟨rfl, rfl, rfl⟩ | exact ⟨rfl, Nat.le_of_ble_eq_true rfl⟩ | exact x_argRA (by assumption) rfl | exact x_argA (by assumption) | exact fun i hi => rfl | ((with_reducible refine And.intro ?_ ?_) <;> (conv => whnf))))); done)
    | (exfalso; simp_all; done)
  ·(repeat' (first | ((first | refine Wp.any TC_mixed rfl ?_ | (with_reducible first | refine Go.mk ?_ | apply Eff1.of)); conv => whnf) | with_reducible exact rfl | ((with_reducible refine Ov.ok zO ?_); conv => whnf) | (with_reducible refine Ov.sh1 (by with_unfolding_all exact rfl) ?_) | ((first | with_reducible refine Ov.quo (by omega) (by omega) (by omega) (fun _ _ => ?_) | refine zV ?_ | with_reducible refine And.intro zC ?_); conv => whnf) | ((with_reducible refine And.intro ?hb ?_); (case hb => exact zz3); (conv => whnf)) | ((refine DApp.a rfl rfl rfl rfl rfl rfl ?hb ?_); (case hb => exact zB); (conv => whnf)) | ((refine DApp.b rfl rfl rfl rfl rfl rfl rfl rfl ?hb ?ho ?_); (case hb => exact zB); (case ho => omega); (conv => whnf)) | ((refine DApp.c rfl rfl rfl rfl rfl ?hb ?_); (case hb => exact zB); (conv => whnf)) | ((refine DApp.d rfl rfl rfl rfl rfl rfl ?hb ?ho ?_); (case hb => exact zB); (case ho => omega); (conv => whnf)) | ((with_reducible refine nil_no (by omega) ?_); (conv => whnf)) | ((with_reducible refine nil_any ?_ (fun hn0 => ?_)) <;> (conv => whnf)) | ((refine ways (fun hc => ?_) (fun hc => ?_)) <;> (try simp only [wz9] at hc) <;> (try (exfalso; omega)) <;> (conv => whnf))))
   all_goals exact .b rfl
end Go.Proofs.YtplpofmnhcclbaaGreat
