/- Parts of the proof, one behind the other: Cf3b. Lemmas and contracts of functions; no condition of its own. -/
import Derived.Test.YtplpofmnhcclbaaGreatM21
set_option linter.unusedVariables false
set_option linter.unusedSimpArgs false
set_option maxHeartbeats 1000000
namespace Go.Proofs.YtplpofmnhcclbaaGreat
open Go.RowKit
set_option maxRecDepth 100000
set_option maxHeartbeats 8000000
theorem play_W0 {room : Int} {k : Nat} {c : Cst} (h : LawC tab2 room k c.M c.S c.xs c.nl ((k : Int) + 1)) (hk : k ≤ 500000) (p : Pick) :
  ((playC (coreOps tab2 room) c.M c.S p).M.W 0 = c.M.W 0 ∨ (playC (coreOps tab2 room) c.M c.S p).M.W 0 = c.M.W 0 + 1) := by
 unfold playC
 split
 ·split
  ·exact (Core.step_W0 (P := coreOps tab2 room) h.all.inv.iw ⟨h.all.inv.b, by unfold Dir.FZ; omega⟩ (h.all.inv.ser _) h.all.inv.c33 (h.all.inv.cw _)).1
  ·exact .inl rfl
 ·split
  ·split
   ·exact .inl rfl
   ·exact .inl rfl
  ·exact .inl rfl
theorem AloneC.sp {room : Int} {w k : Nat} {c0 : Cst} {n : Nat} {tr : Nat → Cst} {rs : Nat → Core.Rs} (A : AloneC tab2 room w k c0 n tr rs) {d : Int} (hd : 0 ≤ d ∧ d ≤ 8) (h0 : Core.Sp d (c0.M.W 0) (c0.S w).s) :
  ((rs (n - 1)).r = Core.er 5 ∧ d = 8 ∧ (tr n).M.W 0 = 8) ∨ ((rs (n - 1)).r = Core.z0 ∧ d < 8 ∧ (tr n).M.W 0 = 2 * (d / 2) + 2) := by
 have hp := A.pos
 have key : ∀ i, i < n → Core.Sp d ((tr i).M.W 0) ((tr i).S w).s := by
  intro i
  induction i with
  | zero => intro _; rw [A.z]; exact h0
  | succ i ih =>
   intro hi
   have h1 := ih (by omega)
   obtain ⟨e1, e2, e3⟩ := A.mx i (by omega)
   have hno := A.no i hi
   rw [e3] at hno
   rcases Core.split_step (P := coreOps tab2 room) hd ((A.law i (by omega)).all.inv.cw w) h1 with ⟨_, g⟩ | ⟨g, _⟩ | ⟨g, _⟩
   ·rw [e1, e2, Core.nx, Dir.upd_same]; exact g
   ·rw [g] at hno; cases hno
   ·rw [g] at hno; cases hno
 obtain ⟨m, rfl⟩ : ∃ m, n = m + 1 := ⟨n - 1, by omega⟩
 have h1 := key m (by omega)
 obtain ⟨e1, e2, e3⟩ := A.mx m (by omega)
 have hy := A.yes
 rw [show m + 1 - 1 = m by omega] at hy ⊢
 rw [e3] at hy ⊢
 rw [e1]
 rcases Core.split_step (P := coreOps tab2 room) hd ((A.law m (by omega)).all.inv.cw w) h1 with ⟨g, _⟩ | ⟨g, g2, g3⟩ | ⟨g, g2, g3⟩
 ·rw [g] at hy; cases hy
 ·exact .inl ⟨by rw [g], g2, g3⟩
 ·exact .inr ⟨by rw [g], g2, g3⟩
theorem CoreLevels_holds (wk : Int) (b0 : 0 ≤ wk) (b1 : wk ≤ 255) (script : List Pick) (hs : ∀ a ∈ script, a.ok) : Pure TC 5 [.i .u8 wk, .d (slOf 7 Pick.D script)] (.b true) := by
 refine Pure.lens (.mk Tryz.func5 rfl rfl) fun hlen => ?_
 have hl0 := hlen script.length (by simp [lensOf, slOf])
 clear hlen
 have hm : wk.tmod 6 = wk % 6 := Int.tmod_eq_emod_of_nonneg b0
 have hroom : 1 ≤ 1 + wk.tmod 6 ∧ 1 + wk.tmod 6 ≤ 4096 := by omega
 have hN := core_New (ps := tab2) (room := 1 + wk.tmod 6) (tab2_new hroom)
 have x0 : ∀ i j, SV.Lt 1 ((xs0 i).f j) := fun _ _ => .any
 have L0 := law0 hroom
 refine Pure.mk' Tryz.func5 rfl rfl zN ?_
 (repeat' (first | ((first | refine Wp.any TC_mixed rfl ?_ | (with_reducible first | refine Go.mk ?_ | apply Eff1.of | refine Ov.ok zO ?_ | refine And.intro zC ?_ | refine CallStop.pure (awake_T) rfl rfl ?_ | refine CallStop.pure (law_table) rfl rfl ?_)); conv => whnf) | ((refine CallStop.fn (hN) [] rfl rfl rfl rfl rfl ?ha ?hh ?_); (case ha => exact zA); (case hh => exact zH); (conv => whnf))))
 refine Wp.loopP (ι := Nat × Nat × Cst)
  (fun k => k.1 ≤ script.length ∧ k.1 ≤ 300 ∧ k.2.1 ≤ k.1 ∧ LawC tab2 (1 + wk.tmod 6) k.2.1 k.2.2.M k.2.2.S k.2.2.xs k.2.2.nl ((k.2.1 : Int) + 1) ∧ ∀ j, 5 ≤ j → (k.2.2.S j).s = .none)
  (fun k => ⟨⟨Tryz.f5.ntmps, 0⟩, 14, [(5, .ptr 0 0), (7, .i .i64 (k.2.2.M.W 0)), (33, .d (slOf 7 Pick.D script)), (34, .i .i64 script.length), (35, .i .i64 k.1)], coreH tab2 (1 + wk.tmod 6) (gOf (coreOps tab2 (1 + wk.tmod 6)) 4 k.2.2.S) k.2.2.M k.2.2.xs k.2.2.nl k.2.2.f ((k.2.1 : Int) + 1)⟩)
  (fun k => script.length - k.1) (0, 0, cst0)
  ⟨Nat.zero_le _, Nat.zero_le _, Nat.le_refl _, L0, fun _ _ => rfl⟩ ?_ ?_
 ·(refine Le.by [0,1,2,3,4,5,6,7,8,9,10,11,12,13] rfl rfl rfl rfl ?_ ?_ <;> ((conv => whnf); repeat' (first | exact trivial | exact law_argR (by decide) (fun l hl => by rcases l with _ | _ | _ | _ | l <;> first | exact ⟨Nat.le_of_ble_eq_true rfl, rfl⟩ | exact ⟨Nat.le_of_ble_eq_true rfl, rfl, rfl⟩ | omega) (fun q hq => by rcases q with _ | _ | _ | _ | _ | _ | _ | _ | _ | q <;> first | exact ⟨Nat.le_of_ble_eq_true rfl, rfl⟩ | omega) | exact ArgLe.rfl rfl | exact ArgLe.ptr rfl | exact ArgLe.sl rfl | exact ⟨rfl, rfl, rfl⟩ | exact ⟨rfl, Nat.le_of_ble_eq_true rfl⟩ | exact x_argRA (by assumption) rfl | exact fun i hi => rfl | ((with_reducible refine And.intro ?_ ?_) <;> (conv => whnf)))))
 ·rintro ⟨i, k, c⟩ ⟨h1, h2, h3, h4, h5⟩
  dsimp only at h1 h2 h3 h4 h5 ⊢
  have xc := h4.xl
  have hd := h4.all.inv.iw.d
  by_cases hi : i < script.length ∧ i < 300
  ·have hok := Pick.at hs (i : Int).toNat
   have hfit := law_fit _ hok
   have hF := fitP_Fit hok
   generalize fitP (script.getD (i : Int).toNat default) = p at hfit hF
   obtain ⟨k', c', hk', e1, e2, hL, hP⟩ := law_play h4 (by omega) p hF
   have xc' := hL.xl
   have hoth : ∀ j, 5 ≤ j → (c'.S j).s = .none := fun j hj => by rw [e2, play_oth hF j hj]; exact h5 j hj
   have hW := play_W0 h4 (by omega) p
   rw [← e1] at hW
   have hd' := hL.all.inv.iw.d
   have hWd := word_c (nl := c'.nl) (f := c'.f) (cnt := (k' : Int) + 1) (hL.cok (by omega) 0 (by decide)) hd'.2
   generalize (playC (coreOps tab2 (1 + wk.tmod 6)) c.M c.S p).r = r at hP
   generalize (playC (coreOps tab2 (1 + wk.tmod 6)) c.M c.S p).e = er at hP
   clear e1 e2 hF hok
   (repeat' (first | ((first | refine Wp.any TC_mixed rfl ?_ | (with_reducible first | refine Go.mk ?_ | apply Eff1.of | refine Ov.ok zO ?_ | refine And.intro zC ?_ | refine CallStop.pure (hfit) rfl rfl ?_)); conv => whnf) | ((refine CallStop.fn (hP) [0,1,2,3,4,5,6,7,8,9,10,11,12,13] rfl rfl rfl rfl rfl ?ha ?hh ?_); (case ha => exact zA); (case hh => exact zz2); (conv => whnf)) | ((refine CallStop.fn (hWd) [0,1,2,3,15,16,17,18,19,20,21,22,23,24] rfl rfl rfl rfl rfl ?ha ?hh ?_); (case ha => exact zA); (case hh => exact zz2); (conv => whnf)) | ((refine ways (fun hc => ?_) (fun hc => ?_)) <;> (try simp only [wz9] at hc) <;> (try (exfalso; omega)) <;> (conv => whnf))))
   all_goals first
    | exact .rfl _
    | exact .b rfl
    | (refine ⟨(i + 1, k', c'), ⟨by dsimp only; omega, by dsimp only; omega, by dsimp only; omega, hL, hoth⟩, by dsimp only; omega, ?_⟩; dsimp only; (refine Le.by [0,1,2,3,15,16,17,18,19,20,21,22,23,24] rfl rfl rfl rfl ?_ ?_ <;> ((conv => whnf); repeat' (first | exact trivial | exact law_argR (by decide) (fun l hl => by rcases l with _ | _ | _ | _ | l <;> first | exact ⟨Nat.le_of_ble_eq_true rfl, rfl⟩ | exact ⟨Nat.le_of_ble_eq_true rfl, rfl, rfl⟩ | omega) (fun q hq => by rcases q with _ | _ | _ | _ | _ | _ | _ | _ | _ | q <;> first | exact ⟨Nat.le_of_ble_eq_true rfl, rfl⟩ | omega) | exact ArgLe.rfl rfl | exact ArgLe.ptr rfl | exact ArgLe.sl rfl | exact ⟨rfl, rfl, rfl⟩ | exact ⟨rfl, Nat.le_of_ble_eq_true rfl⟩ | exact x_argRA (by assumption) rfl | exact fun i hi => rfl | ((with_reducible refine And.intro ?_ ?_) <;> (conv => whnf))))); done)
  ·obtain ⟨xs', n, tr, rs, hn, A, hRun⟩ := law_alone h4 (by omega) (w := 9) (.inr rfl) (h5 9 (by omega)) 6 0 [] 0 (by decide) (by decide) (fun _ h => absurd rfl h) 512 (by decide) (by decide)
   have hsp := A.sp (d := c.M.W 0) hd (by
    show Core.Sp (c.M.W 0) (c.M.W 0) (Dir.upd c.S 9 ⟨newX 6 0 [] 0, Core.first (newX 6 0 [] 0)⟩ 9).s
    rw [Dir.upd_same]; exact rfl)
   have hLn := A.law n (Nat.le_refl _)
   have xn := hLn.xl
   have hLv := core_Level (f := (tr n).f) (nl := (tr n).nl) (cnt := (k : Int) + n + 1) (hLn.cok (by omega) 0 (by decide))
   have hn0 := A.pos
   generalize tr n = cn at hRun hLv xn hsp
   generalize (rs (n - 1)).r = r at hRun hsp
   clear A hLn hs hN
   generalize c.M.W 0 = d at hd hsp ⊢
   rcases hsp with ⟨rfl, rfl, e⟩ | ⟨rfl, hd8, e⟩
   ·rw [e] at hLv
    by_cases hi1 : i < script.length
    ·(repeat' (first | ((first | refine Wp.any TC_mixed rfl ?_ | (with_reducible first | refine Go.mk ?_ | apply Eff1.of | refine And.intro zC ?_)); conv => whnf) | ((refine CallStop.fn (hRun) [0,1,2,3,4,5,6,7,8,9,10,11,12,13] rfl rfl rfl rfl rfl ?ha ?hh ?_); (case ha => exact zA); (case hh => exact zz2); (conv => whnf)) | ((refine CallStop.fn (hLv) [0,1,2,3,15,16,17,18,19,20,21,22,23,24] rfl rfl rfl rfl rfl ?ha ?hh ?_); (case ha => exact zA); (case hh => exact zz2); (conv => whnf)) | ((refine ways (fun hc => ?_) (fun hc => ?_)) <;> (try simp only [wz9] at hc) <;> (try (exfalso; omega)) <;> (conv => whnf))))
     all_goals first | exact .rfl _ | exact .b (by decide)
    ·(repeat' (first | ((first | refine Wp.any TC_mixed rfl ?_ | (with_reducible first | refine Go.mk ?_ | apply Eff1.of)); conv => whnf) | ((refine CallStop.fn (hRun) [0,1,2,3,4,5,6,7,8,9,10,11,12,13] rfl rfl rfl rfl rfl ?ha ?hh ?_); (case ha => exact zA); (case hh => exact zz2); (conv => whnf)) | ((refine CallStop.fn (hLv) [0,1,2,3,14,15,16,17,18,19,20,21,22,23] rfl rfl rfl rfl rfl ?ha ?hh ?_); (case ha => exact zA); (case hh => exact zz2); (conv => whnf)) | ((refine ways (fun hc => ?_) (fun hc => ?_)) <;> (try simp only [wz9] at hc) <;> (try (exfalso; omega)) <;> (conv => whnf))))
     all_goals first | exact .rfl _ | exact .b (by decide)
   ·have hd9 : (d == 8) = false := beq_eq_false_iff_ne.2 (by omega)
    rw [e, show (2 * (d / 2) + 2) / 2 = d / 2 + 1 by omega, show decide ((2 * (d / 2) + 2) % 2 = 1) = false from decide_eq_false (by omega)] at hLv
    by_cases hi1 : i < script.length
    ·(repeat' (first | ((first | refine Wp.any TC_mixed rfl ?_ | (with_reducible first | refine Go.mk ?_ | apply Eff1.of | refine Ov.ok zO ?_ | refine Ov.quo (by omega) (by omega) (by omega) (fun _ _ => ?_) | refine And.intro zC ?_)); conv => whnf) | ((refine CallStop.fn (hRun) [0,1,2,3,4,5,6,7,8,9,10,11,12,13] rfl rfl rfl rfl rfl ?ha ?hh ?_); (case ha => exact zA); (case hh => exact zz2); (conv => whnf)) | ((refine CallStop.fn (hLv) [0,1,2,3,15,16,17,18,19,20,21,22,23,24] rfl rfl rfl rfl rfl ?ha ?hh ?_); (case ha => exact zA); (case hh => exact zz2); (conv => whnf)) | ((refine ways (fun hc => ?_) (fun hc => ?_)) <;> (try simp only [wz9] at hc) <;> (try (exfalso; omega)) <;> (conv => whnf))))
     all_goals first | exact .rfl _ | exact absurd (show (Core.z0.e == 5) = (d == 8) from hd9.symm) hc | exact .b (by simp)
    ·(repeat' (first | ((first | refine Wp.any TC_mixed rfl ?_ | (with_reducible first | refine Go.mk ?_ | apply Eff1.of | refine Ov.ok zO ?_ | refine Ov.quo (by omega) (by omega) (by omega) (fun _ _ => ?_) | refine And.intro zC ?_)); conv => whnf) | ((refine CallStop.fn (hRun) [0,1,2,3,4,5,6,7,8,9,10,11,12,13] rfl rfl rfl rfl rfl ?ha ?hh ?_); (case ha => exact zA); (case hh => exact zz2); (conv => whnf)) | ((refine CallStop.fn (hLv) [0,1,2,3,14,15,16,17,18,19,20,21,22,23] rfl rfl rfl rfl rfl ?ha ?hh ?_); (case ha => exact zA); (case hh => exact zz2); (conv => whnf)) | ((refine ways (fun hc => ?_) (fun hc => ?_)) <;> (try simp only [wz9] at hc) <;> (try (exfalso; omega)) <;> (conv => whnf))))
     all_goals first | exact .rfl _ | exact absurd (show (Core.z0.e == 5) = (d == 8) from hd9.symm) hc | exact .b (by simp)
end Go.Proofs.YtplpofmnhcclbaaGreat
