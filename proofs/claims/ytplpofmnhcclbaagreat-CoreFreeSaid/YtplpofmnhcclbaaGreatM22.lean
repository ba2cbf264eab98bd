/- Parts of the proof, one behind the other: Cf2. Lemmas and contracts of functions; no condition of its own. -/
import Derived.Test.YtplpofmnhcclbaaGreatM21
set_option linter.unusedVariables false
set_option linter.unusedSimpArgs false
set_option maxHeartbeats 1000000
namespace Go.Proofs.YtplpofmnhcclbaaGreat
open Go.RowKit
set_option maxRecDepth 100000
set_option maxHeartbeats 8000000
theorem start_leftC {room : Int} {k : Nat} {c : Cst} {xs : Nat → XB} (h : LawC tab2 room k c.M c.S c.xs c.nl ((k : Int) + 1)) {w : Nat} (hn : (c.S w).s = .none) {z : Core.Wk} (h' : LawC tab2 room k c.M (Dir.upd c.S w z) xs c.nl ((k : Int) + 1)) : Core.left c.M (Dir.upd c.S w z) ≤ Core.left c.M c.S := by
 have h1 : Dir.sumN 8 (fun j => Core.V c.M.W (Dir.upd c.S w z j)) ≤ Dir.sumN 8 (fun j => Core.V c.M.W (c.S j)) + 8 * 0 := by
  refine Dir.sumN_le fun j _ => ?_
  by_cases e : j = w
  ·subst e
   rw [Core.V_none _ hn]
   exact Nat.le_trans (Core.V_le h'.all.inv j) (Nat.le_refl _)
  ·rw [Dir.upd_ne _ _ e]; exact Nat.le_refl _
 unfold Core.left
 omega
theorem quiet_onC {room : Int} {k : Nat} {c : Cst} {q : Int} (h : LawC tab2 room k c.M c.S c.xs c.nl ((k : Int) + 1)) (hk : k ≤ 500000) {w : Nat} (hw : w < 8) (hc : isC (c.S w).s = true) {xs : Nat → XB} {nl : Nat}
  (h' : LawC tab2 room (k + 1) (Core.mx (coreOps tab2 room) c.M c.S w) (Core.nx (coreOps tab2 room) c.M c.S w) xs nl (((k + 1 : Nat) : Int) + 1)) (hq : q + (Core.left c.M c.S : Int) ≤ 15860) :
  (if (Core.step (coreOps tab2 room) c.M (c.S w).x (c.S w).s).r.done then 0 else q + 1) + (Core.left (Core.mx (coreOps tab2 room) c.M c.S w) (Core.nx (coreOps tab2 room) c.M c.S w) : Int) ≤ 15860 := by
 cases e : (Core.step (coreOps tab2 room) c.M (c.S w).x (c.S w).s).r.done with
 | true =>
  rw [if_pos rfl]
  have := Core.left_le h'.all.inv
  omega
 | false =>
  rw [if_neg (by decide)]
  have := Core.left_step (P := coreOps tab2 room) h.all.inv (by unfold Dir.FZ; omega) hw (isC_ne hc) e
  omega
theorem CoreFree_holds (wk rm : Int) (b0 : 0 ≤ wk) (b1 : wk ≤ 255) (r0 : 0 ≤ rm) (r1 : rm ≤ 255) (script : List Pick) (hs : ∀ a ∈ script, a.ok) : Pure TC 3 [.i .u8 wk, .i .u8 rm, .d (slOf 7 Pick.D script)] (.b true) := by
 refine Pure.lens (.mk Tryz.func3 rfl rfl) fun hlen => ?_
 have hl0 := hlen script.length (by simp [lensOf, slOf])
 clear hlen
 have hm : rm.tmod 6 = rm % 6 := Int.tmod_eq_emod_of_nonneg r0
 have hm8 : wk.tmod 8 = wk % 8 := Int.tmod_eq_emod_of_nonneg b0
 have hroom : 1 ≤ 1 + rm.tmod 6 ∧ 1 + rm.tmod 6 ≤ 4096 := by omega
 have hN := core_New (ps := tab2) (room := 1 + rm.tmod 6) (tab2_new hroom)
 have x0 : ∀ i j, SV.Lt 1 ((xs0 i).f j) := fun _ _ => .any
 have L0 := law0 hroom
 refine Pure.mk' Tryz.func3 rfl rfl zN ?_
 (repeat' (first | ((first | refine Wp.any TC_mixed rfl ?_ | (with_reducible first | refine Go.mk ?_ | apply Eff1.of | refine Ov.ok zO ?_ | refine And.intro zC ?_ | refine CallStop.pure (awake_T) rfl rfl ?_ | refine CallStop.pure (law_table) rfl rfl ?_)); conv => whnf) | ((refine CallStop.fn (hN) [] rfl rfl rfl rfl rfl ?ha ?hh ?_); (case ha => exact zA); (case hh => exact zH); (conv => whnf))))
 refine Wp.loopP (ι := Nat × Nat × Cst × Int)
  (fun k => k.1 ≤ script.length ∧ k.1 ≤ 20000 ∧ k.2.1 ≤ k.1 ∧ LawC tab2 (1 + rm.tmod 6) k.2.1 k.2.2.1.M k.2.2.1.S k.2.2.1.xs k.2.2.1.nl ((k.2.1 : Int) + 1) ∧ 0 ≤ k.2.2.2 ∧ k.2.2.2 + (Core.left k.2.2.1.M k.2.2.1.S : Int) ≤ 15860)
  (fun k => ⟨⟨Tryz.f3.ntmps, 0⟩, 14, [(7, .i .i64 (1 + wk.tmod 8)), (8, .ptr 0 0), (10, .i .i64 k.2.2.2), (37, .d (slOf 7 Pick.D script)), (38, .i .i64 script.length), (39, .i .i64 k.1)], coreH tab2 (1 + rm.tmod 6) (gOf (coreOps tab2 (1 + rm.tmod 6)) 4 k.2.2.1.S) k.2.2.1.M k.2.2.1.xs k.2.2.1.nl k.2.2.1.f ((k.2.1 : Int) + 1)⟩)
  (fun k => script.length - k.1) (0, 0, cst0, 0)
  ⟨Nat.zero_le _, Nat.zero_le _, Nat.le_refl _, L0, Int.le_refl _, by have := Core.left_le L0.all.inv; show (0 : Int) + ((Core.left cst0.M cst0.S : Nat) : Int) ≤ 15860; omega⟩ ?_ ?_
 ·(refine Le.by [0,1,2,3,4,5,6,7,8,9,10,11,12,13] rfl rfl rfl rfl ?_ ?_ <;> ((conv => whnf); repeat' (first | exact trivial | exact law_argR (by decide) (fun l hl => by rcases l with _ | _ | _ | _ | l <;> first | exact ⟨Nat.le_of_ble_eq_true rfl, rfl⟩ | exact ⟨Nat.le_of_ble_eq_true rfl, rfl, rfl⟩ | omega) (fun q hq => by rcases q with _ | _ | _ | _ | _ | _ | _ | _ | _ | q <;> first | exact ⟨Nat.le_of_ble_eq_true rfl, rfl⟩ | omega) | exact ArgLe.rfl rfl | exact ArgLe.ptr rfl | exact ArgLe.sl rfl | exact ⟨rfl, rfl, rfl⟩ | exact ⟨rfl, Nat.le_of_ble_eq_true rfl⟩ | exact x_argRA (by assumption) rfl | exact fun i hi => rfl | ((with_reducible refine And.intro ?_ ?_) <;> (conv => whnf)))))
 ·rintro ⟨i, k, c, q⟩ ⟨h1, h2, h3, h4, h5, h6⟩
  dsimp only at h1 h2 h3 h4 h5 h6 ⊢
  have xc := h4.xl
  have hok := Pick.at hs (i : Int).toNat
  have hfit := law_fit _ hok
  have hF := fitP_Fit hok
  obtain ⟨p, hp⟩ : ∃ p, p = fitP (script.getD (i : Int).toNat default) := ⟨_, rfl⟩
  rw [← hp] at hfit hF
  clear hp
  obtain ⟨pk, pw, po, pp, pky, pn, pt⟩ := p
  have hv : IntKind.u64.wrap (script.getD (i : Int).toNat default).who = (script.getD (i : Int).toNat default).who % 18446744073709551616 := by simp [IntKind.wrap, IntKind.bits, IntKind.signed]
  have hvb : 0 ≤ IntKind.u64.wrap (script.getD (i : Int).toNat default).who ∧ IntKind.u64.wrap (script.getD (i : Int).toNat default).who < 18446744073709551616 := by omega
  have hw0 : (IntKind.u64.wrap (script.getD (i : Int).toNat default).who).tmod (1 + wk.tmod 8) = IntKind.u64.wrap (script.getD (i : Int).toNat default).who % (1 + wk.tmod 8) := Int.tmod_eq_emod_of_nonneg hvb.1
  have hw1 : 0 ≤ IntKind.u64.wrap (script.getD (i : Int).toNat default).who % (1 + wk.tmod 8) ∧ IntKind.u64.wrap (script.getD (i : Int).toNat default).who % (1 + wk.tmod 8) < 1 + wk.tmod 8 := ⟨Int.emod_nonneg _ (by omega), Int.emod_lt_of_pos _ (by omega)⟩
  obtain ⟨w, hw⟩ : ∃ w : Nat, (w : Int) = (IntKind.u64.wrap (script.getD (i : Int).toNat default).who).tmod (1 + wk.tmod 8) := ⟨((IntKind.u64.wrap (script.getD (i : Int).toNat default).who).tmod (1 + wk.tmod 8)).toNat, by omega⟩
  clear hv
  have hw8 : w < 8 := by omega
  have hP := law_Pending (f := c.f) h4 (by omega) (w := w) (by omega)
  rw [hw] at hP
  cases hc : isC (c.S w).s with
  | true =>
   rw [hc] at hP
   obtain ⟨xs', f', hL, hS⟩ := law_Step (f := c.f) h4 (by omega) (.inl hw8) hc
   have ek : (k : Int) + 1 + 1 = ((k + 1 : Nat) : Int) + 1 := by omega
   rw [ek] at hL hS
   have hq := quiet_onC h4 (by omega) hw8 hc hL h6
   have xl' := hL.xl
   rw [hw] at hS
   generalize (Core.step (coreOps tab2 (1 + rm.tmod 6)) c.M (c.S w).x (c.S w).s).r = r at hS hq
   generalize Core.mx (coreOps tab2 (1 + rm.tmod 6)) c.M c.S w = M' at hS hq hL
   generalize Core.nx (coreOps tab2 (1 + rm.tmod 6)) c.M c.S w = S' at hS hq hL
   obtain ⟨dn, re⟩ := r
   cases dn with
   | true =>
    rw [if_pos rfl] at hq
    (repeat' (first | ((first | refine Wp.any TC_mixed rfl ?_ | (with_reducible first | refine Go.mk ?_ | apply Eff1.of | refine Ov.ok zO ?_ | refine And.intro zC ?_ | refine CallStop.pure (hfit) rfl rfl ?_)); conv => whnf) | ((refine CallStop.fn (hP) [0,1,2,3,4,5,6,7,8,9,10,11,12,13] rfl rfl rfl rfl rfl ?ha ?hh ?_); (case ha => exact zA); (case hh => exact zz2); (conv => whnf)) | ((refine CallStop.fn (hS) [0,1,2,3,4,5,6,7,8,9,10,11,12,13] rfl rfl rfl rfl rfl ?ha ?hh ?_); (case ha => exact zA); (case hh => exact zz2); (conv => whnf)) | ((with_reducible refine Ov.mk ?_); conv => whnf) | ((refine ways (fun hc => ?_) (fun hc => ?_)) <;> (try simp only [wz9] at hc) <;> (try (exfalso; omega)) <;> (conv => whnf))))
    all_goals first
     | exact .rfl _
     | exact .b rfl
     | (refine ⟨(i + 1, k + 1, ⟨M', S', xs', noteN c.nl, f'⟩, 0), ⟨by dsimp only; omega, by dsimp only; omega, by dsimp only; omega, hL, Int.le_refl _, hq⟩, by dsimp only; omega, ?_⟩; dsimp only; (refine Le.by [0,1,2,3,15,16,17,18,19,20,21,22,23,24] rfl rfl rfl rfl ?_ ?_ <;> ((conv => whnf); repeat' (first | exact trivial | exact law_argR (by decide) (fun l hl => by rcases l with _ | _ | _ | _ | l <;> first | exact ⟨Nat.le_of_ble_eq_true rfl, rfl⟩ | exact ⟨Nat.le_of_ble_eq_true rfl, rfl, rfl⟩ | omega) (fun q hq => by rcases q with _ | _ | _ | _ | _ | _ | _ | _ | _ | q <;> first | exact ⟨Nat.le_of_ble_eq_true rfl, rfl⟩ | omega) | exact ArgLe.rfl rfl | exact ArgLe.ptr rfl | exact ArgLe.sl rfl | exact ⟨rfl, rfl, rfl⟩ | exact ⟨rfl, Nat.le_of_ble_eq_true rfl⟩ | exact x_argRA (by assumption) rfl | exact fun i hi => rfl | ((with_reducible refine And.intro ?_ ?_) <;> (conv => whnf))))); done)
   | false =>
    rw [if_neg (by intro h; cases h)] at hq
    (repeat' (first | ((first | refine Wp.any TC_mixed rfl ?_ | (with_reducible first | refine Go.mk ?_ | apply Eff1.of | refine Ov.ok zO ?_ | refine And.intro zC ?_ | refine CallStop.pure (hfit) rfl rfl ?_)); conv => whnf) | ((refine CallStop.fn (hP) [0,1,2,3,4,5,6,7,8,9,10,11,12,13] rfl rfl rfl rfl rfl ?ha ?hh ?_); (case ha => exact zA); (case hh => exact zz2); (conv => whnf)) | ((refine CallStop.fn (hS) [0,1,2,3,4,5,6,7,8,9,10,11,12,13] rfl rfl rfl rfl rfl ?ha ?hh ?_); (case ha => exact zA); (case hh => exact zz2); (conv => whnf)) | ((with_reducible refine Ov.mk ?_); conv => whnf) | ((refine ways (fun hc => ?_) (fun hc => ?_)) <;> (try simp only [wz9] at hc) <;> (try (exfalso; omega)) <;> (conv => whnf))))
    all_goals first
     | exact .rfl _
     | exact .b rfl
     | (refine ⟨(i + 1, k + 1, ⟨M', S', xs', noteN c.nl, f'⟩, q + 1), ⟨by dsimp only; omega, by dsimp only; omega, by dsimp only; omega, hL, by dsimp only; omega, hq⟩, by dsimp only; omega, ?_⟩; dsimp only; (refine Le.by [0,1,2,3,15,16,17,18,19,20,21,22,23,24] rfl rfl rfl rfl ?_ ?_ <;> ((conv => whnf); repeat' (first | exact trivial | exact law_argR (by decide) (fun l hl => by rcases l with _ | _ | _ | _ | l <;> first | exact ⟨Nat.le_of_ble_eq_true rfl, rfl⟩ | exact ⟨Nat.le_of_ble_eq_true rfl, rfl, rfl⟩ | omega) (fun q hq => by rcases q with _ | _ | _ | _ | _ | _ | _ | _ | _ | q <;> first | exact ⟨Nat.le_of_ble_eq_true rfl, rfl⟩ | omega) | exact ArgLe.rfl rfl | exact ArgLe.ptr rfl | exact ArgLe.sl rfl | exact ⟨rfl, rfl, rfl⟩ | exact ⟨rfl, Nat.le_of_ble_eq_true rfl⟩ | exact x_argRA (by assumption) rfl | exact fun i hi => rfl | ((with_reducible refine And.intro ?_ ?_) <;> (conv => whnf))))); done)
  | false =>
   rw [hc] at hP
   obtain ⟨xs1, hL1, hT⟩ := law_Start (f := c.f) h4 (by omega) (.inl hw8) (isC_no hc) po pp pky pn hF.chk (by have := hF.len; dsimp only at this; omega) hF.kx
   have h6' := start_leftC h4 (isC_no hc) hL1
   have x1 := hL1.xl
   have hc' : isC (Dir.upd c.S w ⟨newX po pp pky pn, Core.first (newX po pp pky pn)⟩ w).s = true := by
    rw [Dir.upd_same]
    show isC (Core.first (newX po pp pky pn)) = true
    unfold Core.first; (repeat' split) <;> rfl
   generalize Dir.upd c.S w ⟨newX po pp pky pn, Core.first (newX po pp pky pn)⟩ = S1 at hT hL1 h6' hc'
   have h6 : q + (Core.left c.M S1 : Int) ≤ 15860 := by omega
   obtain ⟨xs', f', hL, hS⟩ := law_Step (f := c.f) hL1 (by omega) (.inl hw8) hc'
   have ek : (k : Int) + 1 + 1 = ((k + 1 : Nat) : Int) + 1 := by omega
   rw [ek] at hL hS
   have hq := quiet_onC (c := ⟨c.M, S1, xs1, c.nl, c.f⟩) hL1 (by omega) hw8 hc' hL h6
   have xl' := hL.xl
   rw [hw] at hS hT
   dsimp only at hq
   generalize (Core.step (coreOps tab2 (1 + rm.tmod 6)) c.M (S1 w).x (S1 w).s).r = r at hS hq
   generalize Core.mx (coreOps tab2 (1 + rm.tmod 6)) c.M S1 w = M' at hS hq hL
   generalize Core.nx (coreOps tab2 (1 + rm.tmod 6)) c.M S1 w = S' at hS hq hL
   obtain ⟨dn, re⟩ := r
   cases dn with
   | true =>
    rw [if_pos rfl] at hq
    (repeat' (first | ((first | refine Wp.any TC_mixed rfl ?_ | (with_reducible first | refine Go.mk ?_ | apply Eff1.of | refine Ov.ok zO ?_ | refine And.intro zC ?_ | refine CallStop.pure (hfit) rfl rfl ?_)); conv => whnf) | ((refine CallStop.fn (hP) [0,1,2,3,4,5,6,7,8,9,10,11,12,13] rfl rfl rfl rfl rfl ?ha ?hh ?_); (case ha => exact zA); (case hh => exact zz2); (conv => whnf)) | ((refine CallStop.fn (hT) [0,1,2,3,4,5,6,7,8,9,10,11,12,13] rfl rfl rfl rfl rfl ?ha ?hh ?_); (case ha => exact zA); (case hh => exact zz2); (conv => whnf)) | ((refine CallStop.fn (hS) [0,1,2,3,15,16,17,18,19,20,21,22,23,24] rfl rfl rfl rfl rfl ?ha ?hh ?_); (case ha => exact zA); (case hh => exact zz2); (conv => whnf)) | ((with_reducible refine Ov.mk ?_); conv => whnf) | ((refine ways (fun hc => ?_) (fun hc => ?_)) <;> (try simp only [wz9] at hc) <;> (try (exfalso; omega)) <;> (conv => whnf))))
    all_goals first
     | exact .rfl _
     | exact .b rfl
     | (refine ⟨(i + 1, k + 1, ⟨M', S', xs', noteN c.nl, f'⟩, 0), ⟨by dsimp only; omega, by dsimp only; omega, by dsimp only; omega, hL, Int.le_refl _, hq⟩, by dsimp only; omega, ?_⟩; dsimp only; (refine Le.by [0,1,2,3,25,26,27,28,29,30,31,32,33,34] rfl rfl rfl rfl ?_ ?_ <;> ((conv => whnf); repeat' (first | exact trivial | exact law_argR (by decide) (fun l hl => by rcases l with _ | _ | _ | _ | l <;> first | exact ⟨Nat.le_of_ble_eq_true rfl, rfl⟩ | exact ⟨Nat.le_of_ble_eq_true rfl, rfl, rfl⟩ | omega) (fun q hq => by rcases q with _ | _ | _ | _ | _ | _ | _ | _ | _ | q <;> first | exact ⟨Nat.le_of_ble_eq_true rfl, rfl⟩ | omega) | exact ArgLe.rfl rfl | exact ArgLe.ptr rfl | exact ArgLe.sl rfl | exact ⟨rfl, rfl, rfl⟩ | exact ⟨rfl, Nat.le_of_ble_eq_true rfl⟩ | exact x_argRA (by assumption) rfl | exact fun i hi => rfl | ((with_reducible refine And.intro ?_ ?_) <;> (conv => whnf))))); done)
   | false =>
    rw [if_neg (by intro h; cases h)] at hq
    (repeat' (first | ((first | refine Wp.any TC_mixed rfl ?_ | (with_reducible first | refine Go.mk ?_ | apply Eff1.of | refine Ov.ok zO ?_ | refine And.intro zC ?_ | refine CallStop.pure (hfit) rfl rfl ?_)); conv => whnf) | ((refine CallStop.fn (hP) [0,1,2,3,4,5,6,7,8,9,10,11,12,13] rfl rfl rfl rfl rfl ?ha ?hh ?_); (case ha => exact zA); (case hh => exact zz2); (conv => whnf)) | ((refine CallStop.fn (hT) [0,1,2,3,4,5,6,7,8,9,10,11,12,13] rfl rfl rfl rfl rfl ?ha ?hh ?_); (case ha => exact zA); (case hh => exact zz2); (conv => whnf)) | ((refine CallStop.fn (hS) [0,1,2,3,15,16,17,18,19,20,21,22,23,24] rfl rfl rfl rfl rfl ?ha ?hh ?_); (case ha => exact zA); (case hh => exact zz2); (conv => whnf)) | ((with_reducible refine Ov.mk ?_); conv => whnf) | ((refine ways (fun hc => ?_) (fun hc => ?_)) <;> (try simp only [wz9] at hc) <;> (try (exfalso; omega)) <;> (conv => whnf))))
    all_goals first
     | exact .rfl _
     | exact .b rfl
     | (refine ⟨(i + 1, k + 1, ⟨M', S', xs', noteN c.nl, f'⟩, q + 1), ⟨by dsimp only; omega, by dsimp only; omega, by dsimp only; omega, hL, by dsimp only; omega, hq⟩, by dsimp only; omega, ?_⟩; dsimp only; (refine Le.by [0,1,2,3,25,26,27,28,29,30,31,32,33,34] rfl rfl rfl rfl ?_ ?_ <;> ((conv => whnf); repeat' (first | exact trivial | exact law_argR (by decide) (fun l hl => by rcases l with _ | _ | _ | _ | l <;> first | exact ⟨Nat.le_of_ble_eq_true rfl, rfl⟩ | exact ⟨Nat.le_of_ble_eq_true rfl, rfl, rfl⟩ | omega) (fun q hq => by rcases q with _ | _ | _ | _ | _ | _ | _ | _ | _ | q <;> first | exact ⟨Nat.le_of_ble_eq_true rfl, rfl⟩ | omega) | exact ArgLe.rfl rfl | exact ArgLe.ptr rfl | exact ArgLe.sl rfl | exact ⟨rfl, rfl, rfl⟩ | exact ⟨rfl, Nat.le_of_ble_eq_true rfl⟩ | exact x_argRA (by assumption) rfl | exact fun i hi => rfl | ((with_reducible refine And.intro ?_ ?_) <;> (conv => whnf))))); done)
end Go.Proofs.YtplpofmnhcclbaaGreat
