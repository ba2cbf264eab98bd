/- Lemmas of Hc3, Sx32, Hc4, Sx41, Sx39. No condition. -/
import Derived.Test.YtlplngmpggkloaaGreatMJ14
set_option linter.unusedVariables false
set_option linter.unusedSimpArgs false
set_option maxHeartbeats 80000000
set_option maxRecDepth 100000
namespace Go.Proofs.YtlplngmpggkloaaGreat
open Go.RowKit
section
namespace Hist
theorem oL {d e : HD} (h1 : aI d.pol d.key = 0) (h2 : aI e.pol e.key = 0) (k1 : IsB d.key) (k2 : IsB e.key) : kb d = kb e ↔ d.pol = e.pol ∧ d.key = e.key := by
  have i1 : aZ d.pol d.key = d.pol :: d.key := by unfold aZ; rw [if_pos h1]
  have i2 : aZ e.pol e.key = e.pol :: e.key := by unfold aZ; rw [if_pos h2]
  have p : ∀ (q : Int) (k : List Int), aI q k = 0 → 0 ≤ q ∧ q < 32 := fun q k h => by
    unfold aI at h; split at h
    · omega
    · omega
  have p1 := p _ _ h1
  have p2 := p _ _ h2
  unfold kb
  rw [i1, i2]
  constructor
  · intro h
    have h3 := congrArg (fun b => b.data.toList) h
    simp only at h3
    have := oG u8_inj (a := d.pol :: d.key) (b := e.pol :: e.key) (fun x hx => by
      rcases Q22 hx with rfl | hx
      · omega
      · exact k1 x hx) (fun x hx => by
      rcases Q22 hx with rfl | hx
      · omega
      · exact k2 x hx) h3
    rw [List.cons.injEq] at this; exact this
  · rintro ⟨h, h'⟩; rw [h, h']
theorem o8 {ps : List Pol} {n : Nat} (hn : 4096 < n) : ∀ m (l : List HD), 1 ≤ ce ps n (l.take m) ∧ ce ps n (l.take m) ≤ 2
  | 0, l => by
    show 1 ≤ err0 ps n ∧ err0 ps n ≤ 2
    unfold err0 aU aG
    rw [if_pos hn]
    repeat' split
    all_goals omega
  | m + 1, l => by
    have ih := o8 (ps := ps) hn m l
    by_cases h : m < l.length
    · rw [ib h, cD]
      generalize ce ps n (l.take m) = e at *
      unfold bO aU
      dsimp only
      repeat' split
      all_goals omega
    · rw [Q21 (by omega)] at ih ⊢; exact ih
def inG (ps : List Pol) (d x : HD) : Bool := bM ps x && decide (kb x = kb d)
theorem sU {ps : List Pol} {d x : HD} (h1 : aI d.pol d.key = 0) (k1 : IsB d.key) (k2 : IsB x.key) :
    inG ps d x = true ↔ cp x = true ∧ aI x.pol x.key = 0 ∧ (x.pol = d.pol ∧ x.key = d.key) ∧ (¬ aG ps = 0 ∨ iE ps x.op x.pol x.key x.n = 0) := by
  unfold inG bM dD
  simp only [Q5, Bool.not_eq_true', decide_eq_true_eq, Bool.and_eq_false_iff, decide_eq_false_iff_not, ne_eq, Decidable.not_not]
  constructor
  · rintro ⟨⟨a, b, c⟩, e⟩
    exact ⟨c, b, (oL b h1 k2 k1).1 e, a⟩
  · rintro ⟨a, b, c, e⟩
    exact ⟨⟨e, b, a⟩, (oL b h1 k2 k1).2 c⟩
end Hist
open Hist
@[reducible] noncomputable def erI (ps : List Pol) (calls : List HD) (k : Nat) (es : List Int) : St :=
  ⟨⟨Tryz.f14.ntmps, 0⟩, 1, [(0, .d (ak 4 Pol.D ps)), (1, .d (ak 13 HD.D calls)), (5, .i .i64 (aG ps)), (6, .b (decide (aG ps = 0))), (7, .sl 0 1 0 es.length), (25, .d (ak 13 HD.D calls)), (26, .i .i64 calls.length), (27, .i .i64 k)],
    [(0, some (.row 3 1 es.length fun q => ar .i64 (es.getD q default)))]⟩
@[reducible] noncomputable def erJ (ps : List Pol) (calls : List HD) (k : Nat) (es : List Int) (d : HD) : St :=
  ⟨⟨Tryz.f14.ntmps, 0⟩, 2, [(0, .d (ak 4 Pol.D ps)), (1, .d (ak 13 HD.D calls)), (5, .i .i64 (aG ps)), (6, .b (decide (aG ps = 0))), (7, .sl 0 1 0 es.length), (8, .i .i64 k), (9, .ptr 1 0), (25, .d (ak 13 HD.D calls)), (26, .i .i64 calls.length), (27, .i .i64 k)],
    [(0, some (.row 3 1 es.length fun q => ar .i64 (es.getD q default))), (1, some (.cells (d.D.map .d)))]⟩
@[reducible] noncomputable def er0 (ps : List Pol) (calls : List HD) (es : List Int) : St :=
  ⟨⟨Tryz.f14.ntmps, 0⟩, 1, [(0, .d (ak 4 Pol.D ps)), (1, .d (ak 13 HD.D calls)), (5, .i .i64 (aG ps)), (6, .b (decide (aG ps = 0))), (7, .sl 0 1 0 es.length)],
    [(0, some (.row 3 1 es.length fun q => ar .i64 (es.getD q default)))]⟩
theorem og {ps : List Pol} {calls : List HD} (hk : ∀ d ∈ calls, IsB d.key) (hl : calls.length ≤ 1048576) : Pure TC 14 [.d (ak 4 Pol.D ps), .d (ak 13 HD.D calls)] (.i .i64 (ce ps calls.length calls)) := by
  refine Pure.mk' Tryz.func14 rfl rfl (zzb rfl) ?_
  obtain ⟨es0, hes0⟩ : ∃ es0, (if 4096 < calls.length then [2] else [] : List Int) = es0 := ⟨_, rfl⟩
  have hes1 : es0.length ≤ 1 := by subst hes0; split <;> simp
  have hfo : es0.foldl aU (aG ps) = ce ps calls.length (calls.take 0) := by
    rw [List.take_zero]; show _ = err0 ps calls.length
    unfold err0; subst hes0; split <;> rfl
  (repeat' (first
    | (with_reducible refine Wp.midAt 4 (er0 ps calls es0) ?_ ?_)
    | with_reducible refine Wp.seq ?_
    | with_reducible refine Wp.block ?_
    | ((with_reducible first | refine Wp.region ?_ | refine Wp.drawL ac ?_ | refine Wp.cond ?_ | refine Wp.ret ?_ | refine Wp.skip ?_ | refine Wp.exit ?_ | refine Go.mk ?_ | apply ao.of); conv => whnf)
    | with_reducible exact rfl
    | ((with_reducible refine Ov.ok zO ?_); conv => whnf)
    | (with_reducible refine Ov.sh1 (by with_unfolding_all exact rfl) ?_)
    | ((with_reducible refine Ov.quo (by omega) (by omega) (by omega) (fun _ _ => ?_)); conv => whnf)
    | ((with_reducible refine And.intro (show ah _ _ _ _ = true by kernel_rfl) ?_); conv => whnf)
    | ((with_reducible refine And.intro zC ?_); conv => whnf)
    | ((with_reducible refine And.intro ?hb ?_); (case hb => exact ae (zzb rfl) (by omega)); (conv => whnf))
    | ((refine af.a rfl rfl rfl rfl rfl rfl ?hb ?_); (case hb => exact zB); (conv => whnf))
    | ((refine af.b rfl rfl rfl rfl rfl rfl rfl rfl ?hb ?ho ?_); (case hb => exact zB); (case ho => omega); (conv => whnf))
    | ((refine af.c rfl rfl rfl rfl rfl ?hb ?_); (case hb => exact zB); (conv => whnf))
    | ((refine af.d rfl rfl rfl rfl rfl rfl ?hb ?ho ?_); (case hb => exact zB); (case ho => omega); (conv => whnf))
    | (with_reducible refine Or.inl ?_)
    | ((with_reducible refine IxA.ptr ?_); conv => whnf)
    | ((with_reducible refine nil_no (by omega) ?_); (conv => whnf))
    | ((with_reducible refine ag ?_ (fun hn0 => ?_)) <;> (conv => whnf))
    | ((with_reducible refine ab.pure (b7 _) rfl rfl ?_); conv => whnf) | ((with_reducible refine ai.pure (b7 _) rfl rfl ?_); conv => whnf)
    | ((refine ap (fun hc => ?_) (fun hc => ?_)) <;> (try simp only [decide_eq_true_eq, decide_eq_false_iff_not, Q5, Q20, Bool.and_eq_false_iff, Bool.or_eq_false_iff, Bool.not_eq_true', Bool.not_eq_false', beq_iff_eq, bne_iff_ne, ne_eq, beq_eq_false_iff_ne, bne_eq_false_iff_eq, Bool.not_eq_true, Bool.not_eq_false] at hc) <;> (try (exfalso; omega)) <;> (conv => whnf))))
  · rw [if_pos (by omega)] at hes0
    subst hes0
    (refine Le.by [1] rfl rfl rfl rfl ?_ ?_ <;> (conv => whnf) <;> (repeat' (first | exact trivial | exact aa.rfl rfl | exact aa.ptr rfl | exact aa.sl rfl | ((with_reducible refine aa.fn ?_); (conv => whnf)) | ((refine aa.iref ?_); (conv => whnf)) | exact ⟨rfl, rfl, rfl⟩ | exact fun i hi => rfl | ((with_reducible refine And.intro ?_ ?_) <;> (conv => whnf)))))
    exact fun i hi => by obtain rfl : i = 0 := (by omega); rfl
  · rw [if_neg (by omega)] at hes0
    subst hes0
    refine Le.trans (Le.virt 7 3 1 (fun i => ar .i64 (([] : List Int).getD i default)) (by decide) rfl) ?_
    (refine Le.by [0] rfl rfl rfl rfl ?_ ?_ <;> (conv => whnf) <;> (repeat' (first | exact trivial | exact aa.rfl rfl | exact aa.ptr rfl | exact aa.sl rfl | ((with_reducible refine aa.fn ?_); (conv => whnf)) | ((refine aa.iref ?_); (conv => whnf)) | exact ⟨rfl, rfl, rfl⟩ | exact fun i hi => rfl | ((with_reducible refine And.intro ?_ ?_) <;> (conv => whnf)))))
  refine Wp.loopP (ι := Nat × List Int) (fun k => k.1 ≤ calls.length ∧ k.2.length ≤ 2 * k.1 + 1 ∧ k.2.foldl aU (aG ps) = ce ps calls.length (calls.take k.1)) (fun k => erI ps calls k.1 k.2) (fun k => calls.length - k.1) (0, es0) ⟨Nat.zero_le _, hes1, hfo⟩ ?_ ?_
  · (refine Le.by [0] rfl rfl rfl rfl ?_ ?_ <;> (conv => whnf) <;> (repeat' (first | exact trivial | exact aa.rfl rfl | exact aa.ptr rfl | exact aa.sl rfl | ((with_reducible refine aa.fn ?_); (conv => whnf)) | ((refine aa.iref ?_); (conv => whnf)) | exact ⟨rfl, rfl, rfl⟩ | exact fun i hi => rfl | ((with_reducible refine And.intro ?_ ?_) <;> (conv => whnf)))))
  · rintro ⟨k, es⟩ ⟨hk0, hel, hfe⟩
    dsimp only at hk0 hel hfe ⊢
    by_cases hi : k < calls.length
    · have hm := bv hi
      have htk := ib hi
      generalize hE : ce ps calls.length (calls.take k) = E at hfe
      obtain ⟨d, hd⟩ : ∃ d, calls.getD (k : Int).toNat default = d := ⟨_, rfl⟩
      rw [hd] at hm htk
      have hkd := hk d hm
      obtain ⟨es1, hes⟩ : ∃ es1, (if d.last < d.first then es ++ [1] else es) = es1 := ⟨_, rfl⟩
      have hel1 : es1.length ≤ 2 * k + 2 := by subst hes; split <;> (try rw [Q9, List.length_singleton]) <;> omega
      obtain ⟨E1, hE1⟩ : ∃ E1, (if d.last < d.first then aU E 1 else E) = E1 := ⟨_, rfl⟩
      have hf1 : es1.foldl aU (aG ps) = E1 := by
        subst hes hE1
        split
        · rw [List.foldl_append, hfe]; rfl
        · exact hfe
      have hnext : ce ps calls.length (calls.take (k + 1)) = if dD ps d = true then aU E1 3 else if bM ps d = true then (if 8 < ((calls.take (k + 1)).filter (inG ps d)).length then aU E1 2 else E1) else E1 := by
        rw [htk, cD, hE]
        unfold bO
        dsimp only
        rw [hE1]
        rfl
      have hskip : 4096 ≤ k → aU E1 2 = E1 := fun h => by
        have := o8 (ps := ps) (n := calls.length) (by omega) k calls
        rw [hE] at this
        rw [← hE1]
        unfold aU
        (repeat' split) <;> omega
      have hbd : dD ps d = true ↔ aG ps = 0 ∧ ¬ iE ps d.op d.pol d.key d.n = 0 := by unfold dD; rw [Q5, decide_eq_true_eq, decide_eq_true_eq]
      have hin : bM ps d = true ↔ dD ps d = false ∧ aI d.pol d.key = 0 ∧ cp d = true := by unfold bM; rw [Q5, Q5, Bool.not_eq_true', decide_eq_true_eq]
      clear hE hE1 hfe hfo
      (repeat' (first
    | (with_reducible refine Wp.midAt 9 (erJ ps calls k es1 d) ?_ ?_)
    | with_reducible refine Wp.seq ?_
    | with_reducible refine Wp.block ?_
    | ((with_reducible first | refine Wp.region ?_ | refine Wp.drawL ac ?_ | refine Wp.cond ?_ | refine Wp.ret ?_ | refine Wp.skip ?_ | refine Wp.exit ?_ | refine Go.mk ?_ | apply ao.of); conv => whnf)
    | with_reducible exact rfl
    | ((with_reducible refine Ov.ok zO ?_); conv => whnf)
    | (with_reducible refine Ov.sh1 (by with_unfolding_all exact rfl) ?_)
    | ((with_reducible refine Ov.quo (by omega) (by omega) (by omega) (fun _ _ => ?_)); conv => whnf)
    | ((with_reducible refine And.intro (show ah _ _ _ _ = true by kernel_rfl) ?_); conv => whnf)
    | ((with_reducible refine And.intro zC ?_); conv => whnf)
    | ((with_reducible refine And.intro ?hb ?_); (case hb => exact ae (zzb rfl) (by omega)); (conv => whnf))
    | ((refine af.a rfl rfl rfl rfl rfl rfl ?hb ?_); (case hb => exact zB); (conv => whnf))
    | ((refine af.b rfl rfl rfl rfl rfl rfl rfl rfl ?hb ?ho ?_); (case hb => exact zB); (case ho => omega); (conv => whnf))
    | ((refine af.c rfl rfl rfl rfl rfl ?hb ?_); (case hb => exact zB); (conv => whnf))
    | ((refine af.d rfl rfl rfl rfl rfl rfl ?hb ?ho ?_); (case hb => exact zB); (case ho => omega); (conv => whnf))
    | (with_reducible refine Or.inl ?_)
    | ((with_reducible refine IxA.ptr ?_); conv => whnf)
    | ((with_reducible refine nil_no (by omega) ?_); (conv => whnf))
    | ((with_reducible refine ag ?_ (fun hn0 => ?_)) <;> (conv => whnf))
    | ((with_reducible refine ab.pure (dW _ _ _ _ _) rfl rfl ?_); conv => whnf) | ((with_reducible refine ai.pure (dW _ _ _ _ _) rfl rfl ?_); conv => whnf)
    | ((with_reducible refine ab.pure (bD _) rfl rfl ?_); conv => whnf) | ((with_reducible refine ai.pure (bD _) rfl rfl ?_); conv => whnf)
    | ((with_reducible refine ab.pure (dV _ _ _ _) rfl rfl ?_); conv => whnf) | ((with_reducible refine ai.pure (dV _ _ _ _) rfl rfl ?_); conv => whnf)
    | ((refine ap (fun hc => ?_) (fun hc => ?_)) <;> (try simp only [decide_eq_true_eq, decide_eq_false_iff_not, Q5, Q20, Bool.and_eq_false_iff, Bool.or_eq_false_iff, Bool.not_eq_true', Bool.not_eq_false', beq_iff_eq, bne_iff_ne, ne_eq, beq_eq_false_iff_ne, bne_eq_false_iff_eq, Bool.not_eq_true, Bool.not_eq_false] at hc) <;> (try (exfalso; omega)) <;> (conv => whnf))))
      · subst hd
        rw [if_pos (by omega)] at hes
        subst hes
        (refine Le.by [3,1] rfl rfl rfl rfl ?_ ?_ <;> (conv => whnf) <;> (repeat' (first | exact trivial | exact aa.rfl rfl | exact aa.ptr rfl | exact aa.sl rfl | ((with_reducible refine aa.fn ?_); (conv => whnf)) | ((refine aa.iref ?_); (conv => whnf)) | exact ⟨rfl, rfl, rfl⟩ | exact fun i hi => rfl | ((with_reducible refine And.intro ?_ ?_) <;> (conv => whnf)))))
        all_goals first
          | (rw [Q9]; exact aa.sl rfl)
          | rfl
          | (rw [Q9]; rfl)
          | exact aY _ _
      · subst hd
        rw [if_neg (by omega)] at hes
        subst hes
        (refine Le.by [0,1] rfl rfl rfl rfl ?_ ?_ <;> (conv => whnf) <;> (repeat' (first | exact trivial | exact aa.rfl rfl | exact aa.ptr rfl | exact aa.sl rfl | ((with_reducible refine aa.fn ?_); (conv => whnf)) | ((refine aa.iref ?_); (conv => whnf)) | exact ⟨rfl, rfl, rfl⟩ | exact fun i hi => rfl | ((with_reducible refine And.intro ?_ ?_) <;> (conv => whnf)))))
      · refine ⟨(k + 1, es1 ++ [3]), ⟨by dsimp only; omega, by dsimp only; rw [Q9, List.length_singleton]; omega, ?_⟩, by dsimp only; omega, ?_⟩
        · dsimp only
          rw [List.foldl_append, hf1, hnext, if_pos (hbd.2 ⟨by assumption, by assumption⟩)]; rfl
        · (refine Le.by [3] rfl rfl rfl rfl ?_ ?_ <;> (conv => whnf) <;> (repeat' (first | exact trivial | exact aa.rfl rfl | exact aa.ptr rfl | exact aa.sl rfl | ((with_reducible refine aa.fn ?_); (conv => whnf)) | ((refine aa.iref ?_); (conv => whnf)) | exact ⟨rfl, rfl, rfl⟩ | exact fun i hi => rfl | ((with_reducible refine And.intro ?_ ?_) <;> (conv => whnf)))))
          all_goals first
            | (rw [Q9]; exact aa.sl rfl)
            | rfl
            | (rw [Q9]; rfl)
            | exact aY _ _
      all_goals
        have hb : dD ps d = false := by
          refine Bool.eq_false_iff.2 fun h => ?_
          have h := hbd.1 h
          first | exact h.2 (by assumption) | exact absurd h.1 (by assumption)
        rw [hb, if_neg (by decide)] at hnext
        rw [hb] at hin
      all_goals first
        | (refine ⟨(k + 1, es1), ⟨?ga, ?gb, ?gc⟩, ?gd, ?ge⟩
           (case ga => dsimp only; omega)
           (case gb => dsimp only; omega)
           (case gd => dsimp only; omega)
           (case ge => (refine Le.by [0] rfl rfl rfl rfl ?_ ?_ <;> (conv => whnf) <;> (repeat' (first | exact trivial | exact aa.rfl rfl | exact aa.ptr rfl | exact aa.sl rfl | ((with_reducible refine aa.fn ?_); (conv => whnf)) | ((refine aa.iref ?_); (conv => whnf)) | exact ⟨rfl, rfl, rfl⟩ | exact fun i hi => rfl | ((with_reducible refine And.intro ?_ ?_) <;> (conv => whnf))))))
           (case gc =>
             dsimp only
             rw [hf1, hnext]
             first
               | (rw [if_neg (by rw [hin]; intro h; exact absurd h.2.1 (by assumption))])
               | (rw [if_neg (by rw [hin]; intro h; exact absurd h.2.2 (by rw [show cp _ = false by assumption]; decide))])
               | (rw [hskip (by omega), ite_self, ite_self])))
        | skip
      all_goals
        have hid : aI d.pol d.key = 0 := by assumption
        have hcn : cp d = true := by assumption
        rw [if_pos (hin.2 ⟨rfl, hid, hcn⟩)] at hnext
        have hg := fun j (hj : j < calls.length) => sU (ps := ps) hid hkd (hk _ (bv hj))
        have hct : ∀ j, j < calls.length → ((calls.take (j + 1)).filter (inG ps d)).length = ((calls.take j).filter (inG ps d)).length + if inG ps d (calls.getD (j : Int).toNat default) = true then 1 else 0 := fun j hj => by
          rw [ib hj, List.filter_append, Q9]
          congr 1
          rw [List.filter_cons]
          split <;> rfl
        have hcl : ∀ j, ((calls.take j).filter (inG ps d)).length ≤ calls.length := fun j => Nat.le_trans (List.length_filter_le _ _) (by rw [Q10]; omega)
        refine Wp.loopP (ι := Nat) (fun j => j ≤ k + 1)
          (fun j => ⟨⟨Tryz.f14.ntmps, 0⟩, 2, [(0, .d (ak 4 Pol.D ps)), (1, .d (ak 13 HD.D calls)), (5, .i .i64 (aG ps)), (6, .b (decide (aG ps = 0))), (7, .sl 0 1 0 es1.length), (8, .i .i64 k), (9, .ptr 1 0), (10, .i .i64 (((calls.take j).filter (inG ps d)).length : Nat)), (25, .d (ak 13 HD.D calls)), (26, .i .i64 calls.length), (27, .i .i64 k), (67, .d (.sl 13 (k + 1) fun i => HD.D (calls.getD i default))), (68, .i .i64 ((k + 1 : Nat) : Int)), (69, .i .i64 j)],
            [(0, some (.row 3 1 es1.length fun q => ar .i64 (es1.getD q default))), (1, some (.cells (d.D.map .d)))]⟩) (fun j => k + 1 - j) 0 (Nat.zero_le _) ?_ ?_
      iterate 2
        · (refine Le.by [0,1] rfl rfl rfl rfl ?_ ?_ <;> (conv => whnf) <;> (repeat' (first | exact trivial | exact aa.rfl rfl | exact aa.ptr rfl | exact aa.sl rfl | ((with_reducible refine aa.fn ?_); (conv => whnf)) | ((refine aa.iref ?_); (conv => whnf)) | exact ⟨rfl, rfl, rfl⟩ | exact fun i hi => rfl | ((with_reducible refine And.intro ?_ ?_) <;> (conv => whnf)))))
          all_goals first
            | exact aa.free (ig (by omega) fun q _ => by rw [Q19]) rfl
            | exact aa.free (.i (by omega)) rfl
        · intro j hj
          by_cases hjk : j < k + 1
          · have hx := hg j (by omega)
            have hcx := hct j (by omega)
            have hcl' := hcl j
            (repeat' (first
    | with_reducible refine Wp.seq ?_
    | with_reducible refine Wp.block ?_
    | ((with_reducible first | refine Wp.region ?_ | refine Wp.drawL ac ?_ | refine Wp.cond ?_ | refine Wp.ret ?_ | refine Wp.skip ?_ | refine Wp.exit ?_ | refine Go.mk ?_ | apply ao.of); conv => whnf)
    | with_reducible exact rfl
    | ((with_reducible refine Ov.ok zO ?_); conv => whnf)
    | (with_reducible refine Ov.sh1 (by with_unfolding_all exact rfl) ?_)
    | ((with_reducible refine Ov.quo (by omega) (by omega) (by omega) (fun _ _ => ?_)); conv => whnf)
    | ((with_reducible refine And.intro (show ah _ _ _ _ = true by kernel_rfl) ?_); conv => whnf)
    | ((with_reducible refine And.intro zC ?_); conv => whnf)
    | ((with_reducible refine And.intro ?hb ?_); (case hb => exact ae (zzb rfl) (by omega)); (conv => whnf))
    | ((refine af.a rfl rfl rfl rfl rfl rfl ?hb ?_); (case hb => exact zB); (conv => whnf))
    | ((refine af.b rfl rfl rfl rfl rfl rfl rfl rfl ?hb ?ho ?_); (case hb => exact zB); (case ho => omega); (conv => whnf))
    | ((refine af.c rfl rfl rfl rfl rfl ?hb ?_); (case hb => exact zB); (conv => whnf))
    | ((refine af.d rfl rfl rfl rfl rfl rfl ?hb ?ho ?_); (case hb => exact zB); (case ho => omega); (conv => whnf))
    | (with_reducible refine Or.inl ?_)
    | ((with_reducible refine IxA.ptr ?_); conv => whnf)
    | ((with_reducible refine nil_no (by omega) ?_); (conv => whnf))
    | ((with_reducible refine ag ?_ (fun hn0 => ?_)) <;> (conv => whnf))
    | ((with_reducible refine ab.pure (dW _ _ _ _ _) rfl rfl ?_); conv => whnf) | ((with_reducible refine ai.pure (dW _ _ _ _ _) rfl rfl ?_); conv => whnf)
    | ((with_reducible refine ab.pure (bD _) rfl rfl ?_); conv => whnf) | ((with_reducible refine ai.pure (bD _) rfl rfl ?_); conv => whnf)
    | ((with_reducible refine ab.pure (dV _ _ _ _) rfl rfl ?_); conv => whnf) | ((with_reducible refine ai.pure (dV _ _ _ _) rfl rfl ?_); conv => whnf)
    | ((with_reducible refine ab.pure (fG _ _ _ _ _ _ _ _) rfl rfl ?_); conv => whnf) | ((with_reducible refine ai.pure (fG _ _ _ _ _ _ _ _) rfl rfl ?_); conv => whnf)
    | ((refine ap (fun hc => ?_) (fun hc => ?_)) <;> (try simp only [decide_eq_true_eq, decide_eq_false_iff_not, Q5, Q20, Bool.and_eq_false_iff, Bool.or_eq_false_iff, Bool.not_eq_true', Bool.not_eq_false', beq_iff_eq, bne_iff_ne, ne_eq, beq_eq_false_iff_ne, bne_eq_false_iff_eq, Bool.not_eq_true, Bool.not_eq_false] at hc) <;> (try (exfalso; omega)) <;> (conv => whnf))))
            all_goals first
              | (refine ⟨j + 1, by omega, by dsimp only; omega, ?ge⟩
                 (case ge =>
                   (refine Le.by [0,1] rfl rfl rfl rfl ?_ ?_ <;> (conv => whnf) <;> (repeat' (first | exact trivial | exact aa.rfl rfl | exact aa.ptr rfl | exact aa.sl rfl | ((with_reducible refine aa.fn ?_); (conv => whnf)) | ((refine aa.iref ?_); (conv => whnf)) | exact ⟨rfl, rfl, rfl⟩ | exact fun i hi => rfl | ((with_reducible refine And.intro ?_ ?_) <;> (conv => whnf)))))
                   all_goals exact aa.free (.i (by rw [hcx, if_pos (hx.2 ⟨by assumption, by assumption, by assumption, by first | exact Or.inl (by assumption) | exact Or.inr (by assumption)⟩)]; omega)) rfl))
              | (refine ⟨j + 1, by omega, by dsimp only; omega, ?ge⟩
                 (case ge =>
                   (refine Le.by [0,1] rfl rfl rfl rfl ?_ ?_ <;> (conv => whnf) <;> (repeat' (first | exact trivial | exact aa.rfl rfl | exact aa.ptr rfl | exact aa.sl rfl | ((with_reducible refine aa.fn ?_); (conv => whnf)) | ((refine aa.iref ?_); (conv => whnf)) | exact ⟨rfl, rfl, rfl⟩ | exact fun i hi => rfl | ((with_reducible refine And.intro ?_ ?_) <;> (conv => whnf)))))
                   all_goals exact aa.free (.i (by
                     rw [hcx, if_neg]
                     · omega
                     · intro h
                       have h := hx.1 h
                       first
                         | exact absurd h.1 (by rw [show cp _ = false by assumption]; decide)
                         | exact absurd h.2.1 (by assumption)
                         | exact absurd h.2.2.1 (by assumption)
                         | (have hh : ¬ (calls.getD (j : Int).toNat default).pol = d.pol ∨ ¬ (calls.getD (j : Int).toNat default).key = d.key := by assumption
                            rcases hh with hh | hh
                            · exact hh h.2.2.1.1
                            · exact hh h.2.2.1.2)
                         | (rcases h.2.2.2 with q | q
                            · exact q (by assumption)
                            · exact absurd q (by assumption)))) rfl))
          · obtain rfl : j = k + 1 := by omega
            (repeat' (first
    | with_reducible refine Wp.seq ?_
    | with_reducible refine Wp.block ?_
    | ((with_reducible first | refine Wp.region ?_ | refine Wp.drawL ac ?_ | refine Wp.cond ?_ | refine Wp.ret ?_ | refine Wp.skip ?_ | refine Wp.exit ?_ | refine Go.mk ?_ | apply ao.of); conv => whnf)
    | with_reducible exact rfl
    | ((with_reducible refine Ov.ok zO ?_); conv => whnf)
    | (with_reducible refine Ov.sh1 (by with_unfolding_all exact rfl) ?_)
    | ((with_reducible refine Ov.quo (by omega) (by omega) (by omega) (fun _ _ => ?_)); conv => whnf)
    | ((with_reducible refine And.intro (show ah _ _ _ _ = true by kernel_rfl) ?_); conv => whnf)
    | ((with_reducible refine And.intro zC ?_); conv => whnf)
    | ((with_reducible refine And.intro ?hb ?_); (case hb => exact ae (zzb rfl) (by omega)); (conv => whnf))
    | ((refine af.a rfl rfl rfl rfl rfl rfl ?hb ?_); (case hb => exact zB); (conv => whnf))
    | ((refine af.b rfl rfl rfl rfl rfl rfl rfl rfl ?hb ?ho ?_); (case hb => exact zB); (case ho => omega); (conv => whnf))
    | ((refine af.c rfl rfl rfl rfl rfl ?hb ?_); (case hb => exact zB); (conv => whnf))
    | ((refine af.d rfl rfl rfl rfl rfl rfl ?hb ?ho ?_); (case hb => exact zB); (case ho => omega); (conv => whnf))
    | (with_reducible refine Or.inl ?_)
    | ((with_reducible refine IxA.ptr ?_); conv => whnf)
    | ((with_reducible refine nil_no (by omega) ?_); (conv => whnf))
    | ((with_reducible refine ag ?_ (fun hn0 => ?_)) <;> (conv => whnf))
    
    | ((refine ap (fun hc => ?_) (fun hc => ?_)) <;> (try simp only [decide_eq_true_eq, decide_eq_false_iff_not, Q5, Q20, Bool.and_eq_false_iff, Bool.or_eq_false_iff, Bool.not_eq_true', Bool.not_eq_false', beq_iff_eq, bne_iff_ne, ne_eq, beq_eq_false_iff_ne, bne_eq_false_iff_eq, Bool.not_eq_true, Bool.not_eq_false] at hc) <;> (try (exfalso; omega)) <;> (conv => whnf))))
            · refine ⟨(k + 1, es1 ++ [2]), ⟨by dsimp only; omega, by dsimp only; rw [Q9, List.length_singleton]; omega, ?_⟩, by dsimp only; omega, ?_⟩
              · dsimp only
                rw [List.foldl_append, hf1, hnext, if_pos (by omega)]; rfl
              · (refine Le.by [3] rfl rfl rfl rfl ?_ ?_ <;> (conv => whnf) <;> (repeat' (first | exact trivial | exact aa.rfl rfl | exact aa.ptr rfl | exact aa.sl rfl | ((with_reducible refine aa.fn ?_); (conv => whnf)) | ((refine aa.iref ?_); (conv => whnf)) | exact ⟨rfl, rfl, rfl⟩ | exact fun i hi => rfl | ((with_reducible refine And.intro ?_ ?_) <;> (conv => whnf)))))
                all_goals first
                  | (rw [Q9]; exact aa.sl rfl)
                  | rfl
                  | (rw [Q9]; rfl)
                  | exact aY _ _
            · refine ⟨(k + 1, es1), ⟨by dsimp only; omega, by dsimp only; omega, ?_⟩, by dsimp only; omega, ?_⟩
              · dsimp only
                rw [hf1, hnext, if_neg (by omega)]
              · (refine Le.by [0] rfl rfl rfl rfl ?_ ?_ <;> (conv => whnf) <;> (repeat' (first | exact trivial | exact aa.rfl rfl | exact aa.ptr rfl | exact aa.sl rfl | ((with_reducible refine aa.fn ?_); (conv => whnf)) | ((refine aa.iref ?_); (conv => whnf)) | exact ⟨rfl, rfl, rfl⟩ | exact fun i hi => rfl | ((with_reducible refine And.intro ?_ ?_) <;> (conv => whnf)))))
    · obtain rfl : k = calls.length := by omega
      rw [List.take_length] at hfe
      (repeat' (first
    | with_reducible refine Wp.seq ?_
    | with_reducible refine Wp.block ?_
    | ((with_reducible first | refine Wp.region ?_ | refine Wp.drawL ac ?_ | refine Wp.cond ?_ | refine Wp.ret ?_ | refine Wp.skip ?_ | refine Wp.exit ?_ | refine Go.mk ?_ | apply ao.of); conv => whnf)
    | with_reducible exact rfl
    | ((with_reducible refine Ov.ok zO ?_); conv => whnf)
    | (with_reducible refine Ov.sh1 (by with_unfolding_all exact rfl) ?_)
    | ((with_reducible refine Ov.quo (by omega) (by omega) (by omega) (fun _ _ => ?_)); conv => whnf)
    | ((with_reducible refine And.intro (show ah _ _ _ _ = true by kernel_rfl) ?_); conv => whnf)
    | ((with_reducible refine And.intro zC ?_); conv => whnf)
    | ((with_reducible refine And.intro ?hb ?_); (case hb => exact ae (zzb rfl) (by omega)); (conv => whnf))
    | ((refine af.a rfl rfl rfl rfl rfl rfl ?hb ?_); (case hb => exact zB); (conv => whnf))
    | ((refine af.b rfl rfl rfl rfl rfl rfl rfl rfl ?hb ?ho ?_); (case hb => exact zB); (case ho => omega); (conv => whnf))
    | ((refine af.c rfl rfl rfl rfl rfl ?hb ?_); (case hb => exact zB); (conv => whnf))
    | ((refine af.d rfl rfl rfl rfl rfl rfl ?hb ?ho ?_); (case hb => exact zB); (case ho => omega); (conv => whnf))
    | (with_reducible refine Or.inl ?_)
    | ((with_reducible refine IxA.ptr ?_); conv => whnf)
    | ((with_reducible refine nil_no (by omega) ?_); (conv => whnf))
    | ((with_reducible refine ag ?_ (fun hn0 => ?_)) <;> (conv => whnf))
    
    | ((refine ap (fun hc => ?_) (fun hc => ?_)) <;> (try simp only [decide_eq_true_eq, decide_eq_false_iff_not, Q5, Q20, Bool.and_eq_false_iff, Bool.or_eq_false_iff, Bool.not_eq_true', Bool.not_eq_false', beq_iff_eq, bne_iff_ne, ne_eq, beq_eq_false_iff_ne, bne_eq_false_iff_eq, Bool.not_eq_true, Bool.not_eq_false] at hc) <;> (try (exfalso; omega)) <;> (conv => whnf))))
      refine Wp.loopP (ι := Nat × Int) (fun q => q.1 ≤ es.length ∧ q.2 = (es.take q.1).foldl aU (aG ps)) (fun q => ⟨⟨Tryz.f14.ntmps, 0⟩, 1, [(5, .i .i64 q.2), (107, .sl 0 1 0 es.length), (108, .i .i64 es.length), (109, .i .i64 q.1)], [(0, some (.row 3 1 es.length fun q => ar .i64 (es.getD q default)))]⟩) (fun q => es.length - q.1) (0, aG ps) ⟨Nat.zero_le _, rfl⟩ ?_ ?_
      · (refine Le.by [0] rfl rfl rfl rfl ?_ ?_ <;> (conv => whnf) <;> (repeat' (first | exact trivial | exact aa.rfl rfl | exact aa.ptr rfl | exact aa.sl rfl | ((with_reducible refine aa.fn ?_); (conv => whnf)) | ((refine aa.iref ?_); (conv => whnf)) | exact ⟨rfl, rfl, rfl⟩ | exact fun i hi => rfl | ((with_reducible refine And.intro ?_ ?_) <;> (conv => whnf)))))
      · rintro ⟨q, v⟩ ⟨hq, hv⟩
        dsimp only at hq hv ⊢
        by_cases hlt : q < es.length
        · have htk : es.take (q + 1) = es.take q ++ [es.getD (q : Int).toNat default] := by
            rw [Q13, List.take_succ_eq_append_getElem hlt, Q1, Q0 hlt]; rfl
          have hw : (es.take (q + 1)).foldl aU (aG ps) = (if v = 0 ∨ es.getD (q : Int).toNat default < v then es.getD (q : Int).toNat default else v) := by rw [htk, List.foldl_append, ← hv]; rfl
          (repeat' (first
    | with_reducible refine Wp.seq ?_
    | with_reducible refine Wp.block ?_
    | ((with_reducible first | refine Wp.region ?_ | refine Wp.drawL ac ?_ | refine Wp.cond ?_ | refine Wp.ret ?_ | refine Wp.skip ?_ | refine Wp.exit ?_ | refine Go.mk ?_ | apply ao.of); conv => whnf)
    | with_reducible exact rfl
    | ((with_reducible refine Ov.ok zO ?_); conv => whnf)
    | (with_reducible refine Ov.sh1 (by with_unfolding_all exact rfl) ?_)
    | ((with_reducible refine Ov.quo (by omega) (by omega) (by omega) (fun _ _ => ?_)); conv => whnf)
    | ((with_reducible refine And.intro (show ah _ _ _ _ = true by kernel_rfl) ?_); conv => whnf)
    | ((with_reducible refine And.intro zC ?_); conv => whnf)
    | ((with_reducible refine And.intro ?hb ?_); (case hb => exact ae (zzb rfl) (by omega)); (conv => whnf))
    | ((refine af.a rfl rfl rfl rfl rfl rfl ?hb ?_); (case hb => exact zB); (conv => whnf))
    | ((refine af.b rfl rfl rfl rfl rfl rfl rfl rfl ?hb ?ho ?_); (case hb => exact zB); (case ho => omega); (conv => whnf))
    | ((refine af.c rfl rfl rfl rfl rfl ?hb ?_); (case hb => exact zB); (conv => whnf))
    | ((refine af.d rfl rfl rfl rfl rfl rfl ?hb ?ho ?_); (case hb => exact zB); (case ho => omega); (conv => whnf))
    | (with_reducible refine Or.inl ?_)
    | ((with_reducible refine IxA.ptr ?_); conv => whnf)
    | ((with_reducible refine nil_no (by omega) ?_); (conv => whnf))
    | ((with_reducible refine ag ?_ (fun hn0 => ?_)) <;> (conv => whnf))
    
    | ((refine ap (fun hc => ?_) (fun hc => ?_)) <;> (try simp only [decide_eq_true_eq, decide_eq_false_iff_not, Q5, Q20, Bool.and_eq_false_iff, Bool.or_eq_false_iff, Bool.not_eq_true', Bool.not_eq_false', beq_iff_eq, bne_iff_ne, ne_eq, beq_eq_false_iff_ne, bne_eq_false_iff_eq, Bool.not_eq_true, Bool.not_eq_false] at hc) <;> (try (exfalso; omega)) <;> (conv => whnf))))
          all_goals simp only [Q19] at *
          all_goals first
            | (refine ⟨(q + 1, es.getD (q : Int).toNat default), ⟨by dsimp only; omega, ?gc⟩, by dsimp only; omega, ?ge⟩
               (case ge => (refine Le.by [0] rfl rfl rfl rfl ?_ ?_ <;> (conv => whnf) <;> (repeat' (first | exact trivial | exact aa.rfl rfl | exact aa.ptr rfl | exact aa.sl rfl | ((with_reducible refine aa.fn ?_); (conv => whnf)) | ((refine aa.iref ?_); (conv => whnf)) | exact ⟨rfl, rfl, rfl⟩ | exact fun i hi => rfl | ((with_reducible refine And.intro ?_ ?_) <;> (conv => whnf))))))
               (case gc => dsimp only; rw [hw, if_pos (by omega)]))
            | (refine ⟨(q + 1, v), ⟨by dsimp only; omega, ?gc⟩, by dsimp only; omega, ?ge⟩
               (case ge => (refine Le.by [0] rfl rfl rfl rfl ?_ ?_ <;> (conv => whnf) <;> (repeat' (first | exact trivial | exact aa.rfl rfl | exact aa.ptr rfl | exact aa.sl rfl | ((with_reducible refine aa.fn ?_); (conv => whnf)) | ((refine aa.iref ?_); (conv => whnf)) | exact ⟨rfl, rfl, rfl⟩ | exact fun i hi => rfl | ((with_reducible refine And.intro ?_ ?_) <;> (conv => whnf))))))
               (case gc => dsimp only; rw [hw, if_neg (by omega)]))
        · obtain rfl : q = es.length := by omega
          rw [List.take_length, hfe] at hv
          subst hv
          (repeat' (first
    | with_reducible refine Wp.seq ?_
    | with_reducible refine Wp.block ?_
    | ((with_reducible first | refine Wp.region ?_ | refine Wp.drawL ac ?_ | refine Wp.cond ?_ | refine Wp.ret ?_ | refine Wp.skip ?_ | refine Wp.exit ?_ | refine Go.mk ?_ | apply ao.of); conv => whnf)
    | with_reducible exact rfl
    | ((with_reducible refine Ov.ok zO ?_); conv => whnf)
    | (with_reducible refine Ov.sh1 (by with_unfolding_all exact rfl) ?_)
    | ((with_reducible refine Ov.quo (by omega) (by omega) (by omega) (fun _ _ => ?_)); conv => whnf)
    | ((with_reducible refine And.intro (show ah _ _ _ _ = true by kernel_rfl) ?_); conv => whnf)
    | ((with_reducible refine And.intro zC ?_); conv => whnf)
    | ((with_reducible refine And.intro ?hb ?_); (case hb => exact ae (zzb rfl) (by omega)); (conv => whnf))
    | ((refine af.a rfl rfl rfl rfl rfl rfl ?hb ?_); (case hb => exact zB); (conv => whnf))
    | ((refine af.b rfl rfl rfl rfl rfl rfl rfl rfl ?hb ?ho ?_); (case hb => exact zB); (case ho => omega); (conv => whnf))
    | ((refine af.c rfl rfl rfl rfl rfl ?hb ?_); (case hb => exact zB); (conv => whnf))
    | ((refine af.d rfl rfl rfl rfl rfl rfl ?hb ?ho ?_); (case hb => exact zB); (case ho => omega); (conv => whnf))
    | (with_reducible refine Or.inl ?_)
    | ((with_reducible refine IxA.ptr ?_); conv => whnf)
    | ((with_reducible refine nil_no (by omega) ?_); (conv => whnf))
    | ((with_reducible refine ag ?_ (fun hn0 => ?_)) <;> (conv => whnf))
    
    | ((refine ap (fun hc => ?_) (fun hc => ?_)) <;> (try simp only [decide_eq_true_eq, decide_eq_false_iff_not, Q5, Q20, Bool.and_eq_false_iff, Bool.or_eq_false_iff, Bool.not_eq_true', Bool.not_eq_false', beq_iff_eq, bne_iff_ne, ne_eq, beq_eq_false_iff_ne, bne_eq_false_iff_eq, Bool.not_eq_true, Bool.not_eq_false] at hc) <;> (try (exfalso; omega)) <;> (conv => whnf))))
          exact .rfl _
end
theorem Sat.frz {O : Org} {E : Env} {nt : NT} {nx : Nat} {fr : List (Nat × SV)} {hp : List (Nat × Option Blk)} {a : Act} {w : World} (hs : Sat O E ⟨nt, nx, fr, hp⟩ a w) {l e z m : Nat} {f : Nat → List D} (hl : lkh hp l = some (.row e z m f)) {off n : Nat} (h1 : off + n ≤ m) :
    ∃ E', Sat O E' ⟨nt, nx, fr, (l, none) :: hp⟩ a w ∧ ∀ u, RS E' nx w (.sl l z off n) u → RS E' nx w (.d (.sl z n fun i => f (off + i))) u := by
  by_cases hκ : 0 < E.κ l
  · obtain ⟨s1, s2⟩ := hs.imm (w' := w) hl hκ (fun _ _ _ => rfl) rfl ⟨rfl, rfl, rfl⟩ (fun vs hvs => ⟨_, hvs⟩)
    refine ⟨_, s1, fun u hu => s2 off n u h1 ?_⟩
    cases hu with
    | sl _ _ _ _ a' cap hlx hc hmx ha h0 => exact .sl _ _ _ _ a' cap hlx hc hmx ha h0
  · have hm := (hs.hp l _ hl).1
    have hn : n = 0 := by omega
    subst hn
    refine ⟨E, hs.kill l, fun u hu => ?_⟩
    cases hu with
    | sl _ _ _ _ a' cap hlx hc hmx ha h0 => exact .d _ _ (.sl _ 0 _ a' cap (fun _ _ => undef) hc hmx (fun i hi => by omega) (fun h => by omega) (fun i j hi => by omega))
theorem Wp.frzC {C : Cx} {c : Code} {nt : NT} {nx : Nat} {fr : List (Nat × SV)} {hp : List (Nat × Option Blk)} {Q : Exit → St → Prop} (k j : Nat) {cs : List SV} {l z off n e m : Nat} {f : Nat → List D}
    (hk : lkh hp k = some (.cells cs)) (hj : cs[j]? = some (.sl l z off n)) (hl : lkh hp l = some (.row e z m f)) (hkl : l ≠ k) (hn : off + n ≤ m)
    (h : Wp C c ⟨nt, nx, fr, (k, some (.cells (cs.set j (.d (.sl z n fun i => f (off + i)))))) :: (l, none) :: hp⟩ Q) : Wp C c ⟨nt, nx, fr, hp⟩ Q := by
  refine ⟨fun O E a w hs => ?_⟩
  obtain ⟨E', s1, s2⟩ := hs.frz hl hn
  refine h.out O E' a w (s1.rehp fun k' b' hb' => ?_)
  rw [aj] at hb'
  by_cases e1 : k = k'
  · subst e1
    rw [if_pos rfl] at hb'; cases hb'
    refine ⟨.cells cs, by rw [aj, if_neg hkl]; exact hk, fun _ h => h, fun hb => ?_⟩
    obtain ⟨vs, T, h1, h2, h3⟩ := hb
    refine ⟨vs, T, h1, by rw [List.length_set]; exact h2, fun i hi => ?_⟩
    rw [List.length_set] at hi
    obtain ⟨h4, h5⟩ := h3 i hi
    refine ⟨?_, h5⟩
    by_cases e2 : j = i
    · subst e2
      rw [List.getElem_set_self]
      refine s2 _ ?_
      rw [Q0 hi] at hj
      rw [← Option.some.inj hj]; exact h4
    · rw [List.getElem_set_ne e2]; exact h4
  · rw [if_neg e1] at hb'
    exact ⟨b', hb', fun _ h => h, fun h => h⟩
section
namespace Hist
theorem jN : ∀ n : Nat, n ≤ 8 → ∀ q : Nat, q < n → (2 ^ n - 1).testBit q = true := by decide
theorem k0 : ∀ n : Nat, n ≤ 8 → ∀ q : Nat, n ≤ q → (2 ^ n - 1).testBit q = false := fun n hn q hq => by
  rw [Nat.testBit_two_pow_sub_one]; exact decide_eq_false (by omega)
structure kX (ps : List Pol) (calls : List HD) : Prop where
  pl : aG ps = 0
  len : calls.length ≤ 4096
  chk : ∀ d ∈ calls, iE ps d.op d.pol d.key d.n = 0
  bt : ∀ d ∈ calls, IsB d.key
  g8 : ∀ k, (grp ps calls k).length ≤ 8
theorem kX.of {ps : List Pol} {calls : List HD} (h : ce ps calls.length calls = 0) (hk : ∀ d ∈ calls, IsB d.key) : kX ps calls := by
  obtain ⟨a, b, c, e⟩ := s6 h
  refine ⟨a, b, fun d hd => ?_, hk, e⟩
  have := (c d hd).2
  unfold dD at this
  rw [decide_eq_true a, Bool.true_and, decide_eq_false_iff_not] at this
  exact Decidable.not_not.1 this
theorem lz {d : HD} (h : cp d = true) : d.op < 5 := (cnt_op h).2
theorem kX.id {ps : List Pol} {calls : List HD} (h : kX ps calls) {d : HD} (hd : d ∈ calls) (hc : cp d = true) : aI d.pol d.key = 0 ∧ 0 ≤ d.pol ∧ d.pol < ps.length := by
  obtain ⟨hp, _, _, hk, _⟩ := sg (h.chk d hd)
  obtain ⟨h1, h2, h3⟩ := hk (lz hc)
  have := cw hp
  unfold aI
  rw [if_neg (by omega), if_neg (by omega)]
  exact ⟨rfl, h2, h3⟩
theorem kX.inc {ps : List Pol} {calls : List HD} (h : kX ps calls) {d : HD} (hd : d ∈ calls) (hc : cp d = true) : bM ps d = true := by
  unfold bM dD
  rw [h.chk d hd, hc, (h.id hd hc).1]
  simp
theorem kX.inG {ps : List Pol} {calls : List HD} (h : kX ps calls) {d x : HD} (hd : d ∈ calls) (hc : cp d = true) (hx : x ∈ calls) : inG ps d x = true ↔ cp x = true ∧ x.pol = d.pol ∧ x.key = d.key := by
  rw [sU (h.id hd hc).1 (h.bt d hd) (h.bt x hx)]
  constructor
  · rintro ⟨a, _, b, _⟩; exact ⟨a, b⟩
  · rintro ⟨a, b⟩; exact ⟨a, (h.id hx a).1, b, Or.inr (h.chk x hx)⟩
theorem kX.grp {ps : List Pol} {calls : List HD} (h : kX ps calls) {d : HD} (hd : d ∈ calls) (hc : cp d = true) : su ps d.pol d.key (grp ps calls (kb d)) := by
  have hm : ∀ e ∈ Hist.grp ps calls (kb d), e ∈ calls ∧ cp e = true ∧ e.pol = d.pol ∧ e.key = d.key := fun e he => by
    obtain ⟨h1, h2⟩ := List.mem_filter.1 he
    exact ⟨h1, (h.inG hd hc h1).1 h2⟩
  refine ⟨h.bt d hd, fun e he => (hm e he).2.2.1, fun e he => (hm e he).2.2.2, fun e he => lz (hm e he).2.1, fun e he => ?_⟩
  obtain ⟨a, b, c, e2⟩ := hm e he
  have := h.chk e a
  rw [c, e2] at this; exact this
theorem grp_of {ps : List Pol} {d x : HD} (h : Hist.inG ps d x = true) : kb x = kb d := by
  unfold Hist.inG at h
  rw [Q5, decide_eq_true_eq] at h; exact h.2
theorem kX.all {ps : List Pol} {calls : List HD} (h : kX ps calls) (he : ce ps calls.length calls = 0) (hall : ∀ d ∈ calls, cp d = true → pF ps (Hist.grp ps calls (kb d)) = true) : kW ps calls = true := by
  unfold kW
  rw [decide_eq_true he, Bool.true_and, Q23]
  intro k hk
  obtain ⟨d, hd, hi, e⟩ := (lq ps calls k).1 hk
  rw [← e]
  refine hall d hd ?_
  unfold bM at hi
  rw [Q5, Q5] at hi; exact hi.2.2
theorem kX.no {ps : List Pol} {calls : List HD} (h : kX ps calls) {d : HD} (hd : d ∈ calls) (hc : cp d = true) (hn : pF ps (Hist.grp ps calls (kb d)) = false) : kW ps calls = false := by
  unfold kW
  rw [Bool.and_eq_false_iff]
  refine Or.inr ?_
  rw [List.all_eq_false]
  exact ⟨kb d, (lq ps calls _).2 ⟨d, hd, h.inc hd hc, rfl⟩, by rw [hn]; decide⟩
end Hist
open Hist
theorem ow {ps : List Pol} {calls : List HD} (h : kX ps calls) {d : HD} (hd : d ∈ calls) (hc : cp d = true) {tk : Nat → List D} (htk : ∀ q, q < (grp ps calls (kb d)).length → tk q = [.val (.bool false)]) :
    Fun TC 17 2 [.ptr 0 0, .sl 1 1 0 (grp ps calls (kb d)).length, (⟨d.pol, [], 0, []⟩ : Cel).S] [(0, some (.cells (gbC (ps.getD d.pol.toNat default) (grp ps calls (kb d)) (spI (grp ps calls (kb d)))))), (1, some (.row 4 1 (grp ps calls (kb d)).length tk))] 2
      (.b (pF ps (grp ps calls (kb d)))) [(0, some (.cells (gbC (ps.getD d.pol.toNat default) (grp ps calls (kb d)) (spI (grp ps calls (kb d)))))), (1, some (tkR (grp ps calls (kb d)).length (2 ^ (grp ps calls (kb d)).length - 1)))] := by
  have hg := h.grp hd hc
  have h8 := h.g8 (kb d)
  obtain ⟨g1, g2, g3⟩ := ml _ h8
  have hO := jV (p := ps.getD d.pol.toNat default) (spare := spI (grp ps calls (kb d))) rfl h8 hg (grp ps calls (kb d)).length (2 ^ (grp ps calls (kb d)).length - 1) g3 g2 (k0 _ h8) ⟨d.pol, [], 0, []⟩ tk (CI.new (h.chk d hd) (lz hc) _ _) fun q hq => by
    rw [htk q hq, jN _ h8 q hq]; rfl
  have e := sJ (spare := spI (grp ps calls (kb d))) (cw h.pl) hg (grp ps calls (kb d)).length (2 ^ (grp ps calls (kb d)).length - 1) ⟨d.pol, [], 0, []⟩ [] (by rw [List.length_nil]; omega) (fun e he => by cases he) ⟨rfl, rfl⟩
  rw [e] at hO
  exact hO
theorem jW {ps : List Pol} {calls : List HD} (hk : ∀ d ∈ calls, IsB d.key) (hl : calls.length ≤ 1048576) : Pure TC 7 [.d (ak 4 Pol.D ps), .d (ak 13 HD.D calls)] (.tup [.b (kW ps calls), .i .i64 (ce ps calls.length calls)]) := by
  have hEr := og (ps := ps) hk hl
  refine Pure.mk' Tryz.func7 rfl rfl (zzb rfl) ?_
  (repeat' (first
    | with_reducible refine Wp.seq ?_
    | with_reducible refine Wp.block ?_
    | ((with_reducible first | refine Wp.region ?_ | refine Wp.drawL ac ?_ | refine Wp.cond ?_ | refine Wp.ret ?_ | refine Wp.skip ?_ | refine Wp.exit ?_ | refine Go.mk ?_ | apply ao.of); conv => whnf)
    | with_reducible exact rfl
    | ((with_reducible refine Ov.ok zO ?_); conv => whnf)
    | (with_reducible refine Ov.sh1 (by with_unfolding_all exact rfl) ?_)
    | ((with_reducible refine Ov.quo (by omega) (by omega) (by omega) (fun _ _ => ?_)); conv => whnf)
    | ((with_reducible refine And.intro (show ah _ _ _ _ = true by kernel_rfl) ?_); conv => whnf)
    | ((with_reducible refine And.intro zC ?_); conv => whnf)
    | ((with_reducible refine And.intro ?hb ?_); (case hb => exact ae (zzb rfl) (by omega)); (conv => whnf))
    | ((refine af.a rfl rfl rfl rfl rfl rfl ?hb ?_); (case hb => exact zB); (conv => whnf))
    | ((refine af.b rfl rfl rfl rfl rfl rfl rfl rfl ?hb ?ho ?_); (case hb => exact zB); (case ho => omega); (conv => whnf))
    | ((refine af.c rfl rfl rfl rfl rfl ?hb ?_); (case hb => exact zB); (conv => whnf))
    | ((refine af.d rfl rfl rfl rfl rfl rfl ?hb ?ho ?_); (case hb => exact zB); (case ho => omega); (conv => whnf))
    | (with_reducible refine Or.inl ?_)
    | ((with_reducible refine IxA.ptr ?_); conv => whnf)
    | ((with_reducible refine nil_no (by omega) ?_); (conv => whnf))
    | ((with_reducible refine ag ?_ (fun hn0 => ?_)) <;> (conv => whnf))
    | ((with_reducible refine ab.pure (hEr) rfl rfl ?_); conv => whnf) | ((with_reducible refine ai.pure (hEr) rfl rfl ?_); conv => whnf)
    | ((refine ap (fun hc => ?_) (fun hc => ?_)) <;> (try simp only [decide_eq_true_eq, decide_eq_false_iff_not, Q5, Q20, Bool.and_eq_false_iff, Bool.or_eq_false_iff, Bool.not_eq_true', Bool.not_eq_false', beq_iff_eq, bne_iff_ne, ne_eq, beq_eq_false_iff_ne, bne_eq_false_iff_eq, Bool.not_eq_true, Bool.not_eq_false] at hc) <;> (try (exfalso; omega)) <;> (conv => whnf))))
  · unfold kW; rw [decide_eq_false hc]; exact .rfl _
  rw [hc]
  have hfi := kX.of hc hk
  have hE0 := hc
  refine Wp.loopP (ι := Nat) (fun i => i ≤ calls.length ∧ ∀ i', i' < i → cp (calls.getD i' default) = true → pF ps (grp ps calls (kb (calls.getD i' default))) = true)
    (fun i => ⟨⟨Tryz.f7.ntmps, 0⟩, 0, [(0, .d (ak 4 Pol.D ps)), (1, .d (ak 13 HD.D calls)), (20, .d (ak 13 HD.D calls)), (21, .i .i64 calls.length), (22, .i .i64 i)], []⟩) (fun i => calls.length - i) 0 ⟨Nat.zero_le _, fun i h => absurd h (Nat.not_lt_zero i)⟩ ?_ ?_
  · (refine Le.by [] rfl rfl rfl rfl ?_ ?_ <;> (conv => whnf) <;> (repeat' (first | exact trivial | exact aa.rfl rfl | exact aa.ptr rfl | exact aa.sl rfl | ((with_reducible refine aa.fn ?_); (conv => whnf)) | ((refine aa.iref ?_); (conv => whnf)) | exact ⟨rfl, rfl, rfl⟩ | exact fun i hi => rfl | ((with_reducible refine And.intro ?_ ?_) <;> (conv => whnf)))))
  · rintro i ⟨hi0, hal⟩
    by_cases hi : i < calls.length
    · have hm := bv hi
      obtain ⟨d, hd⟩ : ∃ d, calls.getD (i : Int).toNat default = d := ⟨_, rfl⟩
      have hd2 : calls.getD i default = d := by rw [← hd, Q13]
      rw [hd] at hm
      have hnx : (cp d = true → pF ps (grp ps calls (kb d)) = true) → ∀ i', i' < i + 1 → cp (calls.getD i' default) = true → pF ps (grp ps calls (kb (calls.getD i' default))) = true := fun h i' hi' hc' => by
        by_cases e : i' = i
        · subst e; rw [hd2] at hc' ⊢; exact h hc'
        · exact hal i' (by omega) hc'
      have hC := bD (calls.getD (i : Int).toNat default)
      cases hcn : cp d with
      | false =>
        rw [show cp (calls.getD (i : Int).toNat default) = false by rw [hd]; exact hcn] at hC
        (repeat' (first
    | with_reducible refine Wp.seq ?_
    | with_reducible refine Wp.block ?_
    | ((with_reducible first | refine Wp.region ?_ | refine Wp.drawL ac ?_ | refine Wp.cond ?_ | refine Wp.ret ?_ | refine Wp.skip ?_ | refine Wp.exit ?_ | refine Go.mk ?_ | apply ao.of); conv => whnf)
    | with_reducible exact rfl
    | ((with_reducible refine Ov.ok zO ?_); conv => whnf)
    | (with_reducible refine Ov.sh1 (by with_unfolding_all exact rfl) ?_)
    | ((with_reducible refine Ov.quo (by omega) (by omega) (by omega) (fun _ _ => ?_)); conv => whnf)
    | ((with_reducible refine And.intro (show ah _ _ _ _ = true by kernel_rfl) ?_); conv => whnf)
    | ((with_reducible refine And.intro zC ?_); conv => whnf)
    | ((with_reducible refine And.intro ?hb ?_); (case hb => exact ae (zzb rfl) (by omega)); (conv => whnf))
    | ((refine af.a rfl rfl rfl rfl rfl rfl ?hb ?_); (case hb => exact zB); (conv => whnf))
    | ((refine af.b rfl rfl rfl rfl rfl rfl rfl rfl ?hb ?ho ?_); (case hb => exact zB); (case ho => omega); (conv => whnf))
    | ((refine af.c rfl rfl rfl rfl rfl ?hb ?_); (case hb => exact zB); (conv => whnf))
    | ((refine af.d rfl rfl rfl rfl rfl rfl ?hb ?ho ?_); (case hb => exact zB); (case ho => omega); (conv => whnf))
    | (with_reducible refine Or.inl ?_)
    | ((with_reducible refine IxA.ptr ?_); conv => whnf)
    | ((with_reducible refine nil_no (by omega) ?_); (conv => whnf))
    | ((with_reducible refine ag ?_ (fun hn0 => ?_)) <;> (conv => whnf))
    | ((with_reducible refine ab.pure (hC) rfl rfl ?_); conv => whnf) | ((with_reducible refine ai.pure (hC) rfl rfl ?_); conv => whnf)
    | ((refine ap (fun hc => ?_) (fun hc => ?_)) <;> (try simp only [decide_eq_true_eq, decide_eq_false_iff_not, Q5, Q20, Bool.and_eq_false_iff, Bool.or_eq_false_iff, Bool.not_eq_true', Bool.not_eq_false', beq_iff_eq, bne_iff_ne, ne_eq, beq_eq_false_iff_ne, bne_eq_false_iff_eq, Bool.not_eq_true, Bool.not_eq_false] at hc) <;> (try (exfalso; omega)) <;> (conv => whnf))))
        refine ⟨i + 1, ⟨by omega, hnx fun h => by rw [hcn] at h; cases h⟩, by dsimp only; omega, ?_⟩
        (refine Le.by [] rfl rfl rfl rfl ?_ ?_ <;> (conv => whnf) <;> (repeat' (first | exact trivial | exact aa.rfl rfl | exact aa.ptr rfl | exact aa.sl rfl | ((with_reducible refine aa.fn ?_); (conv => whnf)) | ((refine aa.iref ?_); (conv => whnf)) | exact ⟨rfl, rfl, rfl⟩ | exact fun i hi => rfl | ((with_reducible refine And.intro ?_ ?_) <;> (conv => whnf)))))
      | true =>
        rw [show cp (calls.getD (i : Int).toNat default) = true by rw [hd]; exact hcn] at hC
        obtain ⟨hid, hp0, hp1⟩ := hfi.id hm hcn
        have hpp : 0 ≤ (calls.getD (i : Int).toNat default).pol ∧ (calls.getD (i : Int).toNat default).pol < ps.length := by rw [hd]; exact ⟨hp0, hp1⟩
        (repeat' (first
    | with_reducible refine Wp.seq ?_
    | with_reducible refine Wp.block ?_
    | ((with_reducible first | refine Wp.region ?_ | refine Wp.drawL ac ?_ | refine Wp.cond ?_ | refine Wp.ret ?_ | refine Wp.skip ?_ | refine Wp.exit ?_ | refine Go.mk ?_ | apply ao.of); conv => whnf)
    | with_reducible exact rfl
    | ((with_reducible refine Ov.ok zO ?_); conv => whnf)
    | (with_reducible refine Ov.sh1 (by with_unfolding_all exact rfl) ?_)
    | ((with_reducible refine Ov.quo (by omega) (by omega) (by omega) (fun _ _ => ?_)); conv => whnf)
    | ((with_reducible refine And.intro (show ah _ _ _ _ = true by kernel_rfl) ?_); conv => whnf)
    | ((with_reducible refine And.intro zC ?_); conv => whnf)
    | ((with_reducible refine And.intro ?hb ?_); (case hb => exact ae (zzb rfl) (by omega)); (conv => whnf))
    | ((refine af.a rfl rfl rfl rfl rfl rfl ?hb ?_); (case hb => exact zB); (conv => whnf))
    | ((refine af.b rfl rfl rfl rfl rfl rfl rfl rfl ?hb ?ho ?_); (case hb => exact zB); (case ho => omega); (conv => whnf))
    | ((refine af.c rfl rfl rfl rfl rfl ?hb ?_); (case hb => exact zB); (conv => whnf))
    | ((refine af.d rfl rfl rfl rfl rfl rfl ?hb ?ho ?_); (case hb => exact zB); (case ho => omega); (conv => whnf))
    | (with_reducible refine Or.inl ?_)
    | ((with_reducible refine IxA.ptr ?_); conv => whnf)
    | ((with_reducible refine nil_no (by omega) ?_); (conv => whnf))
    | ((with_reducible refine ag ?_ (fun hn0 => ?_)) <;> (conv => whnf))
    | ((with_reducible refine ab.pure (hC) rfl rfl ?_); conv => whnf) | ((with_reducible refine ai.pure (hC) rfl rfl ?_); conv => whnf)
    | ((refine ap (fun hc => ?_) (fun hc => ?_)) <;> (try simp only [decide_eq_true_eq, decide_eq_false_iff_not, Q5, Q20, Bool.and_eq_false_iff, Bool.or_eq_false_iff, Bool.not_eq_true', Bool.not_eq_false', beq_iff_eq, bne_iff_ne, ne_eq, beq_eq_false_iff_ne, bne_eq_false_iff_eq, Bool.not_eq_true, Bool.not_eq_false] at hc) <;> (try (exfalso; omega)) <;> (conv => whnf))))
        refine Wp.le (Le.virtC 1 4 42 13 (fun i => HD.D (([] : List HD).getD i default)) (by decide) rfl rfl) ?_
        have hg := fun j (hj : j < calls.length) => hfi.inG hm hcn (bv hj)
        have hgt : ∀ j, j < calls.length → (calls.take (j + 1)).filter (inG ps d) = (calls.take j).filter (inG ps d) ++ if inG ps d (calls.getD (j : Int).toNat default) = true then [calls.getD (j : Int).toNat default] else [] := fun j hj => by
          rw [ib hj, List.filter_append]
          congr 1
          rw [List.filter_cons]
          split <;> rfl
        have hgl : ∀ j, ((calls.take j).filter (inG ps d)).length ≤ calls.length := fun j => Nat.le_trans (List.length_filter_le _ _) (by rw [Q10]; omega)
        refine Wp.loopP (ι := Nat × Bool) (fun q => q.1 ≤ calls.length ∧ (q.2 = true ↔ ∀ j', j' < q.1 → inG ps d (calls.getD j' default) = true → i ≤ j'))
          (fun q => ⟨⟨Tryz.f7.ntmps, 0⟩, 3, [(0, .d (ak 4 Pol.D ps)), (1, .d (ak 13 HD.D calls)), (7, .i .i64 i), (8, .ptr 0 0), (9, .ptr 1 0), (10, .b q.2), (20, .d (ak 13 HD.D calls)), (21, .i .i64 calls.length), (22, .i .i64 i), (38, .d (ak 13 HD.D calls)), (39, .i .i64 calls.length), (40, .i .i64 q.1)],
            [(0, some (.cells (d.D.map .d))), (1, some (.cells [.i .u8 (ps.getD d.pol.toNat default).kind, .i .i64 (ps.getD d.pol.toNat default).T, .i .i64 (ps.getD d.pol.toNat default).tau, .i .i64 (ps.getD d.pol.toNat default).permits, .sl 2 13 0 ((calls.take q.1).filter (inG ps d)).length, .i .i64 4611686018427387903])),
             (2, some (.row 42 13 ((calls.take q.1).filter (inG ps d)).length fun z => HD.D (((calls.take q.1).filter (inG ps d)).getD z default)))]⟩) (fun q => calls.length - q.1) (0, true) ⟨Nat.zero_le _, ⟨fun _ i h => absurd h (Nat.not_lt_zero i), fun _ => rfl⟩⟩ ?_ ?_
        · subst hd
          (refine Le.by [0,1,2] rfl rfl rfl rfl ?_ ?_ <;> (conv => whnf) <;> (repeat' (first | exact trivial | exact aa.rfl rfl | exact aa.ptr rfl | exact aa.sl rfl | ((with_reducible refine aa.fn ?_); (conv => whnf)) | ((refine aa.iref ?_); (conv => whnf)) | exact ⟨rfl, rfl, rfl⟩ | exact fun i hi => rfl | ((with_reducible refine And.intro ?_ ?_) <;> (conv => whnf)))))
        · rintro ⟨j, fr⟩ ⟨hj0, hfr⟩
          dsimp only at hj0 hfr ⊢
          by_cases hj : j < calls.length
          · have hx := hg j hj
            have hgj := hgt j hj
            have hlj := hgl j
            have hjn : ∀ fr', (fr' = true ↔ (fr = true ∧ (inG ps d (calls.getD (j : Int).toNat default) = true → i ≤ j))) → (fr' = true ↔ ∀ j', j' < j + 1 → inG ps d (calls.getD j' default) = true → i ≤ j') := fun fr' h => by
              rw [h, hfr, Q13]
              refine ⟨fun ⟨h1, h2⟩ j' hj' => ?_, fun h => ⟨fun j' hj' => h j' (by omega), h j (by omega)⟩⟩
              by_cases e : j' = j
              · subst e; exact h2
              · exact h1 j' (by omega)
            (repeat' (first
    | with_reducible refine Wp.seq ?_
    | with_reducible refine Wp.block ?_
    | ((with_reducible first | refine Wp.region ?_ | refine Wp.drawL ac ?_ | refine Wp.cond ?_ | refine Wp.ret ?_ | refine Wp.skip ?_ | refine Wp.exit ?_ | refine Go.mk ?_ | apply ao.of); conv => whnf)
    | with_reducible exact rfl
    | ((with_reducible refine Ov.ok zO ?_); conv => whnf)
    | (with_reducible refine Ov.sh1 (by with_unfolding_all exact rfl) ?_)
    | ((with_reducible refine Ov.quo (by omega) (by omega) (by omega) (fun _ _ => ?_)); conv => whnf)
    | ((with_reducible refine And.intro (show ah _ _ _ _ = true by kernel_rfl) ?_); conv => whnf)
    | ((with_reducible refine And.intro zC ?_); conv => whnf)
    | ((with_reducible refine And.intro ?hb ?_); (case hb => exact ae (zzb rfl) (by omega)); (conv => whnf))
    | ((refine af.a rfl rfl rfl rfl rfl rfl ?hb ?_); (case hb => exact zB); (conv => whnf))
    | ((refine af.b rfl rfl rfl rfl rfl rfl rfl rfl ?hb ?ho ?_); (case hb => exact zB); (case ho => omega); (conv => whnf))
    | ((refine af.c rfl rfl rfl rfl rfl ?hb ?_); (case hb => exact zB); (conv => whnf))
    | ((refine af.d rfl rfl rfl rfl rfl rfl ?hb ?ho ?_); (case hb => exact zB); (case ho => omega); (conv => whnf))
    | (with_reducible refine Or.inl ?_)
    | ((with_reducible refine IxA.ptr ?_); conv => whnf)
    | ((with_reducible refine nil_no (by omega) ?_); (conv => whnf))
    | ((with_reducible refine ag ?_ (fun hn0 => ?_)) <;> (conv => whnf))
    | ((with_reducible refine ab.pure (bD _) rfl rfl ?_); conv => whnf) | ((with_reducible refine ai.pure (bD _) rfl rfl ?_); conv => whnf)
    | ((with_reducible refine ab.pure (fG _ _ _ _ _ _ _ _) rfl rfl ?_); conv => whnf) | ((with_reducible refine ai.pure (fG _ _ _ _ _ _ _ _) rfl rfl ?_); conv => whnf)
    | ((refine ap (fun hc => ?_) (fun hc => ?_)) <;> (try simp only [decide_eq_true_eq, decide_eq_false_iff_not, Q5, Q20, Bool.and_eq_false_iff, Bool.or_eq_false_iff, Bool.not_eq_true', Bool.not_eq_false', beq_iff_eq, bne_iff_ne, ne_eq, beq_eq_false_iff_ne, bne_eq_false_iff_eq, Bool.not_eq_true, Bool.not_eq_false] at hc) <;> (try (exfalso; omega)) <;> (conv => whnf))))
            · have hG := hx.2 ⟨by assumption, by assumption⟩
              refine ⟨(j + 1, decide ((j : Int) ≥ (i : Int))), ⟨by dsimp only; omega, hjn _ ?gc⟩, by dsimp only; omega, ?ge⟩
              case gc =>
                rw [decide_eq_true_eq]
                refine ⟨fun h => ⟨by assumption, fun _ => by omega⟩, fun h => ?_⟩
                have := h.2 hG
                omega
              case ge =>
                dsimp only
                rw [hgj, if_pos hG]
                (refine Le.by [0,1,11] rfl rfl rfl rfl ?_ ?_ <;> (conv => whnf) <;> (repeat' (first | exact trivial | exact aa.rfl rfl | exact aa.ptr rfl | exact aa.sl rfl | ((with_reducible refine aa.fn ?_); (conv => whnf)) | ((refine aa.iref ?_); (conv => whnf)) | exact ⟨rfl, rfl, rfl⟩ | exact fun i hi => rfl | ((with_reducible refine And.intro ?_ ?_) <;> (conv => whnf)))))
                all_goals first
                  | (rw [Q9]; exact aa.sl rfl)
                  | rfl
                  | (rw [Q9]; rfl)
                  | exact bN HD.D 13 _ _ _ rfl
            · have hG := hx.2 ⟨by assumption, by assumption⟩
              refine ⟨(j + 1, false), ⟨by dsimp only; omega, hjn _ ?gc⟩, by dsimp only; omega, ?ge⟩
              case gc => rw [show fr = false by assumption]; simp
              case ge =>
                dsimp only
                rw [hgj, if_pos hG]
                (refine Le.by [0,1,11] rfl rfl rfl rfl ?_ ?_ <;> (conv => whnf) <;> (repeat' (first | exact trivial | exact aa.rfl rfl | exact aa.ptr rfl | exact aa.sl rfl | ((with_reducible refine aa.fn ?_); (conv => whnf)) | ((refine aa.iref ?_); (conv => whnf)) | exact ⟨rfl, rfl, rfl⟩ | exact fun i hi => rfl | ((with_reducible refine And.intro ?_ ?_) <;> (conv => whnf)))))
                all_goals first
                  | (rw [Q9]; exact aa.sl rfl)
                  | rfl
                  | (rw [Q9]; rfl)
                  | exact bN HD.D 13 _ _ _ rfl
            all_goals
              have hG : ¬ inG ps d (calls.getD (j : Int).toNat default) = true := fun h => by
                have h := hx.1 h
                first
                  | exact absurd h.1 (by rw [show cp _ = false by assumption]; decide)
                  | exact absurd h.2 (by assumption)
                  | (have hh : ¬ (calls.getD (j : Int).toNat default).pol = d.pol ∨ ¬ (calls.getD (j : Int).toNat default).key = d.key := by assumption
                     rcases hh with hh | hh
                     · exact hh h.2.1
                     · exact hh h.2.2)
              refine ⟨(j + 1, fr), ⟨by dsimp only; omega, hjn _ ⟨fun h => ⟨h, fun h => absurd h hG⟩, fun h => h.1⟩⟩, by dsimp only; omega, ?_⟩
              dsimp only
              rw [hgj, if_neg hG, List.append_nil]
              (refine Le.by [0,1,2] rfl rfl rfl rfl ?_ ?_ <;> (conv => whnf) <;> (repeat' (first | exact trivial | exact aa.rfl rfl | exact aa.ptr rfl | exact aa.sl rfl | ((with_reducible refine aa.fn ?_); (conv => whnf)) | ((refine aa.iref ?_); (conv => whnf)) | exact ⟨rfl, rfl, rfl⟩ | exact fun i hi => rfl | ((with_reducible refine And.intro ?_ ?_) <;> (conv => whnf)))))
          · obtain rfl : j = calls.length := by omega
            rw [List.take_length] at *
            have hgrp : calls.filter (inG ps d) = grp ps calls (kb d) := rfl
            have hgl2 := oS ps calls (kb d)
            have hg8 := hfi.g8 (kb d)
            rw [hgrp]
            (repeat' (first
    | with_reducible refine Wp.seq ?_
    | with_reducible refine Wp.block ?_
    | ((with_reducible first | refine Wp.region ?_ | refine Wp.drawL ac ?_ | refine Wp.cond ?_ | refine Wp.ret ?_ | refine Wp.skip ?_ | refine Wp.exit ?_ | refine Go.mk ?_ | apply ao.of); conv => whnf)
    | with_reducible exact rfl
    | ((with_reducible refine Ov.ok zO ?_); conv => whnf)
    | (with_reducible refine Ov.sh1 (by with_unfolding_all exact rfl) ?_)
    | ((with_reducible refine Ov.quo (by omega) (by omega) (by omega) (fun _ _ => ?_)); conv => whnf)
    | ((with_reducible refine And.intro (show ah _ _ _ _ = true by kernel_rfl) ?_); conv => whnf)
    | ((with_reducible refine And.intro zC ?_); conv => whnf)
    | ((with_reducible refine And.intro ?hb ?_); (case hb => exact ae (zzb rfl) (by omega)); (conv => whnf))
    | ((refine af.a rfl rfl rfl rfl rfl rfl ?hb ?_); (case hb => exact zB); (conv => whnf))
    | ((refine af.b rfl rfl rfl rfl rfl rfl rfl rfl ?hb ?ho ?_); (case hb => exact zB); (case ho => omega); (conv => whnf))
    | ((refine af.c rfl rfl rfl rfl rfl ?hb ?_); (case hb => exact zB); (conv => whnf))
    | ((refine af.d rfl rfl rfl rfl rfl rfl ?hb ?ho ?_); (case hb => exact zB); (case ho => omega); (conv => whnf))
    | (with_reducible refine Or.inl ?_)
    | ((with_reducible refine IxA.ptr ?_); conv => whnf)
    | ((with_reducible refine nil_no (by omega) ?_); (conv => whnf))
    | ((with_reducible refine ag ?_ (fun hn0 => ?_)) <;> (conv => whnf))
    
    | ((refine ap (fun hc => ?_) (fun hc => ?_)) <;> (try simp only [decide_eq_true_eq, decide_eq_false_iff_not, Q5, Q20, Bool.and_eq_false_iff, Bool.or_eq_false_iff, Bool.not_eq_true', Bool.not_eq_false', beq_iff_eq, bne_iff_ne, ne_eq, beq_eq_false_iff_ne, bne_eq_false_iff_eq, Bool.not_eq_true, Bool.not_eq_false] at hc) <;> (try (exfalso; omega)) <;> (conv => whnf))))
            · refine ⟨i + 1, ⟨by omega, hnx fun _ => ?_⟩, by dsimp only; omega, ?_⟩
              · refine Classical.byContradiction fun hne => ?_
                have : fr = true := hfr.2 fun j' hj' hG => Classical.byContradiction fun hlt => hne (by
                  have hG2 := hG
                  have hcj := hg j' hj'
                  rw [Q13] at hcj
                  have := hal j' (by omega) (hcj.1 hG).1
                  rw [grp_of hG2] at this; exact this)
                rw [this] at hc; cases hc
              · (refine Le.by [] rfl rfl rfl rfl ?_ ?_ <;> (conv => whnf) <;> (repeat' (first | exact trivial | exact aa.rfl rfl | exact aa.ptr rfl | exact aa.sl rfl | ((with_reducible refine aa.fn ?_); (conv => whnf)) | ((refine aa.iref ?_); (conv => whnf)) | exact ⟨rfl, rfl, rfl⟩ | exact fun i hi => rfl | ((with_reducible refine And.intro ?_ ?_) <;> (conv => whnf)))))
            · refine Wp.frzC 1 4 rfl rfl rfl (by decide) (by simp) ?_
              have hO := ow hfi hm hcn (tk := fun _ => [D.val (.bool false)]) (fun _ _ => rfl)
              have hno : pF ps (grp ps calls (kb d)) = false → kW ps calls = false := fun h => hfi.no hm hcn h
              have h0 := mu_le (grp ps calls (kb d)) 4611686018427387903
              have hlen := hfi.len
              generalize grp ps calls (kb d) = g at *
              refine Wp.loopP (ι := Nat × Int) (fun q => q.1 ≤ g.length ∧ Hist.usedB (g.take q.1) q.2 = false ∧ mu g q.2 ≤ 8192 ∧ 4611686018427387903 - 8192 + mu g q.2 ≤ q.2 ∧ q.2 ≤ 4611686018427387903 ∧ spF g (mu g q.2) q.2 = spI g)
                (fun q => ⟨⟨Tryz.f7.ntmps, 0⟩, 2, [(0, .d (ak 4 Pol.D ps)), (1, .d (ak 13 HD.D calls)), (8, .ptr 0 0), (9, .ptr 1 0), (13, .i .i64 q.1), (20, .d (ak 13 HD.D calls)), (21, .i .i64 calls.length), (22, .i .i64 i)],
                  [(0, some (.cells (d.D.map .d))), (1, some (.cells (gbC (ps.getD d.pol.toNat default) g q.2)))]⟩) (fun q => mu g q.2 * 10 + (g.length - q.1)) (0, 4611686018427387903) ⟨Nat.zero_le _, rfl, by dsimp only; omega, by dsimp only; omega, Int.le_refl _, rfl⟩ ?_ ?_
              · subst hd
                (refine Le.by [0,1] rfl rfl rfl rfl ?_ ?_ <;> (conv => whnf) <;> (repeat' (first | exact trivial | exact aa.rfl rfl | exact aa.ptr rfl | exact aa.sl rfl | ((with_reducible refine aa.fn ?_); (conv => whnf)) | ((refine aa.iref ?_); (conv => whnf)) | exact ⟨rfl, rfl, rfl⟩ | exact fun i hi => rfl | ((with_reducible refine And.intro ?_ ?_) <;> (conv => whnf)))))
                exact aa.free (ig rfl fun _ _ => by rw [Q19]) rfl
              · rintro ⟨q, n⟩ ⟨hq0, hq1, hq2, hq3, hq4, hq5⟩
                dsimp only at hq0 hq1 hq2 hq3 hq4 hq5 ⊢
                by_cases hq : q < g.length
                · have hu := jK hq n
                  have hmu := fun h : Hist.usedB g n = true => rF h
                  have hus : (g.getD (q : Int).toNat default).r.serial = n ∨ (g.getD (q : Int).toNat default).n = n → Hist.usedB g n = true := fun h => by
                    unfold Hist.usedB
                    rw [List.any_eq_true]
                    exact ⟨_, bv hq, by rw [Q20, beq_iff_eq, beq_iff_eq]; exact h⟩
                  have hnxt := fun h : Hist.usedB g n = true => lR h
                  (repeat' (first
    | with_reducible refine Wp.seq ?_
    | with_reducible refine Wp.block ?_
    | ((with_reducible first | refine Wp.region ?_ | refine Wp.drawL ac ?_ | refine Wp.cond ?_ | refine Wp.ret ?_ | refine Wp.skip ?_ | refine Wp.exit ?_ | refine Go.mk ?_ | apply ao.of); conv => whnf)
    | with_reducible exact rfl
    | ((with_reducible refine Ov.ok zO ?_); conv => whnf)
    | (with_reducible refine Ov.sh1 (by with_unfolding_all exact rfl) ?_)
    | ((with_reducible refine Ov.quo (by omega) (by omega) (by omega) (fun _ _ => ?_)); conv => whnf)
    | ((with_reducible refine And.intro (show ah _ _ _ _ = true by kernel_rfl) ?_); conv => whnf)
    | ((with_reducible refine And.intro zC ?_); conv => whnf)
    | ((with_reducible refine And.intro ?hb ?_); (case hb => exact ae (zzb rfl) (by omega)); (conv => whnf))
    | ((refine af.a rfl rfl rfl rfl rfl rfl ?hb ?_); (case hb => exact zB); (conv => whnf))
    | ((refine af.b rfl rfl rfl rfl rfl rfl rfl rfl ?hb ?ho ?_); (case hb => exact zB); (case ho => omega); (conv => whnf))
    | ((refine af.c rfl rfl rfl rfl rfl ?hb ?_); (case hb => exact zB); (conv => whnf))
    | ((refine af.d rfl rfl rfl rfl rfl rfl ?hb ?ho ?_); (case hb => exact zB); (case ho => omega); (conv => whnf))
    | (with_reducible refine Or.inl ?_)
    | ((with_reducible refine IxA.ptr ?_); conv => whnf)
    | ((with_reducible refine nil_no (by omega) ?_); (conv => whnf))
    | ((with_reducible refine ag ?_ (fun hn0 => ?_)) <;> (conv => whnf))
    
    | ((refine ap (fun hc => ?_) (fun hc => ?_)) <;> (try simp only [decide_eq_true_eq, decide_eq_false_iff_not, Q5, Q20, Bool.and_eq_false_iff, Bool.or_eq_false_iff, Bool.not_eq_true', Bool.not_eq_false', beq_iff_eq, bne_iff_ne, ne_eq, beq_eq_false_iff_ne, bne_eq_false_iff_eq, Bool.not_eq_true, Bool.not_eq_false] at hc) <;> (try (exfalso; omega)) <;> (conv => whnf))))
                  all_goals first
                    | (have hU := hus (Or.inl (by assumption))
                       have hM := hmu hU
                       refine ⟨(0, n - 1), ⟨Nat.zero_le _, rfl, by dsimp only; omega, by dsimp only; omega, by dsimp only; omega, (hnxt hU).trans hq5⟩, by dsimp only; omega, ?ge⟩
                       (case ge => (refine Le.by [0,1] rfl rfl rfl rfl ?_ ?_ <;> (conv => whnf) <;> (repeat' (first | exact trivial | exact aa.rfl rfl | exact aa.ptr rfl | exact aa.sl rfl | ((with_reducible refine aa.fn ?_); (conv => whnf)) | ((refine aa.iref ?_); (conv => whnf)) | exact ⟨rfl, rfl, rfl⟩ | exact fun i hi => rfl | ((with_reducible refine And.intro ?_ ?_) <;> (conv => whnf)))))))
                    | (have hU := hus (Or.inr (by assumption))
                       have hM := hmu hU
                       refine ⟨(0, n - 1), ⟨Nat.zero_le _, rfl, by dsimp only; omega, by dsimp only; omega, by dsimp only; omega, (hnxt hU).trans hq5⟩, by dsimp only; omega, ?ge⟩
                       (case ge => (refine Le.by [0,1] rfl rfl rfl rfl ?_ ?_ <;> (conv => whnf) <;> (repeat' (first | exact trivial | exact aa.rfl rfl | exact aa.ptr rfl | exact aa.sl rfl | ((with_reducible refine aa.fn ?_); (conv => whnf)) | ((refine aa.iref ?_); (conv => whnf)) | exact ⟨rfl, rfl, rfl⟩ | exact fun i hi => rfl | ((with_reducible refine And.intro ?_ ?_) <;> (conv => whnf)))))))
                    | (refine ⟨(q + 1, n), ⟨by dsimp only; omega, ?gu, hq2, hq3, hq4, hq5⟩, by dsimp only; omega, ?ge⟩
                       (case gu => dsimp only; rw [hu, hq1, Bool.false_or, Bool.or_eq_false_iff, beq_eq_false_iff_ne, beq_eq_false_iff_ne]; exact ⟨by assumption, by assumption⟩)
                       (case ge => (refine Le.by [0,1] rfl rfl rfl rfl ?_ ?_ <;> (conv => whnf) <;> (repeat' (first | exact trivial | exact aa.rfl rfl | exact aa.ptr rfl | exact aa.sl rfl | ((with_reducible refine aa.fn ?_); (conv => whnf)) | ((refine aa.iref ?_); (conv => whnf)) | exact ⟨rfl, rfl, rfl⟩ | exact fun i hi => rfl | ((with_reducible refine And.intro ?_ ?_) <;> (conv => whnf)))))))
                · obtain rfl : q = g.length := by omega
                  rw [List.take_length] at hq1
                  have hsp : spI g = n := by rw [← hq5, lQ hq1]
                  rw [hsp] at hO
                  (repeat' (first
    | with_reducible refine Wp.seq ?_
    | with_reducible refine Wp.block ?_
    | ((with_reducible first | refine Wp.region ?_ | refine Wp.drawL ac ?_ | refine Wp.cond ?_ | refine Wp.ret ?_ | refine Wp.skip ?_ | refine Wp.exit ?_ | refine Go.mk ?_ | apply ao.of); conv => whnf)
    | with_reducible exact rfl
    | ((with_reducible refine Ov.ok zO ?_); conv => whnf)
    | (with_reducible refine Ov.sh1 (by with_unfolding_all exact rfl) ?_)
    | ((with_reducible refine Ov.quo (by omega) (by omega) (by omega) (fun _ _ => ?_)); conv => whnf)
    | ((with_reducible refine And.intro (show ah _ _ _ _ = true by kernel_rfl) ?_); conv => whnf)
    | ((with_reducible refine And.intro zC ?_); conv => whnf)
    | ((with_reducible refine And.intro ?hb ?_); (case hb => exact ae (zzb rfl) (by omega)); (conv => whnf))
    | ((refine af.a rfl rfl rfl rfl rfl rfl ?hb ?_); (case hb => exact zB); (conv => whnf))
    | ((refine af.b rfl rfl rfl rfl rfl rfl rfl rfl ?hb ?ho ?_); (case hb => exact zB); (case ho => omega); (conv => whnf))
    | ((refine af.c rfl rfl rfl rfl rfl ?hb ?_); (case hb => exact zB); (conv => whnf))
    | ((refine af.d rfl rfl rfl rfl rfl rfl ?hb ?ho ?_); (case hb => exact zB); (case ho => omega); (conv => whnf))
    | (with_reducible refine Or.inl ?_)
    | ((with_reducible refine IxA.ptr ?_); conv => whnf)
    | ((with_reducible refine nil_no (by omega) ?_); (conv => whnf))
    | ((with_reducible refine ag ?_ (fun hn0 => ?_)) <;> (conv => whnf))
    | ((refine ab.fn (hO) [1,8] rfl rfl rfl rfl rfl ?ha ?hh ?_); (case ha => exact ⟨aa.ptr rfl, aa.sl rfl, aa.free (.agg (.cons (.rfl _) (.cons .nil (.cons (.rfl _) (.cons .nil .nil))))) rfl, trivial⟩); (case hh => exact zH); (conv => whnf))
    | ((refine ai.fn (hO) [1,8] [1,8] rfl rfl rfl rfl rfl ?ha ?hh ?hs ?_); (case ha => exact ⟨aa.ptr rfl, aa.sl rfl, aa.free (.agg (.cons (.rfl _) (.cons .nil (.cons (.rfl _) (.cons .nil .nil))))) rfl, trivial⟩); (case hh => exact zH); (case hs => exact zK); (conv => whnf)) | ((refine ai.new (hO) [1,8] [1,8] rfl rfl rfl rfl rfl rfl ?ha ?hh ?hs ?_); (case ha => exact ⟨aa.ptr rfl, aa.sl rfl, aa.free (.agg (.cons (.rfl _) (.cons .nil (.cons (.rfl _) (.cons .nil .nil))))) rfl, trivial⟩); (case hh => exact zH); (case hs => exact zK); (conv => whnf))
    | ((refine ai.fn (hO) [1,8] [] rfl rfl rfl rfl rfl ?ha ?hh ?hs ?_); (case ha => exact ⟨aa.ptr rfl, aa.sl rfl, aa.free (.agg (.cons (.rfl _) (.cons .nil (.cons (.rfl _) (.cons .nil .nil))))) rfl, trivial⟩); (case hh => exact zH); (case hs => exact zK); (conv => whnf)) | ((refine ai.new (hO) [1,8] [] rfl rfl rfl rfl rfl rfl ?ha ?hh ?hs ?_); (case ha => exact ⟨aa.ptr rfl, aa.sl rfl, aa.free (.agg (.cons (.rfl _) (.cons .nil (.cons (.rfl _) (.cons .nil .nil))))) rfl, trivial⟩); (case hh => exact zH); (case hs => exact zK); (conv => whnf))
    | ((refine ap (fun hc => ?_) (fun hc => ?_)) <;> (try simp only [decide_eq_true_eq, decide_eq_false_iff_not, Q5, Q20, Bool.and_eq_false_iff, Bool.or_eq_false_iff, Bool.not_eq_true', Bool.not_eq_false', beq_iff_eq, bne_iff_ne, ne_eq, beq_eq_false_iff_ne, bne_eq_false_iff_eq, Bool.not_eq_true, Bool.not_eq_false] at hc) <;> (try (exfalso; omega)) <;> (conv => whnf))))
                  · rw [hno (by assumption)]; exact .rfl _
                  · refine ⟨i + 1, ⟨by omega, hnx fun _ => by assumption⟩, by dsimp only; omega, ?_⟩
                    (refine Le.by [] rfl rfl rfl rfl ?_ ?_ <;> (conv => whnf) <;> (repeat' (first | exact trivial | exact aa.rfl rfl | exact aa.ptr rfl | exact aa.sl rfl | ((with_reducible refine aa.fn ?_); (conv => whnf)) | ((refine aa.iref ?_); (conv => whnf)) | exact ⟨rfl, rfl, rfl⟩ | exact fun i hi => rfl | ((with_reducible refine And.intro ?_ ?_) <;> (conv => whnf)))))
    · obtain rfl : i = calls.length := by omega
      have hT : kW ps calls = true := hfi.all hE0 fun d hd hc' => by
        obtain ⟨j, hj, e⟩ := List.getElem_of_mem hd
        have := hal j hj
        rw [Q1, Q0 hj] at this
        rw [← e]
        exact this (by rw [← e] at hc'; exact hc')
      rw [hT]
      (repeat' (first
    | with_reducible refine Wp.seq ?_
    | with_reducible refine Wp.block ?_
    | ((with_reducible first | refine Wp.region ?_ | refine Wp.drawL ac ?_ | refine Wp.cond ?_ | refine Wp.ret ?_ | refine Wp.skip ?_ | refine Wp.exit ?_ | refine Go.mk ?_ | apply ao.of); conv => whnf)
    | with_reducible exact rfl
    | ((with_reducible refine Ov.ok zO ?_); conv => whnf)
    | (with_reducible refine Ov.sh1 (by with_unfolding_all exact rfl) ?_)
    | ((with_reducible refine Ov.quo (by omega) (by omega) (by omega) (fun _ _ => ?_)); conv => whnf)
    | ((with_reducible refine And.intro (show ah _ _ _ _ = true by kernel_rfl) ?_); conv => whnf)
    | ((with_reducible refine And.intro zC ?_); conv => whnf)
    | ((with_reducible refine And.intro ?hb ?_); (case hb => exact ae (zzb rfl) (by omega)); (conv => whnf))
    | ((refine af.a rfl rfl rfl rfl rfl rfl ?hb ?_); (case hb => exact zB); (conv => whnf))
    | ((refine af.b rfl rfl rfl rfl rfl rfl rfl rfl ?hb ?ho ?_); (case hb => exact zB); (case ho => omega); (conv => whnf))
    | ((refine af.c rfl rfl rfl rfl rfl ?hb ?_); (case hb => exact zB); (conv => whnf))
    | ((refine af.d rfl rfl rfl rfl rfl rfl ?hb ?ho ?_); (case hb => exact zB); (case ho => omega); (conv => whnf))
    | (with_reducible refine Or.inl ?_)
    | ((with_reducible refine IxA.ptr ?_); conv => whnf)
    | ((with_reducible refine nil_no (by omega) ?_); (conv => whnf))
    | ((with_reducible refine ag ?_ (fun hn0 => ?_)) <;> (conv => whnf))
    
    | ((refine ap (fun hc => ?_) (fun hc => ?_)) <;> (try simp only [decide_eq_true_eq, decide_eq_false_iff_not, Q5, Q20, Bool.and_eq_false_iff, Bool.or_eq_false_iff, Bool.not_eq_true', Bool.not_eq_false', beq_iff_eq, bne_iff_ne, ne_eq, beq_eq_false_iff_ne, bne_eq_false_iff_eq, Bool.not_eq_true, Bool.not_eq_false] at hc) <;> (try (exfalso; omega)) <;> (conv => whnf))))
      exact .rfl _
end
def reslK (C : Cx) (S : St) (t : Nat) (x h : SV) (k : St → SV → Prop) : Prop :=
  match x, h with
  | .sl l z 0 _, .d (.val (.int _ b)) => gG C t z (match lkh S.hp l with
    | some (.row _ _ m _) => (0 ≤ b ∧ b ≤ m) ∧ k S (.sl l z 0 b.toNat)
    | _ => False)
  | _, _ => False
theorem ro {C : Cx} {O : Org} {E : Env} {S : St} {a : Act} {w : World} (hs : Sat O E S a w) {t : Nat} {x h : SV} {u v : Value} (hu : RS E S.nx w x u) (hv : RS E S.nx w h v) {k : St → SV → Prop} (hk : reslK C S t x h k) :
    bl C O a w (Instr.sliceAt t u none (some v) none) k := by
  unfold reslK at hk
  split at hk
  · rename_i l z n kk b
    obtain ⟨e, ht, hz, hz0, hb⟩ := di hk
    obtain rfl := hv.val_inv
    split at hb
    · rename_i ee z' m f hl
      obtain ⟨⟨b0, b1⟩, hb⟩ := hb
      have hB := hs.hp l _ hl
      have hmk : m ≤ E.κ l := hB.1
      cases hu with
      | sl _ _ _ _ ad cap hlx hc hm ha h0 =>
        obtain ⟨e1, e2⟩ := h0 rfl
        have h4 : b ≤ cap := by omega
        have hr : (Instr.sliceBounds true n cap none (some (.int kk b)) none).run C.P w = .ok (0, b.toNat, cap) w := by
          simp [Instr.sliceBounds, Instr.sliceBound, asIntOf, b0, h4]
        refine ⟨.slice (if cap = 0 then ad else ad.map (·.add (0 * z))) (b.toNat - 0) (cap - 0), w, E, S, _, ?_, hb, hs, ?_⟩
        · simp [Instr.sliceAt, run_underlying ht, Instr.slice, hr, hz w]
        · have key : (if cap = 0 then ad else ad.map (·.add (0 * z))) = ad := by
            split
            · rfl
            · rw [e2 (by omega), Nat.zero_mul]; simp [Addr.add]
          rw [key]
          exact .sl l z 0 b.toNat _ _ hlx (by omega) (by omega) (fun hq => by rw [e2 (by omega), Nat.zero_mul]) (fun _ => ⟨e1, e2⟩)
    · exact hb.elim
  · exact hk.elim
def val1X (C : Cx) (S : St) (op : Op) (k : St → SV → Prop) : Prop :=
  match op with
  | .slice t x none (some h) none => reslK C S t (ev S x) (ev S h) k
  | op => gS C S op k
theorem lJ {C : Cx} {O : Org} {E : Env} {S : St} {a : Act} {w : World} (hs : Sat O E S a w) {o : Oper} {k : St → SV → Prop} (h : val1X C S o.op k) : eF C O o a w k := by
  unfold val1X at h
  split at h
  · rename_i t x hh ho
    exact .val (ro hs (aB hs x) (aB hs hh) h) (by simp [execOp, ho])
  · exact eG hs h
def rn (C : Cx) (S : St) (o : Oper) (k : St → Prop) : Prop := val1X C S o.op fun S' x => oq S' o.dst x k
def o6 (C : Cx) (ops : List Oper) (S : St) (o : Oper) (k : St → Prop) : Prop :=
  match o.guard with
  | none => rn C S o k
  | some (j, want) => match (ops[j]?).bind (·.dst) with
    | some t => match lk S.fr t with
      | .d (.val (.bool b)) => match want with
        | true => bif b then rn C (setSlot S t true) o k else oq (setSlot S t false) o.dst (.tup []) k
        | false => bif b then oq (setSlot S t true) o.dst (.tup []) k else rn C (setSlot S t false) o k
      | .tup [] => oq S o.dst (.tup []) k
      | _ => False
    | none => False
def iB (C : Cx) (ops : List Oper) : List Oper → St → (St → Prop) → Prop
  | [], S, k => k S
  | o :: r, S, k => o6 C ops S o fun S' => iB C ops r S' k
theorem dh {C : Cx} {O : Org} {ops : List Oper} {Q : Exit → Act → World → Prop} : ∀ (l : List Oper) {E : Env} {S : St} {a : Act} {w : World} {k : St → Prop}, iB C ops l S k → Sat O E S a w →
    (∀ S' E' a' w', k S' → Sat O E' S' a' w' → Q .normal a' w') → wpList C.P ops.toArray Q l a w
  | [], E, S, a, w, k, h, hs, hk => hk S E a w h hs
  | o :: r, E, S, a, w, k, h, hs, hk => by
    have h : o6 C ops S o fun S' => iB C ops r S' k := h
    unfold o6 at h
    split at h
    · rename_i hg
      unfold wpList
      rw [if_pos (by simp [Region.wanted, hg])]
      refine Or.inl (lJ hs h _ _ fun v E' S' w' x h1 h2 h3 => ?_)
      obtain ⟨S'', g1, g2⟩ := cN h2 h3 h1
      exact dh r g1 g2 hk
    · rename_i j want hg
      split at h
      · rename_i t ht
        split at h
        · rename_i b hb
          have hv := hs.fr t
          rw [hb] at hv
          have hv := hv.val_inv
          have hy : yielded ops.toArray a.tmps j = some b := by
            unfold yielded
            have h1 : (ops.toArray[j]?).bind (·.dst) = some t := by simpa using ht
            have h2 : a.tmps[t]? = some (.bool b) := by
              rw [Q7] at hv
              cases hq : a.tmps[t]? with
              | none => rw [hq] at hv; simp [undef] at hv
              | some y => rw [hq] at hv; simp at hv; rw [hv]
            rw [h1]
            simp [h2]
          have hs' := hs.setSlot hv
          have run : b = want → rn C (setSlot S t b) o (fun S' => iB C ops r S' k) → wpList C.P ops.toArray Q (o :: r) a w := fun hbw h => by
            unfold wpList
            rw [if_pos (by simp [Region.wanted, hg, hy, hbw])]
            refine Or.inl (lJ hs' h _ _ fun v E' S' w' x h1 h2 h3 => ?_)
            obtain ⟨S'', g1, g2⟩ := cN h2 h3 h1
            exact dh r g1 g2 hk
          have skip : b ≠ want → oq (setSlot S t b) o.dst (.tup []) (fun S' => iB C ops r S' k) → wpList C.P ops.toArray Q (o :: r) a w := fun hbw h => by
            unfold wpList
            rw [if_neg (by simp [Region.wanted, hg, hy, hbw])]
            obtain ⟨S'', g1, g2⟩ := cN hs' (RS.skip _ _ _) h
            exact dh r g1 g2 hk
          cases want <;> cases b
          · exact run rfl h
          · exact skip (by simp) h
          · exact skip (by simp) h
          · exact run rfl h
        · rename_i hb
          have hv := hs.fr t
          rw [hb] at hv
          have hv := hv.skip_inv
          have hy : yielded ops.toArray a.tmps j = none := by
            unfold yielded
            have h1 : (ops.toArray[j]?).bind (·.dst) = some t := by simpa using ht
            rw [h1]
            rw [Q7] at hv
            cases hq : a.tmps[t]? with
            | none => simp [hq]
            | some y => rw [hq] at hv; simp at hv; subst hv; simp [hq, undef]
          unfold wpList
          rw [if_neg (by simp [Region.wanted, hg, hy])]
          obtain ⟨S'', g1, g2⟩ := cN hs (RS.skip _ _ _) h
          exact dh r g1 g2 hk
        · exact h.elim
      · exact h.elim
theorem Wp.regionX (id : Nat) {C : Cx} {l : List Oper} {S : St} {Q : Exit → St → Prop} (h : iB C l l S (Q .normal)) : Wp C (.region id l.toArray false) S Q :=
  ⟨fun O E a w hs => wp_region_lit (dh l h hs fun S' E' a' w' h1 h2 => ⟨S', E', h1, h2⟩)⟩
theorem RS.two {E E' : Env} {nx nx' : Nat} {w w' : World} {b : Bool} {k : IntKind} {n : Int} {v : Value} (h : RS E nx w (.tup [.b b, .i k n]) v) : RS E' nx' w' (.tup [.b b, .i k n]) v := by
  cases h with
  | tup _ us hs hh =>
    refine .tup _ us hs fun j hj => ?_
    have : j = 0 ∨ j = 1 := by simp at hj; omega
    rcases this with rfl | rfl
    · have := hh 0 (by simp)
      rw [show ([SV.b b, SV.i k n] : List SV)[0] = .b b from rfl] at this ⊢
      rw [this.val_inv]; exact RS.bool _ _ _ b
    · have := hh 1 (by simp)
      rw [show ([SV.b b, SV.i k n] : List SV)[1] = .i k n from rfl] at this ⊢
      rw [this.val_inv]; exact .d _ _ (.val _ rfl)
theorem ab.pureT {C : Cx} {nt : NT} {nx : Nat} {fr : List (Nat × SV)} {hp : List (Nat × Option Blk)} {g : Nat} {args args0 : List SV} {b : Bool} {kd : IntKind} {n : Int} {k : St → SV → Prop} (h : Pure C g args0 (.tup [.b b, .i kd n]))
    (hk : lX ⟨nt, nx, fr, hp⟩ args fun ys => Les ys args0 ∧ k ⟨nt, nx, fr, hp⟩ (.tup [.b b, .i kd n])) : ab C ⟨nt, nx, fr, hp⟩ g args k := by
  refine ⟨h.ent, fun O E a w vs hs hsz hargs => ?_⟩
  obtain ⟨ys, ⟨g1, gk⟩, g3, g5⟩ := fZ hs args vs.toList _ (by simpa using hsz) (fun j x v hx hv => by
    obtain ⟨q1, q2⟩ := Q3 hx
    subst q2; rw [← cm hv]; exact hargs j q1) hk
  have hlen : vs.size = ys.length := by omega
  refine (h.out ⟨E.ρ, E.κ, E.all ⟨nt, nx, fr, hp⟩⟩ w vs (fun b hb => ?_) (by rw [hlen, g1.len]) fun j hj => ?_).mono ?_
  · rcases hb with hb | ⟨l, x, hl, hr, rfl⟩
    · exact (hs.im b hb).1
    · exact (hs.hp l x hl).lt hr
  · have hj2 : j < ys.length := by rw [g1.len]; exact hj
    have hj3 : j < vs.size := by omega
    exact (g1.out j hj2 hj).out _ _ _ _ (g5 j _ _ (Q0 hj2) (by simp [Array.getD, hj3]))
  · rintro e w' ⟨v, rfl, hkp, hv⟩
    exact ⟨v, _, ⟨nt, nx, fr, hp⟩, _, rfl, gk, hs.after hkp, hv.two⟩
end Go.Proofs.YtlplngmpggkloaaGreat
