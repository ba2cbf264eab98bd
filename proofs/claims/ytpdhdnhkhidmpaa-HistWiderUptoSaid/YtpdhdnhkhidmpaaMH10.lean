/- Lemmas of Hi7, Hi8, Hi9, Hi10, Hi11. No condition. -/
import Derived.Test.YtpdhdnhkhidmpaaMH9
set_option linter.unusedVariables false
set_option linter.unusedSimpArgs false
set_option maxHeartbeats 80000000
set_option maxRecDepth 100000
namespace Go.Proofs.Ytpdhdnhkhidmpaa
open Go.RowKit
section
open Hist
theorem nN {ps : List Pol} {calls : List HD} (hk : ∀ d ∈ calls, IsB d.key) (hl : calls.length ≤ 1048576) (b : Nat) (k) (hp : ckP ps calls k) :
    Wp TC ckB (ckI ps calls b k) (od (ckP ps calls) (ckI ps calls b) (fun k => calls.length - k.1) (calls.length - k.1) (ckQ ps calls b)) := by
  obtain ⟨k, T⟩ := k
  obtain ⟨hk1, hT⟩ := hp
  dsimp only at hk1 hT ⊢
  conv => (arg 2; whnf)
  dsimp only [ckI, ckH]
  by_cases hlt : k < calls.length
  · generalize hE : bu ps calls.length (calls.take k) = E
    have hC := dv ps (calls.getD (k : Int).toNat default).op (calls.getD (k : Int).toNat default).pol (calls.getD (k : Int).toNat default).key (calls.getD (k : Int).toNat default).n
    have hN := iP (calls.getD (k : Int).toNat default)
    have hI := dm (calls.getD (k : Int).toNat default).pol (calls.getD (k : Int).toNat default).key
    obtain ⟨E1, hE1⟩ : ∃ E1, (if (calls.getD (k : Int).toNat default).last < (calls.getD (k : Int).toNat default).first then bv E 1 else E) = E1 := ⟨_, rfl⟩
    generalize hz : mpB b 100000000000000000000 (ids ps (calls.take k)) (mpG ps (calls.take k)) = mp
    (repeat' (first
    | (with_reducible refine Wp.midAt 10 (ckM ps calls b k E1 mp T) ?_ ?_)
    | (with_reducible refine Wp.reg 16 ?_)
    | with_reducible refine Wp.seq ?_
    | with_reducible refine Wp.block ?_
    | ((with_reducible first | refine Wp.region ?_ | refine Wp.drawL ac ?_ | refine Wp.cond ?_ | refine Wp.ret ?_ | refine Wp.skip ?_ | refine Wp.exit ?_ | refine Go.mk ?_ | apply ay.of); conv => whnf)
    | with_reducible exact rfl
    | ((with_reducible refine Ov.ok zO ?_); conv => whnf)
    | (with_reducible refine Ov.sh1 (by with_unfolding_all exact rfl) ?_)
    | ((with_reducible refine Ov.quo (by omega) (by omega) (by omega) (fun _ _ => ?_)); conv => whnf)
    | ((with_reducible refine And.intro (show aj _ _ _ _ = true by kernel_rfl) ?_); conv => whnf)
    | ((with_reducible refine And.intro zC ?_); conv => whnf)
    | ((with_reducible refine And.intro ?hb ?_); (case hb => exact ae (zzb rfl) (by omega)); (conv => whnf))
    | ((refine ag.a rfl rfl rfl rfl rfl rfl ?hb ?_); (case hb => exact zB); (conv => whnf))
    | ((refine ag.b rfl rfl rfl rfl rfl rfl rfl rfl ?hb ?ho ?_); (case hb => exact zB); (case ho => omega); (conv => whnf))
    | ((refine ag.c rfl rfl rfl rfl rfl ?hb ?_); (case hb => exact zB); (conv => whnf))
    | ((refine ag.d rfl rfl rfl rfl rfl rfl ?hb ?ho ?_); (case hb => exact zB); (case ho => omega); (conv => whnf))
    | (with_reducible refine Or.inl ?_)
    | ((with_reducible refine nil_no (by omega) ?_); (conv => whnf))
    | ((with_reducible refine ah ?_ (fun hn0 => ?_)) <;> (conv => whnf))
    | ((with_reducible refine aa.pure (hC) rfl rfl ?_); conv => whnf) | ((with_reducible refine ai.pure (hC) rfl rfl ?_); conv => whnf)
    | ((with_reducible refine aa.pure (hI) rfl rfl ?_); conv => whnf) | ((with_reducible refine ai.pure (hI) rfl rfl ?_); conv => whnf)
    | ((with_reducible refine aa.pure (hN) rfl rfl ?_); conv => whnf) | ((with_reducible refine ai.pure (hN) rfl rfl ?_); conv => whnf)
    | (with_reducible refine aa.inline Try.func32 rfl rfl rfl (zzb rfl) ?_)
    | ((refine az (fun hc => ?_) (fun hc => ?_)) <;> (try simp only [decide_eq_true_eq, decide_eq_false_iff_not, Q5, Q20, Bool.and_eq_false_iff, Bool.or_eq_false_iff, Bool.not_eq_true', Bool.not_eq_false', beq_iff_eq, bne_iff_ne, ne_eq, beq_eq_false_iff_ne, bne_eq_false_iff_eq, Bool.not_eq_true, Bool.not_eq_false] at hc) <;> (try (exfalso; omega)) <;> (conv => whnf))))
    · refine Le.keep (Q4 _) (by ((conv => whnf); repeat' (first | exact trivial | exact SV.Le.rfl _ | ((with_reducible refine And.intro ?_ ?_) <;> (conv => whnf))))) (fun l bb hb => ?_)
      have e9 : E1 = 1 := (by rw [← hE1]; unfold bv; (repeat' split) <;> omega)
      rw [e9] at hb
      by_cases e0 : 0 = l
      · subst e0; exact hb
      by_cases e1 : 1 = l
      · subst e1; exact hb
      by_cases e2 : 100000000000000000000 = l
      · subst e2; exact hb
      simp only [af, if_neg e0, if_neg e1, if_neg e2] at hb ⊢
      exact hb
    · refine Le.keep (Q4 _) (by ((conv => whnf); repeat' (first | exact trivial | exact SV.Le.rfl _ | ((with_reducible refine And.intro ?_ ?_) <;> (conv => whnf))))) (fun l bb hb => ?_)
      have e9 : E1 = 1 := (by rw [← hE1]; unfold bv; (repeat' split) <;> omega)
      rw [e9] at hb
      by_cases e0 : 0 = l
      · subst e0; exact hb
      by_cases e1 : 1 = l
      · subst e1; exact hb
      by_cases e2 : 100000000000000000000 = l
      · subst e2; exact hb
      simp only [af, if_neg e0, if_neg e1, if_neg e2] at hb ⊢
      exact hb
    · refine Le.keep (Q4 _) (by ((conv => whnf); repeat' (first | exact trivial | exact SV.Le.rfl _ | ((with_reducible refine And.intro ?_ ?_) <;> (conv => whnf))))) (fun l bb hb => ?_)
      have e9 : E1 = E := (by rw [← hE1]; unfold bv; (repeat' split) <;> omega)
      rw [e9] at hb
      by_cases e0 : 0 = l
      · subst e0; exact hb
      by_cases e1 : 1 = l
      · subst e1; exact hb
      by_cases e2 : 100000000000000000000 = l
      · subst e2; exact hb
      simp only [af, if_neg e0, if_neg e1, if_neg e2] at hb ⊢
      exact hb
    · refine Le.keep (Q4 _) (by ((conv => whnf); repeat' (first | exact trivial | exact SV.Le.rfl _ | ((with_reducible refine And.intro ?_ ?_) <;> (conv => whnf))))) (fun l bb hb => ?_)
      have e9 : E1 = E := (by rw [← hE1]; unfold bv; (repeat' split) <;> omega)
      rw [e9] at hb
      by_cases e0 : 0 = l
      · subst e0; exact hb
      by_cases e1 : 1 = l
      · subst e1; exact hb
      by_cases e2 : 100000000000000000000 = l
      · subst e2; exact hb
      simp only [af, if_neg e0, if_neg e1, if_neg e2] at hb ⊢
      exact hb
    · subst hz
      subst hE
      refine iu (E' := 3) hl hlt ?a hT ?b (by ((conv => whnf); repeat' (first | exact trivial | exact aD.free rfl | exact aD.ptr rfl (by decide) | exact aD.fn1 (aD.ptr rfl (by decide)) | ((with_reducible refine And.intro ?_ ?_) <;> (conv => whnf))))) rfl rfl ?c
      case a => generalize calls.getD (k : Int).toNat default = d at *; unfold bX eQ; simp [*]
      case b => generalize calls.getD (k : Int).toNat default = d at *; unfold bE; rw [hE1, if_pos (by unfold eQ; simp [*])]; unfold bv; (repeat' split) <;> first | rfl | (exfalso; omega)
      case c => intro l h1 h2; simp only [af, if_neg (show ¬ 0 = l by omega), if_neg (show ¬ 1 = l by omega), if_neg (show ¬ 100000000000000000000 = l by omega)]
    · subst hz
      subst hE
      refine iu (E' := 3) hl hlt ?a hT ?b (by ((conv => whnf); repeat' (first | exact trivial | exact aD.free rfl | exact aD.ptr rfl (by decide) | exact aD.fn1 (aD.ptr rfl (by decide)) | ((with_reducible refine And.intro ?_ ?_) <;> (conv => whnf))))) rfl rfl ?c
      case a => generalize calls.getD (k : Int).toNat default = d at *; unfold bX eQ; simp [*]
      case b => generalize calls.getD (k : Int).toNat default = d at *; unfold bE; rw [hE1, if_pos (by unfold eQ; simp [*])]; unfold bv; (repeat' split) <;> first | rfl | (exfalso; omega)
      case c => intro l h1 h2; simp only [af, if_neg (show ¬ 0 = l by omega), if_neg (show ¬ 1 = l by omega), if_neg (show ¬ 100000000000000000000 = l by omega)]
    · subst hz
      subst hE
      refine iu (E' := E1) hl hlt ?a hT ?b (by ((conv => whnf); repeat' (first | exact trivial | exact aD.free rfl | exact aD.ptr rfl (by decide) | exact aD.fn1 (aD.ptr rfl (by decide)) | ((with_reducible refine And.intro ?_ ?_) <;> (conv => whnf))))) rfl rfl ?c
      case a => generalize calls.getD (k : Int).toNat default = d at *; unfold bX eQ; simp [*]
      case b => generalize calls.getD (k : Int).toNat default = d at *; unfold bE; rw [hE1, if_pos (by unfold eQ; simp [*])]; unfold bv; (repeat' split) <;> first | rfl | (exfalso; omega)
      case c => intro l h1 h2; simp only [af, if_neg (show ¬ 0 = l by omega), if_neg (show ¬ 1 = l by omega), if_neg (show ¬ 100000000000000000000 = l by omega)]
    iterate 2
      · subst hz
        subst hE
        refine iu (E' := E1) hl hlt ?a hT ?b (by ((conv => whnf); repeat' (first | exact trivial | exact aD.free rfl | exact aD.ptr rfl (by decide) | exact aD.fn1 (aD.ptr rfl (by decide)) | ((with_reducible refine And.intro ?_ ?_) <;> (conv => whnf))))) rfl rfl ?c
        case a => generalize calls.getD (k : Int).toNat default = d at *; unfold bX eQ; simp [*]
        case b => generalize calls.getD (k : Int).toNat default = d at *; unfold bE; rw [hE1, if_neg (by unfold eQ; simp [*]), if_neg (by unfold bX eQ; simp [*])]
        case c => intro l h1 h2; simp only [af, if_neg (show ¬ 0 = l by omega), if_neg (show ¬ 1 = l by omega), if_neg (show ¬ 100000000000000000000 = l by omega)]
    · subst hE
      subst hz
      refine ⟨Wp.le (S' := ck6 ps calls b k E1 T) ?_ ((ck_16 hk hl (b := b) hlt ?_ hE1 hT).mono ?_)⟩
      · exact Le.keep (Q4 _) (by ((conv => whnf); repeat' (first | exact trivial | exact SV.Le.rfl _ | ((with_reducible refine And.intro ?_ ?_) <;> (conv => whnf))))) (fun l bb hb => hb)
      · generalize calls.getD (k : Int).toNat default = d at *; unfold bX eQ; simp [*]
      · rintro e S' ⟨rfl, T', h1, h2⟩
        refine (show Wp _ _ _ _ from Wp.le h2 ?_)
        (repeat' (first
    | with_reducible refine Wp.seq ?_
    | with_reducible refine Wp.block ?_
    | ((with_reducible first | refine Wp.region ?_ | refine Wp.drawL ac ?_ | refine Wp.cond ?_ | refine Wp.ret ?_ | refine Wp.skip ?_ | refine Wp.exit ?_ | refine Go.mk ?_ | apply ay.of); conv => whnf)
    | with_reducible exact rfl
    | ((with_reducible refine Ov.ok zO ?_); conv => whnf)
    | (with_reducible refine Ov.sh1 (by with_unfolding_all exact rfl) ?_)
    | ((with_reducible refine Ov.quo (by omega) (by omega) (by omega) (fun _ _ => ?_)); conv => whnf)
    | ((with_reducible refine And.intro (show aj _ _ _ _ = true by kernel_rfl) ?_); conv => whnf)
    | ((with_reducible refine And.intro zC ?_); conv => whnf)
    | ((with_reducible refine And.intro ?hb ?_); (case hb => exact ae (zzb rfl) (by omega)); (conv => whnf))
    | ((refine ag.a rfl rfl rfl rfl rfl rfl ?hb ?_); (case hb => exact zB); (conv => whnf))
    | ((refine ag.b rfl rfl rfl rfl rfl rfl rfl rfl ?hb ?ho ?_); (case hb => exact zB); (case ho => omega); (conv => whnf))
    | ((refine ag.c rfl rfl rfl rfl rfl ?hb ?_); (case hb => exact zB); (conv => whnf))
    | ((refine ag.d rfl rfl rfl rfl rfl rfl ?hb ?ho ?_); (case hb => exact zB); (case ho => omega); (conv => whnf))
    | (with_reducible refine Or.inl ?_)
    | ((with_reducible refine nil_no (by omega) ?_); (conv => whnf))
    | ((with_reducible refine ah ?_ (fun hn0 => ?_)) <;> (conv => whnf))
    
    | ((refine az (fun hc => ?_) (fun hc => ?_)) <;> (try simp only [decide_eq_true_eq, decide_eq_false_iff_not, Q5, Q20, Bool.and_eq_false_iff, Bool.or_eq_false_iff, Bool.not_eq_true', Bool.not_eq_false', beq_iff_eq, bne_iff_ne, ne_eq, beq_eq_false_iff_ne, bne_eq_false_iff_eq, Bool.not_eq_true, Bool.not_eq_false] at hc) <;> (try (exfalso; omega)) <;> (conv => whnf))))
        exact ⟨(k + 1, T'), ⟨hlt, h1⟩, by dsimp only; omega, Le.keep (Q4 _) (by ((conv => whnf); repeat' (first | exact trivial | exact SV.Le.rfl _ | ((with_reducible refine And.intro ?_ ?_) <;> (conv => whnf))))) fun l b h => h⟩
    iterate 2
      · subst hz
        subst hE
        refine iu (E' := E1) hl hlt ?a hT ?b (by ((conv => whnf); repeat' (first | exact trivial | exact aD.free rfl | exact aD.ptr rfl (by decide) | exact aD.fn1 (aD.ptr rfl (by decide)) | ((with_reducible refine And.intro ?_ ?_) <;> (conv => whnf))))) rfl rfl ?c
        case a => generalize calls.getD (k : Int).toNat default = d at *; unfold bX eQ; simp [*]
        case b => generalize calls.getD (k : Int).toNat default = d at *; unfold bE; rw [hE1, if_neg (by unfold eQ; simp [*]), if_neg (by unfold bX eQ; simp [*])]
        case c => intro l h1 h2; simp only [af, if_neg (show ¬ 0 = l by omega), if_neg (show ¬ 1 = l by omega), if_neg (show ¬ 100000000000000000000 = l by omega)]
    · subst hE
      subst hz
      refine ⟨Wp.le (S' := ck6 ps calls b k E1 T) ?_ ((ck_16 hk hl (b := b) hlt ?_ hE1 hT).mono ?_)⟩
      · exact Le.keep (Q4 _) (by ((conv => whnf); repeat' (first | exact trivial | exact SV.Le.rfl _ | ((with_reducible refine And.intro ?_ ?_) <;> (conv => whnf))))) (fun l bb hb => hb)
      · generalize calls.getD (k : Int).toNat default = d at *; unfold bX eQ; simp [*]
      · rintro e S' ⟨rfl, T', h1, h2⟩
        refine (show Wp _ _ _ _ from Wp.le h2 ?_)
        (repeat' (first
    | with_reducible refine Wp.seq ?_
    | with_reducible refine Wp.block ?_
    | ((with_reducible first | refine Wp.region ?_ | refine Wp.drawL ac ?_ | refine Wp.cond ?_ | refine Wp.ret ?_ | refine Wp.skip ?_ | refine Wp.exit ?_ | refine Go.mk ?_ | apply ay.of); conv => whnf)
    | with_reducible exact rfl
    | ((with_reducible refine Ov.ok zO ?_); conv => whnf)
    | (with_reducible refine Ov.sh1 (by with_unfolding_all exact rfl) ?_)
    | ((with_reducible refine Ov.quo (by omega) (by omega) (by omega) (fun _ _ => ?_)); conv => whnf)
    | ((with_reducible refine And.intro (show aj _ _ _ _ = true by kernel_rfl) ?_); conv => whnf)
    | ((with_reducible refine And.intro zC ?_); conv => whnf)
    | ((with_reducible refine And.intro ?hb ?_); (case hb => exact ae (zzb rfl) (by omega)); (conv => whnf))
    | ((refine ag.a rfl rfl rfl rfl rfl rfl ?hb ?_); (case hb => exact zB); (conv => whnf))
    | ((refine ag.b rfl rfl rfl rfl rfl rfl rfl rfl ?hb ?ho ?_); (case hb => exact zB); (case ho => omega); (conv => whnf))
    | ((refine ag.c rfl rfl rfl rfl rfl ?hb ?_); (case hb => exact zB); (conv => whnf))
    | ((refine ag.d rfl rfl rfl rfl rfl rfl ?hb ?ho ?_); (case hb => exact zB); (case ho => omega); (conv => whnf))
    | (with_reducible refine Or.inl ?_)
    | ((with_reducible refine nil_no (by omega) ?_); (conv => whnf))
    | ((with_reducible refine ah ?_ (fun hn0 => ?_)) <;> (conv => whnf))
    
    | ((refine az (fun hc => ?_) (fun hc => ?_)) <;> (try simp only [decide_eq_true_eq, decide_eq_false_iff_not, Q5, Q20, Bool.and_eq_false_iff, Bool.or_eq_false_iff, Bool.not_eq_true', Bool.not_eq_false', beq_iff_eq, bne_iff_ne, ne_eq, beq_eq_false_iff_ne, bne_eq_false_iff_eq, Bool.not_eq_true, Bool.not_eq_false] at hc) <;> (try (exfalso; omega)) <;> (conv => whnf))))
        exact ⟨(k + 1, T'), ⟨hlt, h1⟩, by dsimp only; omega, Le.keep (Q4 _) (by ((conv => whnf); repeat' (first | exact trivial | exact SV.Le.rfl _ | ((with_reducible refine And.intro ?_ ?_) <;> (conv => whnf))))) fun l b h => h⟩
  · obtain rfl : k = calls.length := by omega
    (repeat' (first
    | with_reducible refine Wp.seq ?_
    | with_reducible refine Wp.block ?_
    | ((with_reducible first | refine Wp.region ?_ | refine Wp.drawL ac ?_ | refine Wp.cond ?_ | refine Wp.ret ?_ | refine Wp.skip ?_ | refine Wp.exit ?_ | refine Go.mk ?_ | apply ay.of); conv => whnf)
    | with_reducible exact rfl
    | ((with_reducible refine Ov.ok zO ?_); conv => whnf)
    | (with_reducible refine Ov.sh1 (by with_unfolding_all exact rfl) ?_)
    | ((with_reducible refine Ov.quo (by omega) (by omega) (by omega) (fun _ _ => ?_)); conv => whnf)
    | ((with_reducible refine And.intro (show aj _ _ _ _ = true by kernel_rfl) ?_); conv => whnf)
    | ((with_reducible refine And.intro zC ?_); conv => whnf)
    | ((with_reducible refine And.intro ?hb ?_); (case hb => exact ae (zzb rfl) (by omega)); (conv => whnf))
    | ((refine ag.a rfl rfl rfl rfl rfl rfl ?hb ?_); (case hb => exact zB); (conv => whnf))
    | ((refine ag.b rfl rfl rfl rfl rfl rfl rfl rfl ?hb ?ho ?_); (case hb => exact zB); (case ho => omega); (conv => whnf))
    | ((refine ag.c rfl rfl rfl rfl rfl ?hb ?_); (case hb => exact zB); (conv => whnf))
    | ((refine ag.d rfl rfl rfl rfl rfl rfl ?hb ?ho ?_); (case hb => exact zB); (case ho => omega); (conv => whnf))
    | (with_reducible refine Or.inl ?_)
    | ((with_reducible refine nil_no (by omega) ?_); (conv => whnf))
    | ((with_reducible refine ah ?_ (fun hn0 => ?_)) <;> (conv => whnf))
    
    | ((refine az (fun hc => ?_) (fun hc => ?_)) <;> (try simp only [decide_eq_true_eq, decide_eq_false_iff_not, Q5, Q20, Bool.and_eq_false_iff, Bool.or_eq_false_iff, Bool.not_eq_true', Bool.not_eq_false', beq_iff_eq, bne_iff_ne, ne_eq, beq_eq_false_iff_ne, bne_eq_false_iff_eq, Bool.not_eq_true, Bool.not_eq_false] at hc) <;> (try (exfalso; omega)) <;> (conv => whnf))))
    refine ⟨rfl, T, by rw [List.take_length] at hT; exact hT, Le.keep (Q4 _) (by ((conv => whnf); repeat' (first | exact trivial | exact SV.Le.rfl _ | ((with_reducible refine And.intro ?_ ?_) <;> (conv => whnf))))) fun l b h => h⟩
theorem nJ (ps : List Pol) (n : Nat) : bu ps n [] = err0 ps n := rfl
theorem nM {ps : List Pol} {calls : List HD} {b nx mm : Nat} {V : Int} {fr : List (Nat × SV)} {hp : List (Nat × Option Blk)} {g : Nat → SV} (hE : err0 ps calls.length = V) (hfr : l6 id 100000000000000000000 fr (ckF ps calls b 0)) (h0 : lkh hp 0 = some (.cells [.i .i64 V])) (h1 : lkh hp 1 = some (mpB b mm [] g)) :
    Le ⟨⟨Try.f15.ntmps, 0⟩, nx, fr, hp⟩ (ckI ps calls b (0, [])) := by
  show Le _ ⟨_, 100000000000000000000, ckF ps calls b 0, (0, some (.cells [.i .i64 (bu ps calls.length [])])) :: (1, some (mpB b 100000000000000000000 [] (mpG ps []))) :: []⟩
  rw [nJ, hE]
  exact Le.maps id rfl (by decide) hfr rfl rfl h0 (aD.free rfl) h1 (fun j hj => absurd hj (Nat.not_lt_zero _)) (fun k b h => by cases h) (fun k b h => by cases h) fun k k' _ _ h => by cases h
@[reducible] noncomputable def ckD (ps : List Pol) (calls : List HD) (b : Nat) : Blk := mpB b 0 (ids ps calls) fun j => .d (ao 13 HD.D (grp ps calls ((ids ps calls).getD j default)))
theorem ck_stop {ps : List Pol} {calls : List HD} {b : Nat} {T : List (Nat × Option Blk)} (hl : calls.length ≤ 1048576) (hT : Tl ps calls T) : Le (ckI ps calls b (calls.length, T)) ⟨⟨Try.f15.ntmps, 0⟩, 100000000000000000000, [(6, .ptr 0 0), (9, mpV b)], [(0, some (.cells [.i .i64 (bu ps calls.length calls)])), (1, some (ckD ps calls b))]⟩ := by
  have hz := Nat.le_trans (ge ps calls []) (show _ ≤ calls.length by rw [List.length_nil]; omega)
  have h := Le.frzT (nt := ⟨Try.f15.ntmps, 0⟩) (nx := 100000000000000000000) (lm := 1) (b := b) (mm := 100000000000000000000) (z := 13) (hi := 100000000000000000000) (e := 39) (fr := ckF ps calls b calls.length) (hp := [(0, some (.cells [.i .i64 (bu ps calls.length calls)])), (1, some (mpB b 100000000000000000000 (ids ps calls) (mpG ps calls)))]) (T := T) (keys := ids ps calls) (g := mpG ps calls)
    (fun j => (grp ps calls ((ids ps calls).getD j default)).length) (fun j q => HD.D ((grp ps calls ((ids ps calls).getD j default)).getD q default)) hT.at_ rfl (by unfold ids; omega) rfl (fun j _ => rfl)
  have e : ckI ps calls b (calls.length, T) = ⟨⟨Try.f15.ntmps, 0⟩, 100000000000000000000, ckF ps calls b calls.length, [(0, some (.cells [.i .i64 (bu ps calls.length calls)])), (1, some (mpB b 100000000000000000000 (ids ps calls) (mpG ps calls)))] ++ T⟩ := by
    show (⟨_, _, _, (0, some (.cells [.i .i64 (bu ps calls.length (calls.take calls.length))])) :: (1, some (mpB b 100000000000000000000 (ids ps (calls.take calls.length)) (mpG ps (calls.take calls.length)))) :: T⟩ : St) = _
    rw [List.take_length]; rfl
  rw [e]
  refine h.trans (Le.keep (Q4 _) (by ((conv => whnf); repeat' (first | exact trivial | exact SV.Le.rfl _ | ((with_reducible refine And.intro ?_ ?_) <;> (conv => whnf))))) fun l bb hb => ?_)
  by_cases e0 : 0 = l
  · subst e0; exact hb
  by_cases e1 : 1 = l
  · subst e1; exact hb
  simp only [af, if_neg e0, if_neg e1] at hb ⊢
  exact hb
theorem kh {ps : List Pol} {calls : List HD} (hk : ∀ d ∈ calls, IsB d.key) (hl : calls.length ≤ 1048576) {nt : NT} {fr : List (Nat × SV)} {k : St → SV → Prop}
    (h : ∀ b, k ⟨nt, 100000000000000000000 + 1 + 1 + 1 + 1, fr, [(0, some (.cells [.i .i64 (bu ps calls.length calls)])), (1, some (ckD ps calls b))]⟩ (.tup [mpV b, .i .i64 (bu ps calls.length calls)])) :
    aa TC ⟨nt, 0, fr, []⟩ 15 [.d (ao 4 Pol.D ps), .d (ao 13 HD.D calls)] k := by
  refine aa.inline Try.func15 rfl rfl rfl (zzb rfl) ?_
  have hP := a6 ps
  (repeat' (first
    | with_reducible refine Wp.seq ?_
    | with_reducible refine Wp.block ?_
    | ((with_reducible first | refine Wp.region ?_ | refine Wp.drawL ac ?_ | refine Wp.cond ?_ | refine Wp.ret ?_ | refine Wp.skip ?_ | refine Wp.exit ?_ | refine Go.mk ?_ | apply ay.of); conv => whnf)
    | with_reducible exact rfl
    | ((with_reducible refine Ov.ok zO ?_); conv => whnf)
    | (with_reducible refine Ov.sh1 (by with_unfolding_all exact rfl) ?_)
    | ((with_reducible refine Ov.quo (by omega) (by omega) (by omega) (fun _ _ => ?_)); conv => whnf)
    | ((with_reducible refine And.intro (show aj _ _ _ _ = true by kernel_rfl) ?_); conv => whnf)
    | ((with_reducible refine And.intro zC ?_); conv => whnf)
    | ((with_reducible refine And.intro ?hb ?_); (case hb => exact ae (zzb rfl) (by omega)); (conv => whnf))
    | ((refine ag.a rfl rfl rfl rfl rfl rfl ?hb ?_); (case hb => exact zB); (conv => whnf))
    | ((refine ag.b rfl rfl rfl rfl rfl rfl rfl rfl ?hb ?ho ?_); (case hb => exact zB); (case ho => omega); (conv => whnf))
    | ((refine ag.c rfl rfl rfl rfl rfl ?hb ?_); (case hb => exact zB); (conv => whnf))
    | ((refine ag.d rfl rfl rfl rfl rfl rfl ?hb ?ho ?_); (case hb => exact zB); (case ho => omega); (conv => whnf))
    | (with_reducible refine Or.inl ?_)
    | ((with_reducible refine nil_no (by omega) ?_); (conv => whnf))
    | ((with_reducible refine ah ?_ (fun hn0 => ?_)) <;> (conv => whnf))
    | ((with_reducible refine aa.pure (hP) rfl rfl ?_); conv => whnf) | ((with_reducible refine ai.pure (hP) rfl rfl ?_); conv => whnf)
    | (with_reducible refine aa.inline Try.func32 rfl rfl rfl (zzb rfl) ?_)
    | ((with_reducible refine aQ.makeMap (fun b => ?_)); conv => whnf)
    | ((refine az (fun hc => ?_) (fun hc => ?_)) <;> (try simp only [decide_eq_true_eq, decide_eq_false_iff_not, Q5, Q20, Bool.and_eq_false_iff, Bool.or_eq_false_iff, Bool.not_eq_true', Bool.not_eq_false', beq_iff_eq, bne_iff_ne, ne_eq, beq_eq_false_iff_ne, bne_eq_false_iff_eq, Bool.not_eq_true, Bool.not_eq_false] at hc) <;> (try (exfalso; omega)) <;> (conv => whnf))))
  all_goals
    refine Wp.midE 0 (ι := List (Nat × Option Blk)) (fun T => Tl ps calls T) (fun T => ckI ps calls b (calls.length, T)) (Wp.le (S' := ckI ps calls b (0, [])) (nM ?_ (by ((conv => whnf); repeat' (first | exact trivial | exact aD.free rfl | exact aD.ptr rfl (by decide) | exact aD.fn1 (aD.ptr rfl (by decide)) | ((with_reducible refine And.intro ?_ ?_) <;> (conv => whnf))))) rfl rfl) (Wp.loopP (c := ckB) (ckP ps calls) (ckI ps calls b) (fun k => calls.length - k.1) (0, []) ?_ (Le.blks fun _ _ h => h) fun k hp => nN hk hl b k hp)) ?_
  all_goals first
    | (unfold err0 bv; (repeat' split) <;> omega)
    | exact ⟨Nat.zero_le _, ⟨fun j hj => absurd hj (Nat.not_lt_zero j), fun k b h => by cases h⟩⟩
    | skip
  all_goals
    intro T hT
    refine Wp.le (ck_stop hl hT) ?_
    (repeat' (first
    | with_reducible refine Wp.seq ?_
    | with_reducible refine Wp.block ?_
    | ((with_reducible first | refine Wp.region ?_ | refine Wp.drawL ac ?_ | refine Wp.cond ?_ | refine Wp.ret ?_ | refine Wp.skip ?_ | refine Wp.exit ?_ | refine Go.mk ?_ | apply ay.of); conv => whnf)
    | with_reducible exact rfl
    | ((with_reducible refine Ov.ok zO ?_); conv => whnf)
    | (with_reducible refine Ov.sh1 (by with_unfolding_all exact rfl) ?_)
    | ((with_reducible refine Ov.quo (by omega) (by omega) (by omega) (fun _ _ => ?_)); conv => whnf)
    | ((with_reducible refine And.intro (show aj _ _ _ _ = true by kernel_rfl) ?_); conv => whnf)
    | ((with_reducible refine And.intro zC ?_); conv => whnf)
    | ((with_reducible refine And.intro ?hb ?_); (case hb => exact ae (zzb rfl) (by omega)); (conv => whnf))
    | ((refine ag.a rfl rfl rfl rfl rfl rfl ?hb ?_); (case hb => exact zB); (conv => whnf))
    | ((refine ag.b rfl rfl rfl rfl rfl rfl rfl rfl ?hb ?ho ?_); (case hb => exact zB); (case ho => omega); (conv => whnf))
    | ((refine ag.c rfl rfl rfl rfl rfl ?hb ?_); (case hb => exact zB); (conv => whnf))
    | ((refine ag.d rfl rfl rfl rfl rfl rfl ?hb ?ho ?_); (case hb => exact zB); (case ho => omega); (conv => whnf))
    | (with_reducible refine Or.inl ?_)
    | ((with_reducible refine nil_no (by omega) ?_); (conv => whnf))
    | ((with_reducible refine ah ?_ (fun hn0 => ?_)) <;> (conv => whnf))
    
    | ((refine az (fun hc => ?_) (fun hc => ?_)) <;> (try simp only [decide_eq_true_eq, decide_eq_false_iff_not, Q5, Q20, Bool.and_eq_false_iff, Bool.or_eq_false_iff, Bool.not_eq_true', Bool.not_eq_false', beq_iff_eq, bne_iff_ne, ne_eq, beq_eq_false_iff_ne, bne_eq_false_iff_eq, Bool.not_eq_true, Bool.not_eq_false] at hc) <;> (try (exfalso; omega)) <;> (conv => whnf))))
  all_goals exact h b
end
section
namespace Hist
def allB (ps : List Pol) (l : List HD) : Bool := srch ps l (spI l) l.length (2 ^ l.length - 1) []
def eT (ps : List Pol) (calls : List HD) : Bool := decide (bu ps calls.length calls = 0) && (ids ps calls).all fun k => allB ps (grp ps calls k)
theorem bT {e f : Int} (h : f ≠ 0) : bv e f ≠ 0 := by unfold bv; split <;> omega
theorem stepE_0 {ps : List Pol} {e : Int} {pre : List HD} {d : HD} (h : bE ps e pre d = 0) : e = 0 ∧ ¬ d.last < d.first ∧ eQ ps d = false ∧ (bX ps d = true → (grp ps (pre ++ [d]) (kb d)).length ≤ 8) := by
  unfold bE at h
  by_cases h1 : d.last < d.first
  · rw [if_pos h1] at h
    dsimp only at h
    split at h
    · exact absurd h (bT (by decide))
    · split at h
      · split at h
        · exact absurd h (bT (by decide))
        · exact absurd h (bT (by decide))
      · exact absurd h (bT (by decide))
  · rw [if_neg h1] at h
    dsimp only at h
    split at h
    · exact absurd h (bT (by decide))
    · rename_i hb
      split at h
      · split at h
        · exact absurd h (bT (by decide))
        · exact ⟨h, h1, by simpa using hb, fun _ => by omega⟩
      · rename_i hi
        exact ⟨h, h1, by simpa using hb, fun h9 => absurd h9 hi⟩
theorem lw {ps : List Pol} {n : Nat} (l : List HD) : ∀ m, m ≤ l.length → bu ps n (l.take m) = 0 → err0 ps n = 0 ∧ (∀ d ∈ l.take m, ¬ d.last < d.first ∧ eQ ps d = false) ∧ ∀ k, (grp ps (l.take m) k).length ≤ 8
  | 0, _, h => ⟨h, fun d hd => by simp at hd, fun k => by simp [grp]⟩
  | m + 1, hm, h => by
    have ht : l.take (m + 1) = l.take m ++ [l[m]] := by rw [List.take_add_one, Q0 (by omega)]; rfl
    rw [ht, cV] at h
    obtain ⟨h1, h2, h3, h4⟩ := stepE_0 h
    obtain ⟨g1, g2, g3⟩ := lw l m (by omega) h1
    rw [ht]
    refine ⟨g1, fun d hd => ?_, fun k => ?_⟩
    · rcases List.mem_append.1 hd with hd | hd
      · exact g2 d hd
      · rw [List.mem_singleton.1 hd]; exact ⟨h2, h3⟩
    · rw [aS]
      split
      · rename_i hi
        have := h4 hi.1
        rw [aS, if_pos (show bX ps l[m] = true ∧ kb l[m] = kb l[m] from ⟨hi.1, rfl⟩), hi.2] at this
        exact this
      · exact g3 k
theorem oA {ps : List Pol} {l : List HD} (h : bu ps l.length l = 0) : bo ps = 0 ∧ l.length ≤ 4096 ∧ (∀ d ∈ l, ¬ d.last < d.first ∧ eQ ps d = false) ∧ ∀ k, (grp ps l k).length ≤ 8 := by
  have := lw (ps := ps) (n := l.length) l l.length (Q4 _)
  rw [List.take_length] at this
  obtain ⟨h1, h2, h3⟩ := this h
  unfold err0 at h1
  split at h1
  · exact absurd h1 (bT (by decide))
  · exact ⟨h1, by omega, h2, h3⟩
def lf (n : Nat) (seen : List Nat) : Nat := ((List.range n).filter fun j => !seen.contains j).length
theorem ox {p q : Nat → Bool} (h : ∀ x, p x = true → q x = true) : ∀ l : List Nat, (l.filter p).length ≤ (l.filter q).length
  | [] => Q4 _
  | x :: l => by
    have := ox h l
    rw [List.filter_cons, List.filter_cons]
    by_cases hp : p x = true
    · rw [if_pos hp, if_pos (h x hp), List.length_cons, List.length_cons]; omega
    · rw [if_neg hp]; split
      · rw [List.length_cons]; omega
      · exact this
theorem ow {p q : Nat → Bool} (h : ∀ x, p x = true → q x = true) {j : Nat} (hp : p j = false) (hq : q j = true) : ∀ l : List Nat, j ∈ l → (l.filter p).length < (l.filter q).length
  | x :: l, hj => by
    have hle := ox h l
    rw [List.filter_cons, List.filter_cons]
    by_cases e : x = j
    · rw [e, if_neg (by rw [hp]; decide), if_pos hq, List.length_cons]; omega
    · have hj' : j ∈ l := by
        rcases Q22 hj with hj | hj
        · exact absurd hj.symm e
        · exact hj
      have := ow h hp hq l hj'
      by_cases hp' : p x = true
      · rw [if_pos hp', if_pos (h x hp'), List.length_cons, List.length_cons]; omega
      · rw [if_neg hp']; split
        · rw [List.length_cons]; omega
        · exact this
theorem lf_lt {n j : Nat} {seen : List Nat} (hj : j < n) (hs : ¬ j ∈ seen) : lf n (seen ++ [j]) < lf n seen := by
  refine ow (j := j) (fun x hx => ?_) ?_ ?_ _ (List.mem_range.2 hj)
  · simp at hx ⊢; exact hx.1
  · simp
  · simpa using hs
end Hist
open Hist
theorem k9 : ∀ n : Nat, n ≤ 8 → IntKind.i64.wrap (1 * 2 ^ min (n : Int).toNat IntKind.i64.bits) - 1 = ((2 ^ n - 1 : Nat) : Int) ∧ popc (2 ^ n - 1) ≤ n ∧ 2 ^ n - 1 < 256 := by decide +kernel
theorem grp_mem {ps : List Pol} {l : List HD} {k : ByteArray} {d : HD} (h : d ∈ grp ps l k) : d ∈ l := (List.mem_filter.1 h).1
theorem hk_end {ps : List Pol} {calls : List HD} {b r nx : Nat} {seen : List Nat} {fr : List (Nat × SV)} {hp : List (Nat × Option Blk)} (hfr : l6 id 100000000000000000005 fr [(0, .d (ao 4 Pol.D ps)), (21, itV r)]) (h0 : lkh hp 100000000000000000004 = some (itB r b (ids ps calls).length seen)) (h1 : lkh hp 1 = some (ckD ps calls b)) :
    Le ⟨⟨Try.f8.ntmps, 0⟩, nx, fr, hp⟩ ⟨⟨Try.f8.ntmps, 0⟩, 100000000000000000005, [(0, .d (ao 4 Pol.D ps)), (21, itV r)], [(100000000000000000004, some (itB r b (ids ps calls).length seen)), (1, some (ckD ps calls b))]⟩ := by
  refine Le.pi id rfl hfr.out (fun l b' h => ?_) fun l l' _ _ _ _ e => e
  by_cases e0 : 100000000000000000004 = l
  · subst e0
    obtain rfl := Option.some.inj (show some _ = some b' from h)
    exact ⟨by omega, _, h0, bS.obj (Nat.zero_le _) fun j hj => absurd hj (Nat.not_lt_zero j)⟩
  by_cases e1 : 1 = l
  · subst e1
    obtain rfl := Option.some.inj (show some _ = some b' from h)
    exact ⟨by omega, _, h1, bS.obj (Nat.zero_le _) fun j hj => ⟨.d _, aD.free rfl⟩⟩
  simp only [af, if_neg e0, if_neg e1] at h
  cases h
theorem dl {ps : List Pol} {calls : List HD} (hk : ∀ d ∈ calls, IsB d.key) (hl : calls.length ≤ 1048576) :
    Pure TC 8 [.d (ao 4 Pol.D ps), .d (ao 13 HD.D calls)] (.tup [.b (eT ps calls), .i .i64 (bu ps calls.length calls)]) := by
  refine Pure.mk' Try.func8 rfl rfl (zzb rfl) ?_
  (repeat' (first
    | with_reducible refine Wp.seq ?_
    | with_reducible refine Wp.block ?_
    | ((with_reducible first | refine Wp.region ?_ | refine Wp.drawL ac ?_ | refine Wp.cond ?_ | refine Wp.ret ?_ | refine Wp.skip ?_ | refine Wp.exit ?_ | refine Go.mk ?_ | apply ay.of); conv => whnf)
    | with_reducible exact rfl
    | ((with_reducible refine Ov.ok zO ?_); conv => whnf)
    | (with_reducible refine Ov.sh1 (by with_unfolding_all exact rfl) ?_)
    | ((with_reducible refine Ov.quo (by omega) (by omega) (by omega) (fun _ _ => ?_)); conv => whnf)
    | ((with_reducible refine And.intro (show aj _ _ _ _ = true by kernel_rfl) ?_); conv => whnf)
    | ((with_reducible refine And.intro zC ?_); conv => whnf)
    | ((with_reducible refine And.intro ?hb ?_); (case hb => exact ae (zzb rfl) (by omega)); (conv => whnf))
    | ((refine ag.a rfl rfl rfl rfl rfl rfl ?hb ?_); (case hb => exact zB); (conv => whnf))
    | ((refine ag.b rfl rfl rfl rfl rfl rfl rfl rfl ?hb ?ho ?_); (case hb => exact zB); (case ho => omega); (conv => whnf))
    | ((refine ag.c rfl rfl rfl rfl rfl ?hb ?_); (case hb => exact zB); (conv => whnf))
    | ((refine ag.d rfl rfl rfl rfl rfl rfl ?hb ?ho ?_); (case hb => exact zB); (case ho => omega); (conv => whnf))
    | (with_reducible refine Or.inl ?_)
    | ((with_reducible refine nil_no (by omega) ?_); (conv => whnf))
    | ((with_reducible refine ah ?_ (fun hn0 => ?_)) <;> (conv => whnf))
    | ((refine kh hk hl (fun b => ?_)); conv => whnf)
    | ((refine aQ.range (l := 1) u53 rfl rfl (fun r => ?_)); conv => whnf)
    | ((refine az (fun hc => ?_) (fun hc => ?_)) <;> (try simp only [decide_eq_true_eq, decide_eq_false_iff_not, Q5, Q20, Bool.and_eq_false_iff, Bool.or_eq_false_iff, Bool.not_eq_true', Bool.not_eq_false', beq_iff_eq, bne_iff_ne, ne_eq, beq_eq_false_iff_ne, bne_eq_false_iff_eq, Bool.not_eq_true, Bool.not_eq_false] at hc) <;> (try (exfalso; omega)) <;> (conv => whnf))))
  · unfold eT; rw [decide_eq_false hc]; exact .rfl _
  obtain ⟨hp, h4096, hord, h8⟩ := oA hc
  have hF : ∀ j : Nat, Pure TC 17 [sesS ps (grp ps calls ((ids ps calls).getD j default)) (spI (grp ps calls ((ids ps calls).getD j default))), .i .i64 (IntKind.i64.wrap (1 * 2 ^ min ((grp ps calls ((ids ps calls).getD j default)).length : Int).toNat IntKind.i64.bits) - 1), .d (.val (.slice none 0 0))] (.b (allB ps (grp ps calls ((ids ps calls).getD j default)))) := fun j => by
    have h9 := h8 ((ids ps calls).getD j default)
    obtain ⟨g1, g2, g3⟩ := k9 _ h9
    exact (hU hp _ (spI (grp ps calls ((ids ps calls).getD j default))) h9 (fun e he => hk e (grp_mem he)) _ _ [] g3 g2 (by rw [List.length_nil]; omega) (fun e he => by cases he)).leX (.cons (.rfl _) (.cons (.i g1) (.cons .nil .nil)))
  have hS : ∀ j : Nat, Pure TC 16 [.d (ao 13 HD.D (grp ps calls ((ids ps calls).getD j default)))] (.i .i64 (spI (grp ps calls ((ids ps calls).getD j default)))) := fun j => jZ _ (Nat.le_trans (ou _ _ _) h4096)
  have hO : ∀ j : Nat, IntKind.i64.wrap (1 * 2 ^ min ((grp ps calls ((ids ps calls).getD j default)).length : Int).toNat IntKind.i64.bits) - 1 = ((2 ^ (grp ps calls ((ids ps calls).getD j default)).length - 1 : Nat) : Int) ∧ 2 ^ (grp ps calls ((ids ps calls).getD j default)).length - 1 < 256 := fun j => ⟨(k9 _ (h8 _)).1, (k9 _ (h8 _)).2.2⟩
  refine Wp.loopP (ι := List Nat) (fun seen => ∀ j ∈ seen, j < (ids ps calls).length ∧ allB ps (grp ps calls ((ids ps calls).getD j default)) = true)
    (fun seen => ⟨⟨Try.f8.ntmps, 0⟩, 100000000000000000005, [(0, .d (ao 4 Pol.D ps)), (21, itV r)], [(100000000000000000004, some (itB r b (ids ps calls).length seen)), (1, some (ckD ps calls b))]⟩) (fun seen => lf (ids ps calls).length seen) [] (fun j hj => by cases hj) ?_ ?_
  · refine Le.keep (Q4 _) (by ((conv => whnf); repeat' (first | exact trivial | exact SV.Le.rfl _ | ((with_reducible refine And.intro ?_ ?_) <;> (conv => whnf))))) fun l bb hb => ?_
    by_cases e0 : 100000000000000000004 = l
    · subst e0; exact hb
    by_cases e1 : 1 = l
    · subst e1; exact hb
    simp only [af, if_neg e0, if_neg e1] at hb
    cases hb
  · intro seen hseen
    (repeat' (first
    | with_reducible refine Wp.seq ?_
    | with_reducible refine Wp.block ?_
    | ((with_reducible first | refine Wp.region ?_ | refine Wp.drawL ac ?_ | refine Wp.cond ?_ | refine Wp.ret ?_ | refine Wp.skip ?_ | refine Wp.exit ?_ | refine Go.mk ?_ | apply ay.of); conv => whnf)
    | with_reducible exact rfl
    | ((with_reducible refine Ov.ok zO ?_); conv => whnf)
    | (with_reducible refine Ov.sh1 (by with_unfolding_all exact rfl) ?_)
    | ((with_reducible refine Ov.quo (by omega) (by omega) (by omega) (fun _ _ => ?_)); conv => whnf)
    | ((with_reducible refine And.intro (show aj _ _ _ _ = true by kernel_rfl) ?_); conv => whnf)
    | ((with_reducible refine And.intro zC ?_); conv => whnf)
    | ((with_reducible refine And.intro ?hb ?_); (case hb => exact ae (zzb rfl) (by omega)); (conv => whnf))
    | ((refine ag.a rfl rfl rfl rfl rfl rfl ?hb ?_); (case hb => exact zB); (conv => whnf))
    | ((refine ag.b rfl rfl rfl rfl rfl rfl rfl rfl ?hb ?ho ?_); (case hb => exact zB); (case ho => omega); (conv => whnf))
    | ((refine ag.c rfl rfl rfl rfl rfl ?hb ?_); (case hb => exact zB); (conv => whnf))
    | ((refine ag.d rfl rfl rfl rfl rfl rfl ?hb ?ho ?_); (case hb => exact zB); (case ho => omega); (conv => whnf))
    | (with_reducible refine Or.inl ?_)
    | ((with_reducible refine nil_no (by omega) ?_); (conv => whnf))
    | ((with_reducible refine ah ?_ (fun hn0 => ?_)) <;> (conv => whnf))
    | ((refine aQ.next (li := 100000000000000000004) (lm := 1) rfl rfl rfl rfl (by decide) (fun j hj hjs => ?_) (fun hall => ?_)) <;> (conv => whnf))
    | ((refine aQ.entry (li := 100000000000000000004) (lm := 1) rfl rfl rfl rfl (by assumption) ?_); conv => whnf)
    | ((with_reducible refine aa.pure (hS _) rfl rfl ?_); conv => whnf) | ((with_reducible refine ai.pure (hS _) rfl rfl ?_); conv => whnf)
    | ((with_reducible refine aa.pure (hF _) rfl rfl ?_); conv => whnf) | ((with_reducible refine ai.pure (hF _) rfl rfl ?_); conv => whnf)
    | ((with_reducible refine Ov.ok (IntWalk.i64_in _ (by have := hO j; omega)) ?_); (conv => whnf))
    | ((refine az (fun hc => ?_) (fun hc => ?_)) <;> (try simp only [decide_eq_true_eq, decide_eq_false_iff_not, Q5, Q20, Bool.and_eq_false_iff, Bool.or_eq_false_iff, Bool.not_eq_true', Bool.not_eq_false', beq_iff_eq, bne_iff_ne, ne_eq, beq_eq_false_iff_ne, bne_eq_false_iff_eq, Bool.not_eq_true, Bool.not_eq_false] at hc) <;> (try (exfalso; omega)) <;> (conv => whnf))))
    · have hf : eT ps calls = false := by
        unfold eT
        rw [Bool.and_eq_false_iff]
        right
        rw [List.all_eq_false]
        refine ⟨_, ?_, by rw [‹allB ps (grp ps calls ((ids ps calls).getD _ default)) = false›]; decide⟩
        rw [Q1, Q0 ‹_ < (ids ps calls).length›]
        exact Q14 _
      rw [hf, ‹bu ps calls.length calls = 0›]; exact .rfl _
    · refine ⟨seen ++ [_], fun q hq => ?_, lf_lt ‹_› ‹_›, hk_end (by ((conv => whnf); repeat' (first | exact trivial | exact aD.free rfl | ((with_reducible refine And.intro ?_ ?_) <;> (conv => whnf))))) rfl rfl⟩
      rcases List.mem_append.1 hq with hq | hq
      · exact hseen q hq
      · rw [List.mem_singleton.1 hq]
        exact ⟨‹_›, ‹_›⟩
    · have hf : eT ps calls = true := by
        unfold eT
        rw [Q5, Q23]
        refine ⟨decide_eq_true ‹_›, fun k hk => ?_⟩
        obtain ⟨j, hj, e⟩ := oj hk
        rw [← e]
        exact (hseen j (hall j hj)).2
      rw [hf, ‹bu ps calls.length calls = 0›]; exact .rfl _
end
namespace Hist
structure Sm (d e : HD) : Prop where
  who : e.who = d.who
  op : e.op = d.op
  pol : e.pol = d.pol
  key : e.key = d.key
  n : e.n = d.n
  r : e.r = d.r
inductive bh (P : HD → HD → Prop) : List HD → List HD → Prop
  | nil : bh P [] []
  | cons {d e : HD} {l w : List HD} (h : P d e) (t : bh P l w) : bh P (d :: l) (e :: w)
theorem bh.len {P : HD → HD → Prop} {l w : List HD} (h : bh P l w) : w.length = l.length := by
  induction h with
  | nil => rfl
  | cons _ _ ih => rw [List.length_cons, List.length_cons, ih]
theorem bh.mono {P Q : HD → HD → Prop} (hPQ : ∀ d e, P d e → Q d e) {l w : List HD} (h : bh P l w) : bh Q l w := by
  induction h with
  | nil => exact .nil
  | cons h _ ih => exact .cons (hPQ _ _ h) ih
theorem bh.flip {P : HD → HD → Prop} {l w : List HD} (h : bh P l w) : bh (fun d e => P e d) w l := by
  induction h with
  | nil => exact .nil
  | cons h _ ih => exact .cons h ih
theorem bh.app {P : HD → HD → Prop} {l w l' w' : List HD} (h : bh P l w) (h' : bh P l' w') : bh P (l ++ l') (w ++ w') := by
  induction h with
  | nil => exact h'
  | cons h _ ih => exact .cons h ih
theorem bh.at_ {P : HD → HD → Prop} {l w : List HD} (h : bh P l w) : ∀ i, i < l.length → P (l.getD i default) (w.getD i default) := by
  induction h with
  | nil => intro i hi; exact absurd hi (Nat.not_lt_zero i)
  | cons h _ ih =>
    intro i hi
    cases i with
    | zero => exact h
    | succ i => exact ih i (by rw [List.length_cons] at hi; omega)
theorem Sm.bad {d e : HD} (h : Sm d e) (ps : List Pol) : eQ ps e = eQ ps d := by unfold eQ; rw [h.op, h.pol, h.key, h.n]
theorem Sm.cnt {d e : HD} (h : Sm d e) : cntB e = cntB d := by unfold cntB; rw [h.op, h.r]
theorem Sm.inc {d e : HD} (h : Sm d e) (ps : List Pol) : bX ps e = bX ps d := by unfold bX; rw [h.bad, h.cnt, h.pol, h.key]
theorem Sm.kb {d e : HD} (h : Sm d e) : kb e = kb d := by unfold Hist.kb; rw [h.pol, h.key]
theorem bh.ids {l w : List HD} (h : bh Sm l w) (ps : List Pol) : ids ps w = ids ps l := by
  unfold Hist.ids
  have : ∀ ks, iO ps ks w = iO ps ks l := by
    induction h with
    | nil => intro ks; rfl
    | cons h _ ih => intro ks; unfold iO; rw [ih, h.inc ps, h.kb]
  exact this []
theorem bh.grp {P : HD → HD → Prop} (hP : ∀ d e, P d e → Sm d e) {l w : List HD} (h : bh P l w) (ps : List Pol) (k : ByteArray) : bh P (grp ps l k) (grp ps w k) := by
  unfold Hist.grp
  induction h with
  | nil => exact .nil
  | cons h _ ih =>
    have h' := hP _ _ h
    rw [List.filter_cons, List.filter_cons, h'.inc ps, h'.kb]
    split
    · exact .cons h ih
    · exact ih
theorem bh.used {l w : List HD} (h : bh Sm l w) (n : Int) : bI w n = bI l n := by
  unfold bI
  induction h with
  | nil => rfl
  | cons h _ ih => rw [List.any_cons, List.any_cons, ih, h.r, h.n]
theorem bh.maps {α : Type} {f : HD → α} (hf : ∀ d e, Sm d e → f e = f d) {l w : List HD} (h : bh Sm l w) : w.map f = l.map f := by
  induction h with
  | nil => rfl
  | cons h _ ih => rw [List.map_cons, List.map_cons, ih, hf _ _ h]
theorem bh.mu {l w : List HD} (h : bh Sm l w) (n : Int) : mu w n = mu l n := by
  unfold Hist.mu
  rw [h.maps (f := fun d => d.r.serial) (fun d e h => by rw [h.r]), h.maps (f := fun d => d.n) (fun d e h => h.n)]
theorem bh.spF {l w : List HD} (h : bh Sm l w) : ∀ (f : Nat) (n : Int), spF w f n = spF l f n
  | 0, _ => rfl
  | f + 1, n => by unfold Hist.spF; rw [h.used, h.spF f]
theorem bh.spI {l w : List HD} (h : bh Sm l w) : spI w = spI l := by unfold Hist.spI; rw [h.mu, h.spF]
theorem Sm.doH {d e : HD} (h : Sm d e) (ps : List Pol) (spare : Int) (xs : List Cel) : doH ps spare xs e = doH ps spare xs d := by
  unfold Hist.doH ser
  rw [h.op, h.pol, h.key, h.n, h.r]
theorem bh.play {l w : List HD} (h : bh Sm l w) (ps : List Pol) (spare : Int) : play ps spare w = play ps spare l := by
  unfold Hist.play
  have : ∀ xs, w.foldl (fun xs d => (Hist.doH ps spare xs d).2) xs = l.foldl (fun xs d => (Hist.doH ps spare xs d).2) xs := by
    induction h with
    | nil => intro xs; rfl
    | cons h _ ih => intro xs; rw [List.foldl_cons, List.foldl_cons, h.doH, ih]
  exact this []
theorem bh.rpl {done done' : List HD} (h : bh Sm done done') {d e : HD} (hd : Sm d e) (ps : List Pol) (spare : Int) : oc ps spare done' e = oc ps spare done d := by
  unfold oc
  rw [h.play, hd.doH, hd.r]
theorem bh.try_ {P : HD → HD → Prop} (hP : ∀ d e, P d e → Sm d e) (hT : ∀ d d' e e', P d d' → P e e' → d'.last < e'.first → d.last < e.first) {l w : List HD} (h : bh P l w) {done done' : List HD} (hd : bh Sm done done') {ps : List Pol} {spare : Int} {left i : Nat} (hi : i < l.length) (ht : kn ps l spare left done i = true) : kn ps w spare left done' i = true := by
  unfold kn at ht ⊢
  rw [Q5, Q5, Q23] at ht ⊢
  obtain ⟨⟨h1, h2⟩, h3⟩ := ht
  refine ⟨⟨h1, fun j hj => ?_⟩, by rw [hd.rpl (hP _ _ (h.at_ i hi))]; exact h3⟩
  rw [h.len] at hj
  have h4 := h2 j hj
  rw [Bool.not_eq_true', Bool.and_eq_false_iff] at h4 ⊢
  rcases h4 with h4 | h4
  · exact .inl h4
  · right
    rw [decide_eq_false_iff_not] at h4 ⊢
    exact fun h5 => h4 (hT _ _ _ _ (h.at_ j (List.mem_range.1 hj)) (h.at_ i hi) h5)
theorem bh.srch {P : HD → HD → Prop} (hP : ∀ d e, P d e → Sm d e) (hT : ∀ d d' e e', P d d' → P e e' → d'.last < e'.first → d.last < e.first) {l w : List HD} (h : bh P l w) {ps : List Pol} {spare : Int} : ∀ (f left : Nat) {done done' : List HD}, bh Sm done done' → srch ps l spare f left done = true → srch ps w spare f left done' = true
  | 0, left, _, _, _, hs => hs
  | f + 1, left, done, done', hd, hs => by
    unfold Hist.srch at hs ⊢
    rw [Q20] at hs ⊢
    rcases hs with hs | hs
    · exact .inl hs
    · right
      rw [List.any_eq_true] at hs ⊢
      obtain ⟨i, hi, hs⟩ := hs
      rw [Q5] at hs
      refine ⟨i, by rw [h.len]; exact hi, ?_⟩
      rw [Q5]
      have hi' := List.mem_range.1 hi
      exact ⟨h.try_ hP hT hd hi' hs.1, h.srch hP hT f _ (hd.app (.cons (hP _ _ (h.at_ i hi')) .nil)) hs.2⟩
theorem bh.all_ {P : HD → HD → Prop} (hP : ∀ d e, P d e → Sm d e) (hT : ∀ d d' e e', P d d' → P e e' → d'.last < e'.first → d.last < e.first) {l w : List HD} (h : bh P l w) {ps : List Pol} (ha : allB ps l = true) : allB ps w = true := by
  unfold allB at ha ⊢
  rw [(h.mono hP).spI, h.len]
  exact h.srch hP hT _ _ .nil ha
theorem bh.step {P : HD → HD → Prop} (hP : ∀ d e, P d e → Sm d e) {l w : List HD} (h : bh P l w) {d e : HD} (hd : P d e) {ps : List Pol} {v : Int} (ht : e.last < e.first ↔ d.last < d.first) : bE ps v w e = bE ps v l d := by
  have hS := hP _ _ hd
  have hg := ((h.app (.cons hd .nil)).grp hP ps (kb d)).len
  unfold bE
  rw [hS.bad, hS.inc, hS.kb, hg]
  by_cases h1 : d.last < d.first
  · rw [if_pos h1, if_pos (ht.2 h1)]
  · rw [if_neg h1, if_neg (fun h2 => h1 (ht.1 h2))]
theorem bh.err {P : HD → HD → Prop} (hP : ∀ d e, P d e → Sm d e) (ht : ∀ d e, P d e → (e.last < e.first ↔ d.last < d.first)) {ps : List Pol} {l w : List HD} (h : bh P l w) : ∀ {pre pre' : List HD} {v : Int}, bh P pre pre' → jy ps v pre' w = jy ps v pre l := by
  induction h with
  | nil => intro _ _ _ _; rfl
  | cons h _ ih =>
    intro pre pre' v hp
    unfold jy
    rw [hp.step hP h (ht _ _ h)]
    exact ih (hp.app (.cons h .nil))
theorem bh.err0 {P : HD → HD → Prop} (hP : ∀ d e, P d e → Sm d e) (ht : ∀ d e, P d e → e.last < e.first → d.last < d.first) {ps : List Pol} {l w : List HD} (h : bh P l w) : ∀ {pre pre' : List HD} {v : Int}, bh P pre pre' → (∀ d ∈ l, ¬ d.last < d.first) → jy ps v pre' w = jy ps v pre l := by
  induction h with
  | nil => intro _ _ _ _ _; rfl
  | cons h _ ih =>
    intro pre pre' v hp hl
    unfold jy
    rw [hp.step hP h ⟨ht _ _ h, fun h9 => absurd h9 (hl _ (List.mem_cons_self ..))⟩]
    exact ih (hp.app (.cons h .nil)) fun d hd => hl d (List.mem_cons_of_mem _ hd)
theorem his_err {ps : List Pol} {l : List HD} (h : eT ps l = true) : bu ps l.length l = 0 := by
  unfold eT at h
  rw [Q5] at h
  exact of_decide_eq_true h.1
theorem lh {P : HD → HD → Prop} (hP : ∀ d e, P d e → Sm d e) (hT : ∀ d d' e e', P d d' → P e e' → d'.last < e'.first → d.last < e.first) {ps : List Pol} {l w : List HD} (h : bh P l w) (hs : eT ps l = true) : eT ps w = true ∧ bu ps w.length w = 0 := by
  have he := his_err hs
  obtain ⟨_, _, ho, _⟩ := oA he
  have hw : bu ps w.length w = 0 := by
    unfold bu
    rw [h.len, h.err0 hP (fun d e hd h9 => hT _ _ _ _ hd hd h9) .nil fun d hd => (ho d hd).1]
    exact he
  refine ⟨?_, hw⟩
  unfold eT at hs ⊢
  rw [Q5, Q23] at hs ⊢
  refine ⟨decide_eq_true hw, fun k hk => ?_⟩
  rw [(h.mono hP).ids] at hk
  exact (h.grp hP ps k).all_ hP hT (hs.2 k hk)
theorem his_eq {P : HD → HD → Prop} (hP : ∀ d e, P d e → Sm d e) (hT : ∀ d d' e e', P d d' → P e e' → (d'.last < e'.first ↔ d.last < e.first)) {ps : List Pol} {l w : List HD} (h : bh P l w) : eT ps w = eT ps l ∧ bu ps w.length w = bu ps l.length l := by
  have he : bu ps w.length w = bu ps l.length l := by
    unfold bu
    rw [h.len, h.err hP (fun d e hd => hT _ _ _ _ hd hd) .nil]
  refine ⟨?_, he⟩
  cases hl : eT ps l with
  | true => exact (lh hP (fun d d' e e' h1 h2 => (hT d d' e e' h1 h2).1) h hl).1
  | false =>
    cases hw : eT ps w with
    | false => rfl
    | true =>
      have := (lh (P := fun d e => P e d) (fun d e hd => by have := hP _ _ hd; exact ⟨this.who.symm, this.op.symm, this.pol.symm, this.key.symm, this.n.symm, this.r.symm⟩) (fun d d' e e' h1 h2 => (hT d' d e' e h1 h2).2) h.flip hw).1
      rw [hl] at this; cases this
end Hist
section
open Hist
def jS : List Pol := [⟨1, 10, 20, 0⟩, ⟨2, 0, 0, 2⟩]
theorem eA : Pure TC 9 [] (.d (ao 4 Pol.D jS)) := by
  refine Pure.mk' Try.func9 rfl rfl (zzb rfl) ?_
  (repeat' (first
    | with_reducible refine Wp.seq ?_
    | with_reducible refine Wp.block ?_
    | ((with_reducible first | refine Wp.region ?_ | refine Wp.drawL ac ?_ | refine Wp.cond ?_ | refine Wp.ret ?_ | refine Wp.skip ?_ | refine Wp.exit ?_ | refine Go.mk ?_ | apply ay.of); conv => whnf)
    | with_reducible exact rfl
    | ((with_reducible refine Ov.ok zO ?_); conv => whnf)
    | (with_reducible refine Ov.sh1 (by with_unfolding_all exact rfl) ?_)
    | ((with_reducible refine Ov.quo (by omega) (by omega) (by omega) (fun _ _ => ?_)); conv => whnf)
    | ((with_reducible refine And.intro (show aj _ _ _ _ = true by kernel_rfl) ?_); conv => whnf)
    | ((with_reducible refine And.intro zC ?_); conv => whnf)
    | ((with_reducible refine And.intro ?hb ?_); (case hb => exact ae (zzb rfl) (by omega)); (conv => whnf))
    | ((refine ag.a rfl rfl rfl rfl rfl rfl ?hb ?_); (case hb => exact zB); (conv => whnf))
    | ((refine ag.b rfl rfl rfl rfl rfl rfl rfl rfl ?hb ?ho ?_); (case hb => exact zB); (case ho => omega); (conv => whnf))
    | ((refine ag.c rfl rfl rfl rfl rfl ?hb ?_); (case hb => exact zB); (conv => whnf))
    | ((refine ag.d rfl rfl rfl rfl rfl rfl ?hb ?ho ?_); (case hb => exact zB); (case ho => omega); (conv => whnf))
    | (with_reducible refine Or.inl ?_)
    | ((with_reducible refine nil_no (by omega) ?_); (conv => whnf))
    | ((with_reducible refine ah ?_ (fun hn0 => ?_)) <;> (conv => whnf))
    
    | ((refine az (fun hc => ?_) (fun hc => ?_)) <;> (try simp only [decide_eq_true_eq, decide_eq_false_iff_not, Q5, Q20, Bool.and_eq_false_iff, Bool.or_eq_false_iff, Bool.not_eq_true', Bool.not_eq_false', beq_iff_eq, bne_iff_ne, ne_eq, beq_eq_false_iff_ne, bne_eq_false_iff_eq, Bool.not_eq_true, Bool.not_eq_false] at hc) <;> (try (exfalso; omega)) <;> (conv => whnf))))
  exact SV.Le.sl fun i hi => by
    have hi2 : i < 2 := hi
    have : i = 0 ∨ i = 1 := by omega
    rcases this with rfl | rfl <;> rfl
theorem nh (a : List Int) (hl : a.length ≤ 140737488355328) : Pure TC 10 [.d (ao 1 (aW .u8) a)] (.d (ao 1 (aW .u8) a)) := by
  refine Pure.mk' Try.func10 rfl rfl (zzb rfl) ?_
  (repeat' (first
    | with_reducible refine Wp.seq ?_
    | with_reducible refine Wp.block ?_
    | ((with_reducible first | refine Wp.region ?_ | refine Wp.drawL ac ?_ | refine Wp.cond ?_ | refine Wp.ret ?_ | refine Wp.skip ?_ | refine Wp.exit ?_ | refine Go.mk ?_ | apply ay.of); conv => whnf)
    | with_reducible exact rfl
    | ((with_reducible refine Ov.ok zO ?_); conv => whnf)
    | (with_reducible refine Ov.sh1 (by with_unfolding_all exact rfl) ?_)
    | ((with_reducible refine Ov.quo (by omega) (by omega) (by omega) (fun _ _ => ?_)); conv => whnf)
    | ((with_reducible refine And.intro (show aj _ _ _ _ = true by kernel_rfl) ?_); conv => whnf)
    | ((with_reducible refine And.intro zC ?_); conv => whnf)
    | ((with_reducible refine And.intro ?hb ?_); (case hb => exact ae (zzb rfl) (by omega)); (conv => whnf))
    | ((refine ag.a rfl rfl rfl rfl rfl rfl ?hb ?_); (case hb => exact zB); (conv => whnf))
    | ((refine ag.b rfl rfl rfl rfl rfl rfl rfl rfl ?hb ?ho ?_); (case hb => exact zB); (case ho => omega); (conv => whnf))
    | ((refine ag.c rfl rfl rfl rfl rfl ?hb ?_); (case hb => exact zB); (conv => whnf))
    | ((refine ag.d rfl rfl rfl rfl rfl rfl ?hb ?ho ?_); (case hb => exact zB); (case ho => omega); (conv => whnf))
    | (with_reducible refine Or.inl ?_)
    | ((with_reducible refine nil_no (by omega) ?_); (conv => whnf))
    | ((with_reducible refine ah ?_ (fun hn0 => ?_)) <;> (conv => whnf))
    | ((with_reducible refine And.intro ?hb ?_); (case hb => (show (0 + a.length) * 1 ≤ 140737488355328; omega)); (conv => whnf))
    | ((refine az (fun hc => ?_) (fun hc => ?_)) <;> (try simp only [decide_eq_true_eq, decide_eq_false_iff_not, Q5, Q20, Bool.and_eq_false_iff, Bool.or_eq_false_iff, Bool.not_eq_true', Bool.not_eq_false', beq_iff_eq, bne_iff_ne, ne_eq, beq_eq_false_iff_ne, bne_eq_false_iff_eq, Bool.not_eq_true, Bool.not_eq_false] at hc) <;> (try (exfalso; omega)) <;> (conv => whnf))))
  refine ff (Q19 _) fun i hi => ?_
  unfold cC
  rw [if_neg (by omega)]
  show aW .u8 (a.getD (0 + i - 0) default) = _
  rw [Q19, Nat.sub_zero]
namespace Hist
def awA : HD := ⟨0, 2, 1, [107], 0, 1, 2, ⟨0, true, 1, 0, 5, 0⟩⟩
def awB : HD := ⟨0, 3, 1, [107], 5, 3, 4, ⟨0, true, 2, 0, 0, 0⟩⟩
def awB0 : HD := ⟨0, 3, 1, [107], 5, 0, 0, ⟨0, true, 2, 0, 0, 0⟩⟩
theorem aw_1 : eT jS [awB, awA] = true ∧ bu jS 2 [awB, awA] = 0 := by decide +kernel
theorem aw_2 : eT jS [awA, awB0] = false ∧ bu jS 2 [awA, awB0] = 0 := by decide +kernel
end Hist
theorem aw_c1 : Pure TC 8 [.d (ao 4 Pol.D jS), .d (ao 13 HD.D [awB, awA])] (.tup [.b true, .i .i64 0]) := by
  have h := dl (ps := jS) (calls := [awB, awA]) (by unfold IsB; decide) (by decide)
  rw [aw_1.1, show bu jS [awB, awA].length [awB, awA] = 0 from aw_1.2] at h
  exact h
theorem aw_c2 : Pure TC 8 [.d (ao 4 Pol.D jS), .d (ao 13 HD.D [awA, awB0])] (.tup [.b false, .i .i64 0]) := by
  have h := dl (ps := jS) (calls := [awA, awB0]) (by unfold IsB; decide) (by decide)
  rw [aw_2.1, show bu jS [awA, awB0].length [awA, awB0] = 0 from aw_2.2] at h
  exact h
@[reducible] def awK : D := .sl 1 1 fun i => cn [.val (.int .u8 107)] 1 (0 + i)
@[reducible] def awD (op n first last left ser : Int) : List D := [.val (.int .i64 0), .val (.int .u8 op), .val (.int .i64 1), awK, .val (.int .i64 n), .val (.int .i64 first), .val (.int .i64 last), .val (.int .i64 0), .val (.bool true), .val (.int .i64 left), .val (.int .i64 0), .val (.int .i64 ser), .val (.int .i64 0)]
theorem nU (op n first last left ser : Int) : kj (awD op n first last left ser) (HD.D ⟨0, op, 1, [107], n, first, last, ⟨0, true, left, 0, ser, 0⟩⟩) := by
  have hk : TLe awK (ao 1 (aW .u8) [107]) := TLe.sl fun i hi => by
    obtain rfl : i = 0 := by omega
    exact .cons (.rfl _) .nil
  exact .cons (.rfl _) (.cons (.rfl _) (.cons (.rfl _) (.cons hk (.cons (.rfl _) (.cons (.rfl _) (.cons (.rfl _) (.cons (.rfl _) (.cons (.rfl _) (.cons (.rfl _) (.cons (.rfl _) (.cons (.rfl _) (.cons (.rfl _) .nil))))))))))))
theorem lP : Pure TC 6 [] (.b true) := by
  refine Pure.mk' Try.func6 rfl rfl (zzb rfl) ?_
  have h1 : Pure TC 8 [.d (ao 4 Pol.D jS), .d (.sl 13 2 (cn (awD 3 5 3 4 2 0 ++ awD 2 0 1 2 1 5) 13))] (.tup [.b true, .i .i64 0]) := aw_c1.leX (.cons (.rfl _) (.cons (TLe.sv (TLe.sl fun i hi => by
    have : i = 0 ∨ i = 1 := by omega
    rcases this with rfl | rfl
    · exact nU 3 5 3 4 2 0
    · exact nU 2 0 1 2 1 5)) .nil))
  have h2 : Pure TC 8 [.d (ao 4 Pol.D jS), .d (.sl 13 2 (cn (awD 2 0 1 2 1 5 ++ awD 3 5 0 0 2 0) 13))] (.tup [.b false, .i .i64 0]) := aw_c2.leX (.cons (.rfl _) (.cons (TLe.sv (TLe.sl fun i hi => by
    have : i = 0 ∨ i = 1 := by omega
    rcases this with rfl | rfl
    · exact nU 2 0 1 2 1 5
    · exact nU 3 5 0 0 2 0)) .nil))
  (repeat' (first
    | ((with_reducible refine Or.inr (And.intro rfl ?_)); conv => whnf)
    | ((refine ai.pure h1 rfl rfl ?_); conv => whnf)
    | ((refine ai.pure h2 rfl rfl ?_); conv => whnf)
    | with_reducible refine Wp.seq ?_
    | with_reducible refine Wp.block ?_
    | ((with_reducible first | refine Wp.region ?_ | refine Wp.drawL ac ?_ | refine Wp.cond ?_ | refine Wp.ret ?_ | refine Wp.skip ?_ | refine Wp.exit ?_ | refine Go.mk ?_ | apply ay.of); conv => whnf)
    | with_reducible exact rfl
    | ((with_reducible refine Ov.ok zO ?_); conv => whnf)
    | (with_reducible refine Ov.sh1 (by with_unfolding_all exact rfl) ?_)
    | ((with_reducible refine Ov.quo (by omega) (by omega) (by omega) (fun _ _ => ?_)); conv => whnf)
    | ((with_reducible refine And.intro (show aj _ _ _ _ = true by kernel_rfl) ?_); conv => whnf)
    | ((with_reducible refine And.intro zC ?_); conv => whnf)
    | ((with_reducible refine And.intro ?hb ?_); (case hb => exact ae (zzb rfl) (by omega)); (conv => whnf))
    | ((refine ag.a rfl rfl rfl rfl rfl rfl ?hb ?_); (case hb => exact zB); (conv => whnf))
    | ((refine ag.b rfl rfl rfl rfl rfl rfl rfl rfl ?hb ?ho ?_); (case hb => exact zB); (case ho => omega); (conv => whnf))
    | ((refine ag.c rfl rfl rfl rfl rfl ?hb ?_); (case hb => exact zB); (conv => whnf))
    | ((refine ag.d rfl rfl rfl rfl rfl rfl ?hb ?ho ?_); (case hb => exact zB); (case ho => omega); (conv => whnf))
    | (with_reducible refine Or.inl ?_)
    | ((with_reducible refine nil_no (by omega) ?_); (conv => whnf))
    | ((with_reducible refine ah ?_ (fun hn0 => ?_)) <;> (conv => whnf))
    | ((with_reducible refine aa.pure (eA) rfl rfl ?_); conv => whnf) | ((with_reducible refine ai.pure (eA) rfl rfl ?_); conv => whnf)
    | ((refine az (fun hc => ?_) (fun hc => ?_)) <;> (try simp only [decide_eq_true_eq, decide_eq_false_iff_not, Q5, Q20, Bool.and_eq_false_iff, Bool.or_eq_false_iff, Bool.not_eq_true', Bool.not_eq_false', beq_iff_eq, bne_iff_ne, ne_eq, beq_eq_false_iff_ne, bne_eq_false_iff_eq, Bool.not_eq_true, Bool.not_eq_false] at hc) <;> (try (exfalso; omega)) <;> (conv => whnf))))
  exact .b rfl
end
section
open Hist
theorem law_of {l : List HD} (hl : l.length ≤ 40) (hk : ∀ d ∈ l, d.key.length ≤ 1048576) : Pure TC 11 [.d (ao 13 HD.D l)] (.d (ao 13 HD.D l)) := by
  refine Pure.mk' Try.func11 rfl rfl (zzb rfl) ?_
  (repeat' (first
    | with_reducible refine Wp.seq ?_
    | with_reducible refine Wp.block ?_
    | ((with_reducible first | refine Wp.region ?_ | refine Wp.drawL ac ?_ | refine Wp.cond ?_ | refine Wp.ret ?_ | refine Wp.skip ?_ | refine Wp.exit ?_ | refine Go.mk ?_ | apply ay.of); conv => whnf)
    | with_reducible exact rfl
    | ((with_reducible refine Ov.ok zO ?_); conv => whnf)
    | (with_reducible refine Ov.sh1 (by with_unfolding_all exact rfl) ?_)
    | ((with_reducible refine Ov.quo (by omega) (by omega) (by omega) (fun _ _ => ?_)); conv => whnf)
    | ((with_reducible refine And.intro (show aj _ _ _ _ = true by kernel_rfl) ?_); conv => whnf)
    | ((with_reducible refine And.intro zC ?_); conv => whnf)
    | ((with_reducible refine And.intro ?hb ?_); (case hb => exact ae (zzb rfl) (by omega)); (conv => whnf))
    | ((refine ag.a rfl rfl rfl rfl rfl rfl ?hb ?_); (case hb => exact zB); (conv => whnf))
    | ((refine ag.b rfl rfl rfl rfl rfl rfl rfl rfl ?hb ?ho ?_); (case hb => exact zB); (case ho => omega); (conv => whnf))
    | ((refine ag.c rfl rfl rfl rfl rfl ?hb ?_); (case hb => exact zB); (conv => whnf))
    | ((refine ag.d rfl rfl rfl rfl rfl rfl ?hb ?ho ?_); (case hb => exact zB); (case ho => omega); (conv => whnf))
    | (with_reducible refine Or.inl ?_)
    | ((with_reducible refine nil_no (by omega) ?_); (conv => whnf))
    | ((with_reducible refine ah ?_ (fun hn0 => ?_)) <;> (conv => whnf))
    
    | ((refine az (fun hc => ?_) (fun hc => ?_)) <;> (try simp only [decide_eq_true_eq, decide_eq_false_iff_not, Q5, Q20, Bool.and_eq_false_iff, Bool.or_eq_false_iff, Bool.not_eq_true', Bool.not_eq_false', beq_iff_eq, bne_iff_ne, ne_eq, beq_eq_false_iff_ne, bne_eq_false_iff_eq, Bool.not_eq_true, Bool.not_eq_false] at hc) <;> (try (exfalso; omega)) <;> (conv => whnf))))
  refine Wp.le (Le.virt 3 39 13 (fun i => HD.D (([] : List HD).getD i default)) (by decide) rfl) ?_
  refine Wp.loopP (ι := Nat) (fun k => k ≤ l.length) (fun k => ⟨⟨Try.f11.ntmps, 0⟩, 1, [(0, .d (ao 13 HD.D l)), (3, .sl 0 13 0 (l.take k).length), (7, .d (ao 13 HD.D l)), (8, .i .i64 l.length), (9, .i .i64 k)], [(0, some (.row 39 13 (l.take k).length fun i => HD.D ((l.take k).getD i default)))]⟩) (fun k => l.length - k) 0 (Nat.zero_le _) ?_ ?_
  · (refine Le.by [0] rfl rfl rfl rfl ?_ ?_ <;> (conv => whnf) <;> (repeat' (first | exact trivial | exact ab.rfl rfl | exact ab.ptr rfl | exact ab.sl rfl | ((with_reducible refine ab.fn ?_); (conv => whnf)) | ((refine ab.iref ?_); (conv => whnf)) | exact ⟨rfl, rfl, rfl⟩ | exact fun i hi => rfl | ((with_reducible refine And.intro ?_ ?_) <;> (conv => whnf)))))
  · intro k hk0
    by_cases hi : k < l.length
    · have hm := eC hi
      have hTw := nh (l.getD (k : Int).toNat default).key (by have := hk _ hm; omega)
      have hlt : (l.take k).length = k := by rw [Q10]; omega
      have hta := iY hi
      (repeat' (first
    | with_reducible refine Wp.seq ?_
    | with_reducible refine Wp.block ?_
    | ((with_reducible first | refine Wp.region ?_ | refine Wp.drawL ac ?_ | refine Wp.cond ?_ | refine Wp.ret ?_ | refine Wp.skip ?_ | refine Wp.exit ?_ | refine Go.mk ?_ | apply ay.of); conv => whnf)
    | with_reducible exact rfl
    | ((with_reducible refine Ov.ok zO ?_); conv => whnf)
    | (with_reducible refine Ov.sh1 (by with_unfolding_all exact rfl) ?_)
    | ((with_reducible refine Ov.quo (by omega) (by omega) (by omega) (fun _ _ => ?_)); conv => whnf)
    | ((with_reducible refine And.intro (show aj _ _ _ _ = true by kernel_rfl) ?_); conv => whnf)
    | ((with_reducible refine And.intro zC ?_); conv => whnf)
    | ((with_reducible refine And.intro ?hb ?_); (case hb => exact ae (zzb rfl) (by omega)); (conv => whnf))
    | ((refine ag.a rfl rfl rfl rfl rfl rfl ?hb ?_); (case hb => exact zB); (conv => whnf))
    | ((refine ag.b rfl rfl rfl rfl rfl rfl rfl rfl ?hb ?ho ?_); (case hb => exact zB); (case ho => omega); (conv => whnf))
    | ((refine ag.c rfl rfl rfl rfl rfl ?hb ?_); (case hb => exact zB); (conv => whnf))
    | ((refine ag.d rfl rfl rfl rfl rfl rfl ?hb ?ho ?_); (case hb => exact zB); (case ho => omega); (conv => whnf))
    | (with_reducible refine Or.inl ?_)
    | ((with_reducible refine nil_no (by omega) ?_); (conv => whnf))
    | ((with_reducible refine ah ?_ (fun hn0 => ?_)) <;> (conv => whnf))
    | ((with_reducible refine aa.pure (hTw) rfl rfl ?_); conv => whnf) | ((with_reducible refine ai.pure (hTw) rfl rfl ?_); conv => whnf)
    | ((refine az (fun hc => ?_) (fun hc => ?_)) <;> (try simp only [decide_eq_true_eq, decide_eq_false_iff_not, Q5, Q20, Bool.and_eq_false_iff, Bool.or_eq_false_iff, Bool.not_eq_true', Bool.not_eq_false', beq_iff_eq, bne_iff_ne, ne_eq, beq_eq_false_iff_ne, bne_eq_false_iff_eq, Bool.not_eq_true, Bool.not_eq_false] at hc) <;> (try (exfalso; omega)) <;> (conv => whnf))))
      refine ⟨k + 1, by omega, by dsimp only; omega, ?_⟩
      dsimp only
      rw [hta]
      generalize l.getD (k : Int).toNat default = x at *
      (refine Le.by [4] rfl rfl rfl rfl ?_ ?_ <;> ((conv => whnf); repeat' (first | exact trivial | exact law_argR (by decide) (fun l hl => by rcases l with _ | _ | _ | _ | l <;> first | exact ⟨zzb rfl, rfl⟩ | exact ⟨zzb rfl, rfl, rfl⟩ | omega) (fun q hq => by rcases q with _ | _ | _ | _ | _ | _ | _ | _ | _ | q <;> first | exact ⟨zzb rfl, rfl⟩ | omega) | exact law_argI (by decide) (by decide) (fun l hl => by rcases l with _ | _ | _ | _ | l <;> first | exact ⟨zzb rfl, rfl⟩ | exact ⟨zzb rfl, rfl, rfl⟩ | omega) (fun q hq => by rcases q with _ | _ | _ | _ | _ | _ | _ | _ | _ | q <;> first | exact ⟨zzb rfl, rfl⟩ | omega) | exact ab.rfl rfl | exact ab.ptr rfl | exact ab.sl rfl | exact ab.free SV.Le.any rfl | exact ⟨rfl, rfl, rfl⟩ | exact ⟨rfl, zzb rfl⟩ | exact x_argRA (by assumption) rfl | exact x_argA (by assumption) | exact fun i hi => rfl | exact app_rowI _ _ | ((with_reducible refine And.intro ?_ ?_) <;> (conv => whnf)))))
      all_goals first
        | (rw [Q9]; exact ab.sl rfl)
        | rfl
        | (rw [Q9]; rfl)
        | exact a7 HD.D 13 _ x _ rfl
    · obtain rfl : k = l.length := by omega
      rw [List.take_length]
      (repeat' (first
    | with_reducible refine Wp.seq ?_
    | with_reducible refine Wp.block ?_
    | ((with_reducible first | refine Wp.region ?_ | refine Wp.drawL ac ?_ | refine Wp.cond ?_ | refine Wp.ret ?_ | refine Wp.skip ?_ | refine Wp.exit ?_ | refine Go.mk ?_ | apply ay.of); conv => whnf)
    | with_reducible exact rfl
    | ((with_reducible refine Ov.ok zO ?_); conv => whnf)
    | (with_reducible refine Ov.sh1 (by with_unfolding_all exact rfl) ?_)
    | ((with_reducible refine Ov.quo (by omega) (by omega) (by omega) (fun _ _ => ?_)); conv => whnf)
    | ((with_reducible refine And.intro (show aj _ _ _ _ = true by kernel_rfl) ?_); conv => whnf)
    | ((with_reducible refine And.intro zC ?_); conv => whnf)
    | ((with_reducible refine And.intro ?hb ?_); (case hb => exact ae (zzb rfl) (by omega)); (conv => whnf))
    | ((refine ag.a rfl rfl rfl rfl rfl rfl ?hb ?_); (case hb => exact zB); (conv => whnf))
    | ((refine ag.b rfl rfl rfl rfl rfl rfl rfl rfl ?hb ?ho ?_); (case hb => exact zB); (case ho => omega); (conv => whnf))
    | ((refine ag.c rfl rfl rfl rfl rfl ?hb ?_); (case hb => exact zB); (conv => whnf))
    | ((refine ag.d rfl rfl rfl rfl rfl rfl ?hb ?ho ?_); (case hb => exact zB); (case ho => omega); (conv => whnf))
    | (with_reducible refine Or.inl ?_)
    | ((with_reducible refine nil_no (by omega) ?_); (conv => whnf))
    | ((with_reducible refine ah ?_ (fun hn0 => ?_)) <;> (conv => whnf))
    
    | ((refine az (fun hc => ?_) (fun hc => ?_)) <;> (try simp only [decide_eq_true_eq, decide_eq_false_iff_not, Q5, Q20, Bool.and_eq_false_iff, Bool.or_eq_false_iff, Bool.not_eq_true', Bool.not_eq_false', beq_iff_eq, bne_iff_ne, ne_eq, beq_eq_false_iff_ne, bne_eq_false_iff_eq, Bool.not_eq_true, Bool.not_eq_false] at hc) <;> (try (exfalso; omega)) <;> (conv => whnf))))
      refine ff (by rw [Q13]; rfl) fun i hi => ?_
      rw [Q13] at hi
      rw [show 0 + 0 + i = i by omega]
      unfold cC
      exact if_pos (by omega)
end
end Go.Proofs.Ytpdhdnhkhidmpaa
