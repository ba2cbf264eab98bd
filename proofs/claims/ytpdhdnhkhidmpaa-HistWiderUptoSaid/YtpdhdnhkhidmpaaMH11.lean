/- Lemmas of Hi12, Br12, Br13. No condition. -/
import Derived.Test.YtpdhdnhkhidmpaaMH10
set_option linter.unusedVariables false
set_option linter.unusedSimpArgs false
set_option maxHeartbeats 80000000
set_option maxRecDepth 100000
namespace Go.Proofs.Ytpdhdnhkhidmpaa
open Go.RowKit
section
namespace Hist
def cutD (d : HD) : HD := { d with first := d.first.tmod 1099511627776, last := d.last.tmod 1099511627776 }
def mvD (y : Int) (d : HD) : HD := { d with first := d.first + y, last := d.last + y }
def l4 (early later : List Int) (i : Nat) (d : HD) : HD := { d with first := if i < early.length then d.first - early.getD i default else d.first, last := if i < later.length then d.last + later.getD i default else d.last }
def lC (cs : List HD) (k : Nat) : List HD := (List.range k).map fun i => cutD (cs.getD i default)
def lM (y : Int) (cs : List HD) (k : Nat) : List HD := (List.range k).map fun i => mvD y (cutD (cs.getD i default))
def lW (early later : List Int) (cs : List HD) (k : Nat) : List HD := (List.range k).map fun i => l4 early later i (cutD (cs.getD i default))
theorem ga (cs : List HD) (k : Nat) : lC cs (k + 1) = lC cs k ++ [cutD (cs.getD k default)] := by unfold lC; rw [List.range_succ, List.map_append]; rfl
theorem f9 (y : Int) (cs : List HD) (k : Nat) : lM y cs (k + 1) = lM y cs k ++ [mvD y (cutD (cs.getD k default))] := by unfold lM; rw [List.range_succ, List.map_append]; rfl
theorem f7 (early later : List Int) (cs : List HD) (k : Nat) : lW early later cs (k + 1) = lW early later cs k ++ [l4 early later k (cutD (cs.getD k default))] := by unfold lW; rw [List.range_succ, List.map_append]; rfl
theorem lC_len (cs : List HD) (k : Nat) : (lC cs k).length = k := by simp [lC]
theorem lM_len (y : Int) (cs : List HD) (k : Nat) : (lM y cs k).length = k := by simp [lM]
theorem lW_len (early later : List Int) (cs : List HD) (k : Nat) : (lW early later cs k).length = k := by simp [lW]
theorem dy {P : HD → HD → Prop} {f g : Nat → HD} (h : ∀ i, P (f i) (g i)) : ∀ k, bh P ((List.range k).map f) ((List.range k).map g)
  | 0 => .nil
  | k + 1 => by
    rw [List.range_succ, List.map_append, List.map_append]
    exact (dy h k).app (.cons (h k) .nil)
theorem kF (x : Int) : -1099511627776 < x.tmod 1099511627776 ∧ x.tmod 1099511627776 < 1099511627776 := by
  have h1 := Int.tmod_lt_of_pos x (show (0 : Int) < 1099511627776 by decide)
  have h2 := Int.lt_tmod_of_pos x (show (0 : Int) < 1099511627776 by decide)
  omega
theorem wid_tt {early later : List Int} {k : Nat} {d : HD} (h1 : (k : Int) < early.length) (h2 : (k : Int) < later.length) : l4 early later k d = { d with first := d.first - early.getD k default, last := d.last + later.getD k default } := by
  unfold l4; rw [if_pos (show k < early.length by omega), if_pos (show k < later.length by omega)]
theorem wid_tf {early later : List Int} {k : Nat} {d : HD} (h1 : (k : Int) < early.length) (h2 : ¬ (k : Int) < later.length) : l4 early later k d = { d with first := d.first - early.getD k default, last := d.last } := by
  unfold l4; rw [if_pos (show k < early.length by omega), if_neg (show ¬ k < later.length by omega)]
theorem wid_ft {early later : List Int} {k : Nat} {d : HD} (h1 : ¬ (k : Int) < early.length) (h2 : (k : Int) < later.length) : l4 early later k d = { d with first := d.first, last := d.last + later.getD k default } := by
  unfold l4; rw [if_neg (show ¬ k < early.length by omega), if_pos (show k < later.length by omega)]
theorem wid_ff {early later : List Int} {k : Nat} {d : HD} (h1 : ¬ (k : Int) < early.length) (h2 : ¬ (k : Int) < later.length) : l4 early later k d = { d with first := d.first, last := d.last } := by
  unfold l4; rw [if_neg (show ¬ k < early.length by omega), if_neg (show ¬ k < later.length by omega)]
theorem wider (ps : List Pol) (cs : List HD) (early later : List Int) (y : Int) (he : ∀ i, i < early.length → 0 ≤ early.getD i default) (hl : ∀ i, i < later.length → 0 ≤ later.getD i default) (k : Nat) :
    (eT ps (lM y cs k) = eT ps (lC cs k) ∧ bu ps (lM y cs k).length (lM y cs k) = bu ps (lC cs k).length (lC cs k)) ∧
    (eT ps (lC cs k) = true → eT ps (lW early later cs k) = true ∧ bu ps (lW early later cs k).length (lW early later cs k) = 0) := by
  refine ⟨his_eq (P := fun d e => Sm d e ∧ e.first = d.first + y ∧ e.last = d.last + y) (fun _ _ h => h.1) (fun d d' e e' h1 h2 => by rw [h1.2.2, h2.2.1]; omega) (dy (fun i => ⟨⟨rfl, rfl, rfl, rfl, rfl, rfl⟩, rfl, rfl⟩) k),
    fun h => lh (P := fun d e => Sm d e ∧ e.first ≤ d.first ∧ d.last ≤ e.last) (fun _ _ h => h.1) (fun d d' e e' h1 h2 h3 => by have := h1.2.2; have := h2.2.1; omega) (dy (fun i => ⟨⟨rfl, rfl, rfl, rfl, rfl, rfl⟩, ?_, ?_⟩) k) h⟩
  · show (if i < early.length then _ else _) ≤ _
    split
    · have := he i ‹_›; omega
    · exact Int.le_refl _
  · show _ ≤ (if i < later.length then _ else _)
    split
    · have := hl i ‹_›; omega
    · exact Int.le_refl _
end Hist
open Hist
theorem jl {xs : List Int} (h : IsB xs) (i : Nat) : 0 ≤ xs.getD i default ∧ xs.getD i default ≤ 255 := by
  rw [Q1]
  cases e : xs[i]? with
  | none => exact ⟨by decide, by decide⟩
  | some x => exact h x (List.mem_of_getElem? e)
theorem lF {ps : List Pol} {l : List HD} (hk : ∀ d ∈ l, IsB d.key) (hl : l.length ≤ 1048576) : Pure TC 8 [.d (ao 4 Pol.D ps), .d (.sl 13 l.length fun i => (fun i => HD.D (l.getD i default)) (0 + i))] (.tup [.b (eT ps l), .i .i64 (bu ps l.length l)]) :=
  (dl hk hl).leX (.cons (.rfl _) (.cons (ff rfl fun i _ => by dsimp only; rw [Q19]) .nil))
theorem m9 {z : Nat} (l : List HD) (m : Nat) {k : Nat} (hk : k = (l.take m).length) : SV.Le (.d (.sl z k fun i => HD.D (l.getD (0 + i) default))) (.d (ao z HD.D (l.take m))) := by
  subst hk
  refine ff rfl fun i hi => ?_
  rw [Q19, Q1, Q1, Q15, if_pos (by rw [Q10] at hi; omega)]
theorem eS {ps : List Pol} {calls : List HD} {early later : List Int} {y : Int} (hk : ∀ d ∈ calls, IsB d.key ∧ d.key.length ≤ 1048576) (hc : calls.length ≤ 1048576) (he : early.length ≤ 1048576) (hla : later.length ≤ 1048576) (hy : -2147483648 ≤ y ∧ y ≤ 2147483647)
    (hE : IsB early) (hL : IsB later) : Pure TC 5 [.d (ao 4 Pol.D ps), .d (ao 13 HD.D calls), .d (ao 1 (aW .u8) early), .d (ao 1 (aW .u8) later), .i .i32 y] (.b true) := by
  refine Pure.mk' Try.func5 rfl rfl (zzb rfl) ?_
  have h40 : (calls.take 40).length ≤ 40 := by rw [Q10]; omega
  have hOf : Pure TC 11 [.d (.sl 13 ((if 40 < (calls.length : Int) then 40 else (calls.length : Int)).toNat - 0) fun i => (fun i => HD.D (calls.getD i default)) (0 + i))] (.d (ao 13 HD.D (calls.take 40))) :=
    (law_of h40 fun d hd => (hk d (List.mem_of_mem_take hd)).2).leX (.cons (m9 calls 40 (by rw [Q10]; split <;> omega)) .nil)
  have hkc : ∀ d ∈ calls.take 40, IsB d.key ∧ d.key.length ≤ 1048576 := fun d hd => hk d (List.mem_of_mem_take hd)
  (repeat' (first
    | with_reducible refine Wp.seq ?_
    | with_reducible refine Wp.block ?_
    | ((with_reducible first | refine Wp.region ?_ | refine Wp.drawL ac ?_ | refine Wp.cond ?_ | refine Wp.ret ?_ | refine Wp.skip ?_ | refine Wp.exit ?_ | refine Go.mk ?_ | apply ay.of); conv => whnf)
    | with_reducible exact rfl
    | ((with_reducible refine Ov.ok zO ?_); conv => whnf)
    | (with_reducible refine Ov.sh1 (by with_unfolding_all exact rfl) ?_)
    | ((with_reducible refine Ov.quo (by omega) (by omega) (by omega) (fun _ _ => ?_)); conv => whnf)
    | ((with_reducible refine And.intro (show aj _ _ _ _ = true by kernel_rfl) ?_); conv => whnf)
    | ((with_reducible refine And.intro zC ?_); conv => whnf)
    | ((with_reducible refine And.intro ?hb ?_); (case hb => exact ae (zzb rfl) (by omega)); (conv => whnf))
    | ((refine ag.a rfl rfl rfl rfl rfl rfl ?hb ?_); (case hb => exact zB); (conv => whnf))
    | ((refine ag.b rfl rfl rfl rfl rfl rfl rfl rfl ?hb ?ho ?_); (case hb => exact zB); (case ho => omega); (conv => whnf))
    | ((refine ag.c rfl rfl rfl rfl rfl ?hb ?_); (case hb => exact zB); (conv => whnf))
    | ((refine ag.d rfl rfl rfl rfl rfl rfl ?hb ?ho ?_); (case hb => exact zB); (case ho => omega); (conv => whnf))
    | (with_reducible refine Or.inl ?_)
    | ((with_reducible refine nil_no (by omega) ?_); (conv => whnf))
    | ((with_reducible refine ah ?_ (fun hn0 => ?_)) <;> (conv => whnf))
    | ((with_reducible refine aa.pure (lP) rfl rfl ?_); conv => whnf) | ((with_reducible refine ai.pure (lP) rfl rfl ?_); conv => whnf)
    | ((with_reducible refine aa.pure (hOf) rfl rfl ?_); conv => whnf) | ((with_reducible refine ai.pure (hOf) rfl rfl ?_); conv => whnf)
    | ((refine az (fun hc => ?_) (fun hc => ?_)) <;> (try simp only [decide_eq_true_eq, decide_eq_false_iff_not, Q5, Q20, Bool.and_eq_false_iff, Bool.or_eq_false_iff, Bool.not_eq_true', Bool.not_eq_false', beq_iff_eq, bne_iff_ne, ne_eq, beq_eq_false_iff_ne, bne_eq_false_iff_eq, Bool.not_eq_true, Bool.not_eq_false] at hc) <;> (try (exfalso; omega)) <;> (conv => whnf))))
  generalize calls.take 40 = cs at *
  refine Wp.le (Le.virt 11 39 13 (fun i => HD.D (([] : List HD).getD i default)) (by decide) rfl) ?_
  refine Wp.le (Le.virt 12 39 13 (fun i => HD.D (([] : List HD).getD i default)) (by decide) rfl) ?_
  refine Wp.le (Le.virt 13 39 13 (fun i => HD.D (([] : List HD).getD i default)) (by decide) rfl) ?_
  refine Wp.loopP (ι := Nat) (fun k => k ≤ cs.length) (fun k => ⟨⟨Try.f5.ntmps, 0⟩, 3, [(0, .d (ao 4 Pol.D ps)), (2, .d (ao 1 (aW .u8) early)), (3, .d (ao 1 (aW .u8) later)), (4, .i .i32 y), (11, .sl 0 13 0 (lC cs k).length), (12, .sl 1 13 0 (lW early later cs k).length), (13, .sl 2 13 0 (lM y cs k).length), (30, .d (ao 13 HD.D cs)), (31, .i .i64 cs.length), (32, .i .i64 k)],
    [(0, some (.row 39 13 (lC cs k).length fun i => HD.D ((lC cs k).getD i default))), (1, some (.row 39 13 (lW early later cs k).length fun i => HD.D ((lW early later cs k).getD i default))), (2, some (.row 39 13 (lM y cs k).length fun i => HD.D ((lM y cs k).getD i default)))]⟩) (fun k => cs.length - k) 0 (Nat.zero_le _) ?_ ?_
  · (refine Le.by [0,1,2] rfl rfl rfl rfl ?_ ?_ <;> (conv => whnf) <;> (repeat' (first | exact trivial | exact ab.rfl rfl | exact ab.ptr rfl | exact ab.sl rfl | ((with_reducible refine ab.fn ?_); (conv => whnf)) | ((refine ab.iref ?_); (conv => whnf)) | exact ⟨rfl, rfl, rfl⟩ | exact fun i hi => rfl | ((with_reducible refine And.intro ?_ ?_) <;> (conv => whnf)))))
  · intro k hk0
    have hn1 := lC_len cs k
    have hn2 := lW_len early later cs k
    have hn3 := lM_len y cs k
    by_cases hi : k < cs.length
    · have b1 := kF (cs.getD (k : Int).toNat default).first
      have b2 := kF (cs.getD (k : Int).toNat default).last
      have b3 := jl hE (k : Int).toNat
      have b4 := jl hL (k : Int).toNat
      (repeat' (first
    | with_reducible refine Wp.seq ?_
    | with_reducible refine Wp.block ?_
    | ((with_reducible first | refine Wp.region ?_ | refine Wp.drawL ac ?_ | refine Wp.cond ?_ | refine Wp.ret ?_ | refine Wp.skip ?_ | refine Wp.exit ?_ | refine Go.mk ?_ | apply ay.of); conv => whnf)
    | with_reducible exact rfl
    | ((with_reducible refine Ov.ok zO ?_); conv => whnf)
    | (with_reducible refine Ov.sh1 (by with_unfolding_all exact rfl) ?_)
    | ((with_reducible refine Ov.quo (by omega) (by omega) (by omega) (fun _ _ => ?_)); conv => whnf)
    | ((with_reducible refine And.intro (show aj _ _ _ _ = true by kernel_rfl) ?_); conv => whnf)
    | ((with_reducible refine And.intro zC ?_); conv => whnf)
    | ((with_reducible refine And.intro ?hb ?_); (case hb => exact ae (zzb rfl) (by omega)); (conv => whnf))
    | ((refine ag.a rfl rfl rfl rfl rfl rfl ?hb ?_); (case hb => exact zB); (conv => whnf))
    | ((refine ag.b rfl rfl rfl rfl rfl rfl rfl rfl ?hb ?ho ?_); (case hb => exact zB); (case ho => omega); (conv => whnf))
    | ((refine ag.c rfl rfl rfl rfl rfl ?hb ?_); (case hb => exact zB); (conv => whnf))
    | ((refine ag.d rfl rfl rfl rfl rfl rfl ?hb ?ho ?_); (case hb => exact zB); (case ho => omega); (conv => whnf))
    | (with_reducible refine Or.inl ?_)
    | ((with_reducible refine nil_no (by omega) ?_); (conv => whnf))
    | ((with_reducible refine ah ?_ (fun hn0 => ?_)) <;> (conv => whnf))
    
    | ((refine az (fun hc => ?_) (fun hc => ?_)) <;> (try simp only [decide_eq_true_eq, decide_eq_false_iff_not, Q5, Q20, Bool.and_eq_false_iff, Bool.or_eq_false_iff, Bool.not_eq_true', Bool.not_eq_false', beq_iff_eq, bne_iff_ne, ne_eq, beq_eq_false_iff_ne, bne_eq_false_iff_eq, Bool.not_eq_true, Bool.not_eq_false] at hc) <;> (try (exfalso; omega)) <;> (conv => whnf))))
      · refine ⟨k + 1, by omega, by dsimp only; omega, ?_⟩
        dsimp only
        rw [ga, f9, f7, wid_tt (by assumption) (by assumption)]
        simp only [Q13] at b1 b2 b3 b4 ⊢
        generalize cs.getD k default = x at *
        (refine Le.by [5,30,8] rfl rfl rfl rfl ?_ ?_ <;> ((conv => whnf); repeat' (first | exact trivial | exact law_argR (by decide) (fun l hl => by rcases l with _ | _ | _ | _ | l <;> first | exact ⟨zzb rfl, rfl⟩ | exact ⟨zzb rfl, rfl, rfl⟩ | omega) (fun q hq => by rcases q with _ | _ | _ | _ | _ | _ | _ | _ | _ | q <;> first | exact ⟨zzb rfl, rfl⟩ | omega) | exact law_argI (by decide) (by decide) (fun l hl => by rcases l with _ | _ | _ | _ | l <;> first | exact ⟨zzb rfl, rfl⟩ | exact ⟨zzb rfl, rfl, rfl⟩ | omega) (fun q hq => by rcases q with _ | _ | _ | _ | _ | _ | _ | _ | _ | q <;> first | exact ⟨zzb rfl, rfl⟩ | omega) | exact ab.rfl rfl | exact ab.ptr rfl | exact ab.sl rfl | exact ab.free SV.Le.any rfl | exact ⟨rfl, rfl, rfl⟩ | exact ⟨rfl, zzb rfl⟩ | exact x_argRA (by assumption) rfl | exact x_argA (by assumption) | exact fun i hi => rfl | exact app_rowI _ _ | ((with_reducible refine And.intro ?_ ?_) <;> (conv => whnf)))))
        all_goals first
          | (rw [Q9]; exact ab.sl rfl)
          | rfl
          | (rw [Q9]; rfl)
          | exact a7 HD.D 13 _ _ _ rfl
      · refine ⟨k + 1, by omega, by dsimp only; omega, ?_⟩
        dsimp only
        rw [ga, f9, f7, wid_tf (by assumption) (by assumption)]
        simp only [Q13] at b1 b2 b3 b4 ⊢
        generalize cs.getD k default = x at *
        (refine Le.by [5,20,8] rfl rfl rfl rfl ?_ ?_ <;> ((conv => whnf); repeat' (first | exact trivial | exact law_argR (by decide) (fun l hl => by rcases l with _ | _ | _ | _ | l <;> first | exact ⟨zzb rfl, rfl⟩ | exact ⟨zzb rfl, rfl, rfl⟩ | omega) (fun q hq => by rcases q with _ | _ | _ | _ | _ | _ | _ | _ | _ | q <;> first | exact ⟨zzb rfl, rfl⟩ | omega) | exact law_argI (by decide) (by decide) (fun l hl => by rcases l with _ | _ | _ | _ | l <;> first | exact ⟨zzb rfl, rfl⟩ | exact ⟨zzb rfl, rfl, rfl⟩ | omega) (fun q hq => by rcases q with _ | _ | _ | _ | _ | _ | _ | _ | _ | q <;> first | exact ⟨zzb rfl, rfl⟩ | omega) | exact ab.rfl rfl | exact ab.ptr rfl | exact ab.sl rfl | exact ab.free SV.Le.any rfl | exact ⟨rfl, rfl, rfl⟩ | exact ⟨rfl, zzb rfl⟩ | exact x_argRA (by assumption) rfl | exact x_argA (by assumption) | exact fun i hi => rfl | exact app_rowI _ _ | ((with_reducible refine And.intro ?_ ?_) <;> (conv => whnf)))))
        all_goals first
          | (rw [Q9]; exact ab.sl rfl)
          | rfl
          | (rw [Q9]; rfl)
          | exact a7 HD.D 13 _ _ _ rfl
      · refine ⟨k + 1, by omega, by dsimp only; omega, ?_⟩
        dsimp only
        rw [ga, f9, f7, wid_ft (by assumption) (by assumption)]
        simp only [Q13] at b1 b2 b3 b4 ⊢
        generalize cs.getD k default = x at *
        (refine Le.by [5,20,8] rfl rfl rfl rfl ?_ ?_ <;> ((conv => whnf); repeat' (first | exact trivial | exact law_argR (by decide) (fun l hl => by rcases l with _ | _ | _ | _ | l <;> first | exact ⟨zzb rfl, rfl⟩ | exact ⟨zzb rfl, rfl, rfl⟩ | omega) (fun q hq => by rcases q with _ | _ | _ | _ | _ | _ | _ | _ | _ | q <;> first | exact ⟨zzb rfl, rfl⟩ | omega) | exact law_argI (by decide) (by decide) (fun l hl => by rcases l with _ | _ | _ | _ | l <;> first | exact ⟨zzb rfl, rfl⟩ | exact ⟨zzb rfl, rfl, rfl⟩ | omega) (fun q hq => by rcases q with _ | _ | _ | _ | _ | _ | _ | _ | _ | q <;> first | exact ⟨zzb rfl, rfl⟩ | omega) | exact ab.rfl rfl | exact ab.ptr rfl | exact ab.sl rfl | exact ab.free SV.Le.any rfl | exact ⟨rfl, rfl, rfl⟩ | exact ⟨rfl, zzb rfl⟩ | exact x_argRA (by assumption) rfl | exact x_argA (by assumption) | exact fun i hi => rfl | exact app_rowI _ _ | ((with_reducible refine And.intro ?_ ?_) <;> (conv => whnf)))))
        all_goals first
          | (rw [Q9]; exact ab.sl rfl)
          | rfl
          | (rw [Q9]; rfl)
          | exact a7 HD.D 13 _ _ _ rfl
      · refine ⟨k + 1, by omega, by dsimp only; omega, ?_⟩
        dsimp only
        rw [ga, f9, f7, wid_ff (by assumption) (by assumption)]
        simp only [Q13] at b1 b2 b3 b4 ⊢
        generalize cs.getD k default = x at *
        (refine Le.by [5,10,8] rfl rfl rfl rfl ?_ ?_ <;> ((conv => whnf); repeat' (first | exact trivial | exact law_argR (by decide) (fun l hl => by rcases l with _ | _ | _ | _ | l <;> first | exact ⟨zzb rfl, rfl⟩ | exact ⟨zzb rfl, rfl, rfl⟩ | omega) (fun q hq => by rcases q with _ | _ | _ | _ | _ | _ | _ | _ | _ | q <;> first | exact ⟨zzb rfl, rfl⟩ | omega) | exact law_argI (by decide) (by decide) (fun l hl => by rcases l with _ | _ | _ | _ | l <;> first | exact ⟨zzb rfl, rfl⟩ | exact ⟨zzb rfl, rfl, rfl⟩ | omega) (fun q hq => by rcases q with _ | _ | _ | _ | _ | _ | _ | _ | _ | q <;> first | exact ⟨zzb rfl, rfl⟩ | omega) | exact ab.rfl rfl | exact ab.ptr rfl | exact ab.sl rfl | exact ab.free SV.Le.any rfl | exact ⟨rfl, rfl, rfl⟩ | exact ⟨rfl, zzb rfl⟩ | exact x_argRA (by assumption) rfl | exact x_argA (by assumption) | exact fun i hi => rfl | exact app_rowI _ _ | ((with_reducible refine And.intro ?_ ?_) <;> (conv => whnf)))))
        all_goals first
          | (rw [Q9]; exact ab.sl rfl)
          | rfl
          | (rw [Q9]; rfl)
          | exact a7 HD.D 13 _ _ _ rfl
    · obtain rfl : k = cs.length := by omega
      have hkl : ∀ f : Nat → HD, (∀ i, (f i).key = (cs.getD i default).key) → ∀ d ∈ (List.range cs.length).map f, IsB d.key := fun f hf d hd => by
        obtain ⟨i, hi, rfl⟩ := List.mem_map.1 hd
        rw [hf]
        exact (hkc _ (by rw [Q1, Q0 (List.mem_range.1 hi)]; exact Q14 _)).1
      have c1 := lF (ps := ps) (l := lC cs cs.length) (hkl _ fun i => rfl) (by rw [hn1]; omega)
      have c2 := lF (ps := ps) (l := lM y cs cs.length) (hkl _ fun i => rfl) (by rw [hn3]; omega)
      have c3 := lF (ps := ps) (l := lW early later cs cs.length) (hkl _ fun i => rfl) (by rw [hn2]; omega)
      obtain ⟨⟨w1, w2⟩, w3⟩ := wider ps cs early later y (fun i _ => (jl hE i).1) (fun i _ => (jl hL i).1) cs.length
      refine Wp.frz 11 (by decide) ?_
      conv => whnf
      refine ⟨by omega, ?_⟩
      conv => whnf
      refine ⟨rfl, rfl, ?_⟩
      refine Wp.frz 12 (by decide) ?_
      conv => whnf
      refine ⟨by omega, ?_⟩
      conv => whnf
      refine ⟨rfl, rfl, ?_⟩
      refine Wp.frz 13 (by decide) ?_
      conv => whnf
      refine ⟨by omega, ?_⟩
      conv => whnf
      refine ⟨rfl, rfl, ?_⟩
      (repeat' (first
    | with_reducible refine Wp.seq ?_
    | with_reducible refine Wp.block ?_
    | ((with_reducible first | refine Wp.region ?_ | refine Wp.drawL ac ?_ | refine Wp.cond ?_ | refine Wp.ret ?_ | refine Wp.skip ?_ | refine Wp.exit ?_ | refine Go.mk ?_ | apply ay.of); conv => whnf)
    | with_reducible exact rfl
    | ((with_reducible refine Ov.ok zO ?_); conv => whnf)
    | (with_reducible refine Ov.sh1 (by with_unfolding_all exact rfl) ?_)
    | ((with_reducible refine Ov.quo (by omega) (by omega) (by omega) (fun _ _ => ?_)); conv => whnf)
    | ((with_reducible refine And.intro (show aj _ _ _ _ = true by kernel_rfl) ?_); conv => whnf)
    | ((with_reducible refine And.intro zC ?_); conv => whnf)
    | ((with_reducible refine And.intro ?hb ?_); (case hb => exact ae (zzb rfl) (by omega)); (conv => whnf))
    | ((refine ag.a rfl rfl rfl rfl rfl rfl ?hb ?_); (case hb => exact zB); (conv => whnf))
    | ((refine ag.b rfl rfl rfl rfl rfl rfl rfl rfl ?hb ?ho ?_); (case hb => exact zB); (case ho => omega); (conv => whnf))
    | ((refine ag.c rfl rfl rfl rfl rfl ?hb ?_); (case hb => exact zB); (conv => whnf))
    | ((refine ag.d rfl rfl rfl rfl rfl rfl ?hb ?ho ?_); (case hb => exact zB); (case ho => omega); (conv => whnf))
    | (with_reducible refine Or.inl ?_)
    | ((with_reducible refine nil_no (by omega) ?_); (conv => whnf))
    | ((with_reducible refine ah ?_ (fun hn0 => ?_)) <;> (conv => whnf))
    | ((with_reducible refine aa.pure (c1) rfl rfl ?_); conv => whnf) | ((with_reducible refine ai.pure (c1) rfl rfl ?_); conv => whnf)
    | ((with_reducible refine aa.pure (c2) rfl rfl ?_); conv => whnf) | ((with_reducible refine ai.pure (c2) rfl rfl ?_); conv => whnf)
    | ((with_reducible refine aa.pure (c3) rfl rfl ?_); conv => whnf) | ((with_reducible refine ai.pure (c3) rfl rfl ?_); conv => whnf)
    | ((refine az (fun hc => ?_) (fun hc => ?_)) <;> (try simp only [decide_eq_true_eq, decide_eq_false_iff_not, Q5, Q20, Bool.and_eq_false_iff, Bool.or_eq_false_iff, Bool.not_eq_true', Bool.not_eq_false', beq_iff_eq, bne_iff_ne, ne_eq, beq_eq_false_iff_ne, bne_eq_false_iff_eq, Bool.not_eq_true, Bool.not_eq_false] at hc) <;> (try (exfalso; omega)) <;> (conv => whnf))))
      · exact absurd w1.symm hc
      · exact .b rfl
      · rw [(w3 (by assumption)).2]; exact .b rfl
      · have := (w3 (by assumption)).1
        rw [hc] at this; cases this
end
section
inductive kz (N : Nat) : D → Prop
  | val (v : Value) : kz N (.val v)
  | sl {z n : Nat} {f : Nat → List D} (hn : n ≤ N) (h : ∀ i, i < n → ∀ d, d ∈ f i → kz N d) : kz N (.sl z n f)
theorem nR {H : Type} (d : DataW H) : 1 ≤ Rows.uptoBulk d := by
  cases d with
  | lit l => cases l <;> simp [Rows.uptoBulk]
  | _ => simp [Rows.uptoBulk]
theorem jI {H : Type} : ∀ l : List (DataW H), l.length ≤ Rows.uptoBulkAll l
  | [] => Nat.zero_le _
  | d :: r => by
    have := jI r
    have := nR d
    simp only [Rows.uptoBulkAll, List.length_cons]
    omega
theorem dY {H : Type} {d : DataW H} : ∀ {l : List (DataW H)}, d ∈ l → Rows.uptoBulk d ≤ Rows.uptoBulkAll l
  | e :: r, h => by
    simp only [Rows.uptoBulkAll]
    rcases Q22 h with rfl | h
    · omega
    · have := dY h; omega
theorem ki {H : Type} {len N : Nat} {Dd : Nat → DataW H} {sp : List (DataW H)} {pl : List MemPlace} (h : Rows.uptoBulk (DataW.slice ((List.range len).map Dd) sp, pl).1 ≤ N) : len ≤ N ∧ ∀ i, i < len → Rows.uptoBulk (Dd i, pl).1 ≤ N := by
  simp only [Rows.uptoBulk] at h
  have h1 := jI ((List.range len).map Dd)
  rw [List.length_map, List.length_range] at h1
  refine ⟨by omega, fun i hi => ?_⟩
  have := dY (d := Dd i) (l := (List.range len).map Dd) (List.mem_map_of_mem (List.mem_range.2 hi))
  show Rows.uptoBulk (Dd i) ≤ N
  omega
theorem nS {H : Type} {N : Nat} {xs : List (DataW H × List MemPlace)} {pl : List MemPlace} (h : Rows.uptoBulk (DataW.agg (xs.map (·.1)), pl).1 ≤ N) {y : DataW H × List MemPlace} (hy : y ∈ xs) : Rows.uptoBulk y.1 ≤ N := by
  simp only [Rows.uptoBulk] at h
  have := dY (d := y.1) (l := xs.map (·.1)) (List.mem_map_of_mem hy)
  omega
section
variable {H : Type} {enc : TypeId × Value → H} {P : Program} {w : World} {spare : Nat → Bool} {N : Nat}
theorem eI {r : TypeId → Option (List Sh)} {c : TypeId → Nat} {cs : List Value} : ∀ (fs : List Field) (o : Nat) (a : List Sh), shF r c fs o = some a → o + a.length ≤ cs.length →
    (∀ f ∈ fs, ∀ b, r f.type = some b → ∃ ds, dz b ds ∧ (∀ d ∈ ds, kz N d) ∧ RLs w ds ((cs.drop f.offset).take (c f.type))) → ∃ ds, dz a ds ∧ (∀ d ∈ ds, kz N d) ∧ RLs w ds ((cs.drop o).take a.length)
  | [], o, a, h, hl, hr => by
    simp only [shF, Option.some.injEq] at h; subst h
    exact ⟨[], .nil, fun d hd => by simp at hd, by simpa using RLs.nil w⟩
  | f :: fs, o, a, h, hl, hr => by
    unfold shF at h
    split at h
    · rename_i ho
      obtain ⟨b, hb, h⟩ := Option.bind_eq_some_iff.1 h
      split at h
      · rename_i hc
        obtain ⟨a', ha', rfl⟩ := Option.map_eq_some_iff.1 h
        rw [Q9] at hl
        obtain ⟨ds, h1, hN1, h2⟩ := hr f (by simp) b hb
        obtain ⟨ds', h3, hN2, h4⟩ := eI fs _ a' ha' (by omega) (fun g hg => hr g (by simp [hg]))
        refine ⟨ds ++ ds', h1.append h3, fun d hd => (List.mem_append.1 hd).elim (hN1 d) (hN2 d), ?_⟩
        rw [ho, ← hc] at h2
        have := h2.append h4
        rw [show (cs.drop o).take (b ++ a').length = (cs.drop o).take b.length ++ (cs.drop (o + b.length)).take a'.length by
          rw [Q9, List.take_add, List.drop_drop]]
        exact this
      · cases h
    · cases h
theorem kU : ∀ (m fuel : Nat) (t : TypeId) (cs : List Value) (x : DataW H × List MemPlace) (shs : List Sh), DataW.trod enc P w 0 spare true fuel t cs = some x → shT P m t = some shs → Rows.uptoBulk x.1 ≤ N → ∃ ds, dz shs ds ∧ (∀ d ∈ ds, kz N d) ∧ RLs w ds cs
  | 0, fuel, t, cs, x, shs, h, hs => by simp [shT] at hs
  | m + 1, 0, t, cs, x, shs, h, hs => by simp [DataW.trod] at h
  | m + 1, fuel + 1, t, cs, x, shs, h, hs => by
    have ih := fun fuel t cs x shs h hs => kU m fuel t cs x shs h hs
    unfold shT at hs
    split at hs
    · rename_i hu
      cases hs
      unfold DataW.trod at h
      rw [hu] at h
      split at h <;> simp_all
      exact fun _ => ⟨_, .cons (.bool _) .nil, fun d hd => by obtain rfl := List.mem_singleton.1 hd; exact .val _, .one (.val _ rfl)⟩
    · rename_i k hu
      cases hs
      unfold DataW.trod at h
      rw [hu] at h
      split at h <;> simp_all
      rename_i n _ _
      obtain ⟨⟨rfl, hw⟩, _⟩ := h
      exact fun _ => ⟨_, .cons (.int hw) .nil, fun d hd => by obtain rfl := List.mem_singleton.1 hd; exact .val _, .one (.val _ rfl)⟩
    · rename_i hu
      cases hs
      unfold DataW.trod at h
      rw [hu] at h
      split at h <;> simp_all
      exact fun _ => ⟨_, .cons (.str _ h.1) .nil, fun d hd => by obtain rfl := List.mem_singleton.1 hd; exact .val _, .one (.val _ rfl)⟩
    · rename_i e hu
      obtain ⟨es, he, hs⟩ := Option.bind_eq_some_iff.1 hs
      split at hs
      case isFalse => cases hs
      rename_i hz
      cases hs
      intro hB
      rcases Go.Deep.open_slice hu h with ⟨rfl, _⟩ | ⟨a, len, cap, mm, n, Dd, Pl, rfl, _, hl, hm, hmm, hx1, hel⟩
      · refine ⟨[.sl (P.cellsOf e) 0 fun _ => []], .cons (.sl (by unfold maxLen; omega) fun i hi => by omega) .nil, fun d hd => by (obtain rfl := List.mem_singleton.1 hd; exact .sl (Nat.zero_le _) fun i hi => by omega), .one (.sl _ 0 _ none 0 (fun _ _ => undef) (Q4 _) (by unfold maxLen; omega) (fun i hi => by omega) (fun h => by omega) (fun i j hi => by omega))⟩
      · have hle : len ≤ mm := by rw [hmm]; split <;> omega
        rw [hx1] at hB
        obtain ⟨hB1, hB2⟩ := ki hB
        have hx : ∀ i, ∃ p : List Value × List D, i < len → w.cells? 0 (a.add (i * P.cellsOf e)) (P.cellsOf e) = some p.1 ∧ dz es p.2 ∧ RLs w p.2 p.1 ∧ ∀ d ∈ p.2, kz N d := fun i => by
          by_cases hi : i < len
          · obtain ⟨cs', h1, h2⟩ := hel i (by omega)
            obtain ⟨ds, h3, hN, h4⟩ := ih _ _ _ _ _ h2 he (hB2 i hi)
            exact ⟨(cs', ds), fun _ => ⟨h1, h3, h4, hN⟩⟩
          · exact ⟨([], []), fun h => absurd h hi⟩
        obtain ⟨F, hF⟩ := Classical.axiomOfChoice hx
        refine ⟨[.sl (P.cellsOf e) len fun i => (F i).2], .cons (.sl (by omega) fun i hi => (hF i hi).2.1) .nil, fun d hd => by (obtain rfl := List.mem_singleton.1 hd; exact .sl hB1 fun i hi => (hF i hi).2.2.2), .one (.sl _ len _ (some a) cap (fun i j => ((F i).1[j]?).getD undef) hl hm (fun i hi => by rw [(hF i hi).2.1.len, hz]) (fun h0 => ?_) (fun i j hi hj => ?_))⟩
        · have h0' : 0 < len ∧ 0 < P.cellsOf e := ⟨Nat.pos_of_ne_zero fun h => by subst h; simp at h0, Nat.pos_of_ne_zero fun h => by rw [h] at h0; simp at h0⟩
          have hcell : ∀ i j, i < len → j < P.cellsOf e → ∃ v, (F i).1[j]? = some v ∧ w.cell? ((a.add (i * P.cellsOf e)).add j) = some v := fun i j hi hj => by
            obtain ⟨_, k2, k3⟩ := World.cells?_some (hF i hi).1
            have hj' : j < (F i).1.length := by omega
            refine ⟨_, Q0 hj', ?_⟩
            rw [k3 j hj, Q0 hj']
          obtain ⟨v0, _, c0⟩ := hcell 0 0 h0'.1 h0'.2
          rw [Nat.zero_mul] at c0
          have hsp : a.spot = none := gG (by
            have := World.cell?_spot c0
            have e1 : (a.add 0) = a := by unfold Addr.add; simp
            rw [e1] at c0; exact c0)
          obtain ⟨b, o, sp⟩ := a
          simp only at hsp
          subst hsp
          refine ⟨b, o, rfl, ?_, fun i j hi hj => ?_⟩
          · rw [Addr.add_mid, Addr.add_mid] at c0
            exact World.block_lt_of_cell? w _ c0
          · obtain ⟨v, k1, k2⟩ := hcell i j hi hj
            rw [Addr.add_mid, Addr.add_mid] at k2
            rw [k2, k1]; rfl
        · have h9 := (hF i hi).2.2.1
          have hl9 := h9.len
          have hj' : j < (F i).1.length := by rw [← hl9]; exact hj
          exact h9.out j _ _ (Q0 hj) (by rw [Q0 hj']; rfl)
    · rename_i fs hu
      obtain ⟨a, ha, hs⟩ := Option.bind_eq_some_iff.1 hs
      split at hs
      case isFalse => cases hs
      rename_i hz
      cases hs
      intro hB
      obtain ⟨xs, n, _, hx1, hl, _, hf⟩ := DataW.trod_struct hu h
      rw [hx1] at hB
      obtain ⟨ds, h1, hN, h2⟩ := eI (N := N) (w := w) (cs := cs) fs.toList 0 shs ha (by omega) (fun f hf' b hb => by
        obtain ⟨i, hi, e⟩ := List.getElem_of_mem hf'
        have hi' : i < fs.size := by simpa using hi
        have hfi : fs[i]? = some f := by rw [Array.getElem?_eq_getElem hi']; rw [← e]; simp
        have hq := hf i f hfi
        rename_i hxl _
        have hxi : ∃ y, xs[i]? = some y := ⟨xs[i]'(by omega), Q0 _⟩
        obtain ⟨y, hy⟩ := hxi
        rw [hy] at hq
        exact ih _ _ _ _ _ hq hb (nS hB (Q3 hy |>.elim fun h9 e9 => e9 ▸ Q14 h9)))
      refine ⟨ds, h1, hN, ?_⟩
      rw [List.drop_zero, hz, ← hl, List.take_length] at h2
      exact h2
    · cases hs
end
end
section
open Go.ChangeShapes Go.WideShapes Go.ChangeAt Go.RowKit
theorem ij {α : Type} [Inhabited α] {enc : α → List D} {p : α → Prop} {z N : Nat} {es : List Sh} {d : D} (h : jO (.sl z es) d) (hN : kz N d) (hp : ∀ ds, dz es ds → (∀ d ∈ ds, kz N d) → ∃ x, kj ds (enc x) ∧ p x) :
    ∃ xs : List α, TLe d (ao z enc xs) ∧ xs.length ≤ N ∧ ∀ x ∈ xs, p x := by
  obtain ⟨n, f, rfl, hn, hf⟩ := oy h
  cases hN with
  | sl h1 h2 =>
    obtain ⟨xs, g1, g2, g3⟩ := k8 (enc := enc) (p := p) fun i hi => hp _ (hf i hi) (h2 i hi)
    subst g1
    exact ⟨xs, TLe.sl fun i hi => g2 i hi, h1, g3⟩
theorem ik {k : IntKind} {N : Nat} {d : D} (h : jO (.sl 1 [.int k]) d) (hN : kz N d) : ∃ xs : List Int, TLe d (ao 1 (aW k) xs) ∧ xs.length ≤ N ∧ ∀ x ∈ xs, shI k x :=
  ij h hN fun ds hd _ => by
    obtain ⟨d, r, rfl, h1, h2⟩ := av hd
    obtain ⟨n, rfl, hn⟩ := aL h1
    obtain rfl := eH h2
    exact ⟨n, .cons (.rfl _) .nil, hn⟩
theorem nH {d : D} (h : jO .bool d) : ∃ b, d = .val (.bool b) := by cases h with | bool b => exact ⟨b, rfl⟩
theorem arg1N {H : Type} {enc : TypeId × Value → H} {W : World} {t : TypeId} {v : Value} {d : DataW H} {p : List MemPlace} {s : Sh} {N : Nat} (h : DataW.Trod enc Try.prog W 0 (fun _ => true) true t v d p) (hs : shT Try.prog 8 t = some [s]) (hv : v.cells.toList = [v]) (hN : Rows.uptoBulk d ≤ N) :
    ∃ x, jO s x ∧ kz N x ∧ RD W (fun b => b < W.heap.size) x v := by
  obtain ⟨n, h⟩ := h
  obtain ⟨ds, h1, hl, h2⟩ := kU 8 n t _ _ _ h hs hN
  obtain ⟨x, r, rfl, h3, h4⟩ := av h1
  obtain rfl := eH h4
  rw [hv] at h2
  exact ⟨x, h3, hl x (by simp), h2.out 0 x v rfl rfl⟩
@[reducible] def n8 : List Sh := [.int .i64, .int .u8, .int .i64, .sl 1 [.int .u8], .int .i64, .int .i64, .int .i64, .int .i64, .bool, .int .i64, .int .i64, .int .i64, .int .i64]
theorem nG {N : Nat} {ds : List D} (h : dz n8 ds) (hN : ∀ d ∈ ds, kz N d) : ∃ a : HD, kj ds a.D ∧ (IsB a.key ∧ a.key.length ≤ N) := by
  obtain ⟨d0, r0, rfl, h0, t0⟩ := av h
  obtain ⟨d1, r1, rfl, h1, t1⟩ := av t0
  obtain ⟨d2, r2, rfl, h2, t2⟩ := av t1
  obtain ⟨d3, r3, rfl, h3, t3⟩ := av t2
  obtain ⟨d4, r4, rfl, h4, t4⟩ := av t3
  obtain ⟨d5, r5, rfl, h5, t5⟩ := av t4
  obtain ⟨d6, r6, rfl, h6, t6⟩ := av t5
  obtain ⟨d7, r7, rfl, h7, t7⟩ := av t6
  obtain ⟨d8, r8, rfl, h8, t8⟩ := av t7
  obtain ⟨d9, r9, rfl, h9, t9⟩ := av t8
  obtain ⟨d10, r10, rfl, h10, t10⟩ := av t9
  obtain ⟨d11, r11, rfl, h11, t11⟩ := av t10
  obtain ⟨d12, r12, rfl, h12, t12⟩ := av t11
  obtain rfl := eH t12
  obtain ⟨n0, rfl, _⟩ := aL h0
  obtain ⟨n1, rfl, _⟩ := aL h1
  obtain ⟨n2, rfl, _⟩ := aL h2
  obtain ⟨key, le, hkl, hkb⟩ := ik h3 (hN _ (by simp))
  obtain ⟨n4, rfl, _⟩ := aL h4
  obtain ⟨n5, rfl, _⟩ := aL h5
  obtain ⟨n6, rfl, _⟩ := aL h6
  obtain ⟨n7, rfl, _⟩ := aL h7
  obtain ⟨b8, rfl⟩ := nH h8
  obtain ⟨n9, rfl, _⟩ := aL h9
  obtain ⟨n10, rfl, _⟩ := aL h10
  obtain ⟨n11, rfl, _⟩ := aL h11
  obtain ⟨n12, rfl, _⟩ := aL h12
  exact ⟨⟨n0, n1, n2, key, n4, n5, n6, ⟨n7, b8, n9, n10, n11, n12⟩⟩, .cons (.rfl _) (.cons (.rfl _) (.cons (.rfl _) (.cons le (.cons (.rfl _) (.cons (.rfl _) (.cons (.rfl _) (.cons (.rfl _) (.cons (.rfl _) (.cons (.rfl _) (.cons (.rfl _) (.cons (.rfl _) (.cons (.rfl _) .nil)))))))))))), fun x hx => wf_u8 (hkb x hx), hkl⟩
theorem nE {ds : List D} (h : dz [.int .u8, .int .i64, .int .i64, .int .i64] ds) : ∃ p : Pol, kj ds p.D ∧ True := by
  obtain ⟨d0, r0, rfl, h0, t0⟩ := av h
  obtain ⟨d1, r1, rfl, h1, t1⟩ := av t0
  obtain ⟨d2, r2, rfl, h2, t2⟩ := av t1
  obtain ⟨d3, r3, rfl, h3, t3⟩ := av t2
  obtain rfl := eH t3
  obtain ⟨n0, rfl, -⟩ := aL h0
  obtain ⟨n1, rfl, -⟩ := aL h1
  obtain ⟨n2, rfl, -⟩ := aL h2
  obtain ⟨n3, rfl, -⟩ := aL h3
  exact ⟨⟨n0, n1, n2, n3⟩, .cons (.rfl _) (.cons (.rfl _) (.cons (.rfl _) (.cons (.rfl _) .nil))), trivial⟩
theorem argPols {H : Type} {enc : TypeId × Value → H} {W : World} {v : Value} {d : DataW H} {p : List MemPlace} (h : DataW.Trod enc Try.prog W 0 (fun _ => true) true 30 v d p) (hv : v.cells.toList = [v]) :
    ∃ ps : List Pol, ∀ E : Env, E.Im = (fun b => b < W.heap.size) → RS E 0 W (.d (ao 4 Pol.D ps)) v := by
  obtain ⟨x, f, g⟩ := arg1 h (s := .sl 4 [.int .u8, .int .i64, .int .i64, .int .i64]) (by kernel_rfl) hv
  obtain ⟨ps, le, _, _⟩ := nF f fun ds hd => nE hd
  exact ⟨ps, fun E hE => .d _ _ (by rw [hE]; exact le.out _ _ _ g)⟩
theorem nV {N : Nat} {H : Type} {enc : TypeId × Value → H} {W : World} {v : Value} {d : DataW H} {p : List MemPlace} (h : DataW.Trod enc Try.prog W 0 (fun _ => true) true 43 v d p) (hv : v.cells.toList = [v]) (hN : Rows.uptoBulk d ≤ N) :
    ∃ l : List HD, l.length ≤ N ∧ (∀ a ∈ l, IsB a.key ∧ a.key.length ≤ N) ∧ ∀ E : Env, E.Im = (fun b => b < W.heap.size) → RS E 0 W (.d (ao 13 HD.D l)) v := by
  obtain ⟨x, f, g0, g⟩ := arg1N h (s := .sl 13 n8) (by kernel_rfl) hv hN
  obtain ⟨l, le, hl, hok⟩ := ij f g0 fun ds hd hn => nG hd hn
  exact ⟨l, hl, hok, fun E hE => .d _ _ (by rw [hE]; exact le.out _ _ _ g)⟩
theorem jK {N : Nat} {H : Type} {enc : TypeId × Value → H} {W : World} {v : Value} {d : DataW H} {p : List MemPlace} (h : DataW.Trod enc Try.prog W 0 (fun _ => true) true 33 v d p) (hv : v.cells.toList = [v]) (hN : Rows.uptoBulk d ≤ N) :
    ∃ xs : List Int, xs.length ≤ N ∧ IsB xs ∧ ∀ E : Env, E.Im = (fun b => b < W.heap.size) → RS E 0 W (.d (ao 1 (aW .u8) xs)) v := by
  obtain ⟨x, f, g0, g⟩ := arg1N h (s := .sl 1 [.int .u8]) (by kernel_rfl) hv hN
  obtain ⟨xs, le, hl, hok⟩ := ik f g0
  exact ⟨xs, hl, fun x hx => wf_u8 (hok x hx), fun E hE => .d _ _ (by rw [hE]; exact le.out _ _ _ g)⟩
end
end Go.Proofs.Ytpdhdnhkhidmpaa
