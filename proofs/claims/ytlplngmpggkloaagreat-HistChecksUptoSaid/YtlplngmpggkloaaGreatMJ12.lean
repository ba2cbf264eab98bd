/- Lemmas of Hi10, Hi11, Rf1, Rf2, Rf3, Rf4, Rf5, Rf9, Rg1, Rg1b, Rg2, Rg3, Rg4, Rg0. No condition. -/
import Derived.Test.YtlplngmpggkloaaGreatMJ11
set_option linter.unusedVariables false
set_option linter.unusedSimpArgs false
set_option maxHeartbeats 80000000
set_option maxRecDepth 100000
namespace Go.Proofs.YtlplngmpggkloaaGreat
open Go.RowKit
section
open Hist
def bC : List Pol := [⟨1, 10, 20, 0⟩, ⟨2, 0, 0, 2⟩]
theorem gr : Pure TC 9 [] (.d (ak 4 Pol.D bC)) := by
  refine Pure.mk' Tryz.func9 rfl rfl (zzb rfl) ?_
  (repeat' (first
    | with_reducible refine Wp.seq ?_
    | with_reducible refine Wp.block ?_
    | ((with_reducible first | refine Wp.region ?_ | refine Wp.drawL ac ?_ | refine Wp.cond ?_ | refine Wp.ret ?_ | refine Wp.skip ?_ | refine Wp.exit ?_ | refine Go.mk ?_ | apply ao.of); conv => whnf)
    | with_reducible exact rfl
    | ((with_reducible refine Ov.ok zO ?_); conv => whnf)
    | (with_reducible refine Ov.sh1 (by with_unfolding_all exact rfl) ?_)
    | ((with_reducible refine Ov.quo (by omega) (by omega) (by omega) (fun _ _ => ?_)); conv => whnf)
    | ((with_reducible refine And.intro (show ah _ _ _ _ = true by kernel_rfl) ?_); conv => whnf)
    | ((with_reducible refine And.intro zC ?_); conv => whnf)
    | ((with_reducible refine And.intro ?hb ?_); (case hb => exact ae (zzb rfl) (by omega)); (conv => whnf))
    | ((refine af.a rfl rfl rfl rfl rfl rfl ?hb ?_); (case hb => exact zB); (conv => whnf))
    | ((refine af.b rfl rfl rfl rfl rfl rfl rfl rfl ?hb ?ho ?_); (case hb => exact zB); (case ho => omega); (conv => whnf))
    | ((refine af.c rfl rfl rfl rfl rfl ?hb ?_); (case hb => exact zB); (conv => whnf))
    | ((refine af.d rfl rfl rfl rfl rfl rfl ?hb ?ho ?_); (case hb => exact zB); (case ho => omega); (conv => whnf))
    | (with_reducible refine Or.inl ?_)
    | ((with_reducible refine IxA.ptr ?_); conv => whnf)
    | ((with_reducible refine nil_no (by omega) ?_); (conv => whnf))
    | ((with_reducible refine ag ?_ (fun hn0 => ?_)) <;> (conv => whnf))
    
    | ((refine ap (fun hc => ?_) (fun hc => ?_)) <;> (try simp only [decide_eq_true_eq, decide_eq_false_iff_not, Q5, Q20, Bool.and_eq_false_iff, Bool.or_eq_false_iff, Bool.not_eq_true', Bool.not_eq_false', beq_iff_eq, bne_iff_ne, ne_eq, beq_eq_false_iff_ne, bne_eq_false_iff_eq, Bool.not_eq_true, Bool.not_eq_false] at hc) <;> (try (exfalso; omega)) <;> (conv => whnf))))
  exact SV.Le.sl fun i hi => by
    have hi2 : i < 2 := hi
    have : i = 0 ∨ i = 1 := by omega
    rcases this with rfl | rfl <;> rfl
theorem rr (a : List Int) (hl : a.length ≤ 140737488355328) : Pure TC 10 [.d (ak 1 (ar .u8) a)] (.d (ak 1 (ar .u8) a)) := by
  refine Pure.mk' Tryz.func10 rfl rfl (zzb rfl) ?_
  (repeat' (first
    | with_reducible refine Wp.seq ?_
    | with_reducible refine Wp.block ?_
    | ((with_reducible first | refine Wp.region ?_ | refine Wp.drawL ac ?_ | refine Wp.cond ?_ | refine Wp.ret ?_ | refine Wp.skip ?_ | refine Wp.exit ?_ | refine Go.mk ?_ | apply ao.of); conv => whnf)
    | with_reducible exact rfl
    | ((with_reducible refine Ov.ok zO ?_); conv => whnf)
    | (with_reducible refine Ov.sh1 (by with_unfolding_all exact rfl) ?_)
    | ((with_reducible refine Ov.quo (by omega) (by omega) (by omega) (fun _ _ => ?_)); conv => whnf)
    | ((with_reducible refine And.intro (show ah _ _ _ _ = true by kernel_rfl) ?_); conv => whnf)
    | ((with_reducible refine And.intro zC ?_); conv => whnf)
    | ((with_reducible refine And.intro ?hb ?_); (case hb => exact ae (zzb rfl) (by omega)); (conv => whnf))
    | ((refine af.a rfl rfl rfl rfl rfl rfl ?hb ?_); (case hb => exact zB); (conv => whnf))
    | ((refine af.b rfl rfl rfl rfl rfl rfl rfl rfl ?hb ?ho ?_); (case hb => exact zB); (case ho => omega); (conv => whnf))
    | ((refine af.c rfl rfl rfl rfl rfl ?hb ?_); (case hb => exact zB); (conv => whnf))
    | ((refine af.d rfl rfl rfl rfl rfl rfl ?hb ?ho ?_); (case hb => exact zB); (case ho => omega); (conv => whnf))
    | (with_reducible refine Or.inl ?_)
    | ((with_reducible refine IxA.ptr ?_); conv => whnf)
    | ((with_reducible refine nil_no (by omega) ?_); (conv => whnf))
    | ((with_reducible refine ag ?_ (fun hn0 => ?_)) <;> (conv => whnf))
    | ((with_reducible refine And.intro ?hb ?_); (case hb => (show (0 + a.length) * 1 ≤ 140737488355328; omega)); (conv => whnf))
    | ((refine ap (fun hc => ?_) (fun hc => ?_)) <;> (try simp only [decide_eq_true_eq, decide_eq_false_iff_not, Q5, Q20, Bool.and_eq_false_iff, Bool.or_eq_false_iff, Bool.not_eq_true', Bool.not_eq_false', beq_iff_eq, bne_iff_ne, ne_eq, beq_eq_false_iff_ne, bne_eq_false_iff_eq, Bool.not_eq_true, Bool.not_eq_false] at hc) <;> (try (exfalso; omega)) <;> (conv => whnf))))
  refine ig (Q19 _) fun i hi => ?_
  unfold cq
  rw [if_neg (by omega)]
  show ar .u8 (a.getD (0 + i - 0) default) = _
  rw [Q19, Nat.sub_zero]
namespace Hist
def awA : HD := ⟨0, 2, 1, [107], 0, 1, 2, ⟨0, true, 1, 0, 5, 0⟩⟩
def awB : HD := ⟨0, 3, 1, [107], 5, 3, 4, ⟨0, true, 2, 0, 0, 0⟩⟩
def awB0 : HD := ⟨0, 3, 1, [107], 5, 0, 0, ⟨0, true, 2, 0, 0, 0⟩⟩
theorem aw_1 : kW bC [awB, awA] = true ∧ ce bC 2 [awB, awA] = 0 := by decide +kernel
theorem aw_2 : kW bC [awA, awB0] = false ∧ ce bC 2 [awA, awB0] = 0 := by decide +kernel
end Hist
theorem aw_c1 : Pure TC 6 [.d (ak 4 Pol.D bC), .d (ak 13 HD.D [awB, awA])] (.tup [.b true, .i .i64 0]) := by
  have h := eU (ps := bC) (calls := [awB, awA]) (by unfold IsB; decide) (by decide)
  rw [aw_1.1, show ce bC [awB, awA].length [awB, awA] = 0 from aw_1.2] at h
  exact h
theorem aw_c2 : Pure TC 6 [.d (ak 4 Pol.D bC), .d (ak 13 HD.D [awA, awB0])] (.tup [.b false, .i .i64 0]) := by
  have h := eU (ps := bC) (calls := [awA, awB0]) (by unfold IsB; decide) (by decide)
  rw [aw_2.1, show ce bC [awA, awB0].length [awA, awB0] = 0 from aw_2.2] at h
  exact h
@[reducible] def awK : D := .sl 1 1 fun i => bR [.val (.int .u8 107)] 1 (0 + i)
@[reducible] def awD (op n first last left ser : Int) : List D := [.val (.int .i64 0), .val (.int .u8 op), .val (.int .i64 1), awK, .val (.int .i64 n), .val (.int .i64 first), .val (.int .i64 last), .val (.int .i64 0), .val (.bool true), .val (.int .i64 left), .val (.int .i64 0), .val (.int .i64 ser), .val (.int .i64 0)]
theorem sm (op n first last left ser : Int) : nB (awD op n first last left ser) (HD.D ⟨0, op, 1, [107], n, first, last, ⟨0, true, left, 0, ser, 0⟩⟩) := by
  have hk : TLe awK (ak 1 (ar .u8) [107]) := TLe.sl fun i hi => by
    obtain rfl : i = 0 := by omega
    exact .cons (.rfl _) .nil
  exact .cons (.rfl _) (.cons (.rfl _) (.cons (.rfl _) (.cons hk (.cons (.rfl _) (.cons (.rfl _) (.cons (.rfl _) (.cons (.rfl _) (.cons (.rfl _) (.cons (.rfl _) (.cons (.rfl _) (.cons (.rfl _) (.cons (.rfl _) .nil))))))))))))
theorem pB : Pure TC 4 [] (.b true) := by
  refine Pure.mk' Tryz.func4 rfl rfl (zzb rfl) ?_
  have h1 : Pure TC 6 [.d (ak 4 Pol.D bC), .d (.sl 13 2 (bR (awD 3 5 3 4 2 0 ++ awD 2 0 1 2 1 5) 13))] (.tup [.b true, .i .i64 0]) := aw_c1.leX (.cons (.rfl _) (.cons (TLe.sv (TLe.sl fun i hi => by
    have : i = 0 ∨ i = 1 := by omega
    rcases this with rfl | rfl
    · exact sm 3 5 3 4 2 0
    · exact sm 2 0 1 2 1 5)) .nil))
  have h2 : Pure TC 6 [.d (ak 4 Pol.D bC), .d (.sl 13 2 (bR (awD 2 0 1 2 1 5 ++ awD 3 5 0 0 2 0) 13))] (.tup [.b false, .i .i64 0]) := aw_c2.leX (.cons (.rfl _) (.cons (TLe.sv (TLe.sl fun i hi => by
    have : i = 0 ∨ i = 1 := by omega
    rcases this with rfl | rfl
    · exact sm 2 0 1 2 1 5
    · exact sm 3 5 0 0 2 0)) .nil))
  (repeat' (first
    | ((with_reducible refine Or.inr (And.intro rfl ?_)); conv => whnf)
    | ((refine ai.pure h1 rfl rfl ?_); conv => whnf)
    | ((refine ai.pure h2 rfl rfl ?_); conv => whnf)
    | with_reducible refine Wp.seq ?_
    | with_reducible refine Wp.block ?_
    | ((with_reducible first | refine Wp.region ?_ | refine Wp.drawL ac ?_ | refine Wp.cond ?_ | refine Wp.ret ?_ | refine Wp.skip ?_ | refine Wp.exit ?_ | refine Go.mk ?_ | apply ao.of); conv => whnf)
    | with_reducible exact rfl
    | ((with_reducible refine Ov.ok zO ?_); conv => whnf)
    | (with_reducible refine Ov.sh1 (by with_unfolding_all exact rfl) ?_)
    | ((with_reducible refine Ov.quo (by omega) (by omega) (by omega) (fun _ _ => ?_)); conv => whnf)
    | ((with_reducible refine And.intro (show ah _ _ _ _ = true by kernel_rfl) ?_); conv => whnf)
    | ((with_reducible refine And.intro zC ?_); conv => whnf)
    | ((with_reducible refine And.intro ?hb ?_); (case hb => exact ae (zzb rfl) (by omega)); (conv => whnf))
    | ((refine af.a rfl rfl rfl rfl rfl rfl ?hb ?_); (case hb => exact zB); (conv => whnf))
    | ((refine af.b rfl rfl rfl rfl rfl rfl rfl rfl ?hb ?ho ?_); (case hb => exact zB); (case ho => omega); (conv => whnf))
    | ((refine af.c rfl rfl rfl rfl rfl ?hb ?_); (case hb => exact zB); (conv => whnf))
    | ((refine af.d rfl rfl rfl rfl rfl rfl ?hb ?ho ?_); (case hb => exact zB); (case ho => omega); (conv => whnf))
    | (with_reducible refine Or.inl ?_)
    | ((with_reducible refine IxA.ptr ?_); conv => whnf)
    | ((with_reducible refine nil_no (by omega) ?_); (conv => whnf))
    | ((with_reducible refine ag ?_ (fun hn0 => ?_)) <;> (conv => whnf))
    | ((with_reducible refine ab.pure (gr) rfl rfl ?_); conv => whnf) | ((with_reducible refine ai.pure (gr) rfl rfl ?_); conv => whnf)
    | ((refine ap (fun hc => ?_) (fun hc => ?_)) <;> (try simp only [decide_eq_true_eq, decide_eq_false_iff_not, Q5, Q20, Bool.and_eq_false_iff, Bool.or_eq_false_iff, Bool.not_eq_true', Bool.not_eq_false', beq_iff_eq, bne_iff_ne, ne_eq, beq_eq_false_iff_ne, bne_eq_false_iff_eq, Bool.not_eq_true, Bool.not_eq_false] at hc) <;> (try (exfalso; omega)) <;> (conv => whnf))))
  exact .b rfl
end
section
open Hist
end
theorem gI0 {ys : List Int} {k : Nat} (h : k < ys.length) : ys.getD (k : Int).toNat default = ys[k] := by
  rw [Q13, Q1, Q0 h]; rfl
theorem aY (zs : List Int) (t : Int) : ∀ k, k < zs.length + 1 → cq zs.length (fun i => ar IntKind.i64 (zs.getD i default)) (fun i => bR [D.val (.int .i64 t)] 1 (0 + i)) k = ar .i64 ((zs ++ [t]).getD k default) := fun k hk => by
  simp only [cq]
  by_cases e : k < zs.length
  · rw [if_pos e, Q1, Q1, Q11 e]
  · rw [if_neg e]
    obtain rfl : k = zs.length := by omega
    have : (zs ++ [t]).getD zs.length default = t := by simp
    rw [Nat.sub_self, this]; rfl
theorem so (l : List Int) (n x : Int) : ∀ k, k < l.length + 1 + 1 → cq (l.length + 1) (cq l.length (fun i => ar IntKind.i64 (l.getD i default)) (fun i => bR [D.val (.int .i64 n)] 1 (0 + i))) (fun i => bR [D.val (.int .i64 x)] 1 (0 + i)) k = ar .i64 ((l ++ [n] ++ [x]).getD k default) := fun k hk => by
  have e : (l ++ [n]).length = l.length + 1 := by simp
  have q := aY (l ++ [n]) x k (by omega)
  rw [e] at q
  rw [← q]
  by_cases h : k < l.length + 1
  · have h2 := aY l n k h
    unfold cq at h2 ⊢
    rw [if_pos h, if_pos h]; exact h2
  · unfold cq
    rw [if_neg h, if_neg h]
theorem lU {z m n : Nat} {f g : Nat → List D} (h : m = n) (hf : ∀ i, i < n → f i = g i) : SV.Le (.d (.sl z m f)) (.d (.sl z n g)) := by subst h; exact SV.Le.sl hf
theorem sH (xs : List Int) (n : Int) : Pure TC 51 [.d (ak 1 (ar .i64) xs), .i .i64 n] (.b (decide (n ∈ xs))) := by
  refine Pure.lens (.mk Tryz.func51 rfl rfl) fun hlen => ?_
  have ha := hlen xs.length (by simp [cy, ak])
  clear hlen
  refine Pure.mk' Tryz.func51 rfl rfl (zzb rfl) ?_
  (repeat' (first
    | with_reducible refine Wp.seq ?_
    | with_reducible refine Wp.block ?_
    | ((with_reducible first | refine Wp.region ?_ | refine Wp.drawL ac ?_ | refine Wp.cond ?_ | refine Wp.ret ?_ | refine Wp.skip ?_ | refine Wp.exit ?_ | refine Go.mk ?_ | apply ao.of); conv => whnf)
    | with_reducible exact rfl
    | ((with_reducible refine Ov.ok zO ?_); conv => whnf)
    | (with_reducible refine Ov.sh1 (by with_unfolding_all exact rfl) ?_)
    | ((with_reducible refine Ov.quo (by omega) (by omega) (by omega) (fun _ _ => ?_)); conv => whnf)
    | ((with_reducible refine And.intro (show ah _ _ _ _ = true by kernel_rfl) ?_); conv => whnf)
    | ((with_reducible refine And.intro zC ?_); conv => whnf)
    | ((with_reducible refine And.intro ?hb ?_); (case hb => exact ae (zzb rfl) (by omega)); (conv => whnf))
    | ((refine af.a rfl rfl rfl rfl rfl rfl ?hb ?_); (case hb => exact zB); (conv => whnf))
    | ((refine af.b rfl rfl rfl rfl rfl rfl rfl rfl ?hb ?ho ?_); (case hb => exact zB); (case ho => omega); (conv => whnf))
    | ((refine af.c rfl rfl rfl rfl rfl ?hb ?_); (case hb => exact zB); (conv => whnf))
    | ((refine af.d rfl rfl rfl rfl rfl rfl ?hb ?ho ?_); (case hb => exact zB); (case ho => omega); (conv => whnf))
    | (with_reducible refine Or.inl ?_)
    | ((with_reducible refine IxA.ptr ?_); conv => whnf)
    | ((with_reducible refine nil_no (by omega) ?_); (conv => whnf))
    | ((with_reducible refine ag ?_ (fun hn0 => ?_)) <;> (conv => whnf))
    
    | ((refine ap (fun hc => ?_) (fun hc => ?_)) <;> (try simp only [decide_eq_true_eq, decide_eq_false_iff_not, Q5, Q20, Bool.and_eq_false_iff, Bool.or_eq_false_iff, Bool.not_eq_true', Bool.not_eq_false', beq_iff_eq, bne_iff_ne, ne_eq, beq_eq_false_iff_ne, bne_eq_false_iff_eq, Bool.not_eq_true, Bool.not_eq_false] at hc) <;> (try (exfalso; omega)) <;> (conv => whnf))))
  refine Wp.loopP (ι := Nat) (fun j => j ≤ xs.length ∧ n ∉ xs.take j) (fun j => ⟨⟨Tryz.f51.ntmps, 0⟩, 0, [(1, .i .i64 n), (7, .d (ak 1 (ar .i64) xs)), (8, .i .i64 xs.length), (9, .i .i64 j)], []⟩) (fun j => xs.length - j) 0 ⟨Nat.zero_le _, by simp⟩ ?_ ?_
  · (refine Le.by [] rfl rfl rfl rfl ?_ ?_ <;> (conv => whnf) <;> (repeat' (first | exact trivial | exact aa.rfl rfl | exact aa.ptr rfl | exact aa.sl rfl | ((with_reducible refine aa.fn ?_); (conv => whnf)) | ((refine aa.iref ?_); (conv => whnf)) | exact ⟨rfl, rfl, rfl⟩ | exact fun i hi => rfl | ((with_reducible refine And.intro ?_ ?_) <;> (conv => whnf)))))
  · rintro j ⟨h1, h2⟩
    (repeat' (first
    | with_reducible refine Wp.seq ?_
    | with_reducible refine Wp.block ?_
    | ((with_reducible first | refine Wp.region ?_ | refine Wp.drawL ac ?_ | refine Wp.cond ?_ | refine Wp.ret ?_ | refine Wp.skip ?_ | refine Wp.exit ?_ | refine Go.mk ?_ | apply ao.of); conv => whnf)
    | with_reducible exact rfl
    | ((with_reducible refine Ov.ok zO ?_); conv => whnf)
    | (with_reducible refine Ov.sh1 (by with_unfolding_all exact rfl) ?_)
    | ((with_reducible refine Ov.quo (by omega) (by omega) (by omega) (fun _ _ => ?_)); conv => whnf)
    | ((with_reducible refine And.intro (show ah _ _ _ _ = true by kernel_rfl) ?_); conv => whnf)
    | ((with_reducible refine And.intro zC ?_); conv => whnf)
    | ((with_reducible refine And.intro ?hb ?_); (case hb => exact ae (zzb rfl) (by omega)); (conv => whnf))
    | ((refine af.a rfl rfl rfl rfl rfl rfl ?hb ?_); (case hb => exact zB); (conv => whnf))
    | ((refine af.b rfl rfl rfl rfl rfl rfl rfl rfl ?hb ?ho ?_); (case hb => exact zB); (case ho => omega); (conv => whnf))
    | ((refine af.c rfl rfl rfl rfl rfl ?hb ?_); (case hb => exact zB); (conv => whnf))
    | ((refine af.d rfl rfl rfl rfl rfl rfl ?hb ?ho ?_); (case hb => exact zB); (case ho => omega); (conv => whnf))
    | (with_reducible refine Or.inl ?_)
    | ((with_reducible refine IxA.ptr ?_); conv => whnf)
    | ((with_reducible refine nil_no (by omega) ?_); (conv => whnf))
    | ((with_reducible refine ag ?_ (fun hn0 => ?_)) <;> (conv => whnf))
    
    | ((refine ap (fun hc => ?_) (fun hc => ?_)) <;> (try simp only [decide_eq_true_eq, decide_eq_false_iff_not, Q5, Q20, Bool.and_eq_false_iff, Bool.or_eq_false_iff, Bool.not_eq_true', Bool.not_eq_false', beq_iff_eq, bne_iff_ne, ne_eq, beq_eq_false_iff_ne, bne_eq_false_iff_eq, Bool.not_eq_true, Bool.not_eq_false] at hc) <;> (try (exfalso; omega)) <;> (conv => whnf))))
    · refine .b (decide_eq_true ?_).symm
      have hj : j < xs.length := by omega
      rw [gI0 hj] at hc
      rw [← hc]; exact Q14 hj
    · refine ⟨j + 1, ⟨by omega, ?_⟩, by dsimp only; omega, ?_⟩
      · have hj : j < xs.length := by omega
        rw [gI0 hj] at hc
        rw [List.take_succ_eq_append_getElem hj, List.mem_append, List.mem_singleton]
        rintro (h | h)
        · exact h2 h
        · exact hc h.symm
      · (refine Le.by [] rfl rfl rfl rfl ?_ ?_ <;> (conv => whnf) <;> (repeat' (first | exact trivial | exact aa.rfl rfl | exact aa.ptr rfl | exact aa.sl rfl | ((with_reducible refine aa.fn ?_); (conv => whnf)) | ((refine aa.iref ?_); (conv => whnf)) | exact ⟨rfl, rfl, rfl⟩ | exact fun i hi => rfl | ((with_reducible refine And.intro ?_ ?_) <;> (conv => whnf)))))
    · obtain rfl : j = xs.length := by omega
      rw [List.take_length] at h2
      exact .b (decide_eq_false h2).symm
theorem filtI {zs : List Int} {s : Int} {j : Nat} (h : j < zs.length) : (zs.take (j + 1)).filter (fun x => decide (x ≠ s)) = if zs.getD (j : Int).toNat default = s then (zs.take j).filter (fun x => decide (x ≠ s)) else (zs.take j).filter (fun x => decide (x ≠ s)) ++ [zs.getD (j : Int).toNat default] := by
  rw [gI0 h, List.take_succ_eq_append_getElem h, List.filter_append]
  split
  · rename_i e
    rw [List.filter_cons_of_neg (by simp [e])]; simp
  · rename_i e
    rw [List.filter_cons_of_pos (by simpa using e)]; simp
theorem oh (xs : List Int) (n : Int) (hl : xs.length ≤ 16777216) : Pure TC 54 [.d (ak 1 (ar .i64) xs), .i .i64 n] (.d (ak 1 (ar .i64) (xs.filter fun x => decide (x ≠ n)))) := by
  refine Pure.mk' Tryz.func54 rfl rfl (zzb rfl) ?_
  (repeat' (first
    | with_reducible refine Wp.seq ?_
    | with_reducible refine Wp.block ?_
    | ((with_reducible first | refine Wp.region ?_ | refine Wp.drawL ac ?_ | refine Wp.cond ?_ | refine Wp.ret ?_ | refine Wp.skip ?_ | refine Wp.exit ?_ | refine Go.mk ?_ | apply ao.of); conv => whnf)
    | with_reducible exact rfl
    | ((with_reducible refine Ov.ok zO ?_); conv => whnf)
    | (with_reducible refine Ov.sh1 (by with_unfolding_all exact rfl) ?_)
    | ((with_reducible refine Ov.quo (by omega) (by omega) (by omega) (fun _ _ => ?_)); conv => whnf)
    | ((with_reducible refine And.intro (show ah _ _ _ _ = true by kernel_rfl) ?_); conv => whnf)
    | ((with_reducible refine And.intro zC ?_); conv => whnf)
    | ((with_reducible refine And.intro ?hb ?_); (case hb => exact ae (zzb rfl) (by omega)); (conv => whnf))
    | ((refine af.a rfl rfl rfl rfl rfl rfl ?hb ?_); (case hb => exact zB); (conv => whnf))
    | ((refine af.b rfl rfl rfl rfl rfl rfl rfl rfl ?hb ?ho ?_); (case hb => exact zB); (case ho => omega); (conv => whnf))
    | ((refine af.c rfl rfl rfl rfl rfl ?hb ?_); (case hb => exact zB); (conv => whnf))
    | ((refine af.d rfl rfl rfl rfl rfl rfl ?hb ?ho ?_); (case hb => exact zB); (case ho => omega); (conv => whnf))
    | (with_reducible refine Or.inl ?_)
    | ((with_reducible refine IxA.ptr ?_); conv => whnf)
    | ((with_reducible refine nil_no (by omega) ?_); (conv => whnf))
    | ((with_reducible refine ag ?_ (fun hn0 => ?_)) <;> (conv => whnf))
    
    | ((refine ap (fun hc => ?_) (fun hc => ?_)) <;> (try simp only [decide_eq_true_eq, decide_eq_false_iff_not, Q5, Q20, Bool.and_eq_false_iff, Bool.or_eq_false_iff, Bool.not_eq_true', Bool.not_eq_false', beq_iff_eq, bne_iff_ne, ne_eq, beq_eq_false_iff_ne, bne_eq_false_iff_eq, Bool.not_eq_true, Bool.not_eq_false] at hc) <;> (try (exfalso; omega)) <;> (conv => whnf))))
  refine Wp.le (Le.virt 5 2 1 (fun i => ar .i64 (([] : List Int).getD i default)) (by decide) rfl) ?_
  refine Wp.loopP (ι := Nat) (fun j => j ≤ xs.length) (fun j => ⟨⟨Tryz.f54.ntmps, 0⟩, 1, [(1, .i .i64 n), (5, .sl 0 1 0 ((xs.take j).filter fun x => decide (x ≠ n)).length), (8, .d (ak 1 (ar .i64) xs)), (9, .i .i64 xs.length), (10, .i .i64 j)], [(0, some (aN 2 1 (ar .i64) ((xs.take j).filter fun x => decide (x ≠ n))))]⟩) (fun j => xs.length - j) 0 (Nat.zero_le _) ?_ ?_
  · (refine Le.by [0] rfl rfl rfl rfl ?_ ?_ <;> (conv => whnf) <;> (repeat' (first | exact trivial | exact aa.rfl rfl | exact aa.ptr rfl | exact aa.sl rfl | ((with_reducible refine aa.fn ?_); (conv => whnf)) | ((refine aa.iref ?_); (conv => whnf)) | exact ⟨rfl, rfl, rfl⟩ | exact fun i hi => rfl | ((with_reducible refine And.intro ?_ ?_) <;> (conv => whnf)))))
  · rintro j h1
    have hfl : ((xs.take j).filter fun x => decide (x ≠ n)).length ≤ 16777216 := by
      have q1 := List.length_filter_le (fun x => decide (x ≠ n)) (xs.take j)
      rw [Q10] at q1
      omega
    (repeat' (first
    | with_reducible refine Wp.seq ?_
    | with_reducible refine Wp.block ?_
    | ((with_reducible first | refine Wp.region ?_ | refine Wp.drawL ac ?_ | refine Wp.cond ?_ | refine Wp.ret ?_ | refine Wp.skip ?_ | refine Wp.exit ?_ | refine Go.mk ?_ | apply ao.of); conv => whnf)
    | with_reducible exact rfl
    | ((with_reducible refine Ov.ok zO ?_); conv => whnf)
    | (with_reducible refine Ov.sh1 (by with_unfolding_all exact rfl) ?_)
    | ((with_reducible refine Ov.quo (by omega) (by omega) (by omega) (fun _ _ => ?_)); conv => whnf)
    | ((with_reducible refine And.intro (show ah _ _ _ _ = true by kernel_rfl) ?_); conv => whnf)
    | ((with_reducible refine And.intro zC ?_); conv => whnf)
    | ((with_reducible refine And.intro ?hb ?_); (case hb => exact ae (zzb rfl) (by omega)); (conv => whnf))
    | ((refine af.a rfl rfl rfl rfl rfl rfl ?hb ?_); (case hb => exact zB); (conv => whnf))
    | ((refine af.b rfl rfl rfl rfl rfl rfl rfl rfl ?hb ?ho ?_); (case hb => exact zB); (case ho => omega); (conv => whnf))
    | ((refine af.c rfl rfl rfl rfl rfl ?hb ?_); (case hb => exact zB); (conv => whnf))
    | ((refine af.d rfl rfl rfl rfl rfl rfl ?hb ?ho ?_); (case hb => exact zB); (case ho => omega); (conv => whnf))
    | (with_reducible refine Or.inl ?_)
    | ((with_reducible refine IxA.ptr ?_); conv => whnf)
    | ((with_reducible refine nil_no (by omega) ?_); (conv => whnf))
    | ((with_reducible refine ag ?_ (fun hn0 => ?_)) <;> (conv => whnf))
    
    | ((refine ap (fun hc => ?_) (fun hc => ?_)) <;> (try simp only [decide_eq_true_eq, decide_eq_false_iff_not, Q5, Q20, Bool.and_eq_false_iff, Bool.or_eq_false_iff, Bool.not_eq_true', Bool.not_eq_false', beq_iff_eq, bne_iff_ne, ne_eq, beq_eq_false_iff_ne, bne_eq_false_iff_eq, Bool.not_eq_true, Bool.not_eq_false] at hc) <;> (try (exfalso; omega)) <;> (conv => whnf))))
    · refine ⟨j + 1, by dsimp only; omega, by dsimp only; omega, ?_⟩
      dsimp only
      rw [filtI (by omega), if_neg (by assumption)]
      (refine Le.by [2] rfl rfl rfl rfl ?_ ?_ <;> (conv => whnf) <;> (repeat' (first | exact trivial | exact aa.rfl rfl | exact aa.ptr rfl | exact aa.sl rfl | ((with_reducible refine aa.fn ?_); (conv => whnf)) | ((refine aa.iref ?_); (conv => whnf)) | exact ⟨rfl, rfl, rfl⟩ | exact fun i hi => rfl | ((with_reducible refine And.intro ?_ ?_) <;> (conv => whnf)))))
      · rw [Q9]; exact aa.sl rfl
      · rfl
      · simp
      · exact aY _ _
    · refine ⟨j + 1, by dsimp only; omega, by dsimp only; omega, ?_⟩
      dsimp only
      rw [filtI (by omega), if_pos (by first | assumption | exact Classical.byContradiction (by assumption))]
      (refine Le.by [0] rfl rfl rfl rfl ?_ ?_ <;> (conv => whnf) <;> (repeat' (first | exact trivial | exact aa.rfl rfl | exact aa.ptr rfl | exact aa.sl rfl | ((with_reducible refine aa.fn ?_); (conv => whnf)) | ((refine aa.iref ?_); (conv => whnf)) | exact ⟨rfl, rfl, rfl⟩ | exact fun i hi => rfl | ((with_reducible refine And.intro ?_ ?_) <;> (conv => whnf)))))
    · obtain rfl : j = xs.length := by omega
      rw [List.take_length]
      exact SV.Le.sl fun j hj => by simp only [Q19]
def gY : List Int → Int → List Int
  | [], n => [n]
  | x :: r, n => if n < x then n :: x :: r else x :: gY r n
theorem sG (xs : List Int) (n : Int) (hl : xs.length ≤ 16777216) : Pure TC 52 [.d (ak 1 (ar .i64) xs), .i .i64 n] (.d (ak 1 (ar .i64) (gY xs n))) := by
  refine Pure.mk' Tryz.func52 rfl rfl (zzb rfl) ?_
  (repeat' (first
    | with_reducible refine Wp.seq ?_
    | with_reducible refine Wp.block ?_
    | ((with_reducible first | refine Wp.region ?_ | refine Wp.drawL ac ?_ | refine Wp.cond ?_ | refine Wp.ret ?_ | refine Wp.skip ?_ | refine Wp.exit ?_ | refine Go.mk ?_ | apply ao.of); conv => whnf)
    | with_reducible exact rfl
    | ((with_reducible refine Ov.ok zO ?_); conv => whnf)
    | (with_reducible refine Ov.sh1 (by with_unfolding_all exact rfl) ?_)
    | ((with_reducible refine Ov.quo (by omega) (by omega) (by omega) (fun _ _ => ?_)); conv => whnf)
    | ((with_reducible refine And.intro (show ah _ _ _ _ = true by kernel_rfl) ?_); conv => whnf)
    | ((with_reducible refine And.intro zC ?_); conv => whnf)
    | ((with_reducible refine And.intro ?hb ?_); (case hb => exact ae (zzb rfl) (by omega)); (conv => whnf))
    | ((refine af.a rfl rfl rfl rfl rfl rfl ?hb ?_); (case hb => exact zB); (conv => whnf))
    | ((refine af.b rfl rfl rfl rfl rfl rfl rfl rfl ?hb ?ho ?_); (case hb => exact zB); (case ho => omega); (conv => whnf))
    | ((refine af.c rfl rfl rfl rfl rfl ?hb ?_); (case hb => exact zB); (conv => whnf))
    | ((refine af.d rfl rfl rfl rfl rfl rfl ?hb ?ho ?_); (case hb => exact zB); (case ho => omega); (conv => whnf))
    | (with_reducible refine Or.inl ?_)
    | ((with_reducible refine IxA.ptr ?_); conv => whnf)
    | ((with_reducible refine nil_no (by omega) ?_); (conv => whnf))
    | ((with_reducible refine ag ?_ (fun hn0 => ?_)) <;> (conv => whnf))
    
    | ((refine ap (fun hc => ?_) (fun hc => ?_)) <;> (try simp only [decide_eq_true_eq, decide_eq_false_iff_not, Q5, Q20, Bool.and_eq_false_iff, Bool.or_eq_false_iff, Bool.not_eq_true', Bool.not_eq_false', beq_iff_eq, bne_iff_ne, ne_eq, beq_eq_false_iff_ne, bne_eq_false_iff_eq, Bool.not_eq_true, Bool.not_eq_false] at hc) <;> (try (exfalso; omega)) <;> (conv => whnf))))
  refine Wp.le (Le.virt 5 2 1 (fun i => ar .i64 (([] : List Int).getD i default)) (by decide) rfl) ?_
  refine Wp.loopP (ι := Nat × Bool × List Int) (fun k => k.1 ≤ xs.length ∧ k.2.2.length ≤ k.1 + k.2.1.toNat ∧ (k.2.2 ++ if k.2.1 then xs.drop k.1 else gY (xs.drop k.1) n) = gY xs n) (fun k => ⟨⟨Tryz.f52.ntmps, 0⟩, 1, [(1, .i .i64 n), (5, .sl 0 1 0 k.2.2.length), (6, .b k.2.1), (9, .d (ak 1 (ar .i64) xs)), (10, .i .i64 xs.length), (11, .i .i64 k.1)], [(0, some (aN 2 1 (ar .i64) k.2.2))]⟩) (fun k => xs.length - k.1) (0, false, []) ⟨Nat.zero_le _, by simp, by simp⟩ ?_ ?_
  · (refine Le.by [0] rfl rfl rfl rfl ?_ ?_ <;> (conv => whnf) <;> (repeat' (first | exact trivial | exact aa.rfl rfl | exact aa.ptr rfl | exact aa.sl rfl | ((with_reducible refine aa.fn ?_); (conv => whnf)) | ((refine aa.iref ?_); (conv => whnf)) | exact ⟨rfl, rfl, rfl⟩ | exact fun i hi => rfl | ((with_reducible refine And.intro ?_ ?_) <;> (conv => whnf)))))
  · rintro ⟨j, b, l⟩ ⟨h1, h2, h3⟩
    dsimp only at h1 h2 h3 ⊢
    have hd : ∀ (hj : j < xs.length), xs.drop j = xs.getD (j : Int).toNat default :: xs.drop (j + 1) := fun hj => by rw [gI0 hj]; exact List.drop_eq_getElem_cons hj
    have hd2 : ∀ (hj : j < xs.length) (t : List Int), l ++ gY (xs.drop j) n = t → (n < xs.getD (j : Int).toNat default → (l ++ [n]) ++ [xs.getD (j : Int).toNat default] ++ xs.drop (j + 1) = t) ∧ (¬ n < xs.getD (j : Int).toNat default → (l ++ [xs.getD (j : Int).toNat default]) ++ gY (xs.drop (j + 1)) n = t) := fun hj t e => by
      rw [hd hj, gY] at e
      constructor
      · intro h; rw [if_pos h] at e; rw [← e]; simp
      · intro h; rw [if_neg h] at e; rw [← e]; simp
    cases b with
    | true =>
      simp only [if_true] at h3
      have h2 : l.length ≤ j + 1 := h2
      (repeat' (first
    | with_reducible refine Wp.seq ?_
    | with_reducible refine Wp.block ?_
    | ((with_reducible first | refine Wp.region ?_ | refine Wp.drawL ac ?_ | refine Wp.cond ?_ | refine Wp.ret ?_ | refine Wp.skip ?_ | refine Wp.exit ?_ | refine Go.mk ?_ | apply ao.of); conv => whnf)
    | with_reducible exact rfl
    | ((with_reducible refine Ov.ok zO ?_); conv => whnf)
    | (with_reducible refine Ov.sh1 (by with_unfolding_all exact rfl) ?_)
    | ((with_reducible refine Ov.quo (by omega) (by omega) (by omega) (fun _ _ => ?_)); conv => whnf)
    | ((with_reducible refine And.intro (show ah _ _ _ _ = true by kernel_rfl) ?_); conv => whnf)
    | ((with_reducible refine And.intro zC ?_); conv => whnf)
    | ((with_reducible refine And.intro ?hb ?_); (case hb => exact ae (zzb rfl) (by omega)); (conv => whnf))
    | ((refine af.a rfl rfl rfl rfl rfl rfl ?hb ?_); (case hb => exact zB); (conv => whnf))
    | ((refine af.b rfl rfl rfl rfl rfl rfl rfl rfl ?hb ?ho ?_); (case hb => exact zB); (case ho => omega); (conv => whnf))
    | ((refine af.c rfl rfl rfl rfl rfl ?hb ?_); (case hb => exact zB); (conv => whnf))
    | ((refine af.d rfl rfl rfl rfl rfl rfl ?hb ?ho ?_); (case hb => exact zB); (case ho => omega); (conv => whnf))
    | (with_reducible refine Or.inl ?_)
    | ((with_reducible refine IxA.ptr ?_); conv => whnf)
    | ((with_reducible refine nil_no (by omega) ?_); (conv => whnf))
    | ((with_reducible refine ag ?_ (fun hn0 => ?_)) <;> (conv => whnf))
    
    | ((refine ap (fun hc => ?_) (fun hc => ?_)) <;> (try simp only [decide_eq_true_eq, decide_eq_false_iff_not, Q5, Q20, Bool.and_eq_false_iff, Bool.or_eq_false_iff, Bool.not_eq_true', Bool.not_eq_false', beq_iff_eq, bne_iff_ne, ne_eq, beq_eq_false_iff_ne, bne_eq_false_iff_eq, Bool.not_eq_true, Bool.not_eq_false] at hc) <;> (try (exfalso; omega)) <;> (conv => whnf))))
      all_goals first
        | (refine ⟨(j + 1, true, l ++ [xs.getD (j : Int).toNat default]), ⟨by dsimp only; omega, (by show _ ≤ j + 1 + 1; simp; omega), (by rw [hd (by omega)] at h3; simpa using h3)⟩, by dsimp only; omega, ?_⟩
           (refine Le.by [2] rfl rfl rfl rfl ?_ ?_ <;> (conv => whnf) <;> (repeat' (first | exact trivial | exact aa.rfl rfl | exact aa.ptr rfl | exact aa.sl rfl | ((with_reducible refine aa.fn ?_); (conv => whnf)) | ((refine aa.iref ?_); (conv => whnf)) | exact ⟨rfl, rfl, rfl⟩ | exact fun i hi => rfl | ((with_reducible refine And.intro ?_ ?_) <;> (conv => whnf)))))
           · dsimp only; rw [Q9]; exact aa.sl rfl
           · rfl
           · simp
           · exact aY _ _)
        | (obtain rfl : j = xs.length := by omega
           rw [List.drop_length, List.append_nil] at h3
           rw [← h3]
           exact SV.Le.sl fun j hj => by simp only [Q19])
    | false =>
      simp only [Bool.false_eq_true, if_false] at h3
      have h2 : l.length ≤ j := h2
      (repeat' (first
    | with_reducible refine Wp.seq ?_
    | with_reducible refine Wp.block ?_
    | ((with_reducible first | refine Wp.region ?_ | refine Wp.drawL ac ?_ | refine Wp.cond ?_ | refine Wp.ret ?_ | refine Wp.skip ?_ | refine Wp.exit ?_ | refine Go.mk ?_ | apply ao.of); conv => whnf)
    | with_reducible exact rfl
    | ((with_reducible refine Ov.ok zO ?_); conv => whnf)
    | (with_reducible refine Ov.sh1 (by with_unfolding_all exact rfl) ?_)
    | ((with_reducible refine Ov.quo (by omega) (by omega) (by omega) (fun _ _ => ?_)); conv => whnf)
    | ((with_reducible refine And.intro (show ah _ _ _ _ = true by kernel_rfl) ?_); conv => whnf)
    | ((with_reducible refine And.intro zC ?_); conv => whnf)
    | ((with_reducible refine And.intro ?hb ?_); (case hb => exact ae (zzb rfl) (by omega)); (conv => whnf))
    | ((refine af.a rfl rfl rfl rfl rfl rfl ?hb ?_); (case hb => exact zB); (conv => whnf))
    | ((refine af.b rfl rfl rfl rfl rfl rfl rfl rfl ?hb ?ho ?_); (case hb => exact zB); (case ho => omega); (conv => whnf))
    | ((refine af.c rfl rfl rfl rfl rfl ?hb ?_); (case hb => exact zB); (conv => whnf))
    | ((refine af.d rfl rfl rfl rfl rfl rfl ?hb ?ho ?_); (case hb => exact zB); (case ho => omega); (conv => whnf))
    | (with_reducible refine Or.inl ?_)
    | ((with_reducible refine IxA.ptr ?_); conv => whnf)
    | ((with_reducible refine nil_no (by omega) ?_); (conv => whnf))
    | ((with_reducible refine ag ?_ (fun hn0 => ?_)) <;> (conv => whnf))
    
    | ((refine ap (fun hc => ?_) (fun hc => ?_)) <;> (try simp only [decide_eq_true_eq, decide_eq_false_iff_not, Q5, Q20, Bool.and_eq_false_iff, Bool.or_eq_false_iff, Bool.not_eq_true', Bool.not_eq_false', beq_iff_eq, bne_iff_ne, ne_eq, beq_eq_false_iff_ne, bne_eq_false_iff_eq, Bool.not_eq_true, Bool.not_eq_false] at hc) <;> (try (exfalso; omega)) <;> (conv => whnf))))
      all_goals first
        | (refine ⟨(j + 1, true, (l ++ [n]) ++ [xs.getD (j : Int).toNat default]), ⟨by dsimp only; omega, (by show _ ≤ j + 1 + 1; simp; omega), (by rw [if_pos rfl]; exact (hd2 (by omega) _ h3).1 (by omega))⟩, by dsimp only; omega, ?_⟩
           (refine Le.by [4] rfl rfl rfl rfl ?_ ?_ <;> (conv => whnf) <;> (repeat' (first | exact trivial | exact aa.rfl rfl | exact aa.ptr rfl | exact aa.sl rfl | ((with_reducible refine aa.fn ?_); (conv => whnf)) | ((refine aa.iref ?_); (conv => whnf)) | exact ⟨rfl, rfl, rfl⟩ | exact fun i hi => rfl | ((with_reducible refine And.intro ?_ ?_) <;> (conv => whnf)))))
           · dsimp only; rw [Q9, Q9]; exact aa.sl rfl
           · rfl
           · simp
           · exact so _ _ _)
        | (refine ⟨(j + 1, false, l ++ [xs.getD (j : Int).toNat default]), ⟨by dsimp only; omega, (by show _ ≤ j + 1; simp; omega), (by rw [if_neg (by simp)]; exact (hd2 (by omega) _ h3).2 (by omega))⟩, by dsimp only; omega, ?_⟩
           (refine Le.by [2] rfl rfl rfl rfl ?_ ?_ <;> (conv => whnf) <;> (repeat' (first | exact trivial | exact aa.rfl rfl | exact aa.ptr rfl | exact aa.sl rfl | ((with_reducible refine aa.fn ?_); (conv => whnf)) | ((refine aa.iref ?_); (conv => whnf)) | exact ⟨rfl, rfl, rfl⟩ | exact fun i hi => rfl | ((with_reducible refine And.intro ?_ ?_) <;> (conv => whnf)))))
           · dsimp only; rw [Q9]; exact aa.sl rfl
           · rfl
           · simp
           · exact aY _ _)
        | (obtain rfl : j = xs.length := by omega
           rw [List.drop_length] at h3
           rw [← h3]
           refine lU (by simp [gY]) fun i hi => ?_
           rw [Q19]
           exact aY l n i (by simpa [gY] using hi))
theorem i4 (p : Pol) (c : Cel) (h1 : -4611686018427387904 ≤ p.permits ∧ p.permits ≤ 4611686018427387903) (h3 : c.held.length ≤ 4611686018427387903) : Pure TC 53 [p.S, c.S] (.i .i64 (p.permits - c.held.length)) := by
  refine Pure.mk' Tryz.func53 rfl rfl (zzb rfl) ?_
  (repeat' (first
    | with_reducible refine Wp.seq ?_
    | with_reducible refine Wp.block ?_
    | ((with_reducible first | refine Wp.region ?_ | refine Wp.drawL ac ?_ | refine Wp.cond ?_ | refine Wp.ret ?_ | refine Wp.skip ?_ | refine Wp.exit ?_ | refine Go.mk ?_ | apply ao.of); conv => whnf)
    | with_reducible exact rfl
    | ((with_reducible refine Ov.ok zO ?_); conv => whnf)
    | (with_reducible refine Ov.sh1 (by with_unfolding_all exact rfl) ?_)
    | ((with_reducible refine Ov.quo (by omega) (by omega) (by omega) (fun _ _ => ?_)); conv => whnf)
    | ((with_reducible refine And.intro (show ah _ _ _ _ = true by kernel_rfl) ?_); conv => whnf)
    | ((with_reducible refine And.intro zC ?_); conv => whnf)
    | ((with_reducible refine And.intro ?hb ?_); (case hb => exact ae (zzb rfl) (by omega)); (conv => whnf))
    | ((refine af.a rfl rfl rfl rfl rfl rfl ?hb ?_); (case hb => exact zB); (conv => whnf))
    | ((refine af.b rfl rfl rfl rfl rfl rfl rfl rfl ?hb ?ho ?_); (case hb => exact zB); (case ho => omega); (conv => whnf))
    | ((refine af.c rfl rfl rfl rfl rfl ?hb ?_); (case hb => exact zB); (conv => whnf))
    | ((refine af.d rfl rfl rfl rfl rfl rfl ?hb ?ho ?_); (case hb => exact zB); (case ho => omega); (conv => whnf))
    | (with_reducible refine Or.inl ?_)
    | ((with_reducible refine IxA.ptr ?_); conv => whnf)
    | ((with_reducible refine nil_no (by omega) ?_); (conv => whnf))
    | ((with_reducible refine ag ?_ (fun hn0 => ?_)) <;> (conv => whnf))
    
    | ((refine ap (fun hc => ?_) (fun hc => ?_)) <;> (try simp only [decide_eq_true_eq, decide_eq_false_iff_not, Q5, Q20, Bool.and_eq_false_iff, Bool.or_eq_false_iff, Bool.not_eq_true', Bool.not_eq_false', beq_iff_eq, bne_iff_ne, ne_eq, beq_eq_false_iff_ne, bne_eq_false_iff_eq, Bool.not_eq_true, Bool.not_eq_false] at hc) <;> (try (exfalso; omega)) <;> (conv => whnf))))
  exact .i rfl
theorem r1_Sub (a b : Int) (h0 : -4611686018427387904 ≤ a ∧ a ≤ 4611686018427387903) (h1 : -4611686018427387904 ≤ b ∧ b ≤ 4611686018427387903) : Pure TC 56 [.i .i64 a, .i .i64 b] (.i .i64 (max (a - b) 0)) := by
  refine Pure.mk' Tryz.func56 rfl rfl (zzb rfl) ?_
  (repeat' (first
    | with_reducible refine Wp.seq ?_
    | with_reducible refine Wp.block ?_
    | ((with_reducible first | refine Wp.region ?_ | refine Wp.drawL ac ?_ | refine Wp.cond ?_ | refine Wp.ret ?_ | refine Wp.skip ?_ | refine Wp.exit ?_ | refine Go.mk ?_ | apply ao.of); conv => whnf)
    | with_reducible exact rfl
    | ((with_reducible refine Ov.ok zO ?_); conv => whnf)
    | (with_reducible refine Ov.sh1 (by with_unfolding_all exact rfl) ?_)
    | ((with_reducible refine Ov.quo (by omega) (by omega) (by omega) (fun _ _ => ?_)); conv => whnf)
    | ((with_reducible refine And.intro (show ah _ _ _ _ = true by kernel_rfl) ?_); conv => whnf)
    | ((with_reducible refine And.intro zC ?_); conv => whnf)
    | ((with_reducible refine And.intro ?hb ?_); (case hb => exact ae (zzb rfl) (by omega)); (conv => whnf))
    | ((refine af.a rfl rfl rfl rfl rfl rfl ?hb ?_); (case hb => exact zB); (conv => whnf))
    | ((refine af.b rfl rfl rfl rfl rfl rfl rfl rfl ?hb ?ho ?_); (case hb => exact zB); (case ho => omega); (conv => whnf))
    | ((refine af.c rfl rfl rfl rfl rfl ?hb ?_); (case hb => exact zB); (conv => whnf))
    | ((refine af.d rfl rfl rfl rfl rfl rfl ?hb ?ho ?_); (case hb => exact zB); (case ho => omega); (conv => whnf))
    | (with_reducible refine Or.inl ?_)
    | ((with_reducible refine IxA.ptr ?_); conv => whnf)
    | ((with_reducible refine nil_no (by omega) ?_); (conv => whnf))
    | ((with_reducible refine ag ?_ (fun hn0 => ?_)) <;> (conv => whnf))
    
    | ((refine ap (fun hc => ?_) (fun hc => ?_)) <;> (try simp only [decide_eq_true_eq, decide_eq_false_iff_not, Q5, Q20, Bool.and_eq_false_iff, Bool.or_eq_false_iff, Bool.not_eq_true', Bool.not_eq_false', beq_iff_eq, bne_iff_ne, ne_eq, beq_eq_false_iff_ne, bne_eq_false_iff_eq, Bool.not_eq_true, Bool.not_eq_false] at hc) <;> (try (exfalso; omega)) <;> (conv => whnf))))
  all_goals exact .i (by omega)
def mJ (a : List Int) : Nat → Nat
  | 0 => 0
  | n + 1 => if a.getD n default = 0 then mJ a n else n + 1
theorem lw (a : List Int) : ∀ n, mJ a n ≤ n
  | 0 => Q4 _
  | n + 1 => by unfold mJ; have := lw a n; split <;> omega
def fB (a : List Int) : List Int := a.take (mJ a a.length)
theorem md {a : List Int} {n : Nat} (e : mJ a a.length = n) : SV.Le (.d (.sl 1 ((n : Int).toNat - 0) fun i => (fun i => ar IntKind.u64 (a.getD i default)) (0 + i))) (.d (ak 1 (ar .u64) (fB a))) := by
  have hle := lw a a.length
  refine lU (by rw [fB, Q10, e]; omega) fun i hi => ?_
  rw [fB, Q10, e] at hi
  simp only [Q19]
  rw [fB, e, Q1, Q1, Q15, if_pos (by omega)]
theorem om (a : List Int) : Pure TC 96 [.d (ak 1 (ar .u64) a)] (.d (ak 1 (ar .u64) (fB a))) := by
  refine Pure.lens (.mk Tryz.func96 rfl rfl) fun hlen => ?_
  have ha := hlen a.length (by simp [cy, ak])
  clear hlen
  have hle := lw a a.length
  refine Pure.mk' Tryz.func96 rfl rfl (zzb rfl) ?_
  (repeat' (first
    | with_reducible refine Wp.seq ?_
    | with_reducible refine Wp.block ?_
    | ((with_reducible first | refine Wp.region ?_ | refine Wp.drawL ac ?_ | refine Wp.cond ?_ | refine Wp.ret ?_ | refine Wp.skip ?_ | refine Wp.exit ?_ | refine Go.mk ?_ | apply ao.of); conv => whnf)
    | with_reducible exact rfl
    | ((with_reducible refine Ov.ok zO ?_); conv => whnf)
    | (with_reducible refine Ov.sh1 (by with_unfolding_all exact rfl) ?_)
    | ((with_reducible refine Ov.quo (by omega) (by omega) (by omega) (fun _ _ => ?_)); conv => whnf)
    | ((with_reducible refine And.intro (show ah _ _ _ _ = true by kernel_rfl) ?_); conv => whnf)
    | ((with_reducible refine And.intro zC ?_); conv => whnf)
    | ((with_reducible refine And.intro ?hb ?_); (case hb => exact ae (zzb rfl) (by omega)); (conv => whnf))
    | ((refine af.a rfl rfl rfl rfl rfl rfl ?hb ?_); (case hb => exact zB); (conv => whnf))
    | ((refine af.b rfl rfl rfl rfl rfl rfl rfl rfl ?hb ?ho ?_); (case hb => exact zB); (case ho => omega); (conv => whnf))
    | ((refine af.c rfl rfl rfl rfl rfl ?hb ?_); (case hb => exact zB); (conv => whnf))
    | ((refine af.d rfl rfl rfl rfl rfl rfl ?hb ?ho ?_); (case hb => exact zB); (case ho => omega); (conv => whnf))
    | (with_reducible refine Or.inl ?_)
    | ((with_reducible refine IxA.ptr ?_); conv => whnf)
    | ((with_reducible refine nil_no (by omega) ?_); (conv => whnf))
    | ((with_reducible refine ag ?_ (fun hn0 => ?_)) <;> (conv => whnf))
    
    | ((refine ap (fun hc => ?_) (fun hc => ?_)) <;> (try simp only [decide_eq_true_eq, decide_eq_false_iff_not, Q5, Q20, Bool.and_eq_false_iff, Bool.or_eq_false_iff, Bool.not_eq_true', Bool.not_eq_false', beq_iff_eq, bne_iff_ne, ne_eq, beq_eq_false_iff_ne, bne_eq_false_iff_eq, Bool.not_eq_true, Bool.not_eq_false] at hc) <;> (try (exfalso; omega)) <;> (conv => whnf))))
  refine Wp.loopP (ι := Nat) (fun n => n ≤ a.length ∧ mJ a n = mJ a a.length) (fun n => ⟨⟨Tryz.f96.ntmps, 0⟩, 0, [(0, .d (ak 1 (ar .u64) a)), (3, .i .i64 n)], []⟩) (fun n => n) a.length ⟨Q4 _, rfl⟩ ?_ ?_
  · (refine Le.by [] rfl rfl rfl rfl ?_ ?_ <;> (conv => whnf) <;> (repeat' (first | exact trivial | exact aa.rfl rfl | exact aa.ptr rfl | exact aa.sl rfl | ((with_reducible refine aa.fn ?_); (conv => whnf)) | ((refine aa.iref ?_); (conv => whnf)) | exact ⟨rfl, rfl, rfl⟩ | exact fun i hi => rfl | ((with_reducible refine And.intro ?_ ?_) <;> (conv => whnf)))))
  · rintro n ⟨h1, h2⟩
    (repeat' (first
    | with_reducible refine Wp.seq ?_
    | with_reducible refine Wp.block ?_
    | ((with_reducible first | refine Wp.region ?_ | refine Wp.drawL ac ?_ | refine Wp.cond ?_ | refine Wp.ret ?_ | refine Wp.skip ?_ | refine Wp.exit ?_ | refine Go.mk ?_ | apply ao.of); conv => whnf)
    | with_reducible exact rfl
    | ((with_reducible refine Ov.ok zO ?_); conv => whnf)
    | (with_reducible refine Ov.sh1 (by with_unfolding_all exact rfl) ?_)
    | ((with_reducible refine Ov.quo (by omega) (by omega) (by omega) (fun _ _ => ?_)); conv => whnf)
    | ((with_reducible refine And.intro (show ah _ _ _ _ = true by kernel_rfl) ?_); conv => whnf)
    | ((with_reducible refine And.intro zC ?_); conv => whnf)
    | ((with_reducible refine And.intro ?hb ?_); (case hb => exact ae (zzb rfl) (by omega)); (conv => whnf))
    | ((refine af.a rfl rfl rfl rfl rfl rfl ?hb ?_); (case hb => exact zB); (conv => whnf))
    | ((refine af.b rfl rfl rfl rfl rfl rfl rfl rfl ?hb ?ho ?_); (case hb => exact zB); (case ho => omega); (conv => whnf))
    | ((refine af.c rfl rfl rfl rfl rfl ?hb ?_); (case hb => exact zB); (conv => whnf))
    | ((refine af.d rfl rfl rfl rfl rfl rfl ?hb ?ho ?_); (case hb => exact zB); (case ho => omega); (conv => whnf))
    | (with_reducible refine Or.inl ?_)
    | ((with_reducible refine IxA.ptr ?_); conv => whnf)
    | ((with_reducible refine nil_no (by omega) ?_); (conv => whnf))
    | ((with_reducible refine ag ?_ (fun hn0 => ?_)) <;> (conv => whnf))
    
    | ((refine ap (fun hc => ?_) (fun hc => ?_)) <;> (try simp only [decide_eq_true_eq, decide_eq_false_iff_not, Q5, Q20, Bool.and_eq_false_iff, Bool.or_eq_false_iff, Bool.not_eq_true', Bool.not_eq_false', beq_iff_eq, bne_iff_ne, ne_eq, beq_eq_false_iff_ne, bne_eq_false_iff_eq, Bool.not_eq_true, Bool.not_eq_false] at hc) <;> (try (exfalso; omega)) <;> (conv => whnf))))
    · obtain ⟨m, rfl⟩ : ∃ m, n = m + 1 := ⟨n - 1, by omega⟩
      have e : ((m + 1 : Nat) : Int) - 1 = (m : Int) := by omega
      rw [e] at hc ⊢
      rw [Q13] at hc
      refine ⟨m, ⟨by omega, ?_⟩, by dsimp only; omega, ?_⟩
      · rw [← h2, mJ, if_pos hc]
      · (refine Le.by [] rfl rfl rfl rfl ?_ ?_ <;> (conv => whnf) <;> (repeat' (first | exact trivial | exact aa.rfl rfl | exact aa.ptr rfl | exact aa.sl rfl | ((with_reducible refine aa.fn ?_); (conv => whnf)) | ((refine aa.iref ?_); (conv => whnf)) | exact ⟨rfl, rfl, rfl⟩ | exact fun i hi => rfl | ((with_reducible refine And.intro ?_ ?_) <;> (conv => whnf)))))
    · have e : mJ a a.length = n := by
        rw [← h2]
        obtain ⟨m, rfl⟩ : ∃ m, n = m + 1 := ⟨n - 1, by omega⟩
        rw [show (((m + 1 : Nat) : Int) - 1).toNat = m by omega] at hc
        rw [mJ, if_neg hc]
      exact md e
    · have e : mJ a a.length = n := by
        obtain rfl : n = 0 := by omega
        rw [← h2]; rfl
      exact md e
def aA : List Int → Int
  | [] => 0
  | x :: r => x + 4294967296 * aA r
def Dg (a : List Int) : Prop := ∀ x ∈ a, 0 ≤ x ∧ x < 4294967296
def Nrm : List Int → Prop
  | [] => True
  | [x] => x ≠ 0
  | _ :: y :: r => Nrm (y :: r)
theorem Dg.nil : Dg [] := fun x hx => by cases hx
theorem Dg.tail {x : Int} {r : List Int} (h : Dg (x :: r)) : Dg r := fun y hy => h y (List.mem_cons_of_mem _ hy)
theorem Dg.head {x : Int} {r : List Int} (h : Dg (x :: r)) : 0 ≤ x ∧ x < 4294967296 := h x (List.mem_cons_self ..)
theorem Dg.cons {x : Int} {r : List Int} (hx : 0 ≤ x ∧ x < 4294967296) (h : Dg r) : Dg (x :: r) := fun y hy => by
  rcases Q22 hy with rfl | hy
  · exact hx
  · exact h y hy
theorem Dg.app {a b : List Int} (ha : Dg a) (hb : Dg b) : Dg (a ++ b) := fun y hy => by
  rcases List.mem_append.1 hy with hy | hy
  · exact ha y hy
  · exact hb y hy
theorem Dg.one {x : Int} (hx : 0 ≤ x ∧ x < 4294967296) : Dg [x] := .cons hx .nil
theorem Dg.take {a : List Int} (h : Dg a) (n : Nat) : Dg (a.take n) := fun y hy => h y (List.mem_of_mem_take hy)
theorem Dg.at_ {a : List Int} (h : Dg a) (n : Nat) : 0 ≤ a.getD n default ∧ a.getD n default < 4294967296 := by
  rw [Q1]
  cases e : a[n]? with
  | none => exact ⟨by decide, by decide⟩
  | some x => exact h x (List.mem_of_getElem? e)
theorem Dg.set {a : List Int} (h : Dg a) (n : Nat) {x : Int} (hx : 0 ≤ x ∧ x < 4294967296) : Dg (a.set n x) := fun y hy => by
  rcases List.mem_or_eq_of_mem_set hy with hy | rfl
  · exact h y hy
  · exact hx
theorem lI : ∀ {a : List Int}, Dg a → 0 ≤ aA a
  | [], _ => Int.le_refl _
  | x :: r, h => by have := h.head; have := lI h.tail; unfold aA; omega
def pw (n : Nat) : Int := 4294967296 ^ n
theorem dL (n : Nat) : pw (n + 1) = 4294967296 * pw n := by unfold pw; rw [Int.pow_succ, Int.mul_comm]
theorem dE (n : Nat) : 0 < pw n := by unfold pw; exact Int.pow_pos (by decide)
theorem jZ (m n : Nat) : pw (m + n) = pw m * pw n := by unfold pw; exact Int.pow_add ..
theorem jJ : ∀ {a : List Int}, Dg a → aA a < pw a.length
  | [], _ => by show (0 : Int) < pw 0; exact dE 0
  | x :: r, h => by
    have h1 := h.head
    have h2 := jJ h.tail
    unfold aA
    rw [List.length_cons, dL]
    omega
theorem iO : ∀ (a b : List Int), aA (a ++ b) = aA a + pw a.length * aA b
  | [], b => by
    show aA b = 0 + pw 0 * aA b
    have : pw 0 = 1 := rfl
    rw [this]; omega
  | x :: a, b => by
    show x + 4294967296 * aA (a ++ b) = (x + 4294967296 * aA a) + pw (a.length + 1) * aA b
    rw [iO a b, dL, Int.mul_add, Int.mul_assoc]
    omega
theorem iN (x : Int) : aA [x] = x := by unfold aA; unfold aA; omega
theorem lH (a : List Int) (x : Int) : aA (a ++ [x]) = aA a + pw a.length * x := by rw [iO, iN]
theorem lM {a : List Int} {n : Nat} (h : n < a.length) : a.take (n + 1) = a.take n ++ [a.getD n default] := by
  rw [List.take_add_one, Q0 h, Q1, Q0 h]; rfl
theorem dn {a : List Int} {n : Nat} (h : n < a.length) : aA (a.take (n + 1)) = aA (a.take n) + pw n * a.getD n default := by
  rw [lM h, lH, Q10, Nat.min_eq_left (by omega)]
theorem Nrm.snoc : ∀ {a : List Int} {x : Int}, x ≠ 0 → Nrm (a ++ [x])
  | [], _, h => h
  | [_], _, h => h
  | _ :: y :: r, _, h => Nrm.snoc (a := y :: r) h
theorem pg (a : List Int) : ∀ n, n ≤ a.length → aA (a.take (mJ a n)) = aA (a.take n) ∧ Nrm (a.take (mJ a n))
  | 0, _ => ⟨rfl, trivial⟩
  | n + 1, h => by
    obtain ⟨h1, h2⟩ := pg a n (by omega)
    unfold mJ
    by_cases e : a.getD n default = 0
    · rw [if_pos e]
      refine ⟨?_, h2⟩
      rw [h1, dn (by omega), e]; omega
    · rw [if_neg e]
      refine ⟨rfl, ?_⟩
      rw [lM (by omega)]
      exact Nrm.snoc e
theorem rB (a : List Int) : aA (fB a) = aA a := by
  unfold fB
  rw [(pg a a.length (Q4 _)).1, List.take_length]
theorem rC (a : List Int) : Nrm (fB a) := (pg a a.length (Q4 _)).2
theorem norm_dg {a : List Int} (h : Dg a) : Dg (fB a) := h.take _
theorem Nrm.tail : ∀ {x : Int} {r : List Int}, Nrm (x :: r) → Nrm r
  | _, [], _ => trivial
  | _, _ :: _, h => h
theorem nrm_0 : ∀ {a : List Int}, Dg a → Nrm a → aA a = 0 → a = []
  | [], _, _, _ => rfl
  | x :: r, h, hn, h0 => by
    have h1 := h.head
    have h2 := lI h.tail
    unfold aA at h0
    have h3 : aA r = 0 := by omega
    have := nrm_0 h.tail hn.tail h3
    subst this
    have hn : x ≠ 0 := hn
    omega
theorem oC : ∀ {a b : List Int}, Dg a → Dg b → Nrm a → Nrm b → aA a = aA b → a = b
  | [], b, _, hb, _, nb, e => (nrm_0 hb nb e.symm).symm
  | x :: r, [], ha, _, na, _, e => nrm_0 ha na e
  | x :: r, y :: s, ha, hb, na, nb, e => by
    have h1 := ha.head
    have h2 := hb.head
    unfold aA at e
    have h3 : x = y := by omega
    have h4 : aA r = aA s := by omega
    rw [h3, oC ha.tail hb.tail na.tail nb.tail h4]
theorem oB : ∀ {a : List Int}, Dg a → Nrm a → a ≠ [] → pw (a.length - 1) ≤ aA a
  | [], _, _, h => absurd rfl h
  | [x], h, hn, _ => by
    have := h.head
    have hn : x ≠ 0 := hn
    rw [iN]
    show pw 0 ≤ x
    have : pw 0 = 1 := rfl
    omega
  | x :: y :: r, h, hn, _ => by
    have h1 := h.head
    have h2 := oB h.tail hn.tail (by simp)
    have e : (x :: y :: r).length - 1 = ((y :: r).length - 1) + 1 := by simp
    rw [e, dL]
    have : aA (x :: y :: r) = x + 4294967296 * aA (y :: r) := rfl
    omega
theorem sR {a b : List Int} (ha : Dg a) (hb : Dg b) (nb : Nrm b) (h : a.length < b.length) : aA a < aA b := by
  have h1 := jJ ha
  have h2 := oB hb nb (by intro e; subst e; simp at h)
  have h3 : pw a.length ≤ pw (b.length - 1) := by
    obtain ⟨k, hk⟩ : ∃ k, b.length - 1 = a.length + k := ⟨b.length - 1 - a.length, by omega⟩
    rw [hk, jZ]
    have := dE a.length
    have hk := dE k
    have : pw a.length * 1 ≤ pw a.length * pw k := Int.mul_le_mul_of_nonneg_left (by omega) (by omega)
    omega
  omega
def natF : Nat → Int → List Int
  | 0, _ => []
  | f + 1, n => if n = 0 then [] else n % 4294967296 :: natF f (n / 4294967296)
theorem oD : ∀ (f : Nat) (n : Int), 0 ≤ n → n < pw f → Dg (natF f n) ∧ Nrm (natF f n) ∧ aA (natF f n) = n
  | 0, n, h0, h1 => by
    have : pw 0 = 1 := rfl
    exact ⟨.nil, trivial, by show (0 : Int) = n; omega⟩
  | f + 1, n, h0, h1 => by
    unfold natF
    by_cases e : n = 0
    · rw [if_pos e]; exact ⟨.nil, trivial, by show (0 : Int) = n; omega⟩
    · rw [if_neg e]
      rw [dL] at h1
      obtain ⟨g1, g2, g3⟩ := oD f (n / 4294967296) (by omega) (by omega)
      refine ⟨.cons (by omega) g1, ?_, by unfold aA; rw [g3]; omega⟩
      cases hr : natF f (n / 4294967296) with
      | nil =>
        rw [hr] at g3
        have g3 : (0 : Int) = n / 4294967296 := g3
        show n % 4294967296 ≠ 0
        omega
      | cons y r => rw [hr] at g2; exact g2
def gO (n : Int) : List Int := natF 8 n
@[reducible] def big : Int := 115792089237316195423570985008687907853269984665640564039457584007913129639936
theorem cQ {n : Int} (h0 : 0 ≤ n) (h1 : n < big) : Dg (gO n) ∧ Nrm (gO n) ∧ aA (gO n) = n := oD 8 n h0 (by have : pw 8 = big := (by decide +kernel); omega)
theorem mc {a : List Int} (h : Dg a) (h1 : aA a < big) : fB a = gO (aA a) := by
  obtain ⟨g1, g2, g3⟩ := cQ (lI h) h1
  exact oC (norm_dg h) g1 (rC a) g2 (by rw [rB, g3])
theorem pQ {n : Int} (h0 : 0 ≤ n) (h1 : n < 18446744073709551616) : jH n = gO n := by
  obtain ⟨g1, g2, g3⟩ := cQ h0 (show n < big by unfold big; omega)
  refine (oC g1 ?_ g2 ?_ ?_).symm
  · unfold jH
    split
    · exact .nil
    · split
      · exact .one (by omega)
      · exact .cons (by omega) (.one (by omega))
  · unfold jH
    split
    · trivial
    · split
      · show n % 4294967296 ≠ 0; omega
      · show n / 4294967296 ≠ 0; omega
  · rw [g3]
    unfold jH
    split
    · show n = 0; omega
    · split
      · rw [iN]; omega
      · show n = n % 4294967296 + 4294967296 * aA [n / 4294967296]
        rw [iN]; omega
theorem sA {a b : List Int} (ha : Dg a) (hb : Dg b) {i : Nat} (hi : i < a.length) (hl : a.length = b.length) (he : ∀ j, i < j → j < a.length → a.getD j default = b.getD j default) (hlt : a.getD i default < b.getD i default) : aA a < aA b := by
  have hd : a.drop (i + 1) = b.drop (i + 1) := by
    refine List.ext_getElem (by simp [hl]) fun j h1 h2 => ?_
    rw [List.length_drop] at h1
    have := he (i + 1 + j) (by omega) (by omega)
    rw [Q1, Q1, Q0 (by omega), Q0 (by omega)] at this
    simpa using this
  have e1 : aA a = aA (a.take (i + 1)) + pw (i + 1) * aA (a.drop (i + 1)) := by
    have := iO (a.take (i + 1)) (a.drop (i + 1))
    rw [List.take_append_drop, Q10, Nat.min_eq_left (by omega)] at this
    exact this
  have e2 : aA b = aA (b.take (i + 1)) + pw (i + 1) * aA (a.drop (i + 1)) := by
    have := iO (b.take (i + 1)) (b.drop (i + 1))
    rw [List.take_append_drop, Q10, Nat.min_eq_left (by omega), ← hd] at this
    exact this
  rw [dn hi] at e1
  rw [dn (by omega)] at e2
  have h1 := jJ (ha.take i)
  rw [Q10, Nat.min_eq_left (by omega)] at h1
  have h2 := lI (hb.take i)
  have h3 : pw i * (a.getD i default + 1) ≤ pw i * b.getD i default := Int.mul_le_mul_of_nonneg_left (by omega) (Int.le_of_lt (dE i))
  rw [Int.mul_add, Int.mul_one] at h3
  omega
theorem kY : ∀ {c : List Int} {k : Nat} (x : Int), k < c.length → aA (c.set k x) = aA c + pw k * (x - c.getD k default)
  | y :: c, 0, x, _ => by
    show x + 4294967296 * aA c = (y + 4294967296 * aA c) + pw 0 * (x - y)
    have : pw 0 = 1 := rfl
    rw [this]; omega
  | y :: c, k + 1, x, h => by
    show y + 4294967296 * aA (c.set k x) = (y + 4294967296 * aA c) + pw (k + 1) * (x - c.getD k default)
    rw [kY x (by simpa using h), dL, Int.mul_add, Int.mul_assoc]
    omega
theorem lG (a : List Int) (i : Nat) : aA (a.take (i + 1)) = aA (a.take i) + pw i * (if i < a.length then a.getD i default else 0) := by
  by_cases h : i < a.length
  · rw [if_pos h, dn h]
  · rw [if_neg h, Q21 (by omega), Q21 (by omega)]; omega
theorem nW (s : Int) : s % 4294967296 + 4294967296 * (s / 4294967296) = s := by omega
theorem ot {a b c : List Int} {i : Nat} {carry s x y : Int} (hc : c.length = i) (h : aA c + carry * pw i = aA (a.take i) + aA (b.take i)) (hx : x = if i < a.length then a.getD i default else 0) (hy : y = if i < b.length then b.getD i default else 0) (hs : s = carry + x + y) :
    aA (c ++ [s % 4294967296]) + s / 4294967296 * pw (i + 1) = aA (a.take (i + 1)) + aA (b.take (i + 1)) := by
  rw [lG, lG, ← hx, ← hy, lH, hc, dL]
  have e1 : s / 4294967296 * (4294967296 * pw i) = pw i * (4294967296 * (s / 4294967296)) := by
    rw [Int.mul_comm (s / 4294967296), Int.mul_comm 4294967296 (pw i), Int.mul_assoc]
  have e2 : pw i * (s % 4294967296) + pw i * (4294967296 * (s / 4294967296)) = pw i * s := by rw [← Int.mul_add, nW]
  have e3 : pw i * s = carry * pw i + pw i * x + pw i * y := by rw [hs, Int.mul_add, Int.mul_add, Int.mul_comm carry]
  omega
theorem m5 {b c : List Int} {i j : Nat} {p q carry s : Int} (hj : j < b.length) (hk : i + j < c.length) (h : aA c + carry * pw (i + j) = p + q * aA (b.take j) * pw i) (hs : s = carry + (q * b.getD j default + c.getD (i + j) default)) :
    aA (c.set (i + j) (s % 4294967296)) + s / 4294967296 * pw (i + (j + 1)) = p + q * aA (b.take (j + 1)) * pw i := by
  rw [kY _ hk, dn hj, ← Nat.add_assoc, dL]
  have e1 : s / 4294967296 * (4294967296 * pw (i + j)) = pw (i + j) * (4294967296 * (s / 4294967296)) := by
    rw [Int.mul_comm (s / 4294967296), Int.mul_comm 4294967296 (pw (i + j)), Int.mul_assoc]
  have e2 : pw (i + j) * (s % 4294967296) + pw (i + j) * (4294967296 * (s / 4294967296)) = pw (i + j) * s := by rw [← Int.mul_add, nW]
  have e3 : pw (i + j) * s = carry * pw (i + j) + pw (i + j) * (q * b.getD j default) + pw (i + j) * c.getD (i + j) default := by rw [hs, Int.mul_add, Int.mul_add, Int.mul_comm carry]; omega
  have e4 : pw (i + j) * (s % 4294967296 - c.getD (i + j) default) = pw (i + j) * (s % 4294967296) - pw (i + j) * c.getD (i + j) default := Int.mul_sub ..
  have e5 : q * (aA (b.take j) + pw j * b.getD j default) * pw i = q * aA (b.take j) * pw i + pw (i + j) * (q * b.getD j default) := by
    rw [Int.mul_add, Int.add_mul, jZ]
    congr 1
    rw [Int.mul_left_comm q (pw j), Int.mul_comm (pw j * (q * b.getD j default)) (pw i), ← Int.mul_assoc]
  omega
theorem nQ {a b c : List Int} {i : Nat} {carry : Int} (hi : i < a.length) (hk : i + b.length < c.length) (h0 : c.getD (i + b.length) default = 0) (h : aA c + carry * pw (i + b.length) = aA (a.take i) * aA b + a.getD i default * aA b * pw i) :
    aA (c.set (i + b.length) (c.getD (i + b.length) default + carry)) = aA (a.take (i + 1)) * aA b := by
  rw [kY _ hk, h0, dn hi, Int.add_mul]
  have e1 : pw i * a.getD i default * aA b = a.getD i default * aA b * pw i := by rw [Int.mul_comm (pw i), Int.mul_right_comm]
  rw [e1, Int.zero_add, Int.sub_zero, Int.mul_comm (pw _) carry]
  exact h
def sb (x y : Int) : Int := if x < y then -1 else if y < x then 1 else 0
theorem all_eq {a b : List Int} (hl : a.length = b.length) (h : ∀ j, j < a.length → a.getD j default = b.getD j default) : a = b := by
  refine List.ext_getElem hl fun j h1 h2 => ?_
  have := h j h1
  rw [Q1, Q1, Q0 h1, Q0 h2] at this
  simpa using this
theorem fR (zs : List Int) (t : Int) : ∀ k, k < zs.length + 1 → cq zs.length (fun i => ar IntKind.u64 (zs.getD i default)) (fun i => bR [D.val (.int .u64 t)] 1 (0 + i)) k = ar .u64 ((zs ++ [t]).getD k default) := fun k hk => by
  simp only [cq]
  by_cases e : k < zs.length
  · rw [if_pos e, Q1, Q1, Q11 e]
  · rw [if_neg e]
    obtain rfl : k = zs.length := by omega
    have : (zs ++ [t]).getD zs.length default = t := by simp
    rw [Nat.sub_self, this]; rfl
structure nz (a b : List Int) (i : Nat) (c : List Int) (carry : Int) : Prop where
  len : c.length = i
  dg : Dg c
  cr : 0 ≤ carry ∧ carry ≤ 1
  val : aA c + carry * pw i = aA (a.take i) + aA (b.take i)
  hi : i ≤ max a.length b.length + 1
  last : i = max a.length b.length + 1 → carry = 0
theorem nz.next {a b c : List Int} {i : Nat} {carry s x y : Int} (ha : Dg a) (hb : Dg b) (h : nz a b i c carry) (hx : x = if i < a.length then a.getD i default else 0) (hy : y = if i < b.length then b.getD i default else 0) (hs : s = carry + x + y) (hgo : i < a.length ∨ i < b.length ∨ 0 < carry) : nz a b (i + 1) (c ++ [s % 4294967296]) (s / 4294967296) := by
  have hxb : 0 ≤ x ∧ x < 4294967296 := by rw [hx]; split; · exact ha.at_ i
                                          · omega
  have hyb : 0 ≤ y ∧ y < 4294967296 := by rw [hy]; split; · exact hb.at_ i
                                          · omega
  have hcr := h.cr
  have hhi := h.hi
  have hla := h.last
  have hlt : i < max a.length b.length + 1 := by
    rcases hgo with h9 | h9 | h9
    · omega
    · omega
    · exact Nat.lt_of_le_of_ne hhi fun e => by have := hla e; omega
  refine ⟨by rw [Q9, h.len]; rfl, h.dg.app (.one (by omega)), by omega, ot h.len h.val hx hy hs, by omega, fun e => ?_⟩
  have e9 : i = max a.length b.length := by omega
  rw [if_neg (by omega)] at hx hy
  omega
theorem nz.done {a b c : List Int} {i : Nat} {carry : Int} (ha : Dg a) (hb : Dg b) (hl : a.length ≤ 6 ∧ b.length ≤ 6) (h : nz a b i c carry) (h1 : a.length ≤ i) (h2 : b.length ≤ i) (h3 : carry = 0) : fB c = gO (aA a + aA b) ∧ aA c = aA a + aA b := by
  have hv := h.val
  rw [h3, Q21 h1, Q21 h2, Int.zero_mul, Int.add_zero] at hv
  refine ⟨?_, hv⟩
  rw [← hv]
  refine mc h.dg ?_
  have g1 := jJ h.dg
  have g2 : pw c.length ≤ pw 7 := by
    have hc : c.length ≤ 7 := by have := h.len; have := h.hi; omega
    obtain ⟨k, hk⟩ : ∃ k, 7 = c.length + k := ⟨7 - c.length, by omega⟩
    rw [hk, jZ]
    have := dE c.length
    have hk := dE k
    have : pw c.length * 1 ≤ pw c.length * pw k := Int.mul_le_mul_of_nonneg_left (by omega) (by omega)
    omega
  have g3 : pw 7 < big := by decide +kernel
  omega
theorem r1_Plus {a b : List Int} (ha : Dg a) (hb : Dg b) (hl : a.length ≤ 6 ∧ b.length ≤ 6) : Pure TC 85 [.d (ak 1 (ar .u64) a), .d (ak 1 (ar .u64) b)] (.d (ak 1 (ar .u64) (gO (aA a + aA b)))) := by
  refine Pure.mk' Tryz.func85 rfl rfl (zzb rfl) ?_
  (repeat' (first
    | with_reducible refine Wp.seq ?_
    | with_reducible refine Wp.block ?_
    | ((with_reducible first | refine Wp.region ?_ | refine Wp.drawL ac ?_ | refine Wp.cond ?_ | refine Wp.ret ?_ | refine Wp.skip ?_ | refine Wp.exit ?_ | refine Go.mk ?_ | apply ao.of); conv => whnf)
    | with_reducible exact rfl
    | ((with_reducible refine Ov.ok zO ?_); conv => whnf)
    | (with_reducible refine Ov.sh1 (by with_unfolding_all exact rfl) ?_)
    | ((with_reducible refine Ov.quo (by omega) (by omega) (by omega) (fun _ _ => ?_)); conv => whnf)
    | ((with_reducible refine And.intro (show ah _ _ _ _ = true by kernel_rfl) ?_); conv => whnf)
    | ((with_reducible refine And.intro zC ?_); conv => whnf)
    | ((with_reducible refine And.intro ?hb ?_); (case hb => exact ae (zzb rfl) (by omega)); (conv => whnf))
    | ((refine af.a rfl rfl rfl rfl rfl rfl ?hb ?_); (case hb => exact zB); (conv => whnf))
    | ((refine af.b rfl rfl rfl rfl rfl rfl rfl rfl ?hb ?ho ?_); (case hb => exact zB); (case ho => omega); (conv => whnf))
    | ((refine af.c rfl rfl rfl rfl rfl ?hb ?_); (case hb => exact zB); (conv => whnf))
    | ((refine af.d rfl rfl rfl rfl rfl rfl ?hb ?ho ?_); (case hb => exact zB); (case ho => omega); (conv => whnf))
    | (with_reducible refine Or.inl ?_)
    | ((with_reducible refine IxA.ptr ?_); conv => whnf)
    | ((with_reducible refine nil_no (by omega) ?_); (conv => whnf))
    | ((with_reducible refine ag ?_ (fun hn0 => ?_)) <;> (conv => whnf))
    
    | ((refine ap (fun hc => ?_) (fun hc => ?_)) <;> (try simp only [decide_eq_true_eq, decide_eq_false_iff_not, Q5, Q20, Bool.and_eq_false_iff, Bool.or_eq_false_iff, Bool.not_eq_true', Bool.not_eq_false', beq_iff_eq, bne_iff_ne, ne_eq, beq_eq_false_iff_ne, bne_eq_false_iff_eq, Bool.not_eq_true, Bool.not_eq_false] at hc) <;> (try (exfalso; omega)) <;> (conv => whnf))))
  refine Wp.le (Le.virt 5 151 1 (fun i => ar .u64 (([] : List Int).getD i default)) (by decide) rfl) ?_
  refine Wp.loopP (ι := Nat × List Int × Int) (fun k => nz a b k.1 k.2.1 k.2.2) (fun k => ⟨⟨Tryz.f85.ntmps, 0⟩, 1, [(0, .d (ak 1 (ar .u64) a)), (1, .d (ak 1 (ar .u64) b)), (5, .sl 0 1 0 k.2.1.length), (6, .i .u64 k.2.2), (7, .i .i64 k.1)], [(0, some (aN 151 1 (ar .u64) k.2.1))]⟩) (fun k => 8 - k.1) (0, [], 0) ⟨rfl, .nil, by dsimp only; omega, by simp [aA], by dsimp only; omega, fun _ => rfl⟩ ?_ ?_
  · (refine Le.by [0] rfl rfl rfl rfl ?_ ?_ <;> (conv => whnf) <;> (repeat' (first | exact trivial | exact aa.rfl rfl | exact aa.ptr rfl | exact aa.sl rfl | ((with_reducible refine aa.fn ?_); (conv => whnf)) | ((refine aa.iref ?_); (conv => whnf)) | exact ⟨rfl, rfl, rfl⟩ | exact fun i hi => rfl | ((with_reducible refine And.intro ?_ ?_) <;> (conv => whnf)))))
  · rintro ⟨i, c, carry⟩ hI
    dsimp only at hI ⊢
    have h1 := hI.cr
    have h2 := hI.hi
    have h3 := hI.len
    have h4 := ha.at_ (i : Int).toNat
    have h5 := hb.at_ (i : Int).toNat
    have hD := fun (h : a.length ≤ i) (h' : b.length ≤ i) (h'' : carry = 0) => (hI.done ha hb hl h h' h'').1
    have hN := om c
    have td := fun (s : Int) (h : 0 ≤ s) => Int.tdiv_eq_ediv_of_nonneg (b := 4294967296) h
    have tm := fun (s : Int) (h : 0 ≤ s) => Q6 (b := 4294967296) h
    have t1 := td (carry + a.getD (i : Int).toNat default + b.getD (i : Int).toNat default) (by omega)
    have t2 := td (carry + a.getD (i : Int).toNat default) (by omega)
    have t3 := td (carry + b.getD (i : Int).toNat default) (by omega)
    have t4 := td carry (by omega)
    have m1 := tm (carry + a.getD (i : Int).toNat default + b.getD (i : Int).toNat default) (by omega)
    have m2 := tm (carry + a.getD (i : Int).toNat default) (by omega)
    have m3 := tm (carry + b.getD (i : Int).toNat default) (by omega)
    have m4 := tm carry (by omega)
    clear td tm
    (repeat' (first
    | with_reducible refine Wp.seq ?_
    | with_reducible refine Wp.block ?_
    | ((with_reducible first | refine Wp.region ?_ | refine Wp.drawL ac ?_ | refine Wp.cond ?_ | refine Wp.ret ?_ | refine Wp.skip ?_ | refine Wp.exit ?_ | refine Go.mk ?_ | apply ao.of); conv => whnf)
    | with_reducible exact rfl
    | ((with_reducible refine Ov.ok zO ?_); conv => whnf)
    | (with_reducible refine Ov.sh1 (by with_unfolding_all exact rfl) ?_)
    | ((with_reducible refine Ov.quo (by omega) (by omega) (by omega) (fun _ _ => ?_)); conv => whnf)
    | ((with_reducible refine And.intro (show ah _ _ _ _ = true by kernel_rfl) ?_); conv => whnf)
    | ((with_reducible refine And.intro zC ?_); conv => whnf)
    | ((with_reducible refine And.intro ?hb ?_); (case hb => exact ae (zzb rfl) (by omega)); (conv => whnf))
    | ((refine af.a rfl rfl rfl rfl rfl rfl ?hb ?_); (case hb => exact zB); (conv => whnf))
    | ((refine af.b rfl rfl rfl rfl rfl rfl rfl rfl ?hb ?ho ?_); (case hb => exact zB); (case ho => omega); (conv => whnf))
    | ((refine af.c rfl rfl rfl rfl rfl ?hb ?_); (case hb => exact zB); (conv => whnf))
    | ((refine af.d rfl rfl rfl rfl rfl rfl ?hb ?ho ?_); (case hb => exact zB); (case ho => omega); (conv => whnf))
    | (with_reducible refine Or.inl ?_)
    | ((with_reducible refine IxA.ptr ?_); conv => whnf)
    | ((with_reducible refine nil_no (by omega) ?_); (conv => whnf))
    | ((with_reducible refine ag ?_ (fun hn0 => ?_)) <;> (conv => whnf))
    | ((with_reducible refine ab.pureI hN rfl ?_); (conv => whnf); (refine And.intro (by omega) ?_); (refine And.intro (.cons (lU rfl fun i hi => by simp only [Q19]) .nil) ?_); (conv => whnf))
    | ((refine ap (fun hc => ?_) (fun hc => ?_)) <;> (try simp only [decide_eq_true_eq, decide_eq_false_iff_not, Q5, Q20, Bool.and_eq_false_iff, Bool.or_eq_false_iff, Bool.not_eq_true', Bool.not_eq_false', beq_iff_eq, bne_iff_ne, ne_eq, beq_eq_false_iff_ne, bne_eq_false_iff_eq, Bool.not_eq_true, Bool.not_eq_false] at hc) <;> (try (exfalso; omega)) <;> (conv => whnf))))
    · refine ⟨(i + 1, c ++ [(carry + a.getD (i : Int).toNat default + b.getD (i : Int).toNat default) % 4294967296], (carry + a.getD (i : Int).toNat default + b.getD (i : Int).toNat default) / 4294967296), ?_, by dsimp only; omega, ?_⟩
      · rw [Q13]
        exact hI.next ha hb (x := a.getD i default) (y := b.getD i default) (by rw [if_pos (by omega)]) (by rw [if_pos (by omega)]) rfl (by omega)
      · dsimp only
        rw [← t1, ← m1]
        (refine Le.by [2] rfl rfl rfl rfl ?_ ?_ <;> (conv => whnf) <;> (repeat' (first | exact trivial | exact aa.rfl rfl | exact aa.ptr rfl | exact aa.sl rfl | ((with_reducible refine aa.fn ?_); (conv => whnf)) | ((refine aa.iref ?_); (conv => whnf)) | exact ⟨rfl, rfl, rfl⟩ | exact fun i hi => rfl | ((with_reducible refine And.intro ?_ ?_) <;> (conv => whnf)))))
        all_goals first
          | (rw [Q9]; exact aa.sl rfl)
          | rfl
          | (rw [Q9]; rfl)
          | exact fR c _
    · refine ⟨(i + 1, c ++ [(carry + a.getD (i : Int).toNat default) % 4294967296], (carry + a.getD (i : Int).toNat default) / 4294967296), ?_, by dsimp only; omega, ?_⟩
      · rw [Q13]
        exact hI.next ha hb (x := a.getD i default) (y := 0) (by rw [if_pos (by omega)]) (by rw [if_neg (by omega)]) (by omega) (by omega)
      · dsimp only
        rw [← t2, ← m2]
        (refine Le.by [2] rfl rfl rfl rfl ?_ ?_ <;> (conv => whnf) <;> (repeat' (first | exact trivial | exact aa.rfl rfl | exact aa.ptr rfl | exact aa.sl rfl | ((with_reducible refine aa.fn ?_); (conv => whnf)) | ((refine aa.iref ?_); (conv => whnf)) | exact ⟨rfl, rfl, rfl⟩ | exact fun i hi => rfl | ((with_reducible refine And.intro ?_ ?_) <;> (conv => whnf)))))
        all_goals first
          | (rw [Q9]; exact aa.sl rfl)
          | rfl
          | (rw [Q9]; rfl)
          | exact fR c _
    · refine ⟨(i + 1, c ++ [(carry + b.getD (i : Int).toNat default) % 4294967296], (carry + b.getD (i : Int).toNat default) / 4294967296), ?_, by dsimp only; omega, ?_⟩
      · rw [Q13]
        exact hI.next ha hb (x := 0) (y := b.getD i default) (by rw [if_neg (by omega)]) (by rw [if_pos (by omega)]) (by omega) (by omega)
      · dsimp only
        rw [← t3, ← m3]
        (refine Le.by [2] rfl rfl rfl rfl ?_ ?_ <;> (conv => whnf) <;> (repeat' (first | exact trivial | exact aa.rfl rfl | exact aa.ptr rfl | exact aa.sl rfl | ((with_reducible refine aa.fn ?_); (conv => whnf)) | ((refine aa.iref ?_); (conv => whnf)) | exact ⟨rfl, rfl, rfl⟩ | exact fun i hi => rfl | ((with_reducible refine And.intro ?_ ?_) <;> (conv => whnf)))))
        all_goals first
          | (rw [Q9]; exact aa.sl rfl)
          | rfl
          | (rw [Q9]; rfl)
          | exact fR c _
    · refine ⟨(i + 1, c ++ [carry % 4294967296], carry / 4294967296), ?_, by dsimp only; omega, ?_⟩
      · exact hI.next ha hb (x := 0) (y := 0) (by rw [if_neg (by omega)]) (by rw [if_neg (by omega)]) (by omega) (by omega)
      · dsimp only
        rw [← t4, ← m4]
        (refine Le.by [2] rfl rfl rfl rfl ?_ ?_ <;> (conv => whnf) <;> (repeat' (first | exact trivial | exact aa.rfl rfl | exact aa.ptr rfl | exact aa.sl rfl | ((with_reducible refine aa.fn ?_); (conv => whnf)) | ((refine aa.iref ?_); (conv => whnf)) | exact ⟨rfl, rfl, rfl⟩ | exact fun i hi => rfl | ((with_reducible refine And.intro ?_ ?_) <;> (conv => whnf)))))
        all_goals first
          | (rw [Q9]; exact aa.sl rfl)
          | rfl
          | (rw [Q9]; rfl)
          | exact fR c _
    · rw [hD (by omega) (by omega) (by omega)]; exact .rfl _
structure fy (a b : List Int) (i : Nat) (c : List Int) : Prop where
  len : c.length = a.length + b.length
  dg : Dg c
  val : aA c = aA (a.take i) * aA b
  tail : ∀ k, i + b.length ≤ k → c.getD k default = 0
structure gM (a b : List Int) (i j : Nat) (c : List Int) (carry : Int) : Prop where
  len : c.length = a.length + b.length
  dg : Dg c
  cr : 0 ≤ carry ∧ carry < 4294967296
  val : aA c + carry * pw (i + j) = aA (a.take i) * aA b + a.getD i default * aA (b.take j) * pw i
  tail : ∀ k, i + b.length ≤ k → c.getD k default = 0
theorem jp (c : List Int) (k : Nat) (x : Int) (j : Nat) (hk : k < c.length) : (c.set k x).getD j default = if j = k then x else c.getD j default := by
  rw [Q1, Q1, List.getElem?_set]
  by_cases h : k = j
  · subst h; rw [if_pos rfl, if_pos rfl, if_pos hk]; rfl
  · rw [if_neg h, if_neg (fun e => h e.symm)]
theorem sO {x y : Int} (hx : 0 ≤ x ∧ x < 4294967296) (hy : 0 ≤ y ∧ y < 4294967296) : 0 ≤ x * y ∧ x * y ≤ 18446744065119617025 := by
  refine ⟨Int.mul_nonneg hx.1 hy.1, ?_⟩
  have h1 : x * y ≤ 4294967295 * y := Int.mul_le_mul_of_nonneg_right (by omega) hy.1
  omega
theorem fy.start {a b c : List Int} {i : Nat} (h : fy a b i c) : gM a b i 0 c 0 := ⟨h.len, h.dg, by omega, by rw [h.val]; simp [aA], h.tail⟩
theorem gM.next {a b c : List Int} {i j : Nat} {carry s : Int} (ha : Dg a) (hb : Dg b) (hi : i < a.length) (hj : j < b.length) (h : gM a b i j c carry) (hs : s = carry + (a.getD i default * b.getD j default + c.getD (i + j) default)) : gM a b i (j + 1) (c.set (i + j) (s % 4294967296)) (s / 4294967296) := by
  have hl := h.len
  have h1 := sO (ha.at_ i) (hb.at_ j)
  have h2 := h.dg.at_ (i + j)
  have h3 := h.cr
  refine ⟨by rw [List.length_set]; exact h.len, h.dg.set _ (by omega), by omega, m5 hj (by omega) h.val hs, fun k hk => ?_⟩
  rw [jp _ _ _ _ (by omega), if_neg (by omega)]
  exact h.tail k hk
theorem gM.done {a b c : List Int} {i : Nat} {carry : Int} (hi : i < a.length) (h : gM a b i b.length c carry) : fy a b (i + 1) (c.set (i + b.length) (c.getD (i + b.length) default + carry)) := by
  have hl := h.len
  have h0 := h.tail (i + b.length) (Q4 _)
  have h3 := h.cr
  have hv := h.val
  rw [Q21 (Q4 _)] at hv
  refine ⟨by rw [List.length_set]; exact h.len, h.dg.set _ (by omega), nQ hi (by omega) h0 hv, fun k hk => ?_⟩
  rw [jp _ _ _ _ (by omega), if_neg (by omega)]
  exact h.tail k (by omega)
theorem fy.fin {a b c : List Int} (hl : a.length ≤ 3 ∧ b.length ≤ 3) (h : fy a b a.length c) : fB c = gO (aA a * aA b) := by
  have hv := h.val
  rw [Q21 (Q4 _)] at hv
  rw [← hv]
  refine mc h.dg ?_
  have g1 := jJ h.dg
  have g2 : pw c.length ≤ pw 7 := by
    have hc : c.length ≤ 7 := by have := h.len; omega
    obtain ⟨k, hk⟩ : ∃ k, 7 = c.length + k := ⟨7 - c.length, by omega⟩
    rw [hk, jZ]
    have := dE c.length
    have hk := dE k
    have : pw c.length * 1 ≤ pw c.length * pw k := Int.mul_le_mul_of_nonneg_left (by omega) (by omega)
    omega
  have g3 : pw 7 < big := by decide +kernel
  omega
theorem fy.zero (a b : List Int) : fy a b 0 (List.replicate (a.length + b.length) 0) := by
  have hz : ∀ n, aA (List.replicate n 0) = 0 := fun n => by
    induction n with
    | zero => rfl
    | succ n ih => rw [List.replicate_succ]; show (0 : Int) + 4294967296 * aA (List.replicate n 0) = 0; rw [ih]; rfl
  refine ⟨by simp, fun x hx => by rw [List.eq_of_mem_replicate hx]; omega, by rw [hz]; simp [aA], fun k _ => ?_⟩
  rw [Q1, List.getElem?_replicate]
  split <;> rfl
theorem lV {d : List Int} {k : Nat} (v : Int) (hk : k < d.length) (q : Nat) : (if q = k then [D.val (.int .u64 v)] else ar .u64 (d.getD q default)) = ar .u64 ((d.set k v).getD q default) := by
  rw [jp _ _ _ _ hk]
  split <;> rfl
theorem rq {a b : List Int} (ha : Dg a) (hb : Dg b) (hl : a.length ≤ 3 ∧ b.length ≤ 3) : Pure TC 86 [.d (ak 1 (ar .u64) a), .d (ak 1 (ar .u64) b)] (.d (ak 1 (ar .u64) (gO (aA a * aA b)))) := by
  refine Pure.mk' Tryz.func86 rfl rfl (zzb rfl) ?_
  (repeat' (first
    | with_reducible refine Wp.seq ?_
    | with_reducible refine Wp.block ?_
    | ((with_reducible first | refine Wp.region ?_ | refine Wp.drawL ac ?_ | refine Wp.cond ?_ | refine Wp.ret ?_ | refine Wp.skip ?_ | refine Wp.exit ?_ | refine Go.mk ?_ | apply ao.of); conv => whnf)
    | with_reducible exact rfl
    | ((with_reducible refine Ov.ok zO ?_); conv => whnf)
    | (with_reducible refine Ov.sh1 (by with_unfolding_all exact rfl) ?_)
    | ((with_reducible refine Ov.quo (by omega) (by omega) (by omega) (fun _ _ => ?_)); conv => whnf)
    | ((with_reducible refine And.intro (show ah _ _ _ _ = true by kernel_rfl) ?_); conv => whnf)
    | ((with_reducible refine And.intro zC ?_); conv => whnf)
    | ((with_reducible refine And.intro ?hb ?_); (case hb => exact ae (zzb rfl) (by omega)); (conv => whnf))
    | ((refine af.a rfl rfl rfl rfl rfl rfl ?hb ?_); (case hb => exact zB); (conv => whnf))
    | ((refine af.b rfl rfl rfl rfl rfl rfl rfl rfl ?hb ?ho ?_); (case hb => exact zB); (case ho => omega); (conv => whnf))
    | ((refine af.c rfl rfl rfl rfl rfl ?hb ?_); (case hb => exact zB); (conv => whnf))
    | ((refine af.d rfl rfl rfl rfl rfl rfl ?hb ?ho ?_); (case hb => exact zB); (case ho => omega); (conv => whnf))
    | (with_reducible refine Or.inl ?_)
    | ((with_reducible refine IxA.ptr ?_); conv => whnf)
    | ((with_reducible refine nil_no (by omega) ?_); (conv => whnf))
    | ((with_reducible refine ag ?_ (fun hn0 => ?_)) <;> (conv => whnf))
    
    | ((refine ap (fun hc => ?_) (fun hc => ?_)) <;> (try simp only [decide_eq_true_eq, decide_eq_false_iff_not, Q5, Q20, Bool.and_eq_false_iff, Bool.or_eq_false_iff, Bool.not_eq_true', Bool.not_eq_false', beq_iff_eq, bne_iff_ne, ne_eq, beq_eq_false_iff_ne, bne_eq_false_iff_eq, Bool.not_eq_true, Bool.not_eq_false] at hc) <;> (try (exfalso; omega)) <;> (conv => whnf))))
  refine Wp.loopP (ι := Nat × List Int) (fun k => k.1 ≤ a.length ∧ fy a b k.1 k.2) (fun k => ⟨⟨Tryz.f86.ntmps, 0⟩, 1, [(0, .d (ak 1 (ar .u64) a)), (1, .d (ak 1 (ar .u64) b)), (5, .sl 0 1 0 k.2.length), (16, .i .i64 a.length), (17, .i .i64 k.1)], [(0, some (aN 151 1 (ar .u64) k.2))]⟩) (fun k => a.length - k.1) (0, List.replicate (a.length + b.length) 0) ⟨Nat.zero_le _, .zero a b⟩ ?_ ?_
  · (refine Le.by [0] rfl rfl rfl rfl ?_ ?_ <;> ((conv => whnf); repeat' (first | exact trivial | exact law_argR (by decide) (fun l hl => by rcases l with _ | _ | _ | _ | l <;> first | exact ⟨zzb rfl, rfl⟩ | exact ⟨zzb rfl, rfl, rfl⟩ | omega) (fun q hq => by rcases q with _ | _ | _ | _ | _ | _ | _ | _ | _ | q <;> first | exact ⟨zzb rfl, rfl⟩ | omega) | exact law_argI (by decide) (by decide) (fun l hl => by rcases l with _ | _ | _ | _ | l <;> first | exact ⟨zzb rfl, rfl⟩ | exact ⟨zzb rfl, rfl, rfl⟩ | omega) (fun q hq => by rcases q with _ | _ | _ | _ | _ | _ | _ | _ | _ | q <;> first | exact ⟨zzb rfl, rfl⟩ | omega) | exact aa.rfl rfl | exact aa.ptr rfl | exact aa.sl rfl | exact aa.free SV.Le.any rfl | exact ⟨rfl, rfl, rfl⟩ | exact ⟨rfl, zzb rfl⟩ | exact x_argRA (by assumption) rfl | exact x_argA (by assumption) | exact fun i hi => rfl | exact aY _ _ | ((with_reducible refine And.intro ?_ ?_) <;> (conv => whnf)))))
    all_goals first
      | (rw [show ((a.length : Int) + (b.length : Int)).toNat = (List.replicate (a.length + b.length) (0 : Int)).length by rw [List.length_replicate]; omega]; exact aa.sl rfl)
      | rfl
      | (show _ = (List.replicate (a.length + b.length) (0 : Int)).length; rw [List.length_replicate]; omega)
      | (intro k hk
         dsimp only
         rw [Q1, List.getElem?_replicate]
         split <;> rfl)
  · rintro ⟨i, c⟩ ⟨hi, hI⟩
    dsimp only at hi hI ⊢
    have hlc := hI.len
    by_cases hlt : i < a.length
    · have hst := hI.start
      (repeat' (first
    | with_reducible refine Wp.seq ?_
    | with_reducible refine Wp.block ?_
    | ((with_reducible first | refine Wp.region ?_ | refine Wp.drawL ac ?_ | refine Wp.cond ?_ | refine Wp.ret ?_ | refine Wp.skip ?_ | refine Wp.exit ?_ | refine Go.mk ?_ | apply ao.of); conv => whnf)
    | with_reducible exact rfl
    | ((with_reducible refine Ov.ok zO ?_); conv => whnf)
    | (with_reducible refine Ov.sh1 (by with_unfolding_all exact rfl) ?_)
    | ((with_reducible refine Ov.quo (by omega) (by omega) (by omega) (fun _ _ => ?_)); conv => whnf)
    | ((with_reducible refine And.intro (show ah _ _ _ _ = true by kernel_rfl) ?_); conv => whnf)
    | ((with_reducible refine And.intro zC ?_); conv => whnf)
    | ((with_reducible refine And.intro ?hb ?_); (case hb => exact ae (zzb rfl) (by omega)); (conv => whnf))
    | ((refine af.a rfl rfl rfl rfl rfl rfl ?hb ?_); (case hb => exact zB); (conv => whnf))
    | ((refine af.b rfl rfl rfl rfl rfl rfl rfl rfl ?hb ?ho ?_); (case hb => exact zB); (case ho => omega); (conv => whnf))
    | ((refine af.c rfl rfl rfl rfl rfl ?hb ?_); (case hb => exact zB); (conv => whnf))
    | ((refine af.d rfl rfl rfl rfl rfl rfl ?hb ?ho ?_); (case hb => exact zB); (case ho => omega); (conv => whnf))
    | (with_reducible refine Or.inl ?_)
    | ((with_reducible refine IxA.ptr ?_); conv => whnf)
    | ((with_reducible refine nil_no (by omega) ?_); (conv => whnf))
    | ((with_reducible refine ag ?_ (fun hn0 => ?_)) <;> (conv => whnf))
    
    | ((refine ap (fun hc => ?_) (fun hc => ?_)) <;> (try simp only [decide_eq_true_eq, decide_eq_false_iff_not, Q5, Q20, Bool.and_eq_false_iff, Bool.or_eq_false_iff, Bool.not_eq_true', Bool.not_eq_false', beq_iff_eq, bne_iff_ne, ne_eq, beq_eq_false_iff_ne, bne_eq_false_iff_eq, Bool.not_eq_true, Bool.not_eq_false] at hc) <;> (try (exfalso; omega)) <;> (conv => whnf))))
      refine Wp.loopP (ι := Nat × List Int × Int) (fun k => k.1 ≤ b.length ∧ gM a b i k.1 k.2.1 k.2.2) (fun k => ⟨⟨Tryz.f86.ntmps, 0⟩, 1, [(0, .d (ak 1 (ar .u64) a)), (1, .d (ak 1 (ar .u64) b)), (5, .sl 0 1 0 k.2.1.length), (6, .i .i64 i), (7, .i .u64 k.2.2), (16, .i .i64 a.length), (17, .i .i64 i), (21, .i .i64 b.length), (22, .i .i64 k.1)], [(0, some (aN 151 1 (ar .u64) k.2.1))]⟩) (fun k => b.length - k.1) (0, c, 0) ⟨Nat.zero_le _, hst⟩ ?_ ?_
      · (refine Le.by [0] rfl rfl rfl rfl ?_ ?_ <;> (conv => whnf) <;> (repeat' (first | exact trivial | exact aa.rfl rfl | exact aa.ptr rfl | exact aa.sl rfl | ((with_reducible refine aa.fn ?_); (conv => whnf)) | ((refine aa.iref ?_); (conv => whnf)) | exact ⟨rfl, rfl, rfl⟩ | exact fun i hi => rfl | ((with_reducible refine And.intro ?_ ?_) <;> (conv => whnf)))))
      · rintro ⟨j, d, carry⟩ ⟨hj, hJ⟩
        dsimp only at hj hJ ⊢
        have hld := hJ.len
        have hcr := hJ.cr
        have e1 : 0 + ((i : Int) + (j : Int)).toNat = i + j := by omega
        have e2 : 0 + ((i : Int) + (b.length : Int)).toNat = i + b.length := by omega
        by_cases hjt : j < b.length
        · have hab := sO (ha.at_ (i : Int).toNat) (hb.at_ (j : Int).toNat)
          have hdd := hJ.dg.at_ (0 + ((i : Int) + (j : Int)).toNat)
          obtain ⟨s, hs⟩ : ∃ s, s = carry + (a.getD (i : Int).toNat default * b.getD (j : Int).toNat default + d.getD (0 + ((i : Int) + (j : Int)).toNat) default) := ⟨_, rfl⟩
          have td := Int.tdiv_eq_ediv_of_nonneg (a := carry + (a.getD (i : Int).toNat default * b.getD (j : Int).toNat default + d.getD (0 + ((i : Int) + (j : Int)).toNat) default)) (b := 4294967296) (by omega)
          have tm := Q6 (a := carry + (a.getD (i : Int).toNat default * b.getD (j : Int).toNat default + d.getD (0 + ((i : Int) + (j : Int)).toNat) default)) (b := 4294967296) (by omega)
          (repeat' (first
    | with_reducible refine Wp.seq ?_
    | with_reducible refine Wp.block ?_
    | ((with_reducible first | refine Wp.region ?_ | refine Wp.drawL ac ?_ | refine Wp.cond ?_ | refine Wp.ret ?_ | refine Wp.skip ?_ | refine Wp.exit ?_ | refine Go.mk ?_ | apply ao.of); conv => whnf)
    | with_reducible exact rfl
    | ((with_reducible refine Ov.ok zO ?_); conv => whnf)
    | (with_reducible refine Ov.sh1 (by with_unfolding_all exact rfl) ?_)
    | ((with_reducible refine Ov.quo (by omega) (by omega) (by omega) (fun _ _ => ?_)); conv => whnf)
    | ((with_reducible refine And.intro (show ah _ _ _ _ = true by kernel_rfl) ?_); conv => whnf)
    | ((with_reducible refine And.intro zC ?_); conv => whnf)
    | ((with_reducible refine And.intro ?hb ?_); (case hb => exact ae (zzb rfl) (by omega)); (conv => whnf))
    | ((refine af.a rfl rfl rfl rfl rfl rfl ?hb ?_); (case hb => exact zB); (conv => whnf))
    | ((refine af.b rfl rfl rfl rfl rfl rfl rfl rfl ?hb ?ho ?_); (case hb => exact zB); (case ho => omega); (conv => whnf))
    | ((refine af.c rfl rfl rfl rfl rfl ?hb ?_); (case hb => exact zB); (conv => whnf))
    | ((refine af.d rfl rfl rfl rfl rfl rfl ?hb ?ho ?_); (case hb => exact zB); (case ho => omega); (conv => whnf))
    | (with_reducible refine Or.inl ?_)
    | ((with_reducible refine IxA.ptr ?_); conv => whnf)
    | ((with_reducible refine nil_no (by omega) ?_); (conv => whnf))
    | ((with_reducible refine ag ?_ (fun hn0 => ?_)) <;> (conv => whnf))
    
    | ((refine ap (fun hc => ?_) (fun hc => ?_)) <;> (try simp only [decide_eq_true_eq, decide_eq_false_iff_not, Q5, Q20, Bool.and_eq_false_iff, Bool.or_eq_false_iff, Bool.not_eq_true', Bool.not_eq_false', beq_iff_eq, bne_iff_ne, ne_eq, beq_eq_false_iff_ne, bne_eq_false_iff_eq, Bool.not_eq_true, Bool.not_eq_false] at hc) <;> (try (exfalso; omega)) <;> (conv => whnf))))
          refine ⟨(j + 1, d.set (i + j) (s % 4294967296), s / 4294967296), ⟨by dsimp only; omega, ?_⟩, by dsimp only; omega, ?_⟩
          · refine hJ.next ha hb hlt hjt ?_
            rw [hs, e1, Q13, Q13]
          · dsimp only
            rw [hs, ← td, ← tm, List.length_set]
            (refine Le.by [0] rfl rfl rfl rfl ?_ ?_ <;> ((conv => whnf); repeat' (first | exact trivial | exact law_argR (by decide) (fun l hl => by rcases l with _ | _ | _ | _ | l <;> first | exact ⟨zzb rfl, rfl⟩ | exact ⟨zzb rfl, rfl, rfl⟩ | omega) (fun q hq => by rcases q with _ | _ | _ | _ | _ | _ | _ | _ | _ | q <;> first | exact ⟨zzb rfl, rfl⟩ | omega) | exact law_argI (by decide) (by decide) (fun l hl => by rcases l with _ | _ | _ | _ | l <;> first | exact ⟨zzb rfl, rfl⟩ | exact ⟨zzb rfl, rfl, rfl⟩ | omega) (fun q hq => by rcases q with _ | _ | _ | _ | _ | _ | _ | _ | _ | q <;> first | exact ⟨zzb rfl, rfl⟩ | omega) | exact aa.rfl rfl | exact aa.ptr rfl | exact aa.sl rfl | exact aa.free SV.Le.any rfl | exact ⟨rfl, rfl, rfl⟩ | exact ⟨rfl, zzb rfl⟩ | exact x_argRA (by assumption) rfl | exact x_argA (by assumption) | exact fun i hi => rfl | exact aY _ _ | ((with_reducible refine And.intro ?_ ?_) <;> (conv => whnf)))))
            all_goals first
              | exact (List.length_set ..).symm
              | (intro q _; rw [e1]; exact lV _ (by omega) q)
        · obtain rfl : j = b.length := by omega
          have hdd := hJ.dg.at_ (0 + ((i : Int) + (b.length : Int)).toNat)
          have ht := hJ.tail (i + b.length) (Q4 _)
          (repeat' (first
    | with_reducible refine Wp.seq ?_
    | with_reducible refine Wp.block ?_
    | ((with_reducible first | refine Wp.region ?_ | refine Wp.drawL ac ?_ | refine Wp.cond ?_ | refine Wp.ret ?_ | refine Wp.skip ?_ | refine Wp.exit ?_ | refine Go.mk ?_ | apply ao.of); conv => whnf)
    | with_reducible exact rfl
    | ((with_reducible refine Ov.ok zO ?_); conv => whnf)
    | (with_reducible refine Ov.sh1 (by with_unfolding_all exact rfl) ?_)
    | ((with_reducible refine Ov.quo (by omega) (by omega) (by omega) (fun _ _ => ?_)); conv => whnf)
    | ((with_reducible refine And.intro (show ah _ _ _ _ = true by kernel_rfl) ?_); conv => whnf)
    | ((with_reducible refine And.intro zC ?_); conv => whnf)
    | ((with_reducible refine And.intro ?hb ?_); (case hb => exact ae (zzb rfl) (by omega)); (conv => whnf))
    | ((refine af.a rfl rfl rfl rfl rfl rfl ?hb ?_); (case hb => exact zB); (conv => whnf))
    | ((refine af.b rfl rfl rfl rfl rfl rfl rfl rfl ?hb ?ho ?_); (case hb => exact zB); (case ho => omega); (conv => whnf))
    | ((refine af.c rfl rfl rfl rfl rfl ?hb ?_); (case hb => exact zB); (conv => whnf))
    | ((refine af.d rfl rfl rfl rfl rfl rfl ?hb ?ho ?_); (case hb => exact zB); (case ho => omega); (conv => whnf))
    | (with_reducible refine Or.inl ?_)
    | ((with_reducible refine IxA.ptr ?_); conv => whnf)
    | ((with_reducible refine nil_no (by omega) ?_); (conv => whnf))
    | ((with_reducible refine ag ?_ (fun hn0 => ?_)) <;> (conv => whnf))
    
    | ((refine ap (fun hc => ?_) (fun hc => ?_)) <;> (try simp only [decide_eq_true_eq, decide_eq_false_iff_not, Q5, Q20, Bool.and_eq_false_iff, Bool.or_eq_false_iff, Bool.not_eq_true', Bool.not_eq_false', beq_iff_eq, bne_iff_ne, ne_eq, beq_eq_false_iff_ne, bne_eq_false_iff_eq, Bool.not_eq_true, Bool.not_eq_false] at hc) <;> (try (exfalso; omega)) <;> (conv => whnf))))
          refine ⟨(i + 1, d.set (i + b.length) (d.getD (i + b.length) default + carry)), ⟨by dsimp only; omega, hJ.done hlt⟩, by dsimp only; omega, ?_⟩
          dsimp only
          rw [List.length_set]
          (refine Le.by [0] rfl rfl rfl rfl ?_ ?_ <;> ((conv => whnf); repeat' (first | exact trivial | exact law_argR (by decide) (fun l hl => by rcases l with _ | _ | _ | _ | l <;> first | exact ⟨zzb rfl, rfl⟩ | exact ⟨zzb rfl, rfl, rfl⟩ | omega) (fun q hq => by rcases q with _ | _ | _ | _ | _ | _ | _ | _ | _ | q <;> first | exact ⟨zzb rfl, rfl⟩ | omega) | exact law_argI (by decide) (by decide) (fun l hl => by rcases l with _ | _ | _ | _ | l <;> first | exact ⟨zzb rfl, rfl⟩ | exact ⟨zzb rfl, rfl, rfl⟩ | omega) (fun q hq => by rcases q with _ | _ | _ | _ | _ | _ | _ | _ | _ | q <;> first | exact ⟨zzb rfl, rfl⟩ | omega) | exact aa.rfl rfl | exact aa.ptr rfl | exact aa.sl rfl | exact aa.free SV.Le.any rfl | exact ⟨rfl, rfl, rfl⟩ | exact ⟨rfl, zzb rfl⟩ | exact x_argRA (by assumption) rfl | exact x_argA (by assumption) | exact fun i hi => rfl | exact aY _ _ | ((with_reducible refine And.intro ?_ ?_) <;> (conv => whnf)))))
          all_goals first
            | exact (List.length_set ..).symm
            | (intro q _; rw [e2]; exact lV _ (by omega) q)
    · obtain rfl : i = a.length := by omega
      have hN := om c
      have hF := hI.fin hl
      (repeat' (first
    | with_reducible refine Wp.seq ?_
    | with_reducible refine Wp.block ?_
    | ((with_reducible first | refine Wp.region ?_ | refine Wp.drawL ac ?_ | refine Wp.cond ?_ | refine Wp.ret ?_ | refine Wp.skip ?_ | refine Wp.exit ?_ | refine Go.mk ?_ | apply ao.of); conv => whnf)
    | with_reducible exact rfl
    | ((with_reducible refine Ov.ok zO ?_); conv => whnf)
    | (with_reducible refine Ov.sh1 (by with_unfolding_all exact rfl) ?_)
    | ((with_reducible refine Ov.quo (by omega) (by omega) (by omega) (fun _ _ => ?_)); conv => whnf)
    | ((with_reducible refine And.intro (show ah _ _ _ _ = true by kernel_rfl) ?_); conv => whnf)
    | ((with_reducible refine And.intro zC ?_); conv => whnf)
    | ((with_reducible refine And.intro ?hb ?_); (case hb => exact ae (zzb rfl) (by omega)); (conv => whnf))
    | ((refine af.a rfl rfl rfl rfl rfl rfl ?hb ?_); (case hb => exact zB); (conv => whnf))
    | ((refine af.b rfl rfl rfl rfl rfl rfl rfl rfl ?hb ?ho ?_); (case hb => exact zB); (case ho => omega); (conv => whnf))
    | ((refine af.c rfl rfl rfl rfl rfl ?hb ?_); (case hb => exact zB); (conv => whnf))
    | ((refine af.d rfl rfl rfl rfl rfl rfl ?hb ?ho ?_); (case hb => exact zB); (case ho => omega); (conv => whnf))
    | (with_reducible refine Or.inl ?_)
    | ((with_reducible refine IxA.ptr ?_); conv => whnf)
    | ((with_reducible refine nil_no (by omega) ?_); (conv => whnf))
    | ((with_reducible refine ag ?_ (fun hn0 => ?_)) <;> (conv => whnf))
    | ((with_reducible refine ab.pureI hN rfl ?_); (conv => whnf); (refine And.intro (by omega) ?_); (refine And.intro (.cons (lU rfl fun i hi => by simp only [Q19]) .nil) ?_); (conv => whnf))
    | ((refine ap (fun hc => ?_) (fun hc => ?_)) <;> (try simp only [decide_eq_true_eq, decide_eq_false_iff_not, Q5, Q20, Bool.and_eq_false_iff, Bool.or_eq_false_iff, Bool.not_eq_true', Bool.not_eq_false', beq_iff_eq, bne_iff_ne, ne_eq, beq_eq_false_iff_ne, bne_eq_false_iff_eq, Bool.not_eq_true, Bool.not_eq_false] at hc) <;> (try (exfalso; omega)) <;> (conv => whnf))))
      rw [hF]; exact .rfl _
theorem nf {a b : List Int} (ha : Dg a) (hb : Dg b) (na : Nrm a) (nb : Nrm b) : Pure TC 87 [.d (ak 1 (ar .u64) a), .d (ak 1 (ar .u64) b)] (.i .i64 (sb (aA a) (aA b))) := by
  refine Pure.lens (.mk Tryz.func87 rfl rfl) fun hlen => ?_
  have hla := hlen a.length (by simp [cy, ak])
  have hlb := hlen b.length (by simp [cy, ak])
  clear hlen
  refine Pure.mk' Tryz.func87 rfl rfl (zzb rfl) ?_
  (repeat' (first
    | with_reducible refine Wp.seq ?_
    | with_reducible refine Wp.block ?_
    | ((with_reducible first | refine Wp.region ?_ | refine Wp.drawL ac ?_ | refine Wp.cond ?_ | refine Wp.ret ?_ | refine Wp.skip ?_ | refine Wp.exit ?_ | refine Go.mk ?_ | apply ao.of); conv => whnf)
    | with_reducible exact rfl
    | ((with_reducible refine Ov.ok zO ?_); conv => whnf)
    | (with_reducible refine Ov.sh1 (by with_unfolding_all exact rfl) ?_)
    | ((with_reducible refine Ov.quo (by omega) (by omega) (by omega) (fun _ _ => ?_)); conv => whnf)
    | ((with_reducible refine And.intro (show ah _ _ _ _ = true by kernel_rfl) ?_); conv => whnf)
    | ((with_reducible refine And.intro zC ?_); conv => whnf)
    | ((with_reducible refine And.intro ?hb ?_); (case hb => exact ae (zzb rfl) (by omega)); (conv => whnf))
    | ((refine af.a rfl rfl rfl rfl rfl rfl ?hb ?_); (case hb => exact zB); (conv => whnf))
    | ((refine af.b rfl rfl rfl rfl rfl rfl rfl rfl ?hb ?ho ?_); (case hb => exact zB); (case ho => omega); (conv => whnf))
    | ((refine af.c rfl rfl rfl rfl rfl ?hb ?_); (case hb => exact zB); (conv => whnf))
    | ((refine af.d rfl rfl rfl rfl rfl rfl ?hb ?ho ?_); (case hb => exact zB); (case ho => omega); (conv => whnf))
    | (with_reducible refine Or.inl ?_)
    | ((with_reducible refine IxA.ptr ?_); conv => whnf)
    | ((with_reducible refine nil_no (by omega) ?_); (conv => whnf))
    | ((with_reducible refine ag ?_ (fun hn0 => ?_)) <;> (conv => whnf))
    
    | ((refine ap (fun hc => ?_) (fun hc => ?_)) <;> (try simp only [decide_eq_true_eq, decide_eq_false_iff_not, Q5, Q20, Bool.and_eq_false_iff, Bool.or_eq_false_iff, Bool.not_eq_true', Bool.not_eq_false', beq_iff_eq, bne_iff_ne, ne_eq, beq_eq_false_iff_ne, bne_eq_false_iff_eq, Bool.not_eq_true, Bool.not_eq_false] at hc) <;> (try (exfalso; omega)) <;> (conv => whnf))))
  · have := sR ha hb nb (by omega)
    exact .i (by unfold sb; rw [if_pos this])
  · have := sR hb ha na (by omega)
    exact .i (by unfold sb; rw [if_neg (by omega), if_pos this])
  have hl : a.length = b.length := by omega
  refine Wp.loopP (ι := Nat) (fun m => m ≤ a.length ∧ ∀ j, m ≤ j → j < a.length → a.getD j default = b.getD j default) (fun m => ⟨⟨Tryz.f87.ntmps, 0⟩, 0, [(0, .d (ak 1 (ar .u64) a)), (1, .d (ak 1 (ar .u64) b)), (5, .i .i64 ((m : Int) - 1))], []⟩) (fun m => m) a.length ⟨Q4 _, fun j h1 h2 => by omega⟩ ?_ ?_
  · (refine Le.by [] rfl rfl rfl rfl ?_ ?_ <;> (conv => whnf) <;> (repeat' (first | exact trivial | exact aa.rfl rfl | exact aa.ptr rfl | exact aa.sl rfl | ((with_reducible refine aa.fn ?_); (conv => whnf)) | ((refine aa.iref ?_); (conv => whnf)) | exact ⟨rfl, rfl, rfl⟩ | exact fun i hi => rfl | ((with_reducible refine And.intro ?_ ?_) <;> (conv => whnf)))))
  · rintro m ⟨h1, h2⟩
    (repeat' (first
    | with_reducible refine Wp.seq ?_
    | with_reducible refine Wp.block ?_
    | ((with_reducible first | refine Wp.region ?_ | refine Wp.drawL ac ?_ | refine Wp.cond ?_ | refine Wp.ret ?_ | refine Wp.skip ?_ | refine Wp.exit ?_ | refine Go.mk ?_ | apply ao.of); conv => whnf)
    | with_reducible exact rfl
    | ((with_reducible refine Ov.ok zO ?_); conv => whnf)
    | (with_reducible refine Ov.sh1 (by with_unfolding_all exact rfl) ?_)
    | ((with_reducible refine Ov.quo (by omega) (by omega) (by omega) (fun _ _ => ?_)); conv => whnf)
    | ((with_reducible refine And.intro (show ah _ _ _ _ = true by kernel_rfl) ?_); conv => whnf)
    | ((with_reducible refine And.intro zC ?_); conv => whnf)
    | ((with_reducible refine And.intro ?hb ?_); (case hb => exact ae (zzb rfl) (by omega)); (conv => whnf))
    | ((refine af.a rfl rfl rfl rfl rfl rfl ?hb ?_); (case hb => exact zB); (conv => whnf))
    | ((refine af.b rfl rfl rfl rfl rfl rfl rfl rfl ?hb ?ho ?_); (case hb => exact zB); (case ho => omega); (conv => whnf))
    | ((refine af.c rfl rfl rfl rfl rfl ?hb ?_); (case hb => exact zB); (conv => whnf))
    | ((refine af.d rfl rfl rfl rfl rfl rfl ?hb ?ho ?_); (case hb => exact zB); (case ho => omega); (conv => whnf))
    | (with_reducible refine Or.inl ?_)
    | ((with_reducible refine IxA.ptr ?_); conv => whnf)
    | ((with_reducible refine nil_no (by omega) ?_); (conv => whnf))
    | ((with_reducible refine ag ?_ (fun hn0 => ?_)) <;> (conv => whnf))
    
    | ((refine ap (fun hc => ?_) (fun hc => ?_)) <;> (try simp only [decide_eq_true_eq, decide_eq_false_iff_not, Q5, Q20, Bool.and_eq_false_iff, Bool.or_eq_false_iff, Bool.not_eq_true', Bool.not_eq_false', beq_iff_eq, bne_iff_ne, ne_eq, beq_eq_false_iff_ne, bne_eq_false_iff_eq, Bool.not_eq_true, Bool.not_eq_false] at hc) <;> (try (exfalso; omega)) <;> (conv => whnf))))
    · simp only [show ((m : Int) - 1).toNat = m - 1 by omega] at *
      have := sA ha hb (i := m - 1) (by omega) hl (fun j hj hj2 => h2 j (by omega) hj2) (by assumption)
      exact .i (by unfold sb; rw [if_pos this])
    · simp only [show ((m : Int) - 1).toNat = m - 1 by omega] at *
      have := sA hb ha (i := m - 1) (by omega) hl.symm (fun j hj hj2 => (h2 j (by omega) (by omega)).symm) (by omega)
      exact .i (by unfold sb; rw [if_neg (by omega), if_pos this])
    · simp only [show ((m : Int) - 1).toNat = m - 1 by omega] at *
      refine ⟨m - 1, ⟨by omega, fun j hj hj2 => ?_⟩, by omega, ?_⟩
      · by_cases e : j = m - 1
        · subst e; omega
        · exact h2 j (by omega) hj2
      · (refine Le.by [] rfl rfl rfl rfl ?_ ?_ <;> (conv => whnf) <;> (repeat' (first | exact trivial | exact aa.rfl rfl | exact aa.ptr rfl | exact aa.sl rfl | ((with_reducible refine aa.fn ?_); (conv => whnf)) | ((refine aa.iref ?_); (conv => whnf)) | exact ⟨rfl, rfl, rfl⟩ | exact fun i hi => rfl | ((with_reducible refine And.intro ?_ ?_) <;> (conv => whnf)))))
        all_goals exact aa.free (.i (by omega)) rfl
    · have := all_eq hl fun j hj => h2 j (by omega) hj
      exact .i (by unfold sb; rw [this, if_neg (by omega), if_neg (by omega)])
section
def grB (T tau tat now n : Int) : Bool := decide (n = 0) || (decide (max tat now + (n - 1) * T ≤ now + tau) && decide (max tat now + n * T ≤ 4611686018427387903))
section
variable {T tau tat now n : Int}
theorem oT (hT : 1 ≤ T) (h3 : 0 ≤ tat ∧ tat ≤ 4611686018427387903) (h5 : 0 ≤ now ∧ now ≤ 4611686018427387903) (h0 : 0 ≤ n) : grB T tau tat now n = true ↔ n ≤ aJ T tau tat now := by
  have hl := ca (tau := tau) hT h3.1 h3.2 h5.1 h5.2
  unfold grB
  rw [Q20, Q5, decide_eq_true_iff, decide_eq_true_iff, decide_eq_true_iff]
  by_cases hn : n = 0
  · subst hn
    exact ⟨fun _ => hl.1, fun _ => .inl rfl⟩
  · have e1 : (n - 1) * T ≤ tau - (max tat now - now) ↔ n - 1 ≤ (tau - (max tat now - now)) / T := (Int.le_ediv_iff_mul_le (by omega)).symm
    have e2 : n * T ≤ 4611686018427387903 - max tat now ↔ n ≤ (4611686018427387903 - max tat now) / T := (Int.le_ediv_iff_mul_le (by omega)).symm
    have h9 : 0 ≤ (n - 1) * T := Int.mul_nonneg (by omega) (by omega)
    unfold aJ
    generalize (n - 1) * T = a at *
    generalize n * T = b at *
    generalize (tau - (max tat now - now)) / T = c at *
    generalize (4611686018427387903 - max tat now) / T = d at *
    split
    · omega
    · omega
theorem rN (hT : 1 ≤ T) (ht : 0 ≤ tau ∧ tau ≤ 4611686018427387903) (h3 : 0 ≤ tat ∧ tat ≤ 4611686018427387903) (h5 : 0 ≤ now ∧ now ≤ 4611686018427387903) (h1 : 1 ≤ n) (hg : grB T tau tat (max now tat) n = false) : cK T tau tat now n = 4611686018427387903 := by
  have e2 : n * T ≤ 4611686018427387903 - max tat now ↔ n ≤ (4611686018427387903 - max tat now) / T := (Int.le_ediv_iff_mul_le (by omega)).symm
  unfold grB at hg
  rw [Bool.or_eq_false_iff, Bool.and_eq_false_iff, decide_eq_false_iff_not, decide_eq_false_iff_not, decide_eq_false_iff_not] at hg
  unfold cK
  rw [if_neg]
  generalize (n - 1) * T = a at *
  generalize n * T = b at *
  generalize (4611686018427387903 - max tat now) / T = d at *
  omega
theorem gr_wait (hT : 1 ≤ T) (ht : 0 ≤ tau ∧ tau ≤ 4611686018427387903) (h3 : 0 ≤ tat ∧ tat ≤ 4611686018427387903) (h5 : 0 ≤ now ∧ now ≤ 4611686018427387903) (h1 : 1 ≤ n) (hg : grB T tau tat (max now tat) n = true) (hn : grB T tau tat now n = false) :
    0 ≤ cK T tau tat now n ∧ cK T tau tat now n ≤ max now tat - now ∧ ∀ w, 0 ≤ w → w ≤ max now tat - now → (grB T tau tat (now + w) n = true ↔ cK T tau tat now n ≤ w) := by
  have e2 : n * T ≤ 4611686018427387903 - max tat now ↔ n ≤ (4611686018427387903 - max tat now) / T := (Int.le_ediv_iff_mul_le (by omega)).symm
  have h9 : 0 ≤ (n - 1) * T := Int.mul_nonneg (by omega) (by omega)
  unfold grB at hn hg
  rw [Bool.or_eq_false_iff, Bool.and_eq_false_iff, decide_eq_false_iff_not, decide_eq_false_iff_not, decide_eq_false_iff_not] at hn
  rw [Q20, Q5, decide_eq_true_iff, decide_eq_true_iff, decide_eq_true_iff] at hg
  have hw : cK T tau tat now n = tat - now - (tau - (n - 1) * T) := by
    unfold cK
    rw [if_pos]
    generalize (n - 1) * T = a at *
    generalize n * T = b at *
    generalize (4611686018427387903 - max tat now) / T = d at *
    omega
  rw [hw]
  unfold grB
  generalize (n - 1) * T = a at *
  generalize n * T = b at *
  refine ⟨by omega, by omega, fun w w0 w1 => ?_⟩
  rw [Q20, Q5, decide_eq_true_iff, decide_eq_true_iff, decide_eq_true_iff]
  omega
end
end
end Go.Proofs.YtlplngmpggkloaaGreat
