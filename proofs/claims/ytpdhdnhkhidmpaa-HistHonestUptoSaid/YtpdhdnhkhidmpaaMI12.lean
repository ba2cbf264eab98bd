/- Lemmas of Hh6. No condition. -/
import Derived.Test.YtpdhdnhkhidmpaaMI11
set_option linter.unusedVariables false
set_option linter.unusedSimpArgs false
set_option maxHeartbeats 80000000
set_option maxRecDepth 100000
namespace Go.Proofs.Ytpdhdnhkhidmpaa
open Go.RowKit
open Hist
def my (l : List HD) (i j : Nat) : List HD := (l.set i (l.getD j default)).set j (l.getD i default)
theorem mw {l : List HD} {i j : Nat} (hi : i < l.length) (hj : j < l.length) : l.Perm (my l i j) := by
  haveI : DecidableEq HD := fun a b => Classical.propDecidable (a = b)
  rw [List.perm_iff_count]
  intro b
  have gi : l.getD i default = l[i] := by rw [Q1, Q0 hi]; rfl
  have gj : l.getD j default = l[j] := by rw [Q1, Q0 hj]; rfl
  have ci : l[i] = b → 0 < l.count b := fun e => List.count_pos_iff.2 (by rw [← e]; exact Q14 _)
  unfold my
  rw [gi, gj]
  have hj' : j < (l.set i l[j]).length := by rw [List.length_set]; exact hj
  rw [List.count_set hj', List.count_set hi, List.getElem_set]
  simp only [beq_iff_eq]
  by_cases hij : i = j
  · subst hij
    rw [if_pos rfl]
    by_cases e : l[i] = b
    · have := ci e
      simp only [if_pos e]; omega
    · simp only [if_neg e]; omega
  · rw [if_neg hij]
    by_cases e : l[i] = b <;> by_cases f : l[j] = b
    · have := ci e
      simp only [if_pos e, if_pos f]; omega
    · have := ci e
      simp only [if_pos e, if_neg f]; omega
    · simp only [if_neg e, if_pos f]; omega
    · simp only [if_neg e, if_neg f]; omega
theorem ky (l : List HD) (i j : Nat) : (my l i j).length = l.length := by unfold my; simp
theorem swp_row {l : List HD} {I J : Nat} (hI : I < l.length) (hJ : J < l.length) (q : Nat) : (if q = J then HD.D (l.getD I default) else if q = I then HD.D (l.getD J default) else HD.D (l.getD q default)) = HD.D ((my l I J).getD q default) := by
  have hx : (my l I J).getD q default = if q = J then l.getD I default else if q = I then l.getD J default else l.getD q default := by
    unfold my
    rw [Q1, List.getElem?_set]
    by_cases h1 : J = q
    · subst h1; rw [if_pos rfl, if_pos rfl, List.length_set, if_pos hJ]; rfl
    · rw [if_neg h1, if_neg (fun e => h1 e.symm), List.getElem?_set]
      by_cases h2 : I = q
      · subst h2; rw [if_pos rfl, if_pos rfl, if_pos hI]; rfl
      · rw [if_neg h2, if_neg (fun e => h2 e.symm), Q1]
  rw [hx]
  split
  · rfl
  · split <;> rfl
theorem mI {p : Prop} [Decidable p] {a b : List D} {o : Nat} {vs : List D} {k : List D → Prop} (hp : ¬p) (h : bD b o vs k) : bD (if p then a else b) o vs k := by rw [if_neg hp]; exact h
theorem mH {p : Prop} [Decidable p] {a b : List D} {o : Nat} {vs : List D} {k : List D → Prop} (hp : p) (h : bD a o vs k) : bD (if p then a else b) o vs k := by rw [if_pos hp]; exact h
theorem i3 {s : List Hist.Ask} {S : MS} {k : Nat} (h : MI S k) : ∀ d ∈ S.l, IsB d.key := fun d hd => (h.fm d hd).1.key
theorem eM {s : List Hist.Ask} {i j : Int} (hs : ∀ a ∈ s, AfB a) (hl : s.length ≤ 1048576) (hi : -9223372036854775808 ≤ i ∧ i ≤ 9223372036854775807) (hj : -9223372036854775808 ≤ j ∧ j ≤ 9223372036854775807) : Pure TC 3 [.d (ap 8 Hist.Ask.D s), .i .i64 i, .i .i64 j] (.b true) := by
  have hM := MI.made (fun a ha => (hs a ha).f) s.length (Q4 _)
  have hMl : (aC s s.length).l = ak s := rfl
  have h8 := hM.l8
  obtain ⟨o1, o2⟩ := qy hM (.refl _)
  have c1 := gG (ps := au) (l := ak s) (i3 (s := s) hM) (by rw [← hMl]; omega)
  rw [← hMl, o1, o2, hMl] at c1
  have hon := fun l' (hp : (ak s).Perm l') => qy hM (l' := l') hp
  rw [hMl] at h8
  have hw := fun x : Int => (show IntKind.u64.wrap x = x % 18446744073709551616 by simp [IntKind.wrap, IntKind.bits, IntKind.signed])
  have hb : ∀ x : Int, ¬ ((ak s).length : Int) = 0 → 0 ≤ (IntKind.u64.wrap x).tmod (ak s).length ∧ (IntKind.u64.wrap x).tmod (ak s).length < (ak s).length := fun x hx => by
    have h0 : 0 ≤ IntKind.u64.wrap x := by rw [hw]; omega
    exact ⟨Int.tmod_nonneg _ h0, Int.tmod_lt_of_pos _ (by omega)⟩
  have hb1 := hb i
  have hb2 := hb j
  clear hw
  refine Pure.mk' Try.func3 rfl rfl (zzb rfl) ?_
  have hij : ((IntKind.u64.wrap j).tmod (ak s).length).toNat = ((IntKind.u64.wrap i).tmod (ak s).length).toNat ∨ ¬ ((IntKind.u64.wrap j).tmod (ak s).length).toNat = ((IntKind.u64.wrap i).tmod (ak s).length).toNat := Classical.em _
  have hI : ¬ ((ak s).length : Int) = 0 → ((IntKind.u64.wrap i).tmod (ak s).length).toNat < (ak s).length := fun hx => by have := hb1 hx; omega
  have hJ : ¬ ((ak s).length : Int) = 0 → ((IntKind.u64.wrap j).tmod (ak s).length).toNat < (ak s).length := fun hx => by have := hb2 hx; omega
  have c2 : ∀ hx : ¬ ((ak s).length : Int) = 0, Pure TC 8 [.d (ap 4 Pol.D au), .d (.sl 13 (my (ak s) ((IntKind.u64.wrap i).tmod (ak s).length).toNat ((IntKind.u64.wrap j).tmod (ak s).length).toNat).length fun q => (fun q => HD.D ((my (ak s) ((IntKind.u64.wrap i).tmod (ak s).length).toNat ((IntKind.u64.wrap j).tmod (ak s).length).toNat).getD q default)) (0 + q))] (.tup [.b true, .i .i64 0]) := fun hx => by
    have hp := mw (hI hx) (hJ hx)
    have ho := hon _ hp
    have := gG (ps := au) (fun d hd => i3 (s := s) hM d (hp.mem_iff.2 hd)) (by rw [ky]; omega)
    rw [ho.1, ho.2] at this
    exact this
  have hSW : ∀ hx : ¬ ((ak s).length : Int) = 0, SV.Le (.d (.sl 13 (ak s).length fun q => (fun q => if q = 0 + ((IntKind.u64.wrap j).tmod (ak s).length).toNat then HD.D ((ak s).getD (0 + ((IntKind.u64.wrap i).tmod (ak s).length).toNat) default) else (fun q => if q = 0 + ((IntKind.u64.wrap i).tmod (ak s).length).toNat then HD.D ((ak s).getD (0 + ((IntKind.u64.wrap j).tmod (ak s).length).toNat) default) else (fun q => HD.D ((ak s).getD q default)) q) q) (0 + q)))
      (.d (.sl 13 (my (ak s) ((IntKind.u64.wrap i).tmod (ak s).length).toNat ((IntKind.u64.wrap j).tmod (ak s).length).toNat).length fun q => (fun q => HD.D ((my (ak s) ((IntKind.u64.wrap i).tmod (ak s).length).toNat ((IntKind.u64.wrap j).tmod (ak s).length).toNat).getD q default)) (0 + q))) := fun hx => by
    refine fd (ky _ _ _).symm fun q _ => ?_
    simp only [Q19]
    exact swp_row (hI hx) (hJ hx) q
  clear hb
  rcases hij with hij | hij
  all_goals
   (repeat' (first
    | ((with_reducible refine Ov.ok (IntWalk.i64_in _ (by omega)) ?_); (conv => whnf))
    | ((refine mI (by omega) ?_); conv => whnf)
    | ((refine mH (by omega) ?_); conv => whnf)
    | with_reducible refine Wp.seq ?_
    | with_reducible refine Wp.block ?_
    | ((with_reducible first | refine Wp.region ?_ | refine Wp.drawL ac ?_ | refine Wp.cond ?_ | refine Wp.ret ?_ | refine Wp.skip ?_ | refine Wp.exit ?_ | refine Go.mk ?_ | apply aA.of); conv => whnf)
    | with_reducible exact rfl
    | ((with_reducible refine Ov.ok zO ?_); conv => whnf)
    | (with_reducible refine Ov.sh1 (by with_unfolding_all exact rfl) ?_)
    | ((with_reducible refine Ov.quo (by omega) (by omega) (by omega) (fun _ _ => ?_)); conv => whnf)
    | ((with_reducible refine And.intro (show aj _ _ _ _ = true by kernel_rfl) ?_); conv => whnf)
    | ((with_reducible refine And.intro zC ?_); conv => whnf)
    | ((with_reducible refine And.intro ?hb ?_); (case hb => exact ae (zzb rfl) (by omega)); (conv => whnf))
    | ((refine af.a rfl rfl rfl rfl rfl rfl ?hb ?_); (case hb => exact zB); (conv => whnf))
    | ((refine af.b rfl rfl rfl rfl rfl rfl rfl rfl ?hb ?ho ?_); (case hb => exact zB); (case ho => omega); (conv => whnf))
    | ((refine af.c rfl rfl rfl rfl rfl ?hb ?_); (case hb => exact zB); (conv => whnf))
    | ((refine af.d rfl rfl rfl rfl rfl rfl ?hb ?ho ?_); (case hb => exact zB); (case ho => omega); (conv => whnf))
    | (with_reducible refine Or.inl ?_)
    | ((with_reducible refine nil_no (by omega) ?_); (conv => whnf))
    | ((with_reducible refine ag ?_ (fun hn0 => ?_)) <;> (conv => whnf))
    | ((with_reducible refine aa.pure (iD) rfl rfl ?_); conv => whnf) | ((with_reducible refine ai.pure (iD) rfl rfl ?_); conv => whnf)
    | ((refine aa.fn (eU hs hl) [] rfl rfl rfl rfl rfl ?ha ?hh ?_); (case ha => exact zA); (case hh => exact zH); (conv => whnf))
    | ((refine ai.fn (eU hs hl) [] [] rfl rfl rfl rfl rfl ?ha ?hh ?hs ?_); (case ha => exact zA); (case hh => exact zH); (case hs => exact zK); (conv => whnf)) | ((refine ai.new (eU hs hl) [] [] rfl rfl rfl rfl rfl rfl ?ha ?hh ?hs ?_); (case ha => exact zA); (case hh => exact zH); (case hs => exact zK); (conv => whnf))
    | ((with_reducible refine aa.pure (am) rfl rfl ?_); conv => whnf) | ((with_reducible refine ai.pure (am) rfl rfl ?_); conv => whnf)
    | ((refine aa.pureT c1 ?_); (conv => whnf); (refine And.intro (by omega) ?_); (refine And.intro ?hl ?_); (case hl => (exact .cons (.rfl _) (.cons (.rfl _) .nil))); (conv => whnf))
    | ((refine aa.pureT (c2 (by assumption)) ?_); (conv => whnf); (refine And.intro (by omega) ?_); (refine And.intro (.cons (.rfl _) (.cons (hSW (by assumption)) .nil)) ?_); (conv => whnf))
    | ((with_reducible refine Ov.mk ?_); conv => whnf)
    | ((refine aB (fun hc => ?_) (fun hc => ?_)) <;> (try simp only [decide_eq_true_eq, decide_eq_false_iff_not, Q5, Q20, Bool.and_eq_false_iff, Bool.or_eq_false_iff, Bool.not_eq_true', Bool.not_eq_false', beq_iff_eq, bne_iff_ne, ne_eq, beq_eq_false_iff_ne, bne_eq_false_iff_eq, Bool.not_eq_true, Bool.not_eq_false] at hc) <;> (try (exfalso; omega)) <;> (conv => whnf))))
  all_goals exact .b rfl
end Go.Proofs.Ytpdhdnhkhidmpaa
