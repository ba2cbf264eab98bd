/- PROVED: HistChecks, for every table and history: the program's Check answers as the document does, and what is handed in comes back untouched, the room behind it too. The statement is the second form, of arguments that hold together at most 1048576 values and letters. -/
import Derived.Test.YtlplngmpggkloaaGreatMJ16
import Derived.JoinedCond
set_option linter.unusedVariables false
set_option linter.unusedSimpArgs false
namespace Go.Proofs.YtlplngmpggkloaaGreat
open Go.ChangeShapes Go.WideShapes Go.ChangeAt Go.RowKit

theorem m0 {H : Type} {enc : TypeId × Value → H} {P : Program} {w : World} {base : Nat} {spare : Nat → Bool} {held : Bool} {t t' : TypeId} {args : Array Value} {ds : List (DataW H)} {ps : List MemPlace} (h : DataW.TrodAll enc P w base spare held [t, t'] args.toList ds ps) :
    ∃ v v' d d' p p', args = #[v, v'] ∧ ds = [d, d'] ∧ ps = p ++ p' ∧ DataW.Trod enc P w base spare held t v d p ∧ DataW.Trod enc P w base spare held t' v' d' p' := by
  obtain ⟨v, vs, d, ds', p, q, hargs, rfl, rfl, hd, hrest⟩ := trodAll_cons h
  obtain ⟨v', vs', d', ds'', p', q', rfl, rfl, rfl, hd', hrest'⟩ := trodAll_cons hrest
  obtain ⟨rfl, rfl, rfl⟩ := trodAll_nil hrest'
  exact ⟨v, v', d, d', p, p', by cases args; simp_all, rfl, by simp, hd, hd'⟩

set_option maxRecDepth 100000 in
theorem HistChecks_contract (H : Type) (enc : TypeId × Value → H) (W : World) (base : Nat) (args : Array Value) (ds gs : List (DataW H)) (before : List MemPlace)
    (hval : ∀ (j : Nat) t v, Tryz.f3.params[j]? = some t → args[j]? = some v → Value.okWide Tryz.prog W .any base t v)
    (hW : DataW.Whole enc Tryz.prog Tryz.f3.params.toList Rows.histChecksSpec.vars false W args.toList ds gs before) (hB : Rows.uptoSmall H (ds ++ gs) = true) :
    Calls Tryz.prog 3 args W fun e W' => ∃ v, e = .returned v ∧ Rows.histChecksSpec.post enc Tryz.prog Tryz.f3 false true false false W args v W' := by
  have hW' := hW
  obtain ⟨p, q, hA0, hV, rfl, hfz, hnd⟩ := hW
  have hA : DataW.TrodAll enc Tryz.prog W 0 (fun _ => true) true Tryz.f3.params.toList args.toList ds p := hA0
  rw [Tryz.params3] at hA hval
  obtain ⟨v0, v1, d0, d1, p0, p1, rfl, rfl, rfl, h0, h1⟩ := m0 hA
  have hB : Rows.uptoBulkAll ([d0, d1] ++ gs) ≤ 1048576 := of_decide_eq_true hB
  have hm : ∀ d, d ∈ [d0, d1] → Rows.uptoBulk d ≤ 1048576 := fun d hd => Nat.le_trans (fQ (List.mem_append_left _ hd)) hB
  obtain ⟨a0, l0, c0, rfl⟩ := okWide_slice Tryz.underlying22 (hval 0 22 v0 rfl rfl)
  obtain ⟨a1, l1, c1, rfl⟩ := okWide_slice Tryz.underlying23 (hval 1 23 v1 rfl rfl)
  obtain ⟨ps, g0⟩ := argPols h0 rfl
  obtain ⟨calls, k1, k2, g1⟩ := sn h1 rfl (hm d1 (by simp))
  refine ((fD (ps := ps) (calls := calls) k2 k1).out ⟨fun _ => 0, fun _ => 0, fun b => b < W.heap.size⟩ W _ (fun b hb => hb) rfl fun j hj => ?_).mono ?_
  · have : j = 0 ∨ j = 1 := by simp at hj; omega
    rcases this with rfl | rfl
    · exact g0 _ rfl
    · exact g1 _ rfl
  · rintro e W' ⟨v, rfl, hk, hv⟩
    have := hv.val_inv
    subst this
    exact ⟨_, rfl, rI kids full (by rw [Tryz.params3]; decide) rfl (tb := 4) (by kernel_rfl) Tryz.underlying4 (fun h => by subst h; exact ⟨rfl, rfl, rfl⟩) hW' hk⟩

set_option maxRecDepth 100000 in
theorem HistChecks_lifted (os : Os) (started : os.Started) (H : Type) (enc : TypeId × Value → H) (F : Stop.Interp) :
    ReturnsInHanded {} Tryz.checked os 3 .any ((Rows.OpenSpec.upto Rows.histChecksSpec).pre6 enc Tryz.prog Tryz.f3 Rows.histChecksUptoRow.domain false) (((Rows.OpenSpec.upto Rows.histChecksSpec).at F).post enc Tryz.prog Tryz.f3 false true false false) := by
  refine returnsInHanded_of_cond (C := Tryz.checked) (s := Rows.OpenSpec.upto Rows.histChecksSpec) (k := Rows.uptoSmall) rfl own started (by kernel_rfl) Tryz.func3
    (OpenSpec.witness (enc := enc) (C := Tryz.checked) (s := Rows.OpenSpec.upto Rows.histChecksSpec) (k := Rows.uptoSmall) rfl false ⟨#[], #[.slice none 0 0, .slice none 0 0], []⟩ 8 (by kernel_rfl) (by kernel_rfl) (by kernel_rfl)
      (x := ([.nil, .nil], [], [])) (by kernel_rfl) rfl (by kernel_rfl)) ?_
  intro W base args ds gs before hval hW _ hB _
  exact HistChecks_contract H enc W base args ds gs before hval hW hB

theorem HistChecks_proved : Rows.HistChecksUptoSaid :=
  OpenClaim.holds_of_cond 3 Tryz.f3 rfl rfl rfl rfl rfl rfl rfl ⟨rfl, rfl, rfl, rfl, rfl⟩ rfl rfl rfl rfl rfl (by kernel_rfl) Tryz.func3 (by kernel_rfl)
    (of_decide_eq_true (by kernel_rfl)) (by unfold Func.isWrapper; first | (rw [if_pos (by decide +kernel)]; kernel_rfl) | (rw [if_neg (by decide +kernel)]; exact ⟨rfl, rfl⟩))
    (fun os started H enc _ F => HistChecks_lifted os started H enc F)

#print axioms HistChecks_proved
end Go.Proofs.YtlplngmpggkloaaGreat
