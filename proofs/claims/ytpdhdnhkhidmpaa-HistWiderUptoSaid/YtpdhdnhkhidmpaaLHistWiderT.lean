/- PROVED: HistWider, for every table, history, and every widening: a history that has an order has one still, if calls begin earlier and return later; and all times may be moved alike. The statement is the second form, of arguments that hold together at most 1048576 values and letters. -/
import Derived.Test.YtpdhdnhkhidmpaaMH11
import Derived.JoinedCond
set_option linter.unusedVariables false
set_option linter.unusedSimpArgs false
namespace Go.Proofs.Ytpdhdnhkhidmpaa
open Go.ChangeShapes Go.WideShapes Go.ChangeAt Go.RowKit

theorem gB {H : Type} {enc : TypeId × Value → H} {P : Program} {w : World} {base : Nat} {spare : Nat → Bool} {held : Bool} {t t' t'' t3 t4 : TypeId} {args : Array Value} {ds : List (DataW H)} {ps : List MemPlace} (h : DataW.TrodAll enc P w base spare held [t, t', t'', t3, t4] args.toList ds ps) :
    ∃ v v' v'' v3 v4 d d' d'' d3 d4 p p' p'' p3 p4, args = #[v, v', v'', v3, v4] ∧ ds = [d, d', d'', d3, d4] ∧ ps = p ++ p' ++ p'' ++ p3 ++ p4 ∧ DataW.Trod enc P w base spare held t v d p ∧ DataW.Trod enc P w base spare held t' v' d' p' ∧ DataW.Trod enc P w base spare held t'' v'' d'' p'' ∧ DataW.Trod enc P w base spare held t3 v3 d3 p3 ∧ DataW.Trod enc P w base spare held t4 v4 d4 p4 := by
  obtain ⟨v, vs, d, ds', p, q, hargs, rfl, rfl, hd, hrest⟩ := trodAll_cons h
  obtain ⟨v', vs', d', ds'', p', q', rfl, rfl, rfl, hd', hrest'⟩ := trodAll_cons hrest
  obtain ⟨v'', vs'', d'', ds''', p'', q'', rfl, rfl, rfl, hd'', hrest''⟩ := trodAll_cons hrest'
  obtain ⟨v3, vs3, d3, ds3, p3, q3, rfl, rfl, rfl, hd3, hrest3⟩ := trodAll_cons hrest''
  obtain ⟨v4, vs4, d4, ds4, p4, q4, rfl, rfl, rfl, hd4, hrest4⟩ := trodAll_cons hrest3
  obtain ⟨rfl, rfl, rfl⟩ := trodAll_nil hrest4
  exact ⟨v, v', v'', v3, v4, d, d', d'', d3, d4, p, p', p'', p3, p4, by cases args; simp_all, rfl, by simp, hd, hd', hd'', hd3, hd4⟩
theorem wf_i32 {n : Int} (h : shI .i32 n) : -2147483648 ≤ n ∧ n ≤ 2147483647 := by simpa [shI, Lit.wf, IntKind.min, IntKind.max, IntKind.signed, IntKind.bits] using h

set_option maxRecDepth 100000 in
theorem HistWider_contract (H : Type) (enc : TypeId × Value → H) (W : World) (base : Nat) (args : Array Value) (ds gs : List (DataW H)) (before : List MemPlace)
    (hval : ∀ (j : Nat) t v, Try.f5.params[j]? = some t → args[j]? = some v → Value.okWide Try.prog W .any base t v)
    (hW : DataW.Whole enc Try.prog Try.f5.params.toList Rows.histWiderSpec.vars false W args.toList ds gs before) (hB : Rows.uptoSmall H (ds ++ gs) = true) :
    Calls Try.prog 5 args W fun e W' => ∃ v, e = .returned v ∧ Rows.histWiderSpec.post enc Try.prog Try.f5 false true false false W args v W' := by
  have hW' := hW
  obtain ⟨p, q, hA0, hV, rfl, hfz, hnd⟩ := hW
  have hA : DataW.TrodAll enc Try.prog W 0 (fun _ => true) true Try.f5.params.toList args.toList ds p := hA0
  rw [Try.params5] at hA hval
  obtain ⟨v0, v1, v2, v3, v4, d0, d1, d2, d3, d4, p0, p1, p2, p3, p4, rfl, rfl, rfl, h0, h1, h2, h3, h4⟩ := gB hA
  have hB : Rows.uptoBulkAll ([d0, d1, d2, d3, d4] ++ gs) ≤ 1048576 := of_decide_eq_true hB
  have hm : ∀ d, d ∈ [d0, d1, d2, d3, d4] → Rows.uptoBulk d ≤ 1048576 := fun d hd => Nat.le_trans (dY (List.mem_append_left _ hd)) hB
  obtain ⟨a0, l0, c0, rfl⟩ := okWide_slice Try.underlying30 (hval 0 30 v0 rfl rfl)
  obtain ⟨a1, l1, c1, rfl⟩ := okWide_slice Try.underlying43 (hval 1 43 v1 rfl rfl)
  obtain ⟨a2, l2, c2, rfl⟩ := okWide_slice Try.underlying33 (hval 2 33 v2 rfl rfl)
  obtain ⟨a3, l3, c3, rfl⟩ := okWide_slice Try.underlying33 (hval 3 33 v3 rfl rfl)
  obtain ⟨n4, rfl, _, _, w4⟩ := open_int Try.underlying21 (hval 4 21 v4 rfl rfl) h4
  obtain ⟨ps, g0⟩ := argPols h0 rfl
  obtain ⟨calls, k1, k2, g1⟩ := nV h1 rfl (hm d1 (by simp))
  obtain ⟨early, e1, e2, g2⟩ := jK h2 rfl (hm d2 (by simp))
  obtain ⟨later, f1, f2, g3⟩ := jK h3 rfl (hm d3 (by simp))
  refine ((eS (ps := ps) (calls := calls) (early := early) (later := later) (y := n4) k2 k1 e1 f1 (wf_i32 w4) e2 f2).out ⟨fun _ => 0, fun _ => 0, fun b => b < W.heap.size⟩ W _ (fun b hb => hb) rfl fun j hj => ?_).mono ?_
  · have : j = 0 ∨ j = 1 ∨ j = 2 ∨ j = 3 ∨ j = 4 := by simp at hj; omega
    rcases this with rfl | rfl | rfl | rfl | rfl
    · exact g0 _ rfl
    · exact g1 _ rfl
    · exact g2 _ rfl
    · exact g3 _ rfl
    · exact .d _ _ (.val _ rfl)
  · rintro e W' ⟨v, rfl, hk, hv⟩
    have := hv.val_inv
    subst this
    exact ⟨_, rfl, ny kids full (by rw [Try.params5]; decide) rfl (tb := 4) (by kernel_rfl) Try.underlying4 (fun h => by subst h; exact ⟨rfl, rfl, rfl⟩) hW' hk⟩

set_option maxRecDepth 100000 in
theorem HistWider_lifted (os : Os) (started : os.Started) (H : Type) (enc : TypeId × Value → H) (F : Stop.Interp) :
    ReturnsInHanded {} Try.checked os 5 .any ((Rows.OpenSpec.upto Rows.histWiderSpec).pre6 enc Try.prog Try.f5 Rows.histWiderUptoRow.domain false) (((Rows.OpenSpec.upto Rows.histWiderSpec).at F).post enc Try.prog Try.f5 false true false false) := by
  refine returnsInHanded_of_cond (C := Try.checked) (s := Rows.OpenSpec.upto Rows.histWiderSpec) (k := Rows.uptoSmall) rfl own started (by kernel_rfl) Try.func5
    (OpenSpec.witness (enc := enc) (C := Try.checked) (s := Rows.OpenSpec.upto Rows.histWiderSpec) (k := Rows.uptoSmall) rfl false ⟨#[], #[.slice none 0 0, .slice none 0 0, .slice none 0 0, .slice none 0 0, .int .i32 0], []⟩ 8 (by kernel_rfl) (by kernel_rfl) (by kernel_rfl)
      (x := ([.nil, .nil, .nil, .nil, .lit (.int .i32 0)], [], [])) (by kernel_rfl) rfl (by kernel_rfl)) ?_
  intro W base args ds gs before hval hW _ hB _
  exact HistWider_contract H enc W base args ds gs before hval hW hB

theorem HistWider_proved : Rows.HistWiderUptoSaid :=
  OpenClaim.holds_of_cond 5 Try.f5 rfl rfl rfl rfl rfl rfl rfl ⟨rfl, rfl, rfl, rfl, rfl⟩ rfl rfl rfl rfl rfl (by kernel_rfl) Try.func5 (by kernel_rfl)
    (of_decide_eq_true (by kernel_rfl)) (by unfold Func.isWrapper; first | (rw [if_pos (by decide +kernel)]; kernel_rfl) | (rw [if_neg (by decide +kernel)]; exact ⟨rfl, rfl⟩))
    (fun os started H enc _ F => HistWider_lifted os started H enc F)

#print axioms HistWider_proved
end Go.Proofs.Ytpdhdnhkhidmpaa
