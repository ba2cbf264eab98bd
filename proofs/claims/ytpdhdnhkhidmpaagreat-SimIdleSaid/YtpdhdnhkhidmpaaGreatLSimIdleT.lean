/- PROVED: SimIdle, for every script and every place of idle picks: picks of a worker that has nothing to do change nothing. No condition. -/
import Derived.Test.YtpdhdnhkhidmpaaGreatMS25
set_option linter.unusedVariables false
set_option linter.unusedSimpArgs false
namespace Go.Proofs.YtpdhdnhkhidmpaaGreat
open Go.ChangeShapes Go.WideShapes Go.ChangeAt Go.RowKit

set_option maxRecDepth 100000 in
theorem SimIdle_contract (H : Type) (enc : TypeId × Value → H) (W : World) (base : Nat) (args : Array Value) (ds gs : List (DataW H)) (before : List MemPlace)
    (hval : ∀ (j : Nat) t v, Tryz.f6.params[j]? = some t → args[j]? = some v → Value.okWide Tryz.prog W .any base t v)
    (hW : DataW.Whole enc Tryz.prog Tryz.f6.params.toList Rows.simIdleSpec.vars false W args.toList ds gs before) :
    Calls Tryz.prog 6 args W fun e W' => ∃ v, e = .returned v ∧ Rows.simIdleSpec.post enc Tryz.prog Tryz.f6 false true false false W args v W' := by
  have hW' := hW
  obtain ⟨p, q, hA0, hV, rfl, hfz, hnd⟩ := hW
  have hA : DataW.TrodAll enc Tryz.prog W 0 (fun _ => true) true Tryz.f6.params.toList args.toList ds p := hA0
  rw [Tryz.params6] at hA hval
  obtain ⟨v0, v1, d0, d1, p0, p1, rfl, rfl, rfl, h0, h1⟩ := trodAll_two hA
  obtain ⟨room, work, picks, fin, hr, hw, hp, g0⟩ := wb (hval 0 67 v0 rfl rfl) h0
  obtain ⟨a1, l1, c1, rfl⟩ := okWide_slice Tryz.underlying31 (hval 1 31 v1 rfl rfl)
  obtain ⟨x1, hx1, g1⟩ := argInts (k := .u8) h1 (by kernel_rfl) rfl
  refine ((lA room work picks fin x1 hr hw hp fun x hx => wf_u8 (hx1 x hx)).out ⟨fun _ => 0, fun _ => 0, fun b => b < W.heap.size⟩ W _ (fun b hb => hb) rfl fun j hj => ?_).mono ?_
  · have : j = 0 ∨ j = 1 := by simp at hj; omega
    rcases this with rfl | rfl
    · exact g0 _ rfl
    · exact g1 _ rfl
  · rintro e W' ⟨v, rfl, hk, hv⟩
    have := hv.val_inv
    subst this
    exact ⟨_, rfl, oH kids full (by rw [Tryz.params6]; decide) rfl (tb := 4) (by kernel_rfl) Tryz.underlying4 (fun h => by subst h; exact ⟨rfl, rfl, rfl⟩) hW' hk⟩

set_option maxRecDepth 100000 in
theorem SimIdle_lifted (os : Os) (started : os.Started) (H : Type) (enc : TypeId × Value → H) :
    ReturnsInHanded {} Tryz.checked os 6 .any (Rows.simIdleSpec.pre6 enc Tryz.prog Tryz.f6 Rows.simIdleRow.domain false) (Rows.simIdleSpec.post enc Tryz.prog Tryz.f6 false true false false) := by
  refine returnsInHanded_of_change (C := Tryz.checked) own started (by kernel_rfl) Tryz.func6
    (ChangeSpec.witness6 (enc := enc) (C := Tryz.checked) false ⟨#[], #[.agg #[.slice none 0 0, .int .i64 0, .slice none 0 0, .slice none 0 0, .bool false], .slice none 0 0], []⟩ 8 (by kernel_rfl) (by kernel_rfl) (by kernel_rfl) (by kernel_rfl)) ?_
  intro W base args ds gs before hval hW _ _
  exact SimIdle_contract H enc W base args ds gs before hval hW

theorem SimIdle_proved : Rows.SimIdleSaid :=
  OpenClaim.holds_of_wide 6 Tryz.f6 rfl rfl rfl rfl rfl rfl rfl ⟨rfl, rfl, rfl, rfl, rfl⟩ rfl rfl rfl rfl rfl (by kernel_rfl) Tryz.func6 (by kernel_rfl)
    (of_decide_eq_true (by kernel_rfl)) (by unfold Func.isWrapper; first | (rw [if_pos (by decide +kernel)]; kernel_rfl) | (rw [if_neg (by decide +kernel)]; exact ⟨rfl, rfl⟩))
    (fun os started H enc _ => SimIdle_lifted os started H enc)

#print axioms SimIdle_proved
end Go.Proofs.YtpdhdnhkhidmpaaGreat
