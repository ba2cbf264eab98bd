/- PROVED: BookSwaps, for every script and every two asks: two calls on unlike identities may be made in either order. No condition. -/
import Derived.Test.YtkdolemhhihidaaM13
set_option linter.unusedVariables false
set_option linter.unusedSimpArgs false
namespace Go.Proofs.Ytkdolemhhihidaa
open Go.ChangeShapes Go.WideShapes Go.ChangeAt Go.RowKit

set_option maxRecDepth 100000 in
theorem BookSwaps_contract (H : Type) (enc : TypeId × Value → H) (W : World) (base : Nat) (args : Array Value) (ds gs : List (DataW H)) (before : List MemPlace)
    (hval : ∀ (j : Nat) t v, Try.f9.params[j]? = some t → args[j]? = some v → Value.okWide Try.prog W .any base t v)
    (hW : DataW.Whole enc Try.prog Try.f9.params.toList Rows.bookSwapsSpec.vars false W args.toList ds gs before) :
    Calls Try.prog 9 args W fun e W' => ∃ v, e = .returned v ∧ Rows.bookSwapsSpec.post enc Try.prog Try.f9 false true false false W args v W' := by
  have hW' := hW
  obtain ⟨p, q, hA0, hV, rfl, hfz, hnd⟩ := hW
  have hA : DataW.TrodAll enc Try.prog W 0 (fun _ => true) true Try.f9.params.toList args.toList ds p := hA0
  rw [Try.params9] at hA hval
  obtain ⟨v0, v1, v2, d0, d1, d2, p0, p1, p2, rfl, rfl, rfl, h0, h1, h2⟩ := trodAll_three hA
  obtain ⟨a0, l0, c0, rfl⟩ := okWide_slice Try.underlying33 (hval 0 33 v0 rfl rfl)
  obtain ⟨script, hok, g0⟩ := argScript h0 rfl
  obtain ⟨x, hx, g1⟩ := argAsk (hval 1 39 v1 rfl rfl) h1
  obtain ⟨y, hy, g2⟩ := argAsk (hval 2 39 v2 rfl rfl) h2
  refine ((BookSwaps_holds script x y hok hx hy).out ⟨fun _ => 0, fun _ => 0, fun b => b < W.heap.size⟩ W _ (fun b hb => hb) rfl fun j hj => ?_).mono ?_
  · have : j = 0 ∨ j = 1 ∨ j = 2 := by simp at hj; omega
    rcases this with rfl | rfl | rfl
    · exact g0 _ rfl
    · exact g1 _ rfl
    · exact g2 _ rfl
  · rintro e W' ⟨v, rfl, hk, hv⟩
    have := hv.val_inv
    subst this
    exact ⟨_, rfl, law_post kids full (by rw [Try.params9]; decide) rfl (tb := 4) (by kernel_rfl) Try.underlying4 (fun h => by subst h; exact ⟨rfl, rfl, rfl⟩) hW' hk⟩

set_option maxRecDepth 100000 in
theorem BookSwaps_lifted (os : Os) (started : os.Started) (H : Type) (enc : TypeId × Value → H) :
    ReturnsInHanded {} Try.checked os 9 .any (Rows.bookSwapsSpec.pre6 enc Try.prog Try.f9 Rows.bookSwapsRow.domain false) (Rows.bookSwapsSpec.post enc Try.prog Try.f9 false true false false) := by
  refine returnsInHanded_of_change (C := Try.checked) own started (by kernel_rfl) Try.func9
    (ChangeSpec.witness6 (enc := enc) (C := Try.checked) false ⟨#[], #[.slice none 0 0, .agg #[.int .u8 0, .int .i64 0, .slice none 0 0, .int .i64 0, .int .i64 0, .int .i64 0], .agg #[.int .u8 0, .int .i64 0, .slice none 0 0, .int .i64 0, .int .i64 0, .int .i64 0]], []⟩ 8 (by kernel_rfl) (by kernel_rfl) (by kernel_rfl) (by kernel_rfl)) ?_
  intro W base args ds gs before hval hW _ _
  exact BookSwaps_contract H enc W base args ds gs before hval hW

theorem BookSwaps_proved : Rows.BookSwapsSaid :=
  OpenClaim.holds_of_wide 9 Try.f9 rfl rfl rfl rfl rfl rfl rfl ⟨rfl, rfl, rfl, rfl, rfl⟩ rfl rfl rfl rfl rfl (by kernel_rfl) Try.func9 (by kernel_rfl)
    (of_decide_eq_true (by kernel_rfl)) (by unfold Func.isWrapper; first | (rw [if_pos (by decide +kernel)]; kernel_rfl) | (rw [if_neg (by decide +kernel)]; exact ⟨rfl, rfl⟩))
    (fun os started H enc _ => BookSwaps_lifted os started H enc)

#print axioms BookSwaps_proved
end Go.Proofs.Ytkdolemhhihidaa
