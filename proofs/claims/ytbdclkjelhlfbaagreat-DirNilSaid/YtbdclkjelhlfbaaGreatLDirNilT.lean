/- PROVED: DirNil, for every pick: a nil directory answers as the document says. No condition. -/
import Derived.Test.YtbdclkjelhlfbaaGreatM15
set_option linter.unusedVariables false
set_option linter.unusedSimpArgs false
namespace Go.Proofs.YtbdclkjelhlfbaaGreat
open Go.ChangeShapes Go.WideShapes Go.ChangeAt Go.RowKit

set_option maxRecDepth 100000 in
theorem DirNil_contract (H : Type) (enc : TypeId × Value → H) (W : World) (base : Nat) (args : Array Value) (ds gs : List (DataW H)) (before : List MemPlace)
    (hval : ∀ (j : Nat) t v, Tryz.f5.params[j]? = some t → args[j]? = some v → Value.okWide Tryz.prog W .any base t v)
    (hW : DataW.Whole enc Tryz.prog Tryz.f5.params.toList Rows.dirNilSpec.vars false W args.toList ds gs before)
    (hsz : (DataW.weightsEach Tryz.prog (Tryz.f5.params.toList ++ Rows.dirNilSpec.plain.varTypes Tryz.prog) (ds ++ gs)).all (· ≤ reachBytes) = true) :
    Calls Tryz.prog 5 args W fun e W' => ∃ v, e = .returned v ∧ Rows.dirNilSpec.post enc Tryz.prog Tryz.f5 false true false false W args v W' := by
  have hW' := hW
  obtain ⟨p, q, hA0, hV, rfl, hfz, hnd⟩ := hW
  have hA : DataW.TrodAll enc Tryz.prog W 0 (fun _ => true) true Tryz.f5.params.toList args.toList ds p := hA0
  rw [Tryz.params5] at hA hval hsz
  obtain ⟨v0, d0, rfl, rfl, h0⟩ := trodAll_one hA
  obtain ⟨p0, hok, hl, g0⟩ := argPick (hval 0 47 v0 rfl rfl) h0 hsz (j := 0) rfl rfl
  refine ((DirNil_holds p0 hok hl).out ⟨fun _ => 0, fun _ => 0, fun b => b < W.heap.size⟩ W _ (fun b hb => hb) rfl fun j hj => ?_).mono ?_
  · obtain rfl : j = 0 := by simpa using hj
    exact g0 _ rfl
  · rintro e W' ⟨v, rfl, hk, hv⟩
    have := hv.val_inv
    subst this
    exact ⟨_, rfl, law_post kids full (by rw [Tryz.params5]; decide) rfl (tb := 4) (by kernel_rfl) Tryz.underlying4 (fun h => by subst h; exact ⟨rfl, rfl, rfl⟩) hW' hk⟩

set_option maxRecDepth 100000 in
theorem DirNil_lifted (os : Os) (started : os.Started) (H : Type) (enc : TypeId × Value → H) :
    ReturnsInHanded {} Tryz.checked os 5 .any (Rows.dirNilSpec.pre6 enc Tryz.prog Tryz.f5 Rows.dirNilRow.domain false) (Rows.dirNilSpec.post enc Tryz.prog Tryz.f5 false true false false) := by
  refine returnsInHanded_of_change_sized (C := Tryz.checked) own started (by kernel_rfl) Tryz.func5
    (ChangeSpec.witness6 (enc := enc) (C := Tryz.checked) false ⟨#[], #[.agg #[.int .i64 0, .int .u8 0, .slice none 0 0, .int .i64 0]], []⟩ 8 (by kernel_rfl) (by kernel_rfl) (by kernel_rfl) (by kernel_rfl)) ?_
  intro W base args ds gs before hval hW _ hsz _
  exact DirNil_contract H enc W base args ds gs before hval hW hsz

theorem DirNil_proved : Rows.DirNilSaid :=
  OpenClaim.holds_of_wide 5 Tryz.f5 rfl rfl rfl rfl rfl rfl rfl ⟨rfl, rfl, rfl, rfl, rfl⟩ rfl rfl rfl rfl rfl (by kernel_rfl) Tryz.func5 (by kernel_rfl)
    (of_decide_eq_true (by kernel_rfl)) (by unfold Func.isWrapper; first | (rw [if_pos (by decide +kernel)]; kernel_rfl) | (rw [if_neg (by decide +kernel)]; exact ⟨rfl, rfl⟩))
    (fun os started H enc _ => DirNil_lifted os started H enc)

#print axioms DirNil_proved
end Go.Proofs.YtbdclkjelhlfbaaGreat
