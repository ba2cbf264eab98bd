/- Parts of the proof, one behind the other: Gub, Guc. Lemmas and contracts of functions; no condition of its own. -/
import Derived.Test.YteallmlkkcjblaaGreatDoorMR7
set_option linter.unusedVariables false
set_option linter.unusedSimpArgs false
set_option maxHeartbeats 1000000
namespace Go.Proofs.YteallmlkkcjblaaGreatDoor
open Go.RowKit
set_option maxRecDepth 100000
set_option maxHeartbeats 4000000
theorem GuardNil_holds {X Y : Obj} {m : Int} (h : GH X Y m) (s : ByteArray) : Fun TC 3 2 [.d (.val (.string s))] [(0, some (gho 0 X)), (1, some (gho 3 Y))] 2 (.b true) [(0, some (gho 0 X)), (1, some (gho 3 Y))] := by
  have hA := awake10 h
  refine Fun.mk' Tryz.func3 rfl rfl (Nat.le_of_ble_eq_true rfl) (by decide) ?_
  (repeat' (first
    | with_reducible refine Wp.seq ?_
    | with_reducible refine Wp.block ?_
    | ((with_reducible first | refine Wp.region ?_ | refine Wp.drawL TC_mixed ?_ | refine Wp.cond ?_ | refine Wp.ret ?_ | refine Wp.skip ?_ | refine Wp.exit ?_ | refine Go.mk ?_ | apply Eff1.of); conv => whnf)
    | with_reducible exact rfl
    | ((with_reducible refine Ov.ok zO ?_); conv => whnf)
    | (with_reducible refine Ov.sh1 (by with_unfolding_all exact rfl) ?_)
    | ((with_reducible refine Ov.quo (by omega) (by omega) (by omega) (fun _ _ => ?_)); conv => whnf)
    | ((with_reducible refine And.intro (show drawOK _ _ _ _ = true by kernel_rfl) ?_); conv => whnf)
    | ((with_reducible refine And.intro zC ?_); conv => whnf)
    | ((with_reducible refine And.intro ?hb ?_); (case hb => exact bytes_bd (Nat.le_of_ble_eq_true rfl) (by omega)); (conv => whnf))
    | ((refine DApp.a rfl rfl rfl rfl rfl rfl ?hb ?_); (case hb => exact zB); (conv => whnf))
    | ((refine DApp.b rfl rfl rfl rfl rfl rfl rfl rfl ?hb ?ho ?_); (case hb => exact zB); (case ho => omega); (conv => whnf))
    | ((refine DApp.c rfl rfl rfl rfl rfl ?hb ?_); (case hb => exact zB); (conv => whnf))
    | ((refine DApp.d rfl rfl rfl rfl rfl rfl ?hb ?ho ?_); (case hb => exact zB); (case ho => omega); (conv => whnf))
    | (with_reducible refine Or.inl ?_)
    | ((with_reducible refine IxA.ptr ?_); conv => whnf)
    | ((with_reducible refine nil_no (by omega) ?_); (conv => whnf))
    | ((with_reducible refine nil_any ?_ (fun hn0 => ?_)) <;> (conv => whnf))
    | ((refine CallStop.fn (hA) [0,1] rfl rfl rfl rfl rfl ?ha ?hh ?_); (case ha => exact zA); (case hh => exact zH); (conv => whnf))
    | ((refine DCall.fn (hA) [0,1] [0,1] rfl rfl rfl rfl rfl ?ha ?hh ?hs ?_); (case ha => exact zA); (case hh => exact zH); (case hs => exact zK); (conv => whnf)) | ((refine DCall.new (hA) [0,1] [0,1] rfl rfl rfl rfl rfl rfl ?ha ?hh ?hs ?_); (case ha => exact zA); (case hh => exact zH); (case hs => exact zK); (conv => whnf))
    | ((refine DCall.fn (hA) [0,1] [] rfl rfl rfl rfl rfl ?ha ?hh ?hs ?_); (case ha => exact zA); (case hh => exact zH); (case hs => exact zK); (conv => whnf)) | ((refine DCall.new (hA) [0,1] [] rfl rfl rfl rfl rfl rfl ?ha ?hh ?hs ?_); (case ha => exact zA); (case hh => exact zH); (case hs => exact zK); (conv => whnf))
    | ((with_reducible refine CallStop.pure (nil_Fire) rfl rfl ?_); conv => whnf) | ((with_reducible refine DCall.pure (nil_Fire) rfl rfl ?_); conv => whnf)
    | ((with_reducible refine CallStop.pure ((nil_One s)) rfl rfl ?_); conv => whnf) | ((with_reducible refine DCall.pure ((nil_One s)) rfl rfl ?_); conv => whnf)
    | ((with_reducible refine CallStop.pure ((nil_Strikes s)) rfl rfl ?_); conv => whnf) | ((with_reducible refine DCall.pure ((nil_Strikes s)) rfl rfl ?_); conv => whnf)
    | ((with_reducible refine CallStop.pure ((nil_Again s)) rfl rfl ?_); conv => whnf) | ((with_reducible refine DCall.pure ((nil_Again s)) rfl rfl ?_); conv => whnf)
    | ((with_reducible refine CallStop.pure (nil_Live) rfl rfl ?_); conv => whnf) | ((with_reducible refine DCall.pure (nil_Live) rfl rfl ?_); conv => whnf)
    | ((with_reducible refine CallStop.pure (same_nil) rfl rfl ?_); conv => whnf) | ((with_reducible refine DCall.pure (same_nil) rfl rfl ?_); conv => whnf)
    | ((refine ways (fun hc => ?_) (fun hc => ?_)) <;> (try simp only [decide_eq_true_eq, decide_eq_false_iff_not, Bool.and_eq_true, Bool.or_eq_true, Bool.and_eq_false_iff, Bool.or_eq_false_iff, Bool.not_eq_true', Bool.not_eq_false', beq_iff_eq, bne_iff_ne, ne_eq, beq_eq_false_iff_ne, bne_eq_false_iff_eq, Bool.not_eq_true, Bool.not_eq_false] at hc) <;> (try (exfalso; omega)) <;> (conv => whnf))))
  refine FinLe.of [0, 1] rfl (fun i hi => by have : i = 0 ∨ i = 1 := (by omega); rcases this with h | h <;> subst h <;> rfl) rfl ?_ ?_
  · (conv => whnf)
    exact .b rfl
  · (conv => whnf)
    exact ⟨⟨rfl, rfl, rfl⟩, ⟨rfl, rfl, rfl⟩, trivial⟩
end Go.Proofs.YteallmlkkcjblaaGreatDoor

namespace Go.Proofs.YteallmlkkcjblaaGreatDoor
open Go.RowKit
theorem Fun.two {C : Cx} {g b1 b2 : Nat} {X Y : Obj} {xs : List Value} {v : Value} (hf : Fun C g 2 (xs.map fun v => .d (.val v)) [(0, some (gho b1 X)), (1, some (gho b2 Y))] 2 (.d (.val v)) [(0, some (gho b1 X)), (1, some (gho b2 Y))]) (hne : b1 ≠ b2) (hx : ∀ x ∈ xs, x.oneCell' = true)
    {W : World} (h1 : W.heap[b1]? = some X) (h2 : W.heap[b2]? = some Y) : Calls C.P g xs.toArray W fun e W' => e = .returned v ∧ Kp W W' := by
  have hlk : ∀ l b, lkh [(0, some (gho b1 X)), (1, some (gho b2 Y))] l = some b → (l = 0 ∧ b = gho b1 X) ∨ (l = 1 ∧ b = gho b2 Y) := by
    intro l b h
    rw [lkh_cons] at h
    by_cases e : 0 = l
    · rw [if_pos e] at h; exact .inl ⟨e.symm, (Option.some.inj h).symm⟩
    · rw [if_neg e, lkh_cons] at h
      by_cases e1 : 1 = l
      · rw [if_pos e1] at h; exact .inr ⟨e1.symm, (Option.some.inj h).symm⟩
      · rw [if_neg e1] at h; cases h
  let E : Env := ⟨fun l => if l = 0 then b1 else b2, fun _ => 0, fun b => b < W.heap.size ∧ b ≠ b1 ∧ b ≠ b2⟩
  have hS : HSat E 2 [(0, some (gho b1 X)), (1, some (gho b2 Y))] W := by
    refine ⟨fun l b hb => ?_, fun l b hb => ?_, fun l l' b b' hb hb' _ _ hne' => ?_, fun b hb => ⟨hb.1, fun l x hl _ => ?_⟩⟩
    · rcases hlk l b hb with ⟨rfl, rfl⟩ | ⟨rfl, rfl⟩
      · exact ⟨rfl, Nat.zero_le _, X, fun _ => undef, h1, rfl, fun j hj => absurd hj (Nat.not_lt_zero _)⟩
      · exact ⟨rfl, Nat.zero_le _, Y, fun _ => undef, h2, rfl, fun j hj => absurd hj (Nat.not_lt_zero _)⟩
    · rcases hlk l b hb with ⟨rfl, rfl⟩ | ⟨rfl, rfl⟩ <;> omega
    · rcases hlk l b hb with ⟨rfl, rfl⟩ | ⟨rfl, rfl⟩ <;> rcases hlk l' b' hb' with ⟨rfl, rfl⟩ | ⟨rfl, rfl⟩
      · exact absurd rfl hne'
      · exact hne
      · exact hne.symm
      · exact absurd rfl hne'
    · rcases hlk l x hl with ⟨rfl, rfl⟩ | ⟨rfl, rfl⟩
      · exact fun e => hb.2.1 e.symm
      · exact fun e => hb.2.2 e.symm
  refine (hf.out E W xs.toArray hS (by simp) fun j hj => ?_).mono ?_
  · have hj' : j < xs.length := by simpa using hj
    rw [List.getElem_map]
    have e : xs.toArray.getD j undef = xs[j] := by simp [Array.getD, hj']
    rw [e]
    exact .d _ _ (.val _ (hx _ (List.getElem_mem hj')))
  · rintro e W' ⟨u, E', rfl, hk, hl, hS', _, _, _, hv⟩
    have := hv.val_inv
    subst this
    refine ⟨rfl, hk.os, hk.tape, hk.output, hk.size, fun k hk' => ?_⟩
    by_cases e1 : k = b1
    · subst e1; rw [h1]; exact hS'.gho (l := 0) rfl
    · by_cases e2 : k = b2
      · subst e2; rw [h2]; exact hS'.gho (l := 1) rfl
      · refine hk.block k hk' ?_
        rintro ⟨l, x, hl', _, he⟩
        rcases hlk l x hl' with ⟨rfl, rfl⟩ | ⟨rfl, rfl⟩
        · exact e1 he.symm
        · exact e2 he.symm
theorem cell_of_obj {W : World} {b : Nat} {v : Value} (h : W.cell? ⟨b, 0, none⟩ = some v) : ∃ X, W.heap[b]? = some X ∧ ∀ w : World, w.heap[b]? = some X → w.cell? ⟨b, 0, none⟩ = some v := by
  cases hb : W.heap[b]? with
  | none => simp [World.cell?, hb] at h
  | some X => exact ⟨X, rfl, fun w hw => (World.cell?_of_block (hw.trans hb.symm)).trans h⟩
end Go.Proofs.YteallmlkkcjblaaGreatDoor
