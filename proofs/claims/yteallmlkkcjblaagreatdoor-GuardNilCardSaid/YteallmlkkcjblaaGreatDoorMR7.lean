/- Parts of the proof, one behind the other: Sx34, Gu6, Gu7, Gu8, Gu9, Gua. Lemmas and contracts of functions; no condition of its own. -/
import Derived.Test.YteallmlkkcjblaaGreatDoorMR6
set_option linter.unusedVariables false
set_option linter.unusedSimpArgs false
set_option maxHeartbeats 1000000
namespace Go.Proofs.YteallmlkkcjblaaGreatDoor
open Go.RowKit
@[reducible] def mpB (b m : Nat) (keys : List ByteArray) (g : Nat → SV) : Blk := .obj b m keys.length (mpP keys) g
@[reducible] def mpV (b : Nat) : SV := .d (.val (.map (some b)))
theorem OpStop.makeMap {C : Cx} {t nx : Nat} {nt : NT} {fr : List (Nat × SV)} {hp : List (Nat × Option Blk)} {k : St → SV → Prop} (h : ∀ b, k ⟨nt, nx + 1, fr, (nx, some (mpB b 0 [] fun _ => .any)) :: hp⟩ (mpV b)) : OpStop C ⟨nt, nx, fr, hp⟩ (.makeMap t none) k :=
  ⟨fun O E a w o ho hs => by
    have hE : ∀ l, l < nx → (E.new nx w.heap.size).ρ l = E.ρ l ∧ (E.new nx w.heap.size).κ l = E.κ l := fun l hl => ⟨by simp only [Env.new]; rw [if_neg (by omega)], rfl⟩
    have hr : (E.new nx w.heap.size).ρ nx = w.heap.size := by simp [Env.new]
    have s1 := hs.alloc_gen (E' := E.new nx w.heap.size) (.map #[] 0) (mpB w.heap.size 0 [] fun _ => .any) hE rfl hr ⟨hr, Nat.zero_le _, .map #[] 0, fun _ => undef, by rw [hr]; exact heap_alloc_new w _, ⟨#[], rfl, rfl, fun j hj => by simp at hj⟩, fun j hj => by simp at hj⟩
    exact .val (m := Instr.makeMap t none) ⟨.map (some w.heap.size), _, _, _, _, rfl, h w.heap.size, s1, .d _ _ (.val _ rfl)⟩ (by simp [execOp, ho])⟩
theorem SV.Lt.up {m n : Nat} (h : m ≤ n) {x : SV} (hx : SV.Lt m x) : SV.Lt n x := by
  induction hx with
  | any => exact .any
  | d x => exact .d x
  | ptr l o h1 => exact .ptr l o (by omega)
  | rp l z i o h1 => exact .rp l z i o (by omega)
  | sl l z o k h1 => exact .sl l z o k (by omega)
  | agg vs _ ih => exact .agg vs ih
  | tup vs _ ih => exact .tup vs ih
  | fn f vs _ ih => exact .fn f vs ih
  | iref vs o _ ih => exact .iref vs o ih
theorem heap_setL {w : World} {r : Nat} {o o' : Obj} (hb : w.heap[r]? = some o) : (w.heap.setIfInBounds r o')[r]? = some o' := (MapKept.heap_set hb).1
theorem OpStop.mapUp {C : Cx} {t kt et b l mm nx : Nat} {m i v : Operand} {keys : List ByteArray} {g : Nat → SV} {s : ByteArray} {val : SV} {nt : NT} {fr : List (Nat × SV)} {hp : List (Nat × Option Blk)} {k : St → SV → Prop} (h1 : C.P.underlying t = some (.map kt et)) (h2 : C.P.underlying kt = some .string)
    (hm : ev ⟨nt, nx, fr, hp⟩ m = mpV b) (hi : ev ⟨nt, nx, fr, hp⟩ i = .d (.val (.string s))) (hv : ev ⟨nt, nx, fr, hp⟩ v = val) (hone : val.one = true) (hlt : SV.Lt nx val)
    (hl : lkh hp l = some (mpB b mm keys g))
    (h : ((∃ j, j < keys.length ∧ keys.getD j default = s ∧ (∀ j', j' < keys.length → keys.getD j' default = s → j' = j) ∧ k ⟨nt, nx, fr, (l, some (mpB b nx keys fun q => if q = j then val else g q)) :: hp⟩ .any) ∨
      ((∀ j, j < keys.length → keys.getD j default ≠ s) ∧ k ⟨nt, nx, fr, (l, some (mpB b nx (keys ++ [s]) fun q => if q = keys.length then val else g q)) :: hp⟩ .any))) : OpStop C ⟨nt, nx, fr, hp⟩ (.mapUpdate t m i v) k :=
  ⟨fun O E a w o ho hs => by
    have em := ev_ok hs m
    rw [hm] at em
    have em := em.val_inv
    have ei := ev_ok hs i
    rw [hi] at ei
    have ei := ei.val_inv
    have hval := ev_ok hs v
    rw [hv] at hval
    obtain ⟨e0, hmm, oo, uu, hoo, ⟨es, rfl, hsz, hall⟩, hg⟩ := hs.hp l _ hl
    rw [e0] at hoo
    have hwr : ∀ (es' : Array MapEntry) (n' : Nat) (keys' : List ByteArray) (g' : Nat → SV), n' = keys'.length → (Instr.mapUpdate t (.map (some b)) (.string s) (a.eval v)).run C.P w = .ok () { w with heap := w.heap.setIfInBounds b (.map es' n') } →
        es'.size = keys'.length → (∀ j (hj : j < es'.size), es'[j].key = .string (keys'.getD j default) ∧ es'[j].born = j ∧ (SV.Lt nx (g' j) ∧ RS E nx w (g' j) es'[j].val ∧ es'[j].val.oneCell' = true)) →
        k ⟨nt, nx, fr, (l, some (mpB b nx keys' g')) :: hp⟩ .any → Comes1 C O o a w k := by
      intro es' n' keys' g' hn' hrun hsz' hall' hk next Q hnext
      unfold Oper.wp
      rw [show (execOp a.eval o).run C.P w = .ok .skip { w with heap := w.heap.setIfInBounds b (.map es' n') } by simp [execOp, ho, em, ei, hrun]]
      have hother : ∀ q, q ≠ E.ρ l → ({ w with heap := w.heap.setIfInBounds b (.map es' n') } : World).heap[q]? = w.heap[q]? := fun q hq => (MapKept.heap_set hoo).2 q (by rw [← e0]; exact hq)
      have hs' := hs.seth_gen (w' := { w with heap := w.heap.setIfInBounds b (.map es' n') }) (b' := mpB b nx keys' g') hl trivial hother (by simp) ⟨rfl, rfl, rfl⟩ ?_
      · exact hnext undef E _ _ .any hk hs' (.any _)
      · refine ⟨e0, Nat.le_refl _, .map es' n', fun j => (es'[j]?.map (·.val)).getD undef, by rw [e0]; exact heap_setL hoo, ⟨es', by rw [hn'], hsz', fun j hj => ?_⟩, fun j hj => ?_⟩
        · obtain ⟨p1, p2, _⟩ := hall' j hj
          exact ⟨p1, by simp [hj], p2⟩
        · have hj' : j < es'.size := by omega
          obtain ⟨_, _, p3, p4, p5⟩ := hall' j hj'
          have e9 : (es'[j]?.map (·.val)).getD undef = es'[j].val := by simp [hj']
          show SV.Lt nx (g' j) ∧ RS E nx _ (g' j) ((es'[j]?.map (·.val)).getD undef) ∧ ((es'[j]?.map (·.val)).getD undef).oneCell' = true
          rw [e9]
          refine ⟨p3, RS.mono (E := E) (fun _ _ => ⟨rfl, rfl⟩) (Nat.le_refl _) (fun _ h => h) (fun q hq => hother q fun e => (hs.im q hq).2.2 l _ hl trivial e.symm) p4, p5⟩
    have hkk := MapKept.run_checkKey (P := C.P) (w := w) (k := .string s) h2 trivial false 9999
    have hgL : ∀ j, j < keys.length → SV.Lt nx (g j) := fun j hj => (hg j hj).1.up hmm
    rcases mp_find hsz hall s with ⟨f1, f2⟩ | ⟨j, f1, f2, f3⟩
    · rcases h with ⟨j, j1, j2, _, _⟩ | ⟨_, hk⟩
      · exact absurd j2 (f2 j j1)
      · have hf := MapKept.run_findKey (P := C.P) (w := w) (l := es.toList) h2 f1
        refine hwr (es.push { key := .string s, val := a.eval v, born := keys.length }) (keys.length + 1) (keys ++ [s]) _ (by simp) ?_ (by simp [hsz]) (fun j hj => ?_) hk
        · unfold Instr.mapUpdate
          simp only [Sem.run_bind, run_underlying h1, Result.andThen, MapKept.run_getObj_map hoo, hkk, hf, MapKept.run_setObj_map _ hoo]
        · by_cases e : j < es.size
          · obtain ⟨p1, p2, p3⟩ := hall j e
            have hjk : j < keys.length := by omega
            simp only [Array.getElem_push, dif_pos e, if_neg (show ¬ j = keys.length by omega)]
            refine ⟨by rw [p1, List.getD_eq_getElem?_getD, List.getD_eq_getElem?_getD, List.getElem?_append_left hjk], p3, hgL j hjk, ?_, ?_⟩
            · rw [p2]; exact (hg j hjk).2.1
            · rw [p2]; exact (hg j hjk).2.2
          · have hj2 : j = es.size := by have : j < es.size + 1 := by simpa using hj
                                         omega
            subst hj2
            simp only [Array.getElem_push, Nat.lt_irrefl, dif_neg, not_false_iff, if_pos hsz]
            refine ⟨by simp [hsz], hsz.symm, hlt, hval, RS.one hval hone⟩
    · rcases h with ⟨j', j1, j2, j3, hk⟩ | ⟨n1, _⟩
      · obtain rfl := j3 j f2 f3
        have hf := MapKept.run_findKey (P := C.P) (w := w) (l := es.toList) h2 f1
        have hj : j < es.size := by omega
        have hkey : ((es[j]?).map (·.key)).getD (.string s) = .string s := by
          rw [Array.getElem?_eq_getElem hj]
          show es[j].key = _
          rw [(hall j hj).1, f3]
        have hstay : (Instr.keyThatStays (.string s) (.string s)).run C.P w = .ok (.string s) w := by
          unfold Instr.keyThatStays
          have : Instr.sameBits 10000 (.string s) (.string s) = true := by
            show (s == s) = true
            exact (MapKept.bytes_beq s s).2 rfl
          rw [if_pos this]; rfl
        refine hwr (es.modify j fun e => { e with key := .string s, val := a.eval v }) keys.length keys _ rfl ?_ (by simp [hsz]) (fun q hq => ?_) hk
        · unfold Instr.mapUpdate
          simp only [Sem.run_bind, run_underlying h1, Result.andThen, MapKept.run_getObj_map hoo, hkk, hf, hkey, hstay, MapKept.run_setObj_map _ hoo]
        · have hq' : q < es.size := by simpa using hq
          obtain ⟨p1, p2, p3⟩ := hall q hq'
          have hqk : q < keys.length := by omega
          rw [Array.getElem_modify]
          by_cases e : j = q
          · subst e
            simp only [if_true]
            exact ⟨by rw [f3], p3, hlt, hval, RS.one hval hone⟩
          · simp only [if_neg e, if_neg (fun e9 : q = j => e e9.symm)]
            refine ⟨p1, p3, hgL q hqk, ?_, ?_⟩
            · rw [p2]; exact (hg q hqk).2.1
            · rw [p2]; exact (hg q hqk).2.2
      · exact absurd f3 (n1 j f2)⟩
end Go.Proofs.YteallmlkkcjblaaGreatDoor

namespace Go.Proofs.YteallmlkkcjblaaGreatDoor
open Go.RowKit
set_option maxRecDepth 100000
set_option maxHeartbeats 4000000
theorem OpStop.lookN {C : Cx} {t kt et b l mm : Nat} {m i : Operand} {keys : List ByteArray} {g : Nat → SV} {s : ByteArray} {z0 : Value} {S : St} {k : St → SV → Prop} (h1 : C.P.underlying t = some (.map kt et)) (h2 : C.P.underlying kt = some .string) (h3 : ∀ w, (zeroValue et).run C.P w = .ok z0 w) (hz : z0.oneCell' = true)
    (hm : ev S m = mpV b) (hi : ev S i = .d (.val (.string s))) (hl : lkh S.hp l = some (mpB b mm keys g)) (h : (∃ j, j < keys.length ∧ keys.getD j default = s ∧ (∀ j', j' < keys.length → keys.getD j' default = s → j' = j) ∧ k S (g j)) ∨ ((∀ j, j < keys.length → keys.getD j default ≠ s) ∧ k S (.d (.val z0)))) : OpStop C S (.lookup t m i false) k :=
  ⟨fun O E a w o ho hs => by
    have em := ev_ok hs m
    rw [hm] at em
    have em := em.val_inv
    have ei := ev_ok hs i
    rw [hi] at ei
    have ei := ei.val_inv
    obtain ⟨e0, hmm, o', uu, ho', ⟨es, rfl, hsz, hall⟩, hg⟩ := hs.hp l _ hl
    rw [e0] at ho'
    have hrun : ∀ r, Instr.findNow .string (.string s) es.toList 0 = some r → (Instr.lookup t (.map (some b)) (.string s) false).run C.P w = (match r with | some (_, v) => Result.ok v w | none => .ok z0 w) := fun r hr => by
      have hkk := MapKept.run_checkKey (P := C.P) (w := w) (k := .string s) h2 trivial es.isEmpty 9999
      have hf := MapKept.run_findKey (P := C.P) (w := w) (l := es.toList) h2 hr
      unfold Instr.lookup
      simp only [Sem.run_bind, run_underlying h1, Result.andThen, MapKept.run_getObj_map ho', Sem.run_pure, hkk, hf]
      cases r with
      | none => simp [h3 w, Sem.run_bind, Result.andThen]
      | some p => obtain ⟨q, v⟩ := p; simp
    have fin : ∀ v x, (Instr.lookup t (.map (some b)) (.string s) false).run C.P w = .ok v w → k S x → RS E S.nx w x v → Comes1 C O o a w k := fun v x hr hk hx =>
      .val (m := Instr.lookup t (a.eval m) (a.eval i) false) ⟨v, w, E, S, x, by rw [em, ei]; exact hr, hk, hs, hx⟩ (by simp [execOp, ho])
    rcases mp_find hsz hall s with ⟨f1, f2⟩ | ⟨j, f1, f2, f3⟩
    · rcases h with ⟨j, j1, j2, _, _⟩ | ⟨_, hk⟩
      · exact absurd j2 (f2 j j1)
      · exact fin _ _ (hrun _ f1) hk (.d _ _ (.val _ hz))
    · rcases h with ⟨j', j1, j2, j3, hk⟩ | ⟨n1, _⟩
      · obtain rfl := j3 j f2 f3
        exact fin _ _ (hrun _ f1) hk (hg j f2).2.1
      · exact absurd f3 (n1 j f2)⟩
@[reducible] def bS : ByteArray := ⟨#[98]⟩
@[reducible] def hkD : D := .sl 2 1 fun _ => [.val (.string bS), gzP]
theorem named_b : Pure TC 24 [.d (.val (.string bS))] (.b true) := by
  refine Pure.val (xs := [.string bS]) (.mk Tryz.func24 rfl rfl) rfl fun w => ?_
  show Calls Tryz.prog 24 #[.string ⟨#[98]⟩] w _
  go_enter Tryz.func24, Tryz.ntmps24
  go_wp2
  refine wp_loop_rounds 2 ?_
  rw [rounds_succ]
  go_wp2
  rw [rounds_succ]
  go_wp2
  go_ret
  exact ⟨rfl, rfl⟩
theorem zero_int (w : World) : (zeroValue 3).run Tryz.prog w = .ok (.int .i64 0) w := by kernel_rfl
theorem check_hk : Pure TC 17 [.d hkD] (.i .i64 0) := by
  have um := Tryz.underlying79
  have us := Tryz.underlying9
  refine Pure.mk' Tryz.func17 rfl rfl (Nat.le_of_ble_eq_true rfl) ?_
  (repeat' (first
    | with_reducible refine Wp.seq ?_
    | with_reducible refine Wp.block ?_
    | ((with_reducible first | refine Wp.region ?_ | refine Wp.drawL TC_mixed ?_ | refine Wp.cond ?_ | refine Wp.ret ?_ | refine Wp.skip ?_ | refine Wp.exit ?_ | refine Go.mk ?_ | apply Eff1.of); conv => whnf)
    | with_reducible exact rfl
    | ((with_reducible refine Ov.ok zO ?_); conv => whnf)
    | (with_reducible refine Ov.sh1 (by with_unfolding_all exact rfl) ?_)
    | ((with_reducible refine Ov.quo (by omega) (by omega) (by omega) (fun _ _ => ?_)); conv => whnf)
    | ((with_reducible refine And.intro (show drawOK _ _ _ _ = true by kernel_rfl) ?_); conv => whnf)
    | ((with_reducible refine And.intro zC ?_); conv => whnf)
    | ((with_reducible refine And.intro ?hb ?_); (case hb => exact bytes_bd (Nat.le_of_ble_eq_true rfl) (by omega)); (conv => whnf))
    | ((refine DApp.a rfl rfl rfl rfl rfl rfl ?hb ?_); (case hb => exact zB); (conv => whnf))
    | ((refine DApp.b rfl rfl rfl rfl rfl rfl rfl rfl ?hb ?ho ?_); (case hb => exact zB); (case ho => omega); (conv => whnf))
    | ((refine DApp.c rfl rfl rfl rfl rfl ?hb ?_); (case hb => exact zB); (conv => whnf))
    | ((refine DApp.d rfl rfl rfl rfl rfl rfl ?hb ?ho ?_); (case hb => exact zB); (case ho => omega); (conv => whnf))
    | (with_reducible refine Or.inl ?_)
    | ((with_reducible refine IxA.ptr ?_); conv => whnf)
    | ((with_reducible refine nil_no (by omega) ?_); (conv => whnf))
    | ((with_reducible refine nil_any ?_ (fun hn0 => ?_)) <;> (conv => whnf))
    | ((with_reducible refine Wp.loopN 4 ?_); conv => whnf)
    | ((with_reducible refine CallStop.pure (check_div) rfl rfl ?_); conv => whnf) | ((with_reducible refine DCall.pure (check_div) rfl rfl ?_); conv => whnf)
    | ((with_reducible refine CallStop.pure (named_b) rfl rfl ?_); conv => whnf) | ((with_reducible refine DCall.pure (named_b) rfl rfl ?_); conv => whnf)
    | (with_reducible refine CallStop.inline Tryz.func23 rfl rfl rfl (Nat.le_of_ble_eq_true rfl) ?_)
    | ((with_reducible refine OpStop.makeMap (fun b => ?_)); conv => whnf)
    | ((refine OpStop.lookN (l := 1) um us zero_int rfl rfl rfl rfl (.inr ⟨(fun j hj => absurd hj (Nat.not_lt_zero j)), ?_⟩)); conv => whnf)
    | ((refine OpStop.mapUp (l := 1) um us rfl rfl rfl rfl (.d _) rfl (.inr ⟨(fun j hj => absurd hj (Nat.not_lt_zero j)), ?_⟩)); conv => whnf)
    | ((refine OpStop.lookN (l := 1) um us zero_int rfl rfl rfl rfl (.inl ⟨0, Nat.zero_lt_one, rfl, (fun j hj _ => Nat.lt_one_iff.1 hj), ?_⟩)); conv => whnf)
    | ((refine ways (fun hc => ?_) (fun hc => ?_)) <;> (try simp only [decide_eq_true_eq, decide_eq_false_iff_not, Bool.and_eq_true, Bool.or_eq_true, Bool.and_eq_false_iff, Bool.or_eq_false_iff, Bool.not_eq_true', Bool.not_eq_false', beq_iff_eq, bne_iff_ne, ne_eq, beq_eq_false_iff_ne, bne_eq_false_iff_eq, Bool.not_eq_true, Bool.not_eq_false] at hc) <;> (try (exfalso; omega)) <;> (conv => whnf))))
  exact .rfl _
theorem act_Clone (a : Int × Int) : Fun TC 18 0 [.d (.sl 2 1 fun _ => actD a)] [] 1 (.sl 0 2 0 1) [(0, some (.row 61 2 1 fun _ => actD a))] := by
  refine Fun.mk' Tryz.func18 rfl rfl (Nat.le_of_ble_eq_true rfl) (by decide) ?_
  (repeat' (first
    | with_reducible refine Wp.seq ?_
    | with_reducible refine Wp.block ?_
    | ((with_reducible first | refine Wp.region ?_ | refine Wp.drawL TC_mixed ?_ | refine Wp.cond ?_ | refine Wp.ret ?_ | refine Wp.skip ?_ | refine Wp.exit ?_ | refine Go.mk ?_ | apply Eff1.of); conv => whnf)
    | with_reducible exact rfl
    | ((with_reducible refine Ov.ok zO ?_); conv => whnf)
    | (with_reducible refine Ov.sh1 (by with_unfolding_all exact rfl) ?_)
    | ((with_reducible refine Ov.quo (by omega) (by omega) (by omega) (fun _ _ => ?_)); conv => whnf)
    | ((with_reducible refine And.intro (show drawOK _ _ _ _ = true by kernel_rfl) ?_); conv => whnf)
    | ((with_reducible refine And.intro zC ?_); conv => whnf)
    | ((with_reducible refine And.intro ?hb ?_); (case hb => exact bytes_bd (Nat.le_of_ble_eq_true rfl) (by omega)); (conv => whnf))
    | ((refine DApp.a rfl rfl rfl rfl rfl rfl ?hb ?_); (case hb => exact zB); (conv => whnf))
    | ((refine DApp.b rfl rfl rfl rfl rfl rfl rfl rfl ?hb ?ho ?_); (case hb => exact zB); (case ho => omega); (conv => whnf))
    | ((refine DApp.c rfl rfl rfl rfl rfl ?hb ?_); (case hb => exact zB); (conv => whnf))
    | ((refine DApp.d rfl rfl rfl rfl rfl rfl ?hb ?ho ?_); (case hb => exact zB); (case ho => omega); (conv => whnf))
    | (with_reducible refine Or.inl ?_)
    | ((with_reducible refine IxA.ptr ?_); conv => whnf)
    | ((with_reducible refine nil_no (by omega) ?_); (conv => whnf))
    | ((with_reducible refine nil_any ?_ (fun hn0 => ?_)) <;> (conv => whnf))
    
    | ((refine ways (fun hc => ?_) (fun hc => ?_)) <;> (try simp only [decide_eq_true_eq, decide_eq_false_iff_not, Bool.and_eq_true, Bool.or_eq_true, Bool.and_eq_false_iff, Bool.or_eq_false_iff, Bool.not_eq_true', Bool.not_eq_false', beq_iff_eq, bne_iff_ne, ne_eq, beq_eq_false_iff_ne, bne_eq_false_iff_eq, Bool.not_eq_true, Bool.not_eq_false] at hc) <;> (try (exfalso; omega)) <;> (conv => whnf))))
  refine FinLe.of [1] rfl (by simp) rfl ?_ ?_
  · exact .of_eq rfl
  · refine ⟨⟨⟨rfl, rfl, rfl⟩, fun i hi => ?_⟩, trivial⟩
    simp [catF]
end Go.Proofs.YteallmlkkcjblaaGreatDoor

namespace Go.Proofs.YteallmlkkcjblaaGreatDoor
open Go.RowKit
set_option maxRecDepth 100000
set_option maxHeartbeats 4000000
theorem New_hk : Fun TC 14 0 [.d hkD, .i .i64 1] [] 3 (.tup [.ptr 0 0, .i .i64 0]) [(0, some (.cells [.sl 1 1 0 1, .i .i64 1])), (1, some (.cf 3 1 fun _ => .ptr 2 0)), (2, some (.cells [.d (.val (.string bS)), .d gzP, .i .i64 0]))] := by
  have hC := act_Clone (15, 0)
  refine Fun.mk' Tryz.func14 rfl rfl (Nat.le_of_ble_eq_true rfl) (by decide) ?_
  (repeat' (first
    | ((refine Or.inr (DBs.of rfl rfl rfl rfl rfl rfl rfl ?_)); conv => whnf)
    | ((refine Or.inr (DApx.one 16 rfl rfl rfl rfl rfl rfl rfl rfl ?_)); conv => whnf)
    | ((refine And.intro (show _ < NT.n _ from Nat.le_of_ble_eq_true rfl) ?_); conv => whnf)
    | ((refine And.intro (show St.nt _ = _ from rfl) ?_); conv => whnf)
    | ((refine And.intro (show St.nx _ = _ from rfl) ?_); conv => whnf)
    | ((refine Wp.regionF 14 [42, 10] ?_); conv => whnf)
    | with_reducible refine Wp.seq ?_
    | with_reducible refine Wp.block ?_
    | ((with_reducible first | refine Wp.region ?_ | refine Wp.drawL TC_mixed ?_ | refine Wp.cond ?_ | refine Wp.ret ?_ | refine Wp.skip ?_ | refine Wp.exit ?_ | refine Go.mk ?_ | apply Eff1.of); conv => whnf)
    | with_reducible exact rfl
    | ((with_reducible refine Ov.ok zO ?_); conv => whnf)
    | (with_reducible refine Ov.sh1 (by with_unfolding_all exact rfl) ?_)
    | ((with_reducible refine Ov.quo (by omega) (by omega) (by omega) (fun _ _ => ?_)); conv => whnf)
    | ((with_reducible refine And.intro (show drawOK _ _ _ _ = true by kernel_rfl) ?_); conv => whnf)
    | ((with_reducible refine And.intro zC ?_); conv => whnf)
    | ((with_reducible refine And.intro ?hb ?_); (case hb => exact bytes_bd (Nat.le_of_ble_eq_true rfl) (by omega)); (conv => whnf))
    | ((refine DApp.a rfl rfl rfl rfl rfl rfl ?hb ?_); (case hb => exact zB); (conv => whnf))
    | ((refine DApp.b rfl rfl rfl rfl rfl rfl rfl rfl ?hb ?ho ?_); (case hb => exact zB); (case ho => omega); (conv => whnf))
    | ((refine DApp.c rfl rfl rfl rfl rfl ?hb ?_); (case hb => exact zB); (conv => whnf))
    | ((refine DApp.d rfl rfl rfl rfl rfl rfl ?hb ?ho ?_); (case hb => exact zB); (case ho => omega); (conv => whnf))
    | (with_reducible refine Or.inl ?_)
    | ((with_reducible refine IxA.ptr ?_); conv => whnf)
    | ((with_reducible refine nil_no (by omega) ?_); (conv => whnf))
    | ((with_reducible refine nil_any ?_ (fun hn0 => ?_)) <;> (conv => whnf))
    | ((with_reducible refine Wp.loopN 4 ?_); conv => whnf)
    | ((with_reducible refine CallStop.pure (check_hk) rfl rfl ?_); conv => whnf) | ((with_reducible refine DCall.pure (check_hk) rfl rfl ?_); conv => whnf)
    | ((refine CallStop.fn (hC) [] rfl rfl rfl rfl rfl ?ha ?hh ?_); (case ha => exact zA); (case hh => exact zH); (conv => whnf))
    | ((refine DCall.fn (hC) [] [] rfl rfl rfl rfl rfl ?ha ?hh ?hs ?_); (case ha => exact zA); (case hh => exact zH); (case hs => exact zK); (conv => whnf)) | ((refine DCall.new (hC) [] [] rfl rfl rfl rfl rfl rfl ?ha ?hh ?hs ?_); (case ha => exact zA); (case hh => exact zH); (case hs => exact zK); (conv => whnf))
    | ((refine ways (fun hc => ?_) (fun hc => ?_)) <;> (try simp only [decide_eq_true_eq, decide_eq_false_iff_not, Bool.and_eq_true, Bool.or_eq_true, Bool.and_eq_false_iff, Bool.or_eq_false_iff, Bool.not_eq_true', Bool.not_eq_false', beq_iff_eq, bne_iff_ne, ne_eq, beq_eq_false_iff_ne, bne_eq_false_iff_eq, Bool.not_eq_true, Bool.not_eq_false] at hc) <;> (try (exfalso; omega)) <;> (conv => whnf))))
  refine FinLe.of [0, 17, 15] rfl (fun i hi => absurd hi (Nat.not_lt_zero _)) rfl ?_ ?_
  · (conv => whnf)
    exact .rfl _
  · (conv => whnf)
    refine ⟨?_, ?_, ?_, trivial⟩
    · (conv => whnf)
      repeat' (first | exact trivial | exact SV.Le.rfl _ | refine And.intro ?_ ?_)
    · exact ⟨⟨rfl, Nat.le_refl _⟩, fun j hj => ⟨ArgLe.ptr rfl, .ptr _ _ (by decide)⟩⟩
    · (conv => whnf)
      refine ⟨.rfl _, ?_, .rfl _, trivial⟩
      refine SV.Le.sl (n := 1) (f := _) (g := fun _ => [.sl 2 1 fun _ => actD (15, 0)]) fun i hi => ?_
      obtain rfl : i = 0 := by omega
      rfl
end Go.Proofs.YteallmlkkcjblaaGreatDoor

namespace Go.Proofs.YteallmlkkcjblaaGreatDoor
open Go.RowKit
set_option maxRecDepth 100000
set_option maxHeartbeats 4000000
@[reducible] def rgH (s : Int) : List (Nat × Option Blk) := [(0, some (.cells [.sl 1 1 0 1, .i .i64 1])), (1, some (.cf 3 1 fun _ => .ptr 2 0)), (2, some (.cells [.d (.val (.string bS)), .d gzP, .i .i64 s]))]
theorem rg_on (s : Int) : Fun TC 11 3 [.ptr 0 0, .ptr 2 0] (rgH s) 3 (.b (decide (s < 1))) (rgH s) := by
  refine Fun.mk' Tryz.func11 rfl rfl (Nat.le_of_ble_eq_true rfl) (by decide) ?_
  (repeat' (first
    | with_reducible refine Wp.seq ?_
    | with_reducible refine Wp.block ?_
    | ((with_reducible first | refine Wp.region ?_ | refine Wp.drawL TC_mixed ?_ | refine Wp.cond ?_ | refine Wp.ret ?_ | refine Wp.skip ?_ | refine Wp.exit ?_ | refine Go.mk ?_ | apply Eff1.of); conv => whnf)
    | with_reducible exact rfl
    | ((with_reducible refine Ov.ok zO ?_); conv => whnf)
    | (with_reducible refine Ov.sh1 (by with_unfolding_all exact rfl) ?_)
    | ((with_reducible refine Ov.quo (by omega) (by omega) (by omega) (fun _ _ => ?_)); conv => whnf)
    | ((with_reducible refine And.intro (show drawOK _ _ _ _ = true by kernel_rfl) ?_); conv => whnf)
    | ((with_reducible refine And.intro zC ?_); conv => whnf)
    | ((with_reducible refine And.intro ?hb ?_); (case hb => exact bytes_bd (Nat.le_of_ble_eq_true rfl) (by omega)); (conv => whnf))
    | ((refine DApp.a rfl rfl rfl rfl rfl rfl ?hb ?_); (case hb => exact zB); (conv => whnf))
    | ((refine DApp.b rfl rfl rfl rfl rfl rfl rfl rfl ?hb ?ho ?_); (case hb => exact zB); (case ho => omega); (conv => whnf))
    | ((refine DApp.c rfl rfl rfl rfl rfl ?hb ?_); (case hb => exact zB); (conv => whnf))
    | ((refine DApp.d rfl rfl rfl rfl rfl rfl ?hb ?ho ?_); (case hb => exact zB); (case ho => omega); (conv => whnf))
    | (with_reducible refine Or.inl ?_)
    | ((with_reducible refine IxA.ptr ?_); conv => whnf)
    | ((with_reducible refine nil_no (by omega) ?_); (conv => whnf))
    | ((with_reducible refine nil_any ?_ (fun hn0 => ?_)) <;> (conv => whnf))
    
    | ((refine ways (fun hc => ?_) (fun hc => ?_)) <;> (try simp only [decide_eq_true_eq, decide_eq_false_iff_not, Bool.and_eq_true, Bool.or_eq_true, Bool.and_eq_false_iff, Bool.or_eq_false_iff, Bool.not_eq_true', Bool.not_eq_false', beq_iff_eq, bne_iff_ne, ne_eq, beq_eq_false_iff_ne, bne_eq_false_iff_eq, Bool.not_eq_true, Bool.not_eq_false] at hc) <;> (try (exfalso; omega)) <;> (conv => whnf))))
  refine FinLe.of [0, 1, 2] rfl (fun i hi => by have : i = 0 ∨ i = 1 ∨ i = 2 := (by omega); rcases this with h | h | h <;> subst h <;> rfl) rfl ?_ ?_
  · (conv => whnf)
    exact .rfl _
  · (conv => whnf)
    refine ⟨?_, ⟨⟨rfl, Nat.le_refl _⟩, fun j hj => ⟨ArgLe.ptr rfl, .ptr _ _ (by decide)⟩⟩, ?_, trivial⟩ <;> (conv => whnf)
    all_goals repeat' (first | exact trivial | exact SV.Le.rfl _ | refine And.intro ?_ ?_)
theorem rg_one {X Y : Obj} {m : Int} (h : GH X Y m) : Fun TC 12 5 [.ptr 0 0, .ptr 2 0] (rgH 0 ++ [(3, some (gho 0 X)), (4, some (gho 3 Y))]) 5 (.agg [.d (.val (.string bS)), .d (.val (.slice none 0 0)), .i .u8 15, .i .i64 0, .b true]) (rgH 1 ++ [(3, some (gho 0 X)), (4, some (gho 3 Y))]) := by
  have hR := Run_div h
  have hO := rg_on 1
  refine Fun.mk' Tryz.func12 rfl rfl (Nat.le_of_ble_eq_true rfl) (by decide) ?_
  (repeat' (first
    | with_reducible refine Wp.seq ?_
    | with_reducible refine Wp.block ?_
    | ((with_reducible first | refine Wp.region ?_ | refine Wp.drawL TC_mixed ?_ | refine Wp.cond ?_ | refine Wp.ret ?_ | refine Wp.skip ?_ | refine Wp.exit ?_ | refine Go.mk ?_ | apply Eff1.of); conv => whnf)
    | with_reducible exact rfl
    | ((with_reducible refine Ov.ok zO ?_); conv => whnf)
    | (with_reducible refine Ov.sh1 (by with_unfolding_all exact rfl) ?_)
    | ((with_reducible refine Ov.quo (by omega) (by omega) (by omega) (fun _ _ => ?_)); conv => whnf)
    | ((with_reducible refine And.intro (show drawOK _ _ _ _ = true by kernel_rfl) ?_); conv => whnf)
    | ((with_reducible refine And.intro zC ?_); conv => whnf)
    | ((with_reducible refine And.intro ?hb ?_); (case hb => exact bytes_bd (Nat.le_of_ble_eq_true rfl) (by omega)); (conv => whnf))
    | ((refine DApp.a rfl rfl rfl rfl rfl rfl ?hb ?_); (case hb => exact zB); (conv => whnf))
    | ((refine DApp.b rfl rfl rfl rfl rfl rfl rfl rfl ?hb ?ho ?_); (case hb => exact zB); (case ho => omega); (conv => whnf))
    | ((refine DApp.c rfl rfl rfl rfl rfl ?hb ?_); (case hb => exact zB); (conv => whnf))
    | ((refine DApp.d rfl rfl rfl rfl rfl rfl ?hb ?ho ?_); (case hb => exact zB); (case ho => omega); (conv => whnf))
    | (with_reducible refine Or.inl ?_)
    | ((with_reducible refine IxA.ptr ?_); conv => whnf)
    | ((with_reducible refine nil_no (by omega) ?_); (conv => whnf))
    | ((with_reducible refine nil_any ?_ (fun hn0 => ?_)) <;> (conv => whnf))
    | ((refine CallStop.fn (hR) [3,4] rfl rfl rfl rfl rfl ?ha ?hh ?_); (case ha => exact zA); (case hh => exact zH); (conv => whnf))
    | ((refine DCall.fn (hR) [3,4] [3,4] rfl rfl rfl rfl rfl ?ha ?hh ?hs ?_); (case ha => exact zA); (case hh => exact zH); (case hs => exact zK); (conv => whnf)) | ((refine DCall.new (hR) [3,4] [3,4] rfl rfl rfl rfl rfl rfl ?ha ?hh ?hs ?_); (case ha => exact zA); (case hh => exact zH); (case hs => exact zK); (conv => whnf))
    | ((refine DCall.fn (hR) [3,4] [] rfl rfl rfl rfl rfl ?ha ?hh ?hs ?_); (case ha => exact zA); (case hh => exact zH); (case hs => exact zK); (conv => whnf)) | ((refine DCall.new (hR) [3,4] [] rfl rfl rfl rfl rfl rfl ?ha ?hh ?hs ?_); (case ha => exact zA); (case hh => exact zH); (case hs => exact zK); (conv => whnf))
    | ((refine CallStop.fn (hO) [0,1,2] rfl rfl rfl rfl rfl ?ha ?hh ?_); (case ha => exact zA); (case hh => ((conv => whnf); (refine And.intro ?_ (And.intro ⟨⟨rfl, Nat.le_refl _⟩, fun j hj => ⟨ArgLe.ptr rfl, .ptr _ _ (by decide)⟩⟩ ?_) <;> exact zH))); (conv => whnf))
    | ((refine DCall.fn (hO) [0,1,2] [0,1,2] rfl rfl rfl rfl rfl ?ha ?hh ?hs ?_); (case ha => exact zA); (case hh => ((conv => whnf); (refine And.intro ?_ (And.intro ⟨⟨rfl, Nat.le_refl _⟩, fun j hj => ⟨ArgLe.ptr rfl, .ptr _ _ (by decide)⟩⟩ ?_) <;> exact zH))); (case hs => exact zK); (conv => whnf)) | ((refine DCall.new (hO) [0,1,2] [0,1,2] rfl rfl rfl rfl rfl rfl ?ha ?hh ?hs ?_); (case ha => exact zA); (case hh => ((conv => whnf); (refine And.intro ?_ (And.intro ⟨⟨rfl, Nat.le_refl _⟩, fun j hj => ⟨ArgLe.ptr rfl, .ptr _ _ (by decide)⟩⟩ ?_) <;> exact zH))); (case hs => exact zK); (conv => whnf))
    | ((refine DCall.fn (hO) [0,1,2] [] rfl rfl rfl rfl rfl ?ha ?hh ?hs ?_); (case ha => exact zA); (case hh => ((conv => whnf); (refine And.intro ?_ (And.intro ⟨⟨rfl, Nat.le_refl _⟩, fun j hj => ⟨ArgLe.ptr rfl, .ptr _ _ (by decide)⟩⟩ ?_) <;> exact zH))); (case hs => exact zK); (conv => whnf)) | ((refine DCall.new (hO) [0,1,2] [] rfl rfl rfl rfl rfl rfl ?ha ?hh ?hs ?_); (case ha => exact zA); (case hh => ((conv => whnf); (refine And.intro ?_ (And.intro ⟨⟨rfl, Nat.le_refl _⟩, fun j hj => ⟨ArgLe.ptr rfl, .ptr _ _ (by decide)⟩⟩ ?_) <;> exact zH))); (case hs => exact zK); (conv => whnf))
    | ((refine ways (fun hc => ?_) (fun hc => ?_)) <;> (try simp only [decide_eq_true_eq, decide_eq_false_iff_not, Bool.and_eq_true, Bool.or_eq_true, Bool.and_eq_false_iff, Bool.or_eq_false_iff, Bool.not_eq_true', Bool.not_eq_false', beq_iff_eq, bne_iff_ne, ne_eq, beq_eq_false_iff_ne, bne_eq_false_iff_eq, Bool.not_eq_true, Bool.not_eq_false] at hc) <;> (try (exfalso; omega)) <;> (conv => whnf))))
  refine FinLe.of [0, 1, 2, 3, 4] rfl (fun i hi => by have : i = 0 ∨ i = 1 ∨ i = 2 ∨ i = 3 ∨ i = 4 := (by omega); rcases this with h | h | h | h | h <;> subst h <;> rfl) rfl ?_ ?_
  · (conv => whnf)
    exact .rfl _
  · (conv => whnf)
    refine ⟨?_, ⟨⟨rfl, Nat.le_of_ble_eq_true rfl⟩, fun j hj => ⟨ArgLe.ptr rfl, .ptr _ _ (by decide)⟩⟩, ?_, ⟨rfl, rfl, rfl⟩, ⟨rfl, rfl, rfl⟩, trivial⟩ <;> (conv => whnf)
    all_goals repeat' (first | exact trivial | exact SV.Le.rfl _ | refine And.intro ?_ ?_)
theorem rg_Fire {X Y : Obj} {m : Int} (h : GH X Y m) : Fun TC 4 5 [.ptr 0 0] (rgH 0 ++ [(3, some (gho 0 X)), (4, some (gho 3 Y))]) 6 (.tup [.sl 5 5 0 1, .i .i64 0]) (rgH 1 ++ [(3, some (gho 0 X)), (4, some (gho 3 Y)), (5, some (.row 31 5 1 fun _ => [.val (.string bS), .val (.slice none 0 0), .val (.int .u8 15), .val (.int .i64 0), .val (.bool true)]))]) := by
  have hR := rg_one h
  have hO := rg_on 0
  refine Fun.mk' Tryz.func4 rfl rfl (Nat.le_of_ble_eq_true rfl) (by decide) ?_
  (repeat' (first
    | ((with_reducible refine CfV.mk (And.intro (by decide) ?_)); conv => whnf)
    | with_reducible refine Wp.seq ?_
    | with_reducible refine Wp.block ?_
    | ((with_reducible first | refine Wp.region ?_ | refine Wp.drawL TC_mixed ?_ | refine Wp.cond ?_ | refine Wp.ret ?_ | refine Wp.skip ?_ | refine Wp.exit ?_ | refine Go.mk ?_ | apply Eff1.of); conv => whnf)
    | with_reducible exact rfl
    | ((with_reducible refine Ov.ok zO ?_); conv => whnf)
    | (with_reducible refine Ov.sh1 (by with_unfolding_all exact rfl) ?_)
    | ((with_reducible refine Ov.quo (by omega) (by omega) (by omega) (fun _ _ => ?_)); conv => whnf)
    | ((with_reducible refine And.intro (show drawOK _ _ _ _ = true by kernel_rfl) ?_); conv => whnf)
    | ((with_reducible refine And.intro zC ?_); conv => whnf)
    | ((with_reducible refine And.intro ?hb ?_); (case hb => exact bytes_bd (Nat.le_of_ble_eq_true rfl) (by omega)); (conv => whnf))
    | ((refine DApp.a rfl rfl rfl rfl rfl rfl ?hb ?_); (case hb => exact zB); (conv => whnf))
    | ((refine DApp.b rfl rfl rfl rfl rfl rfl rfl rfl ?hb ?ho ?_); (case hb => exact zB); (case ho => omega); (conv => whnf))
    | ((refine DApp.c rfl rfl rfl rfl rfl ?hb ?_); (case hb => exact zB); (conv => whnf))
    | ((refine DApp.d rfl rfl rfl rfl rfl rfl ?hb ?ho ?_); (case hb => exact zB); (case ho => omega); (conv => whnf))
    | (with_reducible refine Or.inl ?_)
    | ((with_reducible refine IxA.ptr ?_); conv => whnf)
    | ((with_reducible refine nil_no (by omega) ?_); (conv => whnf))
    | ((with_reducible refine nil_any ?_ (fun hn0 => ?_)) <;> (conv => whnf))
    | ((with_reducible refine Wp.loopN 4 ?_); conv => whnf)
    | ((refine CallStop.fn (hR) [0,1,2,3,4] rfl rfl rfl rfl rfl ?ha ?hh ?_); (case ha => exact zA); (case hh => ((conv => whnf); (refine And.intro ?_ (And.intro ⟨⟨rfl, Nat.le_of_ble_eq_true rfl⟩, fun j hj => ⟨ArgLe.ptr rfl, .ptr _ _ (by decide)⟩⟩ ?_) <;> (conv => whnf)) <;> repeat' (first | exact trivial | exact ArgLe.rfl rfl | exact ArgLe.ptr rfl | exact ArgLe.sl rfl | exact ⟨rfl, rfl, rfl⟩ | ((with_reducible refine And.intro ?_ ?_) <;> (conv => whnf))))); (conv => whnf))
    | ((refine DCall.fn (hR) [0,1,2,3,4] [0,1,2,3,4] rfl rfl rfl rfl rfl ?ha ?hh ?hs ?_); (case ha => exact zA); (case hh => ((conv => whnf); (refine And.intro ?_ (And.intro ⟨⟨rfl, Nat.le_of_ble_eq_true rfl⟩, fun j hj => ⟨ArgLe.ptr rfl, .ptr _ _ (by decide)⟩⟩ ?_) <;> (conv => whnf)) <;> repeat' (first | exact trivial | exact ArgLe.rfl rfl | exact ArgLe.ptr rfl | exact ArgLe.sl rfl | exact ⟨rfl, rfl, rfl⟩ | ((with_reducible refine And.intro ?_ ?_) <;> (conv => whnf))))); (case hs => exact zK); (conv => whnf)) | ((refine DCall.new (hR) [0,1,2,3,4] [0,1,2,3,4] rfl rfl rfl rfl rfl rfl ?ha ?hh ?hs ?_); (case ha => exact zA); (case hh => ((conv => whnf); (refine And.intro ?_ (And.intro ⟨⟨rfl, Nat.le_of_ble_eq_true rfl⟩, fun j hj => ⟨ArgLe.ptr rfl, .ptr _ _ (by decide)⟩⟩ ?_) <;> (conv => whnf)) <;> repeat' (first | exact trivial | exact ArgLe.rfl rfl | exact ArgLe.ptr rfl | exact ArgLe.sl rfl | exact ⟨rfl, rfl, rfl⟩ | ((with_reducible refine And.intro ?_ ?_) <;> (conv => whnf))))); (case hs => exact zK); (conv => whnf))
    | ((refine DCall.fn (hR) [0,1,2,3,4] [] rfl rfl rfl rfl rfl ?ha ?hh ?hs ?_); (case ha => exact zA); (case hh => ((conv => whnf); (refine And.intro ?_ (And.intro ⟨⟨rfl, Nat.le_of_ble_eq_true rfl⟩, fun j hj => ⟨ArgLe.ptr rfl, .ptr _ _ (by decide)⟩⟩ ?_) <;> (conv => whnf)) <;> repeat' (first | exact trivial | exact ArgLe.rfl rfl | exact ArgLe.ptr rfl | exact ArgLe.sl rfl | exact ⟨rfl, rfl, rfl⟩ | ((with_reducible refine And.intro ?_ ?_) <;> (conv => whnf))))); (case hs => exact zK); (conv => whnf)) | ((refine DCall.new (hR) [0,1,2,3,4] [] rfl rfl rfl rfl rfl rfl ?ha ?hh ?hs ?_); (case ha => exact zA); (case hh => ((conv => whnf); (refine And.intro ?_ (And.intro ⟨⟨rfl, Nat.le_of_ble_eq_true rfl⟩, fun j hj => ⟨ArgLe.ptr rfl, .ptr _ _ (by decide)⟩⟩ ?_) <;> (conv => whnf)) <;> repeat' (first | exact trivial | exact ArgLe.rfl rfl | exact ArgLe.ptr rfl | exact ArgLe.sl rfl | exact ⟨rfl, rfl, rfl⟩ | ((with_reducible refine And.intro ?_ ?_) <;> (conv => whnf))))); (case hs => exact zK); (conv => whnf))
    | ((refine CallStop.fn (hO) [0,1,2] rfl rfl rfl rfl rfl ?ha ?hh ?_); (case ha => exact zA); (case hh => ((conv => whnf); (refine And.intro ?_ (And.intro ⟨⟨rfl, Nat.le_refl _⟩, fun j hj => ⟨ArgLe.ptr rfl, .ptr _ _ (by decide)⟩⟩ ?_) <;> exact zH))); (conv => whnf))
    | ((refine DCall.fn (hO) [0,1,2] [0,1,2] rfl rfl rfl rfl rfl ?ha ?hh ?hs ?_); (case ha => exact zA); (case hh => ((conv => whnf); (refine And.intro ?_ (And.intro ⟨⟨rfl, Nat.le_refl _⟩, fun j hj => ⟨ArgLe.ptr rfl, .ptr _ _ (by decide)⟩⟩ ?_) <;> exact zH))); (case hs => exact zK); (conv => whnf)) | ((refine DCall.new (hO) [0,1,2] [0,1,2] rfl rfl rfl rfl rfl rfl ?ha ?hh ?hs ?_); (case ha => exact zA); (case hh => ((conv => whnf); (refine And.intro ?_ (And.intro ⟨⟨rfl, Nat.le_refl _⟩, fun j hj => ⟨ArgLe.ptr rfl, .ptr _ _ (by decide)⟩⟩ ?_) <;> exact zH))); (case hs => exact zK); (conv => whnf))
    | ((refine DCall.fn (hO) [0,1,2] [] rfl rfl rfl rfl rfl ?ha ?hh ?hs ?_); (case ha => exact zA); (case hh => ((conv => whnf); (refine And.intro ?_ (And.intro ⟨⟨rfl, Nat.le_refl _⟩, fun j hj => ⟨ArgLe.ptr rfl, .ptr _ _ (by decide)⟩⟩ ?_) <;> exact zH))); (case hs => exact zK); (conv => whnf)) | ((refine DCall.new (hO) [0,1,2] [] rfl rfl rfl rfl rfl rfl ?ha ?hh ?hs ?_); (case ha => exact zA); (case hh => ((conv => whnf); (refine And.intro ?_ (And.intro ⟨⟨rfl, Nat.le_refl _⟩, fun j hj => ⟨ArgLe.ptr rfl, .ptr _ _ (by decide)⟩⟩ ?_) <;> exact zH))); (case hs => exact zK); (conv => whnf))
    | ((refine ways (fun hc => ?_) (fun hc => ?_)) <;> (try simp only [decide_eq_true_eq, decide_eq_false_iff_not, Bool.and_eq_true, Bool.or_eq_true, Bool.and_eq_false_iff, Bool.or_eq_false_iff, Bool.not_eq_true', Bool.not_eq_false', beq_iff_eq, bne_iff_ne, ne_eq, beq_eq_false_iff_ne, bne_eq_false_iff_eq, Bool.not_eq_true, Bool.not_eq_false] at hc) <;> (try (exfalso; omega)) <;> (conv => whnf))))
  refine FinLe.of [0, 1, 2, 3, 4, 6] rfl (fun i hi => by have : i = 0 ∨ i = 1 ∨ i = 2 ∨ i = 3 ∨ i = 4 := (by omega); rcases this with h | h | h | h | h <;> subst h <;> rfl) rfl ?_ ?_
  · (conv => whnf)
    exact .rfl _
  · (conv => whnf)
    refine ⟨?_, ⟨⟨rfl, Nat.le_of_ble_eq_true rfl⟩, fun j hj => ⟨ArgLe.ptr rfl, .ptr _ _ (by decide)⟩⟩, ?_, ⟨rfl, rfl, rfl⟩, ⟨rfl, rfl, rfl⟩, ⟨⟨rfl, rfl, rfl⟩, fun i hi => by obtain rfl : i = 0 := (by omega); rfl⟩, trivial⟩ <;> (conv => whnf)
    all_goals repeat' (first | exact trivial | exact SV.Le.rfl _ | refine And.intro ?_ ?_)
theorem rg_Strikes (s : Int) : Fun TC 6 3 [.ptr 0 0, .d (.val (.string bS))] (rgH s) 3 (.tup [.i .i64 s, .i .i64 0]) (rgH s) := by
  refine Fun.mk' Tryz.func6 rfl rfl (Nat.le_of_ble_eq_true rfl) (by decide) ?_
  (repeat' (first
    | ((with_reducible refine CfV.mk (And.intro (by decide) ?_)); conv => whnf)
    | with_reducible refine Wp.seq ?_
    | with_reducible refine Wp.block ?_
    | ((with_reducible first | refine Wp.region ?_ | refine Wp.drawL TC_mixed ?_ | refine Wp.cond ?_ | refine Wp.ret ?_ | refine Wp.skip ?_ | refine Wp.exit ?_ | refine Go.mk ?_ | apply Eff1.of); conv => whnf)
    | with_reducible exact rfl
    | ((with_reducible refine Ov.ok zO ?_); conv => whnf)
    | (with_reducible refine Ov.sh1 (by with_unfolding_all exact rfl) ?_)
    | ((with_reducible refine Ov.quo (by omega) (by omega) (by omega) (fun _ _ => ?_)); conv => whnf)
    | ((with_reducible refine And.intro (show drawOK _ _ _ _ = true by kernel_rfl) ?_); conv => whnf)
    | ((with_reducible refine And.intro zC ?_); conv => whnf)
    | ((with_reducible refine And.intro ?hb ?_); (case hb => exact bytes_bd (Nat.le_of_ble_eq_true rfl) (by omega)); (conv => whnf))
    | ((refine DApp.a rfl rfl rfl rfl rfl rfl ?hb ?_); (case hb => exact zB); (conv => whnf))
    | ((refine DApp.b rfl rfl rfl rfl rfl rfl rfl rfl ?hb ?ho ?_); (case hb => exact zB); (case ho => omega); (conv => whnf))
    | ((refine DApp.c rfl rfl rfl rfl rfl ?hb ?_); (case hb => exact zB); (conv => whnf))
    | ((refine DApp.d rfl rfl rfl rfl rfl rfl ?hb ?ho ?_); (case hb => exact zB); (case ho => omega); (conv => whnf))
    | (with_reducible refine Or.inl ?_)
    | ((with_reducible refine IxA.ptr ?_); conv => whnf)
    | ((with_reducible refine nil_no (by omega) ?_); (conv => whnf))
    | ((with_reducible refine nil_any ?_ (fun hn0 => ?_)) <;> (conv => whnf))
    | ((with_reducible refine Wp.loopN 4 ?_); conv => whnf)
    | (with_reducible refine CallStop.inline Tryz.func13 rfl rfl rfl (Nat.le_of_ble_eq_true rfl) ?_)
    | ((refine ways (fun hc => ?_) (fun hc => ?_)) <;> (try simp only [decide_eq_true_eq, decide_eq_false_iff_not, Bool.and_eq_true, Bool.or_eq_true, Bool.and_eq_false_iff, Bool.or_eq_false_iff, Bool.not_eq_true', Bool.not_eq_false', beq_iff_eq, bne_iff_ne, ne_eq, beq_eq_false_iff_ne, bne_eq_false_iff_eq, Bool.not_eq_true, Bool.not_eq_false] at hc) <;> (try (exfalso; omega)) <;> (conv => whnf))))
  rotate_left
  · exact absurd trivial hc
  refine FinLe.of [0, 1, 2] rfl (fun i hi => by have : i = 0 ∨ i = 1 ∨ i = 2 := (by omega); rcases this with h | h | h <;> subst h <;> rfl) rfl ?_ ?_
  · (conv => whnf)
    exact .rfl _
  · (conv => whnf)
    refine ⟨?_, ⟨⟨rfl, Nat.le_of_ble_eq_true rfl⟩, fun j hj => ⟨ArgLe.ptr rfl, .ptr _ _ (by decide)⟩⟩, ?_, trivial⟩ <;> (conv => whnf)
    all_goals repeat' (first | exact trivial | exact SV.Le.rfl _ | refine And.intro ?_ ?_)
theorem rg_Live : Fun TC 10 3 [.ptr 0 0] (rgH 1) 3 (.d (.val (.slice none 0 0))) (rgH 1) := by
  have hO := rg_on 1
  refine Fun.mk' Tryz.func10 rfl rfl (Nat.le_of_ble_eq_true rfl) (by decide) ?_
  (repeat' (first
    | ((with_reducible refine CfV.mk (And.intro (by decide) ?_)); conv => whnf)
    | with_reducible refine Wp.seq ?_
    | with_reducible refine Wp.block ?_
    | ((with_reducible first | refine Wp.region ?_ | refine Wp.drawL TC_mixed ?_ | refine Wp.cond ?_ | refine Wp.ret ?_ | refine Wp.skip ?_ | refine Wp.exit ?_ | refine Go.mk ?_ | apply Eff1.of); conv => whnf)
    | with_reducible exact rfl
    | ((with_reducible refine Ov.ok zO ?_); conv => whnf)
    | (with_reducible refine Ov.sh1 (by with_unfolding_all exact rfl) ?_)
    | ((with_reducible refine Ov.quo (by omega) (by omega) (by omega) (fun _ _ => ?_)); conv => whnf)
    | ((with_reducible refine And.intro (show drawOK _ _ _ _ = true by kernel_rfl) ?_); conv => whnf)
    | ((with_reducible refine And.intro zC ?_); conv => whnf)
    | ((with_reducible refine And.intro ?hb ?_); (case hb => exact bytes_bd (Nat.le_of_ble_eq_true rfl) (by omega)); (conv => whnf))
    | ((refine DApp.a rfl rfl rfl rfl rfl rfl ?hb ?_); (case hb => exact zB); (conv => whnf))
    | ((refine DApp.b rfl rfl rfl rfl rfl rfl rfl rfl ?hb ?ho ?_); (case hb => exact zB); (case ho => omega); (conv => whnf))
    | ((refine DApp.c rfl rfl rfl rfl rfl ?hb ?_); (case hb => exact zB); (conv => whnf))
    | ((refine DApp.d rfl rfl rfl rfl rfl rfl ?hb ?ho ?_); (case hb => exact zB); (case ho => omega); (conv => whnf))
    | (with_reducible refine Or.inl ?_)
    | ((with_reducible refine IxA.ptr ?_); conv => whnf)
    | ((with_reducible refine nil_no (by omega) ?_); (conv => whnf))
    | ((with_reducible refine nil_any ?_ (fun hn0 => ?_)) <;> (conv => whnf))
    | ((with_reducible refine Wp.loopN 4 ?_); conv => whnf)
    | ((refine CallStop.fn (hO) [0,1,2] rfl rfl rfl rfl rfl ?ha ?hh ?_); (case ha => exact zA); (case hh => ((conv => whnf); (refine And.intro ?_ (And.intro ⟨⟨rfl, Nat.le_refl _⟩, fun j hj => ⟨ArgLe.ptr rfl, .ptr _ _ (by decide)⟩⟩ ?_) <;> exact zH))); (conv => whnf))
    | ((refine DCall.fn (hO) [0,1,2] [0,1,2] rfl rfl rfl rfl rfl ?ha ?hh ?hs ?_); (case ha => exact zA); (case hh => ((conv => whnf); (refine And.intro ?_ (And.intro ⟨⟨rfl, Nat.le_refl _⟩, fun j hj => ⟨ArgLe.ptr rfl, .ptr _ _ (by decide)⟩⟩ ?_) <;> exact zH))); (case hs => exact zK); (conv => whnf)) | ((refine DCall.new (hO) [0,1,2] [0,1,2] rfl rfl rfl rfl rfl rfl ?ha ?hh ?hs ?_); (case ha => exact zA); (case hh => ((conv => whnf); (refine And.intro ?_ (And.intro ⟨⟨rfl, Nat.le_refl _⟩, fun j hj => ⟨ArgLe.ptr rfl, .ptr _ _ (by decide)⟩⟩ ?_) <;> exact zH))); (case hs => exact zK); (conv => whnf))
    | ((refine DCall.fn (hO) [0,1,2] [] rfl rfl rfl rfl rfl ?ha ?hh ?hs ?_); (case ha => exact zA); (case hh => ((conv => whnf); (refine And.intro ?_ (And.intro ⟨⟨rfl, Nat.le_refl _⟩, fun j hj => ⟨ArgLe.ptr rfl, .ptr _ _ (by decide)⟩⟩ ?_) <;> exact zH))); (case hs => exact zK); (conv => whnf)) | ((refine DCall.new (hO) [0,1,2] [] rfl rfl rfl rfl rfl rfl ?ha ?hh ?hs ?_); (case ha => exact zA); (case hh => ((conv => whnf); (refine And.intro ?_ (And.intro ⟨⟨rfl, Nat.le_refl _⟩, fun j hj => ⟨ArgLe.ptr rfl, .ptr _ _ (by decide)⟩⟩ ?_) <;> exact zH))); (case hs => exact zK); (conv => whnf))
    | ((refine ways (fun hc => ?_) (fun hc => ?_)) <;> (try simp only [decide_eq_true_eq, decide_eq_false_iff_not, Bool.and_eq_true, Bool.or_eq_true, Bool.and_eq_false_iff, Bool.or_eq_false_iff, Bool.not_eq_true', Bool.not_eq_false', beq_iff_eq, bne_iff_ne, ne_eq, beq_eq_false_iff_ne, bne_eq_false_iff_eq, Bool.not_eq_true, Bool.not_eq_false] at hc) <;> (try (exfalso; omega)) <;> (conv => whnf))))
  refine FinLe.of [0, 1, 2] rfl (fun i hi => by have : i = 0 ∨ i = 1 ∨ i = 2 := (by omega); rcases this with h | h | h <;> subst h <;> rfl) rfl ?_ ?_
  · (conv => whnf)
    exact .rfl _
  · (conv => whnf)
    refine ⟨?_, ⟨⟨rfl, Nat.le_of_ble_eq_true rfl⟩, fun j hj => ⟨ArgLe.ptr rfl, .ptr _ _ (by decide)⟩⟩, ?_, trivial⟩ <;> (conv => whnf)
    all_goals repeat' (first | exact trivial | exact SV.Le.rfl _ | refine And.intro ?_ ?_)
end Go.Proofs.YteallmlkkcjblaaGreatDoor

namespace Go.Proofs.YteallmlkkcjblaaGreatDoor
open Go.RowKit
set_option maxRecDepth 100000
set_option maxHeartbeats 4000000
theorem Fun.leX {C : Cx} {g m m' : Nat} {args args' : List SV} {H H' : List (Nat × Option Blk)} {r : SV} (h : Fun C g m args' H m' r H') (ha : Les args args') : Fun C g m args H m' r H' :=
  ⟨h.ent, h.le, fun E w vs hS hsz hargs => h.out E w vs hS (hsz.trans ha.len) fun j hj => (ha.out j (by rw [ha.len]; exact hj) hj).out _ _ _ _ (hargs j (by rw [ha.len]; exact hj))⟩
theorem hk_tle : TLe (.sl 2 1 fun i => chunkD [.val (.string bS), .sl 1 1 fun i => chunkD [.sl 2 1 fun i => chunkD (actD (15, 0)) 2 (0 + i)] 1 (0 + i)] 2 (0 + i)) hkD := by
  refine TLe.sl fun i hi => ?_
  obtain rfl : i = 0 := by omega
  refine .cons (.rfl _) (.cons (TLe.sl fun i hi => ?_) .nil)
  obtain rfl : i = 0 := by omega
  refine .cons (TLe.sl fun i hi => ?_) .nil
  obtain rfl : i = 0 := by omega
  exact .cons (.rfl _) (.cons (.rfl _) .nil)
theorem awake10 {X Y : Obj} {m : Int} (h : GH X Y m) : Fun TC 7 2 [] [(0, some (gho 0 X)), (1, some (gho 3 Y))] 2 (.b true) [(0, some (gho 0 X)), (1, some (gho 3 Y))] := by
  have hN := New_hk.leX (.cons hk_tle.sv (.cons (.rfl _) .nil))
  have hF := rg_Fire h
  have hS := rg_Strikes 1
  have hL := rg_Live
  refine Fun.mk' Tryz.func7 rfl rfl (Nat.le_of_ble_eq_true rfl) (by decide) ?_
  (repeat' (first
    | ((refine And.intro (show _ < NT.n _ from Nat.le_of_ble_eq_true rfl) ?_); conv => whnf)
    | ((refine And.intro (show St.nt _ = _ from rfl) ?_); conv => whnf)
    | ((refine And.intro (show St.nx _ = _ from rfl) ?_); conv => whnf)
    | ((refine Wp.regionF 1 [9, 10, 12] ?_); conv => whnf)
    | ((with_reducible refine Or.inr (And.intro rfl ?_)); conv => whnf)
    | with_reducible refine Wp.seq ?_
    | with_reducible refine Wp.block ?_
    | ((with_reducible first | refine Wp.region ?_ | refine Wp.drawL TC_mixed ?_ | refine Wp.cond ?_ | refine Wp.ret ?_ | refine Wp.skip ?_ | refine Wp.exit ?_ | refine Go.mk ?_ | apply Eff1.of); conv => whnf)
    | with_reducible exact rfl
    | ((with_reducible refine Ov.ok zO ?_); conv => whnf)
    | (with_reducible refine Ov.sh1 (by with_unfolding_all exact rfl) ?_)
    | ((with_reducible refine Ov.quo (by omega) (by omega) (by omega) (fun _ _ => ?_)); conv => whnf)
    | ((with_reducible refine And.intro (show drawOK _ _ _ _ = true by kernel_rfl) ?_); conv => whnf)
    | ((with_reducible refine And.intro zC ?_); conv => whnf)
    | ((with_reducible refine And.intro ?hb ?_); (case hb => exact bytes_bd (Nat.le_of_ble_eq_true rfl) (by omega)); (conv => whnf))
    | ((refine DApp.a rfl rfl rfl rfl rfl rfl ?hb ?_); (case hb => exact zB); (conv => whnf))
    | ((refine DApp.b rfl rfl rfl rfl rfl rfl rfl rfl ?hb ?ho ?_); (case hb => exact zB); (case ho => omega); (conv => whnf))
    | ((refine DApp.c rfl rfl rfl rfl rfl ?hb ?_); (case hb => exact zB); (conv => whnf))
    | ((refine DApp.d rfl rfl rfl rfl rfl rfl ?hb ?ho ?_); (case hb => exact zB); (case ho => omega); (conv => whnf))
    | (with_reducible refine Or.inl ?_)
    | ((with_reducible refine IxA.ptr ?_); conv => whnf)
    | ((with_reducible refine nil_no (by omega) ?_); (conv => whnf))
    | ((with_reducible refine nil_any ?_ (fun hn0 => ?_)) <;> (conv => whnf))
    | ((refine CallStop.fn (hN) [] rfl rfl rfl rfl rfl ?ha ?hh ?_); (case ha => exact zA); (case hh => exact zH); (conv => whnf))
    | ((refine DCall.fn (hN) [] [] rfl rfl rfl rfl rfl ?ha ?hh ?hs ?_); (case ha => exact zA); (case hh => exact zH); (case hs => exact zK); (conv => whnf)) | ((refine DCall.new (hN) [] [] rfl rfl rfl rfl rfl rfl ?ha ?hh ?hs ?_); (case ha => exact zA); (case hh => exact zH); (case hs => exact zK); (conv => whnf))
    | ((refine CallStop.fn (hF) [5,6,7,0,1] rfl rfl rfl rfl rfl ?ha ?hh ?_); (case ha => exact zA); (case hh => ((conv => whnf); (refine And.intro ?_ (And.intro ⟨⟨rfl, Nat.le_of_ble_eq_true rfl⟩, fun j hj => ⟨ArgLe.ptr rfl, .ptr _ _ (by decide)⟩⟩ ?_) <;> (conv => whnf)) <;> repeat' (first | exact trivial | exact ArgLe.rfl rfl | exact ArgLe.ptr rfl | exact ArgLe.sl rfl | exact ⟨rfl, rfl, rfl⟩ | ((with_reducible refine And.intro ?_ ?_) <;> (conv => whnf))))); (conv => whnf))
    | ((refine DCall.fn (hF) [5,6,7,0,1] [5,6,7,0,1] rfl rfl rfl rfl rfl ?ha ?hh ?hs ?_); (case ha => exact zA); (case hh => ((conv => whnf); (refine And.intro ?_ (And.intro ⟨⟨rfl, Nat.le_of_ble_eq_true rfl⟩, fun j hj => ⟨ArgLe.ptr rfl, .ptr _ _ (by decide)⟩⟩ ?_) <;> (conv => whnf)) <;> repeat' (first | exact trivial | exact ArgLe.rfl rfl | exact ArgLe.ptr rfl | exact ArgLe.sl rfl | exact ⟨rfl, rfl, rfl⟩ | ((with_reducible refine And.intro ?_ ?_) <;> (conv => whnf))))); (case hs => exact zK); (conv => whnf)) | ((refine DCall.new (hF) [5,6,7,0,1] [5,6,7,0,1] rfl rfl rfl rfl rfl rfl ?ha ?hh ?hs ?_); (case ha => exact zA); (case hh => ((conv => whnf); (refine And.intro ?_ (And.intro ⟨⟨rfl, Nat.le_of_ble_eq_true rfl⟩, fun j hj => ⟨ArgLe.ptr rfl, .ptr _ _ (by decide)⟩⟩ ?_) <;> (conv => whnf)) <;> repeat' (first | exact trivial | exact ArgLe.rfl rfl | exact ArgLe.ptr rfl | exact ArgLe.sl rfl | exact ⟨rfl, rfl, rfl⟩ | ((with_reducible refine And.intro ?_ ?_) <;> (conv => whnf))))); (case hs => exact zK); (conv => whnf))
    | ((refine DCall.fn (hF) [5,6,7,0,1] [] rfl rfl rfl rfl rfl ?ha ?hh ?hs ?_); (case ha => exact zA); (case hh => ((conv => whnf); (refine And.intro ?_ (And.intro ⟨⟨rfl, Nat.le_of_ble_eq_true rfl⟩, fun j hj => ⟨ArgLe.ptr rfl, .ptr _ _ (by decide)⟩⟩ ?_) <;> (conv => whnf)) <;> repeat' (first | exact trivial | exact ArgLe.rfl rfl | exact ArgLe.ptr rfl | exact ArgLe.sl rfl | exact ⟨rfl, rfl, rfl⟩ | ((with_reducible refine And.intro ?_ ?_) <;> (conv => whnf))))); (case hs => exact zK); (conv => whnf)) | ((refine DCall.new (hF) [5,6,7,0,1] [] rfl rfl rfl rfl rfl rfl ?ha ?hh ?hs ?_); (case ha => exact zA); (case hh => ((conv => whnf); (refine And.intro ?_ (And.intro ⟨⟨rfl, Nat.le_of_ble_eq_true rfl⟩, fun j hj => ⟨ArgLe.ptr rfl, .ptr _ _ (by decide)⟩⟩ ?_) <;> (conv => whnf)) <;> repeat' (first | exact trivial | exact ArgLe.rfl rfl | exact ArgLe.ptr rfl | exact ArgLe.sl rfl | exact ⟨rfl, rfl, rfl⟩ | ((with_reducible refine And.intro ?_ ?_) <;> (conv => whnf))))); (case hs => exact zK); (conv => whnf))
    | ((refine CallStop.fn (hS) [5,6,7] rfl rfl rfl rfl rfl ?ha ?hh ?_); (case ha => exact zA); (case hh => ((conv => whnf); (refine And.intro ?_ (And.intro ⟨⟨rfl, Nat.le_of_ble_eq_true rfl⟩, fun j hj => ⟨ArgLe.ptr rfl, .ptr _ _ (by decide)⟩⟩ ?_) <;> (conv => whnf)) <;> repeat' (first | exact trivial | exact ArgLe.rfl rfl | exact ArgLe.ptr rfl | exact ArgLe.sl rfl | exact ⟨rfl, rfl, rfl⟩ | ((with_reducible refine And.intro ?_ ?_) <;> (conv => whnf))))); (conv => whnf))
    | ((refine DCall.fn (hS) [5,6,7] [5,6,7] rfl rfl rfl rfl rfl ?ha ?hh ?hs ?_); (case ha => exact zA); (case hh => ((conv => whnf); (refine And.intro ?_ (And.intro ⟨⟨rfl, Nat.le_of_ble_eq_true rfl⟩, fun j hj => ⟨ArgLe.ptr rfl, .ptr _ _ (by decide)⟩⟩ ?_) <;> (conv => whnf)) <;> repeat' (first | exact trivial | exact ArgLe.rfl rfl | exact ArgLe.ptr rfl | exact ArgLe.sl rfl | exact ⟨rfl, rfl, rfl⟩ | ((with_reducible refine And.intro ?_ ?_) <;> (conv => whnf))))); (case hs => exact zK); (conv => whnf)) | ((refine DCall.new (hS) [5,6,7] [5,6,7] rfl rfl rfl rfl rfl rfl ?ha ?hh ?hs ?_); (case ha => exact zA); (case hh => ((conv => whnf); (refine And.intro ?_ (And.intro ⟨⟨rfl, Nat.le_of_ble_eq_true rfl⟩, fun j hj => ⟨ArgLe.ptr rfl, .ptr _ _ (by decide)⟩⟩ ?_) <;> (conv => whnf)) <;> repeat' (first | exact trivial | exact ArgLe.rfl rfl | exact ArgLe.ptr rfl | exact ArgLe.sl rfl | exact ⟨rfl, rfl, rfl⟩ | ((with_reducible refine And.intro ?_ ?_) <;> (conv => whnf))))); (case hs => exact zK); (conv => whnf))
    | ((refine DCall.fn (hS) [5,6,7] [] rfl rfl rfl rfl rfl ?ha ?hh ?hs ?_); (case ha => exact zA); (case hh => ((conv => whnf); (refine And.intro ?_ (And.intro ⟨⟨rfl, Nat.le_of_ble_eq_true rfl⟩, fun j hj => ⟨ArgLe.ptr rfl, .ptr _ _ (by decide)⟩⟩ ?_) <;> (conv => whnf)) <;> repeat' (first | exact trivial | exact ArgLe.rfl rfl | exact ArgLe.ptr rfl | exact ArgLe.sl rfl | exact ⟨rfl, rfl, rfl⟩ | ((with_reducible refine And.intro ?_ ?_) <;> (conv => whnf))))); (case hs => exact zK); (conv => whnf)) | ((refine DCall.new (hS) [5,6,7] [] rfl rfl rfl rfl rfl rfl ?ha ?hh ?hs ?_); (case ha => exact zA); (case hh => ((conv => whnf); (refine And.intro ?_ (And.intro ⟨⟨rfl, Nat.le_of_ble_eq_true rfl⟩, fun j hj => ⟨ArgLe.ptr rfl, .ptr _ _ (by decide)⟩⟩ ?_) <;> (conv => whnf)) <;> repeat' (first | exact trivial | exact ArgLe.rfl rfl | exact ArgLe.ptr rfl | exact ArgLe.sl rfl | exact ⟨rfl, rfl, rfl⟩ | ((with_reducible refine And.intro ?_ ?_) <;> (conv => whnf))))); (case hs => exact zK); (conv => whnf))
    | ((refine CallStop.fn (hL) [5,6,7] rfl rfl rfl rfl rfl ?ha ?hh ?_); (case ha => exact zA); (case hh => ((conv => whnf); (refine And.intro ?_ (And.intro ⟨⟨rfl, Nat.le_of_ble_eq_true rfl⟩, fun j hj => ⟨ArgLe.ptr rfl, .ptr _ _ (by decide)⟩⟩ ?_) <;> (conv => whnf)) <;> repeat' (first | exact trivial | exact ArgLe.rfl rfl | exact ArgLe.ptr rfl | exact ArgLe.sl rfl | exact ⟨rfl, rfl, rfl⟩ | ((with_reducible refine And.intro ?_ ?_) <;> (conv => whnf))))); (conv => whnf))
    | ((refine DCall.fn (hL) [5,6,7] [5,6,7] rfl rfl rfl rfl rfl ?ha ?hh ?hs ?_); (case ha => exact zA); (case hh => ((conv => whnf); (refine And.intro ?_ (And.intro ⟨⟨rfl, Nat.le_of_ble_eq_true rfl⟩, fun j hj => ⟨ArgLe.ptr rfl, .ptr _ _ (by decide)⟩⟩ ?_) <;> (conv => whnf)) <;> repeat' (first | exact trivial | exact ArgLe.rfl rfl | exact ArgLe.ptr rfl | exact ArgLe.sl rfl | exact ⟨rfl, rfl, rfl⟩ | ((with_reducible refine And.intro ?_ ?_) <;> (conv => whnf))))); (case hs => exact zK); (conv => whnf)) | ((refine DCall.new (hL) [5,6,7] [5,6,7] rfl rfl rfl rfl rfl rfl ?ha ?hh ?hs ?_); (case ha => exact zA); (case hh => ((conv => whnf); (refine And.intro ?_ (And.intro ⟨⟨rfl, Nat.le_of_ble_eq_true rfl⟩, fun j hj => ⟨ArgLe.ptr rfl, .ptr _ _ (by decide)⟩⟩ ?_) <;> (conv => whnf)) <;> repeat' (first | exact trivial | exact ArgLe.rfl rfl | exact ArgLe.ptr rfl | exact ArgLe.sl rfl | exact ⟨rfl, rfl, rfl⟩ | ((with_reducible refine And.intro ?_ ?_) <;> (conv => whnf))))); (case hs => exact zK); (conv => whnf))
    | ((refine DCall.fn (hL) [5,6,7] [] rfl rfl rfl rfl rfl ?ha ?hh ?hs ?_); (case ha => exact zA); (case hh => ((conv => whnf); (refine And.intro ?_ (And.intro ⟨⟨rfl, Nat.le_of_ble_eq_true rfl⟩, fun j hj => ⟨ArgLe.ptr rfl, .ptr _ _ (by decide)⟩⟩ ?_) <;> (conv => whnf)) <;> repeat' (first | exact trivial | exact ArgLe.rfl rfl | exact ArgLe.ptr rfl | exact ArgLe.sl rfl | exact ⟨rfl, rfl, rfl⟩ | ((with_reducible refine And.intro ?_ ?_) <;> (conv => whnf))))); (case hs => exact zK); (conv => whnf)) | ((refine DCall.new (hL) [5,6,7] [] rfl rfl rfl rfl rfl rfl ?ha ?hh ?hs ?_); (case ha => exact zA); (case hh => ((conv => whnf); (refine And.intro ?_ (And.intro ⟨⟨rfl, Nat.le_of_ble_eq_true rfl⟩, fun j hj => ⟨ArgLe.ptr rfl, .ptr _ _ (by decide)⟩⟩ ?_) <;> (conv => whnf)) <;> repeat' (first | exact trivial | exact ArgLe.rfl rfl | exact ArgLe.ptr rfl | exact ArgLe.sl rfl | exact ⟨rfl, rfl, rfl⟩ | ((with_reducible refine And.intro ?_ ?_) <;> (conv => whnf))))); (case hs => exact zK); (conv => whnf))
    | ((refine ways (fun hc => ?_) (fun hc => ?_)) <;> (try simp only [decide_eq_true_eq, decide_eq_false_iff_not, Bool.and_eq_true, Bool.or_eq_true, Bool.and_eq_false_iff, Bool.or_eq_false_iff, Bool.not_eq_true', Bool.not_eq_false', beq_iff_eq, bne_iff_ne, ne_eq, beq_eq_false_iff_ne, bne_eq_false_iff_eq, Bool.not_eq_true, Bool.not_eq_false] at hc) <;> (try (exfalso; omega)) <;> (conv => whnf))))
  refine FinLe.of [0, 1] rfl (fun i hi => by have : i = 0 ∨ i = 1 := (by omega); rcases this with h | h <;> subst h <;> rfl) rfl ?_ ?_
  · (conv => whnf)
    exact .b rfl
  · (conv => whnf)
    exact ⟨⟨rfl, rfl, rfl⟩, ⟨rfl, rfl, rfl⟩, trivial⟩
end Go.Proofs.YteallmlkkcjblaaGreatDoor

namespace Go.Proofs.YteallmlkkcjblaaGreatDoor
open Go.RowKit
set_option maxRecDepth 100000
set_option maxHeartbeats 4000000
@[reducible] def nilP : SV := .d (.val (.pointer none))
@[reducible] def nilS : SV := .d (.val (.slice none 0 0))
@[reducible] def rep0 : SV := .agg [.d (.val (.string ⟨#[]⟩)), nilS, .i .u8 0, .i .i64 0, .b false]
theorem nil_find (s : ByteArray) : Pure TC 13 [nilP, .d (.val (.string s))] nilP := by
  refine Pure.mk' Tryz.func13 rfl rfl (Nat.le_of_ble_eq_true rfl) ?_
  (repeat' (first
    | with_reducible refine Wp.seq ?_
    | with_reducible refine Wp.block ?_
    | ((with_reducible first | refine Wp.region ?_ | refine Wp.drawL TC_mixed ?_ | refine Wp.cond ?_ | refine Wp.ret ?_ | refine Wp.skip ?_ | refine Wp.exit ?_ | refine Go.mk ?_ | apply Eff1.of); conv => whnf)
    | with_reducible exact rfl
    | ((with_reducible refine Ov.ok zO ?_); conv => whnf)
    | (with_reducible refine Ov.sh1 (by with_unfolding_all exact rfl) ?_)
    | ((with_reducible refine Ov.quo (by omega) (by omega) (by omega) (fun _ _ => ?_)); conv => whnf)
    | ((with_reducible refine And.intro (show drawOK _ _ _ _ = true by kernel_rfl) ?_); conv => whnf)
    | ((with_reducible refine And.intro zC ?_); conv => whnf)
    | ((with_reducible refine And.intro ?hb ?_); (case hb => exact bytes_bd (Nat.le_of_ble_eq_true rfl) (by omega)); (conv => whnf))
    | ((refine DApp.a rfl rfl rfl rfl rfl rfl ?hb ?_); (case hb => exact zB); (conv => whnf))
    | ((refine DApp.b rfl rfl rfl rfl rfl rfl rfl rfl ?hb ?ho ?_); (case hb => exact zB); (case ho => omega); (conv => whnf))
    | ((refine DApp.c rfl rfl rfl rfl rfl ?hb ?_); (case hb => exact zB); (conv => whnf))
    | ((refine DApp.d rfl rfl rfl rfl rfl rfl ?hb ?ho ?_); (case hb => exact zB); (case ho => omega); (conv => whnf))
    | (with_reducible refine Or.inl ?_)
    | ((with_reducible refine IxA.ptr ?_); conv => whnf)
    | ((with_reducible refine nil_no (by omega) ?_); (conv => whnf))
    | ((with_reducible refine nil_any ?_ (fun hn0 => ?_)) <;> (conv => whnf))
    
    | ((refine ways (fun hc => ?_) (fun hc => ?_)) <;> (try simp only [decide_eq_true_eq, decide_eq_false_iff_not, Bool.and_eq_true, Bool.or_eq_true, Bool.and_eq_false_iff, Bool.or_eq_false_iff, Bool.not_eq_true', Bool.not_eq_false', beq_iff_eq, bne_iff_ne, ne_eq, beq_eq_false_iff_ne, bne_eq_false_iff_eq, Bool.not_eq_true, Bool.not_eq_false] at hc) <;> (try (exfalso; omega)) <;> (conv => whnf))))
  exact .rfl _
theorem nil_Fire : Pure TC 4 [nilP] (.tup [nilS, .i .i64 7]) := by
  refine Pure.mk' Tryz.func4 rfl rfl (Nat.le_of_ble_eq_true rfl) ?_
  (repeat' (first
    | with_reducible refine Wp.seq ?_
    | with_reducible refine Wp.block ?_
    | ((with_reducible first | refine Wp.region ?_ | refine Wp.drawL TC_mixed ?_ | refine Wp.cond ?_ | refine Wp.ret ?_ | refine Wp.skip ?_ | refine Wp.exit ?_ | refine Go.mk ?_ | apply Eff1.of); conv => whnf)
    | with_reducible exact rfl
    | ((with_reducible refine Ov.ok zO ?_); conv => whnf)
    | (with_reducible refine Ov.sh1 (by with_unfolding_all exact rfl) ?_)
    | ((with_reducible refine Ov.quo (by omega) (by omega) (by omega) (fun _ _ => ?_)); conv => whnf)
    | ((with_reducible refine And.intro (show drawOK _ _ _ _ = true by kernel_rfl) ?_); conv => whnf)
    | ((with_reducible refine And.intro zC ?_); conv => whnf)
    | ((with_reducible refine And.intro ?hb ?_); (case hb => exact bytes_bd (Nat.le_of_ble_eq_true rfl) (by omega)); (conv => whnf))
    | ((refine DApp.a rfl rfl rfl rfl rfl rfl ?hb ?_); (case hb => exact zB); (conv => whnf))
    | ((refine DApp.b rfl rfl rfl rfl rfl rfl rfl rfl ?hb ?ho ?_); (case hb => exact zB); (case ho => omega); (conv => whnf))
    | ((refine DApp.c rfl rfl rfl rfl rfl ?hb ?_); (case hb => exact zB); (conv => whnf))
    | ((refine DApp.d rfl rfl rfl rfl rfl rfl ?hb ?ho ?_); (case hb => exact zB); (case ho => omega); (conv => whnf))
    | (with_reducible refine Or.inl ?_)
    | ((with_reducible refine IxA.ptr ?_); conv => whnf)
    | ((with_reducible refine nil_no (by omega) ?_); (conv => whnf))
    | ((with_reducible refine nil_any ?_ (fun hn0 => ?_)) <;> (conv => whnf))
    
    | ((refine ways (fun hc => ?_) (fun hc => ?_)) <;> (try simp only [decide_eq_true_eq, decide_eq_false_iff_not, Bool.and_eq_true, Bool.or_eq_true, Bool.and_eq_false_iff, Bool.or_eq_false_iff, Bool.not_eq_true', Bool.not_eq_false', beq_iff_eq, bne_iff_ne, ne_eq, beq_eq_false_iff_ne, bne_eq_false_iff_eq, Bool.not_eq_true, Bool.not_eq_false] at hc) <;> (try (exfalso; omega)) <;> (conv => whnf))))
  exact .rfl _
theorem nil_One (s : ByteArray) : Pure TC 5 [nilP, .d (.val (.string s))] (.tup [rep0, .i .i64 7]) := by
  have hF := nil_find s
  refine Pure.mk' Tryz.func5 rfl rfl (Nat.le_of_ble_eq_true rfl) ?_
  (repeat' (first
    | with_reducible refine Wp.seq ?_
    | with_reducible refine Wp.block ?_
    | ((with_reducible first | refine Wp.region ?_ | refine Wp.drawL TC_mixed ?_ | refine Wp.cond ?_ | refine Wp.ret ?_ | refine Wp.skip ?_ | refine Wp.exit ?_ | refine Go.mk ?_ | apply Eff1.of); conv => whnf)
    | with_reducible exact rfl
    | ((with_reducible refine Ov.ok zO ?_); conv => whnf)
    | (with_reducible refine Ov.sh1 (by with_unfolding_all exact rfl) ?_)
    | ((with_reducible refine Ov.quo (by omega) (by omega) (by omega) (fun _ _ => ?_)); conv => whnf)
    | ((with_reducible refine And.intro (show drawOK _ _ _ _ = true by kernel_rfl) ?_); conv => whnf)
    | ((with_reducible refine And.intro zC ?_); conv => whnf)
    | ((with_reducible refine And.intro ?hb ?_); (case hb => exact bytes_bd (Nat.le_of_ble_eq_true rfl) (by omega)); (conv => whnf))
    | ((refine DApp.a rfl rfl rfl rfl rfl rfl ?hb ?_); (case hb => exact zB); (conv => whnf))
    | ((refine DApp.b rfl rfl rfl rfl rfl rfl rfl rfl ?hb ?ho ?_); (case hb => exact zB); (case ho => omega); (conv => whnf))
    | ((refine DApp.c rfl rfl rfl rfl rfl ?hb ?_); (case hb => exact zB); (conv => whnf))
    | ((refine DApp.d rfl rfl rfl rfl rfl rfl ?hb ?ho ?_); (case hb => exact zB); (case ho => omega); (conv => whnf))
    | (with_reducible refine Or.inl ?_)
    | ((with_reducible refine IxA.ptr ?_); conv => whnf)
    | ((with_reducible refine nil_no (by omega) ?_); (conv => whnf))
    | ((with_reducible refine nil_any ?_ (fun hn0 => ?_)) <;> (conv => whnf))
    | ((with_reducible refine CallStop.pure (hF) rfl rfl ?_); conv => whnf) | ((with_reducible refine DCall.pure (hF) rfl rfl ?_); conv => whnf)
    | ((refine ways (fun hc => ?_) (fun hc => ?_)) <;> (try simp only [decide_eq_true_eq, decide_eq_false_iff_not, Bool.and_eq_true, Bool.or_eq_true, Bool.and_eq_false_iff, Bool.or_eq_false_iff, Bool.not_eq_true', Bool.not_eq_false', beq_iff_eq, bne_iff_ne, ne_eq, beq_eq_false_iff_ne, bne_eq_false_iff_eq, Bool.not_eq_true, Bool.not_eq_false] at hc) <;> (try (exfalso; omega)) <;> (conv => whnf))))
  exact .rfl _
theorem nil_Strikes (s : ByteArray) : Pure TC 6 [nilP, .d (.val (.string s))] (.tup [.i .i64 0, .i .i64 7]) := by
  have hF := nil_find s
  refine Pure.mk' Tryz.func6 rfl rfl (Nat.le_of_ble_eq_true rfl) ?_
  (repeat' (first
    | with_reducible refine Wp.seq ?_
    | with_reducible refine Wp.block ?_
    | ((with_reducible first | refine Wp.region ?_ | refine Wp.drawL TC_mixed ?_ | refine Wp.cond ?_ | refine Wp.ret ?_ | refine Wp.skip ?_ | refine Wp.exit ?_ | refine Go.mk ?_ | apply Eff1.of); conv => whnf)
    | with_reducible exact rfl
    | ((with_reducible refine Ov.ok zO ?_); conv => whnf)
    | (with_reducible refine Ov.sh1 (by with_unfolding_all exact rfl) ?_)
    | ((with_reducible refine Ov.quo (by omega) (by omega) (by omega) (fun _ _ => ?_)); conv => whnf)
    | ((with_reducible refine And.intro (show drawOK _ _ _ _ = true by kernel_rfl) ?_); conv => whnf)
    | ((with_reducible refine And.intro zC ?_); conv => whnf)
    | ((with_reducible refine And.intro ?hb ?_); (case hb => exact bytes_bd (Nat.le_of_ble_eq_true rfl) (by omega)); (conv => whnf))
    | ((refine DApp.a rfl rfl rfl rfl rfl rfl ?hb ?_); (case hb => exact zB); (conv => whnf))
    | ((refine DApp.b rfl rfl rfl rfl rfl rfl rfl rfl ?hb ?ho ?_); (case hb => exact zB); (case ho => omega); (conv => whnf))
    | ((refine DApp.c rfl rfl rfl rfl rfl ?hb ?_); (case hb => exact zB); (conv => whnf))
    | ((refine DApp.d rfl rfl rfl rfl rfl rfl ?hb ?ho ?_); (case hb => exact zB); (case ho => omega); (conv => whnf))
    | (with_reducible refine Or.inl ?_)
    | ((with_reducible refine IxA.ptr ?_); conv => whnf)
    | ((with_reducible refine nil_no (by omega) ?_); (conv => whnf))
    | ((with_reducible refine nil_any ?_ (fun hn0 => ?_)) <;> (conv => whnf))
    | ((with_reducible refine CallStop.pure (hF) rfl rfl ?_); conv => whnf) | ((with_reducible refine DCall.pure (hF) rfl rfl ?_); conv => whnf)
    | ((refine ways (fun hc => ?_) (fun hc => ?_)) <;> (try simp only [decide_eq_true_eq, decide_eq_false_iff_not, Bool.and_eq_true, Bool.or_eq_true, Bool.and_eq_false_iff, Bool.or_eq_false_iff, Bool.not_eq_true', Bool.not_eq_false', beq_iff_eq, bne_iff_ne, ne_eq, beq_eq_false_iff_ne, bne_eq_false_iff_eq, Bool.not_eq_true, Bool.not_eq_false] at hc) <;> (try (exfalso; omega)) <;> (conv => whnf))))
  exact .rfl _
theorem nil_Again (s : ByteArray) : Pure TC 9 [nilP, .d (.val (.string s))] (.i .i64 7) := by
  have hF := nil_find s
  refine Pure.mk' Tryz.func9 rfl rfl (Nat.le_of_ble_eq_true rfl) ?_
  (repeat' (first
    | with_reducible refine Wp.seq ?_
    | with_reducible refine Wp.block ?_
    | ((with_reducible first | refine Wp.region ?_ | refine Wp.drawL TC_mixed ?_ | refine Wp.cond ?_ | refine Wp.ret ?_ | refine Wp.skip ?_ | refine Wp.exit ?_ | refine Go.mk ?_ | apply Eff1.of); conv => whnf)
    | with_reducible exact rfl
    | ((with_reducible refine Ov.ok zO ?_); conv => whnf)
    | (with_reducible refine Ov.sh1 (by with_unfolding_all exact rfl) ?_)
    | ((with_reducible refine Ov.quo (by omega) (by omega) (by omega) (fun _ _ => ?_)); conv => whnf)
    | ((with_reducible refine And.intro (show drawOK _ _ _ _ = true by kernel_rfl) ?_); conv => whnf)
    | ((with_reducible refine And.intro zC ?_); conv => whnf)
    | ((with_reducible refine And.intro ?hb ?_); (case hb => exact bytes_bd (Nat.le_of_ble_eq_true rfl) (by omega)); (conv => whnf))
    | ((refine DApp.a rfl rfl rfl rfl rfl rfl ?hb ?_); (case hb => exact zB); (conv => whnf))
    | ((refine DApp.b rfl rfl rfl rfl rfl rfl rfl rfl ?hb ?ho ?_); (case hb => exact zB); (case ho => omega); (conv => whnf))
    | ((refine DApp.c rfl rfl rfl rfl rfl ?hb ?_); (case hb => exact zB); (conv => whnf))
    | ((refine DApp.d rfl rfl rfl rfl rfl rfl ?hb ?ho ?_); (case hb => exact zB); (case ho => omega); (conv => whnf))
    | (with_reducible refine Or.inl ?_)
    | ((with_reducible refine IxA.ptr ?_); conv => whnf)
    | ((with_reducible refine nil_no (by omega) ?_); (conv => whnf))
    | ((with_reducible refine nil_any ?_ (fun hn0 => ?_)) <;> (conv => whnf))
    | ((with_reducible refine CallStop.pure (hF) rfl rfl ?_); conv => whnf) | ((with_reducible refine DCall.pure (hF) rfl rfl ?_); conv => whnf)
    | ((refine ways (fun hc => ?_) (fun hc => ?_)) <;> (try simp only [decide_eq_true_eq, decide_eq_false_iff_not, Bool.and_eq_true, Bool.or_eq_true, Bool.and_eq_false_iff, Bool.or_eq_false_iff, Bool.not_eq_true', Bool.not_eq_false', beq_iff_eq, bne_iff_ne, ne_eq, beq_eq_false_iff_ne, bne_eq_false_iff_eq, Bool.not_eq_true, Bool.not_eq_false] at hc) <;> (try (exfalso; omega)) <;> (conv => whnf))))
  exact .rfl _
theorem nil_Live : Pure TC 10 [nilP] nilS := by
  refine Pure.mk' Tryz.func10 rfl rfl (Nat.le_of_ble_eq_true rfl) ?_
  (repeat' (first
    | with_reducible refine Wp.seq ?_
    | with_reducible refine Wp.block ?_
    | ((with_reducible first | refine Wp.region ?_ | refine Wp.drawL TC_mixed ?_ | refine Wp.cond ?_ | refine Wp.ret ?_ | refine Wp.skip ?_ | refine Wp.exit ?_ | refine Go.mk ?_ | apply Eff1.of); conv => whnf)
    | with_reducible exact rfl
    | ((with_reducible refine Ov.ok zO ?_); conv => whnf)
    | (with_reducible refine Ov.sh1 (by with_unfolding_all exact rfl) ?_)
    | ((with_reducible refine Ov.quo (by omega) (by omega) (by omega) (fun _ _ => ?_)); conv => whnf)
    | ((with_reducible refine And.intro (show drawOK _ _ _ _ = true by kernel_rfl) ?_); conv => whnf)
    | ((with_reducible refine And.intro zC ?_); conv => whnf)
    | ((with_reducible refine And.intro ?hb ?_); (case hb => exact bytes_bd (Nat.le_of_ble_eq_true rfl) (by omega)); (conv => whnf))
    | ((refine DApp.a rfl rfl rfl rfl rfl rfl ?hb ?_); (case hb => exact zB); (conv => whnf))
    | ((refine DApp.b rfl rfl rfl rfl rfl rfl rfl rfl ?hb ?ho ?_); (case hb => exact zB); (case ho => omega); (conv => whnf))
    | ((refine DApp.c rfl rfl rfl rfl rfl ?hb ?_); (case hb => exact zB); (conv => whnf))
    | ((refine DApp.d rfl rfl rfl rfl rfl rfl ?hb ?ho ?_); (case hb => exact zB); (case ho => omega); (conv => whnf))
    | (with_reducible refine Or.inl ?_)
    | ((with_reducible refine IxA.ptr ?_); conv => whnf)
    | ((with_reducible refine nil_no (by omega) ?_); (conv => whnf))
    | ((with_reducible refine nil_any ?_ (fun hn0 => ?_)) <;> (conv => whnf))
    
    | ((refine ways (fun hc => ?_) (fun hc => ?_)) <;> (try simp only [decide_eq_true_eq, decide_eq_false_iff_not, Bool.and_eq_true, Bool.or_eq_true, Bool.and_eq_false_iff, Bool.or_eq_false_iff, Bool.not_eq_true', Bool.not_eq_false', beq_iff_eq, bne_iff_ne, ne_eq, beq_eq_false_iff_ne, bne_eq_false_iff_eq, Bool.not_eq_true, Bool.not_eq_false] at hc) <;> (try (exfalso; omega)) <;> (conv => whnf))))
  exact .rfl _
theorem marks_nil : Pure TC 15 [nilS, nilS] (.b true) := by
  refine Pure.mk' Tryz.func15 rfl rfl (Nat.le_of_ble_eq_true rfl) ?_
  (repeat' (first
    | with_reducible refine Wp.seq ?_
    | with_reducible refine Wp.block ?_
    | ((with_reducible first | refine Wp.region ?_ | refine Wp.drawL TC_mixed ?_ | refine Wp.cond ?_ | refine Wp.ret ?_ | refine Wp.skip ?_ | refine Wp.exit ?_ | refine Go.mk ?_ | apply Eff1.of); conv => whnf)
    | with_reducible exact rfl
    | ((with_reducible refine Ov.ok zO ?_); conv => whnf)
    | (with_reducible refine Ov.sh1 (by with_unfolding_all exact rfl) ?_)
    | ((with_reducible refine Ov.quo (by omega) (by omega) (by omega) (fun _ _ => ?_)); conv => whnf)
    | ((with_reducible refine And.intro (show drawOK _ _ _ _ = true by kernel_rfl) ?_); conv => whnf)
    | ((with_reducible refine And.intro zC ?_); conv => whnf)
    | ((with_reducible refine And.intro ?hb ?_); (case hb => exact bytes_bd (Nat.le_of_ble_eq_true rfl) (by omega)); (conv => whnf))
    | ((refine DApp.a rfl rfl rfl rfl rfl rfl ?hb ?_); (case hb => exact zB); (conv => whnf))
    | ((refine DApp.b rfl rfl rfl rfl rfl rfl rfl rfl ?hb ?ho ?_); (case hb => exact zB); (case ho => omega); (conv => whnf))
    | ((refine DApp.c rfl rfl rfl rfl rfl ?hb ?_); (case hb => exact zB); (conv => whnf))
    | ((refine DApp.d rfl rfl rfl rfl rfl rfl ?hb ?ho ?_); (case hb => exact zB); (case ho => omega); (conv => whnf))
    | (with_reducible refine Or.inl ?_)
    | ((with_reducible refine IxA.ptr ?_); conv => whnf)
    | ((with_reducible refine nil_no (by omega) ?_); (conv => whnf))
    | ((with_reducible refine nil_any ?_ (fun hn0 => ?_)) <;> (conv => whnf))
    | ((with_reducible refine Wp.loopN 3 ?_); conv => whnf)
    | ((refine ways (fun hc => ?_) (fun hc => ?_)) <;> (try simp only [decide_eq_true_eq, decide_eq_false_iff_not, Bool.and_eq_true, Bool.or_eq_true, Bool.and_eq_false_iff, Bool.or_eq_false_iff, Bool.not_eq_true', Bool.not_eq_false', beq_iff_eq, bne_iff_ne, ne_eq, beq_eq_false_iff_ne, bne_eq_false_iff_eq, Bool.not_eq_true, Bool.not_eq_false] at hc) <;> (try (exfalso; omega)) <;> (conv => whnf))))
  exact .rfl _
@[reducible] def repS (s : ByteArray) : SV := .agg [.d (.val (.string s)), nilS, .i .u8 0, .i .i64 0, .b false]
theorem same_rep (s : ByteArray) : Pure TC 8 [repS s, repS s] (.b true) := by
  refine Pure.mk' Tryz.func8 rfl rfl (Nat.le_of_ble_eq_true rfl) ?_
  (repeat' (first
    | with_reducible refine Wp.seq ?_
    | with_reducible refine Wp.block ?_
    | ((with_reducible first | refine Wp.region ?_ | refine Wp.drawL TC_mixed ?_ | refine Wp.cond ?_ | refine Wp.ret ?_ | refine Wp.skip ?_ | refine Wp.exit ?_ | refine Go.mk ?_ | apply Eff1.of); conv => whnf)
    | with_reducible exact rfl
    | ((with_reducible refine Ov.ok zO ?_); conv => whnf)
    | (with_reducible refine Ov.sh1 (by with_unfolding_all exact rfl) ?_)
    | ((with_reducible refine Ov.quo (by omega) (by omega) (by omega) (fun _ _ => ?_)); conv => whnf)
    | ((with_reducible refine And.intro (show drawOK _ _ _ _ = true by kernel_rfl) ?_); conv => whnf)
    | ((with_reducible refine And.intro zC ?_); conv => whnf)
    | ((with_reducible refine And.intro ?hb ?_); (case hb => exact bytes_bd (Nat.le_of_ble_eq_true rfl) (by omega)); (conv => whnf))
    | ((refine DApp.a rfl rfl rfl rfl rfl rfl ?hb ?_); (case hb => exact zB); (conv => whnf))
    | ((refine DApp.b rfl rfl rfl rfl rfl rfl rfl rfl ?hb ?ho ?_); (case hb => exact zB); (case ho => omega); (conv => whnf))
    | ((refine DApp.c rfl rfl rfl rfl rfl ?hb ?_); (case hb => exact zB); (conv => whnf))
    | ((refine DApp.d rfl rfl rfl rfl rfl rfl ?hb ?ho ?_); (case hb => exact zB); (case ho => omega); (conv => whnf))
    | (with_reducible refine Or.inl ?_)
    | ((with_reducible refine IxA.ptr ?_); conv => whnf)
    | ((with_reducible refine nil_no (by omega) ?_); (conv => whnf))
    | ((with_reducible refine nil_any ?_ (fun hn0 => ?_)) <;> (conv => whnf))
    | ((with_reducible refine CallStop.pure (marks_nil) rfl rfl ?_); conv => whnf) | ((with_reducible refine DCall.pure (marks_nil) rfl rfl ?_); conv => whnf)
    | ((refine ways (fun hc => ?_) (fun hc => ?_)) <;> (try simp only [decide_eq_true_eq, decide_eq_false_iff_not, Bool.and_eq_true, Bool.or_eq_true, Bool.and_eq_false_iff, Bool.or_eq_false_iff, Bool.not_eq_true', Bool.not_eq_false', beq_iff_eq, bne_iff_ne, ne_eq, beq_eq_false_iff_ne, bne_eq_false_iff_eq, Bool.not_eq_true, Bool.not_eq_false] at hc) <;> (try (exfalso; omega)) <;> (conv => whnf))))
  · exact .b rfl
  · exact absurd trivial hc
theorem same_nil : Pure TC 8 [rep0, rep0] (.b true) := same_rep ⟨#[]⟩
end Go.Proofs.YteallmlkkcjblaaGreatDoor
