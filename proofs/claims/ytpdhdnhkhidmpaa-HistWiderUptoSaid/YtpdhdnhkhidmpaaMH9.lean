/- Lemmas of Sx34, Sx35, Sx36, Sx37, Sx38, Sx30, Hi6. No condition. -/
import Derived.Test.YtpdhdnhkhidmpaaMH8
import Derived.Laws.IdiomRangeMap
set_option linter.unusedVariables false
set_option linter.unusedSimpArgs false
set_option maxHeartbeats 80000000
set_option maxRecDepth 100000
namespace Go.Proofs.Ytpdhdnhkhidmpaa
open Go.RowKit
@[reducible] def mpB (b m : Nat) (keys : List ByteArray) (g : Nat → SV) : Blk := .obj b m keys.length (mpP keys) g
@[reducible] def mpV (b : Nat) : SV := .d (.val (.map (some b)))
theorem aQ.makeMap {C : Cx} {t nx : Nat} {nt : NT} {fr : List (Nat × SV)} {hp : List (Nat × Option Blk)} {k : St → SV → Prop} (h : ∀ b, k ⟨nt, nx + 1, fr, (nx, some (mpB b 0 [] fun _ => .any)) :: hp⟩ (mpV b)) : aQ C ⟨nt, nx, fr, hp⟩ (.makeMap t none) k :=
  ⟨fun O E a w o ho hs => by
    have hE : ∀ l, l < nx → (E.new nx w.heap.size).ρ l = E.ρ l ∧ (E.new nx w.heap.size).κ l = E.κ l := fun l hl => ⟨by simp only [Env.new]; rw [if_neg (by omega)], rfl⟩
    have hr : (E.new nx w.heap.size).ρ nx = w.heap.size := by simp [Env.new]
    have s1 := hs.alloc_gen (E' := E.new nx w.heap.size) (.map #[] 0) (mpB w.heap.size 0 [] fun _ => .any) hE rfl hr ⟨hr, Nat.zero_le _, .map #[] 0, fun _ => undef, by rw [hr]; exact ar w _, ⟨#[], rfl, rfl, fun j hj => by simp at hj⟩, fun j hj => by simp at hj⟩
    exact .val (m := Instr.makeMap t none) ⟨.map (some w.heap.size), _, _, _, _, rfl, h w.heap.size, s1, .d _ _ (.val _ rfl)⟩ (by simp [execOp, ho])⟩
theorem aQ.look {C : Cx} {t : Nat} {m i : Operand} {S : St} {k : St → SV → Prop} (h : da C t (ev S m) (ev S i) S.hp fun v _ => k S v) : aQ C S (.lookup t m i false) k :=
  ⟨fun O E a w o ho hs => by
    obtain ⟨z, v, l, h1, h2, h3⟩ := jh hs (aw hs m) (aw hs i) h
    exact .val (m := Instr.lookup t (a.eval m) (a.eval i) false) ⟨_, _, _, _, _, h1, h2, hs, h3⟩ (by simp [execOp, ho])⟩
theorem da.hit {C : Cx} {t kt et b l mm : Nat} {keys : List ByteArray} {g : Nat → SV} {s : ByteArray} {hp : List (Nat × Option Blk)} {k : SV → Nat → Prop} (h1 : C.P.underlying t = some (.map kt et)) (h2 : C.P.underlying kt = some .string) (h3 : ∀ w, (zeroValue et).run C.P w = .ok (.slice none 0 0) w)
    (hl : lkh hp l = some (mpB b mm keys g)) (j : Nat) (hj : j < keys.length) (hs : keys.getD j default = s) (hn : ∀ j', j' < keys.length → keys.getD j' default = s → j' = j) (h : k (g j) l) : da C t (mpV b) (.d (.val (.string s))) hp k :=
  ⟨⟨kt, et, b, l, mm, keys, g, s, g j, h1, h2, h3, rfl, rfl, hl, .inl ⟨j, hj, hs, hn, rfl⟩, h⟩⟩
theorem da.miss {C : Cx} {t kt et b l mm : Nat} {keys : List ByteArray} {g : Nat → SV} {s : ByteArray} {hp : List (Nat × Option Blk)} {k : SV → Nat → Prop} (h1 : C.P.underlying t = some (.map kt et)) (h2 : C.P.underlying kt = some .string) (h3 : ∀ w, (zeroValue et).run C.P w = .ok (.slice none 0 0) w)
    (hl : lkh hp l = some (mpB b mm keys g)) (hn : ∀ j, j < keys.length → keys.getD j default ≠ s) (h : k (.d (.val (.slice none 0 0))) l) : da C t (mpV b) (.d (.val (.string s))) hp k :=
  ⟨⟨kt, et, b, l, mm, keys, g, s, _, h1, h2, h3, rfl, rfl, hl, .inr ⟨hn, rfl⟩, h⟩⟩
theorem SV.Lt.up {m n : Nat} (h : m ≤ n) {x : SV} (hx : SV.Lt m x) : SV.Lt n x := by
  induction hx with
  | any => exact .any
  | d x => exact .d x
  | ptr l o h1 => exact .ptr l o (by omega)
  | rp l z i o h1 => exact .rp l z i o (by omega)
  | sl l z o k h1 => exact .sl l z o k (by omega)
  | agg vs _ ih => exact .agg vs ih
  | tup vs _ ih => exact .tup vs ih
  | fn f vs _ ih => exact .fn f vs ih
  | iref vs o _ ih => exact .iref vs o ih
theorem hX {w : World} {r : Nat} {o o' : Obj} (hb : w.heap[r]? = some o) : (w.heap.setIfInBounds r o')[r]? = some o' := (MapKept.heap_set hb).1
theorem aQ.mapUp {C : Cx} {t kt et b l mm nx : Nat} {m i v : Operand} {keys : List ByteArray} {g : Nat → SV} {s : ByteArray} {val : SV} {nt : NT} {fr : List (Nat × SV)} {hp : List (Nat × Option Blk)} {k : St → SV → Prop} (h1 : C.P.underlying t = some (.map kt et)) (h2 : C.P.underlying kt = some .string)
    (hm : ev ⟨nt, nx, fr, hp⟩ m = mpV b) (hi : ev ⟨nt, nx, fr, hp⟩ i = .d (.val (.string s))) (hv : ev ⟨nt, nx, fr, hp⟩ v = val) (hone : val.one = true) (hlt : SV.Lt nx val)
    (hl : lkh hp l = some (mpB b mm keys g))
    (h : ((∃ j, j < keys.length ∧ keys.getD j default = s ∧ (∀ j', j' < keys.length → keys.getD j' default = s → j' = j) ∧ k ⟨nt, nx, fr, (l, some (mpB b nx keys fun q => if q = j then val else g q)) :: hp⟩ .any) ∨
      ((∀ j, j < keys.length → keys.getD j default ≠ s) ∧ k ⟨nt, nx, fr, (l, some (mpB b nx (keys ++ [s]) fun q => if q = keys.length then val else g q)) :: hp⟩ .any))) : aQ C ⟨nt, nx, fr, hp⟩ (.mapUpdate t m i v) k :=
  ⟨fun O E a w o ho hs => by
    have em := aw hs m
    rw [hm] at em
    have em := em.val_inv
    have ei := aw hs i
    rw [hi] at ei
    have ei := ei.val_inv
    have hval := aw hs v
    rw [hv] at hval
    obtain ⟨e0, hmm, oo, uu, hoo, ⟨es, rfl, hsz, hall⟩, hg⟩ := hs.hp l _ hl
    rw [e0] at hoo
    have hwr : ∀ (es' : Array MapEntry) (n' : Nat) (keys' : List ByteArray) (g' : Nat → SV), n' = keys'.length → (Instr.mapUpdate t (.map (some b)) (.string s) (a.eval v)).run C.P w = .ok () { w with heap := w.heap.setIfInBounds b (.map es' n') } →
        es'.size = keys'.length → (∀ j (hj : j < es'.size), es'[j].key = .string (keys'.getD j default) ∧ es'[j].born = j ∧ (SV.Lt nx (g' j) ∧ RS E nx w (g' j) es'[j].val ∧ es'[j].val.oneCell' = true)) →
        k ⟨nt, nx, fr, (l, some (mpB b nx keys' g')) :: hp⟩ .any → dO C O o a w k := by
      intro es' n' keys' g' hn' hrun hsz' hall' hk next Q hnext
      unfold Oper.wp
      rw [show (execOp a.eval o).run C.P w = .ok .skip { w with heap := w.heap.setIfInBounds b (.map es' n') } by simp [execOp, ho, em, ei, hrun]]
      have hother : ∀ q, q ≠ E.ρ l → ({ w with heap := w.heap.setIfInBounds b (.map es' n') } : World).heap[q]? = w.heap[q]? := fun q hq => (MapKept.heap_set hoo).2 q (by rw [← e0]; exact hq)
      have hs' := hs.seth_gen (w' := { w with heap := w.heap.setIfInBounds b (.map es' n') }) (b' := mpB b nx keys' g') hl trivial hother (by simp) ⟨rfl, rfl, rfl⟩ ?_
      · exact hnext undef E _ _ .any hk hs' (.any _)
      · refine ⟨e0, Q4 _, .map es' n', fun j => (es'[j]?.map (·.val)).getD undef, by rw [e0]; exact hX hoo, ⟨es', by rw [hn'], hsz', fun j hj => ?_⟩, fun j hj => ?_⟩
        · obtain ⟨p1, p2, _⟩ := hall' j hj
          exact ⟨p1, by simp [hj], p2⟩
        · have hj' : j < es'.size := by omega
          obtain ⟨_, _, p3, p4, p5⟩ := hall' j hj'
          have e9 : (es'[j]?.map (·.val)).getD undef = es'[j].val := by simp [hj']
          show SV.Lt nx (g' j) ∧ RS E nx _ (g' j) ((es'[j]?.map (·.val)).getD undef) ∧ ((es'[j]?.map (·.val)).getD undef).oneCell' = true
          rw [e9]
          refine ⟨p3, RS.mono (E := E) (fun _ _ => ⟨rfl, rfl⟩) (Q4 _) (fun _ h => h) (fun q hq => hother q fun e => (hs.im q hq).2.2 l _ hl trivial e.symm) p4, p5⟩
    have hkk := MapKept.run_checkKey (P := C.P) (w := w) (k := .string s) h2 trivial false 9999
    have hgL : ∀ j, j < keys.length → SV.Lt nx (g j) := fun j hj => (hg j hj).1.up hmm
    rcases kX hsz hall s with ⟨f1, f2⟩ | ⟨j, f1, f2, f3⟩
    · rcases h with ⟨j, j1, j2, _, _⟩ | ⟨_, hk⟩
      · exact absurd j2 (f2 j j1)
      · have hf := MapKept.run_findKey (P := C.P) (w := w) (l := es.toList) h2 f1
        refine hwr (es.push { key := .string s, val := a.eval v, born := keys.length }) (keys.length + 1) (keys ++ [s]) _ (by simp) ?_ (by simp [hsz]) (fun j hj => ?_) hk
        · unfold Instr.mapUpdate
          simp only [Sem.run_bind, run_underlying h1, Result.andThen, MapKept.run_getObj_map hoo, hkk, hf, MapKept.run_setObj_map _ hoo]
        · by_cases e : j < es.size
          · obtain ⟨p1, p2, p3⟩ := hall j e
            have hjk : j < keys.length := by omega
            simp only [Array.getElem_push, dif_pos e, if_neg (show ¬ j = keys.length by omega)]
            refine ⟨by rw [p1, Q1, Q1, Q11 hjk], p3, hgL j hjk, ?_, ?_⟩
            · rw [p2]; exact (hg j hjk).2.1
            · rw [p2]; exact (hg j hjk).2.2
          · have hj2 : j = es.size := by have : j < es.size + 1 := by simpa using hj
                                         omega
            subst hj2
            simp only [Array.getElem_push, Nat.lt_irrefl, dif_neg, not_false_iff, if_pos hsz]
            refine ⟨by simp [hsz], hsz.symm, hlt, hval, RS.one hval hone⟩
    · rcases h with ⟨j', j1, j2, j3, hk⟩ | ⟨n1, _⟩
      · obtain rfl := j3 j f2 f3
        have hf := MapKept.run_findKey (P := C.P) (w := w) (l := es.toList) h2 f1
        have hj : j < es.size := by omega
        have hkey : ((es[j]?).map (·.key)).getD (.string s) = .string s := by
          rw [Array.getElem?_eq_getElem hj]
          show es[j].key = _
          rw [(hall j hj).1, f3]
        have hstay : (Instr.keyThatStays (.string s) (.string s)).run C.P w = .ok (.string s) w := by
          unfold Instr.keyThatStays
          have : Instr.sameBits 10000 (.string s) (.string s) = true := by
            show (s == s) = true
            exact (MapKept.bytes_beq s s).2 rfl
          rw [if_pos this]; rfl
        refine hwr (es.modify j fun e => { e with key := .string s, val := a.eval v }) keys.length keys _ rfl ?_ (by simp [hsz]) (fun q hq => ?_) hk
        · unfold Instr.mapUpdate
          simp only [Sem.run_bind, run_underlying h1, Result.andThen, MapKept.run_getObj_map hoo, hkk, hf, hkey, hstay, MapKept.run_setObj_map _ hoo]
        · have hq' : q < es.size := by simpa using hq
          obtain ⟨p1, p2, p3⟩ := hall q hq'
          have hqk : q < keys.length := by omega
          rw [Array.getElem_modify]
          by_cases e : j = q
          · subst e
            simp only [if_true]
            exact ⟨by rw [f3], p3, hlt, hval, RS.one hval hone⟩
          · simp only [if_neg e, if_neg (fun e9 : q = j => e e9.symm)]
            refine ⟨p1, p3, hgL q hqk, ?_, ?_⟩
            · rw [p2]; exact (hg q hqk).2.1
            · rw [p2]; exact (hg q hqk).2.2
      · exact absurd f3 (n1 j f2)⟩
def itP (b n : Nat) (seen : List Nat) (o : Obj) (_ : Nat → Value) : Prop := o = .mapIter (some b) n seen.toArray n
@[reducible] def itB (r b n : Nat) (seen : List Nat) : Blk := .obj r 0 0 (itP b n seen) fun _ => .any
@[reducible] def itV (r : Nat) : SV := .d (.val (.pointer (some ⟨r, 0, none⟩)))
theorem aQ.range {C : Cx} {t kt et b l mm nx : Nat} {x : Operand} {keys : List ByteArray} {g : Nat → SV} {nt : NT} {fr : List (Nat × SV)} {hp : List (Nat × Option Blk)} {k : St → SV → Prop} (h1 : C.P.underlying t = some (.map kt et)) (hx : ev ⟨nt, nx, fr, hp⟩ x = mpV b) (hl : lkh hp l = some (mpB b mm keys g))
    (h : ∀ r, k ⟨nt, nx + 1, fr, (nx, some (itB r b keys.length [])) :: hp⟩ (itV r)) : aQ C ⟨nt, nx, fr, hp⟩ (.range t x) k :=
  ⟨fun O E a w o ho hs => by
    have ex := aw hs x
    rw [hx] at ex
    have ex := ex.val_inv
    obtain ⟨e0, hmm, oo, uu, hoo, ⟨es, rfl, hsz, hall⟩, hg⟩ := hs.hp l _ hl
    rw [e0] at hoo
    have hE : ∀ l, l < nx → (E.new nx w.heap.size).ρ l = E.ρ l ∧ (E.new nx w.heap.size).κ l = E.κ l := fun l hl => ⟨by simp only [Env.new]; rw [if_neg (by omega)], rfl⟩
    have hr : (E.new nx w.heap.size).ρ nx = w.heap.size := by simp [Env.new]
    have s1 := hs.alloc_gen (E' := E.new nx w.heap.size) (.mapIter (some b) keys.length #[] keys.length) (itB w.heap.size b keys.length []) hE rfl hr ⟨hr, Nat.zero_le _, _, fun _ => undef, by rw [hr]; exact ar w _, rfl, fun j hj => by omega⟩
    exact .val (m := Instr.range t (a.eval x)) ⟨_, _, _, _, _, by rw [ex]; exact run_range_map w t kt et b es keys.length h1 hoo, h w.heap.size, s1, .d _ _ (.val _ rfl)⟩ (by simp [execOp, ho])⟩
theorem mp_left {keys : List ByteArray} {es : Array MapEntry} {u : Nat → Value} (hsz : es.size = keys.length) (hall : ∀ j (hj : j < es.size), es[j].key = .string (keys.getD j default) ∧ es[j].val = u j ∧ es[j].born = j) {seen : List Nat} {e : MapEntry} (he : e ∈ (leftOf es seen.toArray).toList) :
    ∃ j, j < keys.length ∧ ¬ j ∈ seen ∧ e.born = j ∧ e.key = .string (keys.getD j default) ∧ e.val = u j := by
  obtain ⟨h1, h2⟩ := mem_left he
  obtain ⟨j, hj, rfl⟩ := List.getElem_of_mem h1
  have hj' : j < es.size := by simpa using hj
  obtain ⟨p1, p2, p3⟩ := hall j hj'
  refine ⟨j, by omega, fun hm => ?_, by simpa using p3, by simpa using p1, by simpa using p2⟩
  have : seen.toArray.contains (es.toList[j]).born = true := by simp [p3, hm]
  rw [this] at h2; cases h2
theorem mp_none {keys : List ByteArray} {es : Array MapEntry} {u : Nat → Value} (hsz : es.size = keys.length) (hall : ∀ j (hj : j < es.size), es[j].key = .string (keys.getD j default) ∧ es[j].val = u j ∧ es[j].born = j) {seen : List Nat} (he : (leftOf es seen.toArray).size = 0) : ∀ j, j < keys.length → j ∈ seen := fun j hj => by
  have hj' : j < es.size := by omega
  have := all_seen es seen.toArray he es[j] (by simp)
  rw [(hall j hj').2.2] at this
  simpa using this
theorem iI {P : Program} (w : World) (ty r b n : Nat) (seen : List Nat) (es : Array MapEntry) (hr : w.heap[r]? = some (.mapIter (some b) n seen.toArray n)) (hb : w.heap[b]? = some (.map es n)) (hold : ∀ x ∈ es.toList, x.born < n) :
    ((leftOf es seen.toArray).size = 0 ∧ (Instr.next (.pointer (some ⟨r, 0, none⟩)) false ty).run P w = .ok (.tuple #[.bool false]) w) ∨
    ∃ e ∈ (leftOf es seen.toArray).toList, ∃ d : Nat, (Instr.next (.pointer (some ⟨r, 0, none⟩)) false ty).run P w = .ok (.tuple #[.bool true, e.key, e.val]) { w with drawn := d, heap := w.heap.setIfInBounds r (.mapIter (some b) n (seen.toArray.push e.born) n) } := by
  simp only [Instr.next, getObj, Sem.run_bind, Sem.run, hr, hb, Result.andThen, next_test_false seen.toArray es n n hold (Q4 _), Bool.false_eq_true, if_false]
  unfold leftOf
  have hmem : ∀ x ∈ (Array.filter (fun e => !seen.toArray.contains e.born) es).toList, x.born < n := fun x hx => hold x (by simp at hx ⊢; exact hx.1)
  generalize Array.filter (fun e => !seen.toArray.contains e.born) es = L at hmem ⊢
  have e1 : L.filter (fun x => decide (x.born < n)) = L := Array.filter_eq_self.2 (fun x hx => by simpa using hmem x (by simpa using hx))
  have e2 : L.filter (fun x => decide (x.born ≥ n)) = #[] := by
    rw [Array.filter_eq_empty_iff]
    intro x hx
    have := hmem x (by simpa using hx)
    simp
    omega
  simp only [e1, e2, Array.append_empty]
  by_cases h0 : L.size = 0
  · left
    have : L = #[] := Array.eq_empty_of_size_eq_zero h0
    subst this
    refine ⟨rfl, ?_⟩
    simp [choose, Sem.run, Question.forced]
  · right
    have hne : L.isEmpty = false := by simp [Array.isEmpty, h0]
    simp only [hne, Bool.false_eq_true, if_false, Array.empty_append, Array.size_map]
    have hch : ∃ (j d : Nat), j < L.size ∧ (choose (Question.mapNext L.size)).run P w = .ok j { w with drawn := d } := by
      by_cases hf : L.size ≤ 1
      · exact ⟨0, w.drawn, by omega, by simp [choose, Sem.run, Question.forced, hf]⟩
      · exact ⟨_, w.drawn + 1, Nat.mod_lt _ (by omega), by
          simp only [choose, Sem.run, Question.forced, decide_eq_true_eq, hf, if_false, Question.cut]
          rfl⟩
    obtain ⟨j, d, hj, hrun⟩ := hch
    refine ⟨L[j], by simp, d, ?_⟩
    have hset : (setObj r (.mapIter (some b) n (seen.toArray.push L[j].born) n)).run P { w with drawn := d } = .ok () { w with drawn := d, heap := w.heap.setIfInBounds r (.mapIter (some b) n (seen.toArray.push L[j].born) n) } := by
      simp only [setObj, Sem.run, hr]
    simp only [hrun, Array.getElem?_map, Array.getElem?_eq_getElem hj, Option.map_some, Sem.run_bind, hset, Result.andThen]
    rfl
theorem aQ.next {C : Cx} {r b li lm mm nx n : Nat} {x : Operand} {keys : List ByteArray} {g : Nat → SV} {seen : List Nat} {nt : NT} {fr : List (Nat × SV)} {hp : List (Nat × Option Blk)} {k : St → SV → Prop} (hx : ev ⟨nt, nx, fr, hp⟩ x = itV r) (hli : lkh hp li = some (itB r b n seen)) (hlm : lkh hp lm = some (mpB b mm keys g)) (hn : n = keys.length) (hne : li ≠ lm)
    (h1 : ∀ j, j < n → ¬ j ∈ seen → k ⟨nt, nx, fr, (li, some (itB r b n (seen ++ [j]))) :: hp⟩ (.tup [.b true, .d (.val (.string (keys.getD j default))), g j])) (h2 : (∀ j, j < n → j ∈ seen) → k ⟨nt, nx, fr, hp⟩ (.tup [.b false])) : aQ C ⟨nt, nx, fr, hp⟩ (.next x false) k :=
  ⟨fun O E a w o ho hs => by
    have ex := aw hs x
    rw [hx] at ex
    have ex := ex.val_inv
    obtain ⟨e0, hmm, oo, uu, hoo, ⟨es, rfl, hsz, hall⟩, hg⟩ := hs.hp lm _ hlm
    obtain ⟨e1, _, oi, ui, hoi, hit, _⟩ := hs.hp li _ hli
    have hit : oi = .mapIter (some b) n seen.toArray n := hit
    subst hit hn
    rw [e0] at hoo
    rw [e1] at hoi
    have hold : ∀ x ∈ es.toList, x.born < keys.length := fun x hx => by
      obtain ⟨j, hj, rfl⟩ := List.getElem_of_mem hx
      have hj' : j < es.size := by simpa using hj
      have := (hall j hj').2.2
      simp only [Array.getElem_toList]; omega
    rcases iI (P := C.P) w o.type r b keys.length seen es hoi hoo hold with ⟨g1, g2⟩ | ⟨e, he, d, g2⟩
    · exact .val (m := Instr.next (a.eval x) false o.type) ⟨_, w, E, _, _, by rw [ex]; exact g2, h2 (mp_none hsz hall g1), hs, .tup _ _ rfl fun j hj => by
        have : j = 0 := by simp at hj; omega
        subst this; exact .d _ _ (.val _ rfl)⟩ (by simp [execOp, ho])
    · obtain ⟨j, j1, j2, j3, j4, j5⟩ := mp_left hsz hall he
      have hother : ∀ q, q ≠ E.ρ li → ({ w with drawn := d, heap := w.heap.setIfInBounds r (.mapIter (some b) keys.length (seen.toArray.push e.born) keys.length) } : World).heap[q]? = w.heap[q]? := fun q hq => (MapKept.heap_set hoi).2 q (by rw [← e1]; exact hq)
      have hs' := hs.seth_gen (w' := { w with drawn := d, heap := w.heap.setIfInBounds r (.mapIter (some b) keys.length (seen.toArray.push e.born) keys.length) }) (b' := itB r b keys.length (seen ++ [j])) hli trivial hother (by simp) ⟨rfl, rfl, rfl⟩
        ⟨e1, Nat.zero_le _, _, fun _ => undef, by rw [e1]; exact hX hoi, by show _ = _; rw [j3]; simp, fun j hj => by omega⟩
      refine .val (m := Instr.next (a.eval x) false o.type) ⟨_, _, E, _, _, by rw [ex]; exact g2, h1 j j1 j2, hs', .tup _ _ rfl fun q hq => ?_⟩ (by simp [execOp, ho])
      have : q = 0 ∨ q = 1 ∨ q = 2 := by simp at hq; omega
      rcases this with rfl | rfl | rfl
      · exact .d _ _ (.val _ rfl)
      · show RS E nx _ (.d (.val (.string (keys.getD j default)))) e.key
        rw [j4]; exact .d _ _ (.val _ rfl)
      · show RS E nx _ (g j) e.val
        rw [j5]
        exact RS.mono (E := E) (fun _ _ => ⟨rfl, rfl⟩) (Q4 _) (fun _ h => h) (fun q hq => hother q fun e9 => (hs.im q hq).2.2 li _ hli trivial e9.symm) (hg j j1).2.1⟩
theorem aQ.entry {C : Cx} {r b li lm mm nx n j : Nat} {x : Operand} {keys : List ByteArray} {g : Nat → SV} {seen : List Nat} {nt : NT} {fr : List (Nat × SV)} {hp : List (Nat × Option Blk)} {k : St → SV → Prop} (hx : ev ⟨nt, nx, fr, hp⟩ x = itV r) (hli : lkh hp li = some (itB r b n (seen ++ [j]))) (hlm : lkh hp lm = some (mpB b mm keys g)) (hn : n = keys.length) (hj : j < n)
    (h : k ⟨nt, nx, fr, hp⟩ (.tup [.d (.val (.string (keys.getD j default))), g j])) : aQ C ⟨nt, nx, fr, hp⟩ (.entry x) k :=
  ⟨fun O E a w o ho hs => by
    have ex := aw hs x
    rw [hx] at ex
    have ex := ex.val_inv
    obtain ⟨e0, hmm, oo, uu, hoo, ⟨es, rfl, hsz, hall⟩, hg⟩ := hs.hp lm _ hlm
    obtain ⟨e1, _, oi, ui, hoi, hit, _⟩ := hs.hp li _ hli
    have hit : oi = .mapIter (some b) n (seen ++ [j]).toArray n := hit
    subst hit hn
    rw [e0] at hoo
    rw [e1] at hoi
    have hj' : j < es.size := by omega
    have hfind : es.find? (fun e => e.born == j) = some es[j] := by
      rw [← Array.find?_toList]
      have hb : es[j].born = j := (hall j hj').2.2
      have := find_born es[j] es.toList (by
        rw [List.nodup_iff_pairwise_ne, List.pairwise_iff_getElem]
        intro p q hp hq hpq
        have hp' : p < es.size := by simpa using hp
        have hq' : q < es.size := by simpa using hq
        simp only [List.getElem_map, Array.getElem_toList, (hall p hp').2.2, (hall q hq').2.2]
        omega) (by simp)
      rw [hb] at this
      exact this
    refine .val (m := Instr.entry (a.eval x)) ⟨.tuple #[es[j].key, es[j].val], w, E, _, _, ?_, h, hs, .tup _ _ rfl fun q hq => ?_⟩ (by simp [execOp, ho])
    · rw [ex]
      simp only [Instr.entry, getObj, Sem.run_bind, Sem.run, hoi, hoo, Result.andThen]
      simp [hfind, Sem.run, hoo, Result.andThen]
    · have : q = 0 ∨ q = 1 := by simp at hq; omega
      rcases this with rfl | rfl
      · show RS E nx _ (.d (.val (.string (keys.getD j default)))) es[j].key
        rw [(hall j hj').1]; exact .d _ _ (.val _ rfl)
      · show RS E nx _ (g j) es[j].val
        rw [(hall j hj').2.1]; exact (hg j hj).2.1⟩
theorem bS.obj {π : Nat → Nat} {nx nx' k b m m' n : Nat} {p : Obj → (Nat → Value) → Prop} {g g' : Nat → SV} (hm : m' ≤ nx') (h : ∀ j, j < n → SV.Lt m' (g' j) ∧ aD π nx' (g j) (g' j)) : bS π nx nx' (π k) k (.obj b m n p g) (.obj b m' n p g') :=
  ⟨fun _ h => h, fun E w hb => by
    obtain ⟨e0, h0, o, u, h1, h2, h3⟩ := hb
    exact ⟨e0, hm, o, u, h1, h2, fun j hj => ⟨(h j hj).1, (h j hj).2.out _ _ _ _ (h3 j hj).2.1, (h3 j hj).2.2⟩⟩⟩
def outB (lo hi : Nat) (hp : List (Nat × Option Blk)) : Bool := hp.all fun p => Nat.blt p.1 lo || Nat.ble hi p.1
theorem ap {hp T : List (Nat × Option Blk)} {l : Nat} {b : Blk} (h : lkh hp l = some b) : lkh (hp ++ T) l = some b := by
  induction hp with
  | nil => cases h
  | cons p r ih =>
    obtain ⟨n, v⟩ := p
    rw [List.cons_append, af]
    rw [af] at h
    by_cases e : n = l
    · rw [if_pos e] at h ⊢; exact h
    · rw [if_neg e] at h ⊢; exact ih h
theorem cj {lo hi : Nat} {hp T : List (Nat × Option Blk)} (ho : outB lo hi hp = true) {l : Nat} (h1 : lo ≤ l) (h2 : l < hi) : lkh hp l = none ∧ lkh (hp ++ T) l = lkh T l := by
  induction hp with
  | nil => exact ⟨rfl, rfl⟩
  | cons p r ih =>
    obtain ⟨n, v⟩ := p
    unfold outB at ho
    rw [List.all_cons, Q5, Q20] at ho
    have hne : ¬ n = l := by
      rcases ho.1 with h | h
      · have : n < lo := by simpa using h
        omega
      · have := zzb h
        dsimp only at this
        omega
    rw [List.cons_append, af, af, if_neg hne, if_neg hne]
    exact ih ho.2
theorem di {hp T : List (Nat × Option Blk)} {l : Nat} {b : Blk} (h : lkh (hp ++ T) l = some b) : lkh hp l = some b ∨ (lkh hp l = none ∧ lkh T l = some b) := by
  induction hp with
  | nil => exact .inr ⟨rfl, h⟩
  | cons p r ih =>
    obtain ⟨n, v⟩ := p
    rw [List.cons_append, af] at h
    rw [af]
    by_cases e : n = l
    · rw [if_pos e] at h ⊢; exact .inl h
    · rw [if_neg e] at h ⊢; exact ih h
def bH (lo hi : Nat) (T : List (Nat × Option Blk)) : Prop := ∀ k b, lkh T k = some b → lo ≤ k ∧ k < hi ∧ ∃ e z n f, b = .row e z n f
theorem Wp.frame {C : Cx} {c : Code} {n lo m nx : Nat} {fr : List (Nat × SV)} {hp T : List (Nat × Option Blk)} {Q : Exit → St → Prop} (hm : m ≤ nx) (hT : bH lo m T) (ho : outB lo m hp = true)
    (h : Wp C c ⟨⟨n, m⟩, nx, fr, hp⟩ (fun e S' => ∃ nx' fr' hp', S' = ⟨⟨n, m⟩, nx', fr', hp'⟩ ∧ outB lo m hp' = true ∧ Q e ⟨⟨n, 0⟩, nx', fr', hp' ++ T⟩)) : Wp C c ⟨⟨n, 0⟩, nx, fr, hp ++ T⟩ Q := by
  refine ⟨fun O E a w hs => ?_⟩
  let M : Nat → Prop := fun b => ∃ l x, lkh hp l = some x ∧ x.real (E.κ l) ∧ E.ρ l = b
  let O' : Org := ⟨w, M, E.Im, m, E.ρ, E.κ⟩
  have hs1 : Sat O' E ⟨⟨n, m⟩, nx, fr, hp⟩ a w :=
    ⟨hs.fr, ⟨hs.nt.1, rfl⟩, hs.df, fun l b hb => hs.hp l b (ap hb), fun l b hb => hs.nx l b (ap hb), fun l l' b b' hb hb' => hs.inj l l' b b' (ap hb) (ap hb'),
      fun b hb => ⟨(hs.im b hb).1, Or.inr (Or.inl hb), fun l x hl => (hs.im b hb).2.2 l x (ap hl)⟩, fun l b hb hr => Or.inl ⟨l, b, hb, hr, rfl⟩, Kq.refl _ _, fun l _ => ⟨rfl, rfl⟩, hm, fun b hb => hb⟩
  refine wp_mono (h.out O' E a w hs1) fun e a' w' hx => ?_
  obtain ⟨S', E', ⟨nx', fr', hp', rfl, ho', hQ⟩, hs2⟩ := hx
  have hlab : ∀ l, l < m → E'.ρ l = E.ρ l ∧ E'.κ l = E.κ l := hs2.lab
  have tT : ∀ {k b}, lkh T k = some b → lkh (hp ++ T) k = some b ∧ lkh hp k = none ∧ k < m ∧ lkh hp' k = none := fun {k b} hk => by
    obtain ⟨h1, h2, _⟩ := hT k b hk
    obtain ⟨g1, g2⟩ := cj (T := T) ho h1 h2
    exact ⟨g2.trans hk, g1, h2, (cj (T := T) ho' h1 h2).1⟩
  have hMown : ∀ b, M b → O.M b ∨ O.w0.heap.size ≤ b := by
    rintro b ⟨l, x, hl, hr, rfl⟩
    exact hs.own l x (ap hl) hr
  have notM : ∀ {k b}, lkh T k = some b → b.real (E.κ k) → ¬ M (E.ρ k) := fun {k b} hk hr hM => by
    obtain ⟨l, x, hl, hxr, e⟩ := hM
    obtain ⟨t1, t2, _, _⟩ := tT hk
    refine hs.inj l k x b (ap hl) t1 hxr hr (fun e9 => ?_) e
    subst e9; rw [t2] at hl; cases hl
  have ltT : ∀ {k b}, lkh T k = some b → b.real (E.κ k) → E.ρ k < w.heap.size := fun {k b} hk hr => (hs.hp k b (tT hk).1).lt hr
  have heapIm : ∀ b, E.Im b → w'.heap[b]? = w.heap[b]? := fun b hb => hs2.kq.block b (hs.im b hb).1 fun hM => by
    obtain ⟨l, x, hl, hr, e⟩ := hM
    exact (hs.im b hb).2.2 l x (ap hl) hr e
  have ownB : ∀ {l b}, lkh hp' l = some b → b.real (E'.κ l) → M (E'.ρ l) ∨ w.heap.size ≤ E'.ρ l := fun hl hr => hs2.own _ _ hl hr
  refine ⟨_, E', hQ, hs2.fr, ⟨hs2.nt.1, hs.nt.2⟩, hs2.df, fun l b hb => ?_, fun l b hb => ?_, fun l l' b b' hb hb' hr hr' hne => ?_, fun b hb => ⟨(hs2.im b hb).1, ?_, fun l x hl hr => ?_⟩, fun l b hb hr => ?_, ?_, fun l hl => ?_, ?_, fun b hb => hs2.imo b (hs.imo b hb)⟩
  · rcases di hb with hb | ⟨_, hb⟩
    · exact hs2.hp l b hb
    · obtain ⟨_, _, e, z, q, f, rfl⟩ := hT l b hb
      obtain ⟨t1, t2, t3, t4⟩ := tT hb
      obtain ⟨h1, h2, h3, h4, h5⟩ := hs.hp l _ t1
      obtain ⟨p1, p2⟩ := hlab l t3
      refine ⟨by rw [p2]; exact h1, by rw [p2]; exact h2, h3, h4, fun hk => ?_⟩
      rw [p2] at hk
      obtain ⟨vs, g1, g2, g3, g4⟩ := h5 hk
      refine ⟨vs, ?_, by rw [p2]; exact g2, g3, fun i j hi hj => (g4 i j hi hj).mono (fun b hb => hs2.imo b hb) heapIm⟩
      rw [p1]
      exact (hs2.kq.block _ (ltT hb hk) (notM hb hk)).trans g1
  · rcases di hb with hb | ⟨_, hb⟩
    · exact hs2.nx l b hb
    · exact Nat.lt_of_lt_of_le (tT hb).2.2.1 hs2.nl
  · rcases di hb with hb | ⟨_, hb⟩ <;> rcases di hb' with hb' | ⟨_, hb'⟩
    · exact hs2.inj l l' b b' hb hb' hr hr' hne
    · obtain ⟨p1, p2⟩ := hlab l' (tT hb').2.2.1
      rw [p2] at hr'
      rw [p1]
      intro e9
      rcases ownB hb hr with hM | hM
      · rw [e9] at hM; exact notM hb' hr' hM
      · have := ltT hb' hr'; omega
    · obtain ⟨p1, p2⟩ := hlab l (tT hb).2.2.1
      rw [p2] at hr
      rw [p1]
      intro e9
      rcases ownB hb' hr' with hM | hM
      · rw [← e9] at hM; exact notM hb hr hM
      · have := ltT hb hr; omega
    · obtain ⟨p1, p2⟩ := hlab l (tT hb).2.2.1
      obtain ⟨p3, p4⟩ := hlab l' (tT hb').2.2.1
      rw [p2] at hr
      rw [p4] at hr'
      rw [p1, p3]
      exact hs.inj l l' b b' (tT hb).1 (tT hb').1 hr hr' hne
  · rcases (hs2.im b hb).2.1 with h1 | h1 | h1
    · have := hs.kq.size
      exact Or.inl (Nat.le_trans this h1)
    · exact (hs.im b h1).2.1
    · rcases hMown b h1 with h2 | h2
      · exact Or.inr (Or.inr h2)
      · exact Or.inl h2
  · rcases di hl with hl | ⟨_, hl⟩
    · exact (hs2.im b hb).2.2 l x hl hr
    · obtain ⟨p1, p2⟩ := hlab l (tT hl).2.2.1
      rw [p2] at hr
      rw [p1]
      rcases (hs2.im b hb).2.1 with h1 | h1 | h1
      · have h1 : w.heap.size ≤ b := h1
        have := ltT hl hr; omega
      · exact (hs.im b h1).2.2 l x (tT hl).1 hr
      · intro e9; rw [← e9] at h1; exact notM hl hr h1
  · rcases di hb with hb | ⟨_, hb⟩
    · rcases ownB hb hr with hM | hM
      · exact hMown _ hM
      · have := hs.kq.size
        exact Or.inr (Nat.le_trans this hM)
    · obtain ⟨p1, p2⟩ := hlab l (tT hb).2.2.1
      rw [p2] at hr
      rw [p1]
      exact hs.own l b (tT hb).1 hr
  · have hk := hs.kq
    have hk2 := hs2.kq
    refine ⟨hk2.os.trans hk.os, hk2.tape.trans hk.tape, hk2.output.trans hk.output, Nat.le_trans hk.size hk2.size, fun k hk1 hk3 => ?_⟩
    rw [hk2.block k (Nat.lt_of_lt_of_le hk1 hk.size) fun hM => by
      rcases hMown k hM with h9 | h9
      · exact hk3 h9
      · omega]
    exact hk.block k hk1 hk3
  · have := hs.nt.2
    dsimp only at this
    omega
  · have := hs.nt.2
    dsimp only at this ⊢
    omega
theorem Le.frzT {nt : NT} {nx lm b mm z hi : Nat} {e : TypeId} {fr : List (Nat × SV)} {hp T : List (Nat × Option Blk)} {keys : List ByteArray} {g : Nat → SV} (cnt : Nat → Nat) (f : Nat → Nat → List D)
    (hT : ∀ j, j < keys.length → lkh T (1000 + j) = some (.row e z (cnt j) (f j))) (ho : outB 1000 hi hp = true) (hh : 1000 + keys.length ≤ hi) (hlm : lkh hp lm = some (mpB b mm keys g)) (hg : ∀ j, j < keys.length → g j = .sl (1000 + j) z 0 (cnt j)) :
    Le ⟨nt, nx, fr, hp ++ T⟩ ⟨nt, nx, fr, (lm, some (mpB b 0 keys fun j => .d (.sl z (cnt j) (f j)))) :: hp⟩ := by
  refine ⟨fun O E a w hs => ?_⟩
  have tT : ∀ j, j < keys.length → lkh (hp ++ T) (1000 + j) = some (.row e z (cnt j) (f j)) ∧ lkh hp (1000 + j) = none := fun j hj => by
    obtain ⟨g1, g2⟩ := cj (T := T) ho (l := 1000 + j) (by omega) (by omega)
    exact ⟨g2.trans (hT j hj), g1⟩
  let E' : Env := ⟨E.ρ, E.κ, fun b => E.Im b ∨ ∃ j, j < keys.length ∧ 0 < E.κ (1000 + j) ∧ b = E.ρ (1000 + j)⟩
  have hlm' := ap (T := T) hlm
  have old : ∀ {l b0}, lkh ((lm, some (mpB b 0 keys fun j => SV.d (.sl z (cnt j) (f j)))) :: hp) l = some b0 → ∃ b1, lkh hp l = some b1 ∧ (∀ κ, b0.real κ → b1.real κ) := fun {l b0} h => by
    rw [af] at h
    by_cases e1 : lm = l
    · subst e1; rw [if_pos rfl] at h; cases h; exact ⟨_, hlm, fun _ _ => trivial⟩
    · rw [if_neg e1] at h; exact ⟨b0, h, fun _ h => h⟩
  refine ⟨E', fun n => RS.mono (E := E) (fun _ _ => ⟨rfl, rfl⟩) (Q4 _) (fun _ h => Or.inl h) (fun _ _ => rfl) (hs.fr n), hs.nt, hs.df, fun l b0 hl => ?_, fun l b0 hl => ?_, fun l l' x x' hl hl' hr hr' hne => ?_, fun q hq => ⟨?_, ?_, fun l x hl hr => ?_⟩, fun l x hl hr => ?_, hs.kq, hs.lab, hs.nl, fun q hq => Or.inl (hs.imo q hq)⟩
  · rw [af] at hl
    by_cases e1 : lm = l
    · subst e1; rw [if_pos rfl] at hl; cases hl
      obtain ⟨e0, _, o, u, h1, h2, h3⟩ := hs.hp lm _ hlm'
      refine ⟨e0, Nat.zero_le _, o, u, h1, h2, fun j hj => ⟨.d _, ?_, (h3 j hj).2.2⟩⟩
      have hv := (h3 j hj).2.1
      rw [hg j hj] at hv
      generalize u j = v at hv
      obtain ⟨k1, k2, k3, k4, k5⟩ := hs.hp _ _ (tT j hj).1
      cases hv with
      | sl _ _ _ _ a' cap hlx hc hmx ha h0 =>
        by_cases hcz : cnt j = 0
        · refine .d _ _ ?_
          rw [hcz] at hc ⊢
          exact .sl _ 0 _ a' cap (fun _ _ => undef) hc hmx (fun i hi => by omega) (fun h => by omega) fun i j hi => by omega
        · obtain ⟨vs, q1, q2, q3, q4⟩ := k5 (by omega)
          refine .d _ _ (.sl _ _ _ a' cap (fun i q => vs.getD (i * z + q) undef) hc hmx k4 (fun _ => ⟨E.ρ (1000 + j), 0 * z, ha (by omega), Or.inr ⟨j, hj, by omega, rfl⟩, fun i q hi hq => ?_⟩) fun i q hi hq => (q4 i q hi hq).mono (fun _ h => Or.inl h) fun _ _ => rfl)
          have h5 : (i + 1) * z ≤ E.κ (1000 + j) * z := Q8 _ (by omega)
          rw [Q18, Nat.one_mul] at h5
          have h6 : i * z + q < vs.size := by omega
          simp [World.cell?, q1, Array.getD, h6]
    · rw [if_neg e1] at hl
      exact BS.mono (E := E) (hs.nx l b0 (ap hl)) (fun _ _ => ⟨rfl, rfl⟩) (Q4 _) (fun _ h => Or.inl h) (fun _ _ => rfl) (fun _ => rfl) (hs.hp l b0 (ap hl))
  · obtain ⟨b1, h1, _⟩ := old hl
    exact hs.nx l b1 (ap h1)
  · obtain ⟨b1, h1, h2⟩ := old hl
    obtain ⟨b2, h3, h4⟩ := old hl'
    exact hs.inj l l' b1 b2 (ap h1) (ap h3) (h2 _ hr) (h4 _ hr') hne
  · rcases hq with hq | ⟨j, hj, hκ, rfl⟩
    · exact (hs.im q hq).1
    · exact (hs.hp _ _ (tT j hj).1).lt hκ
  · rcases hq with hq | ⟨j, hj, hκ, rfl⟩
    · exact (hs.im q hq).2.1
    · rcases hs.own _ _ (tT j hj).1 hκ with h9 | h9
      · exact Or.inr (Or.inr h9)
      · exact Or.inl h9
  · obtain ⟨b1, h1, h2⟩ := old hl
    rcases hq with hq | ⟨j, hj, hκ, rfl⟩
    · exact (hs.im q hq).2.2 l b1 (ap h1) (h2 _ hr)
    · refine hs.inj l (1000 + j) b1 _ (ap h1) (tT j hj).1 (h2 _ hr) hκ fun e9 => ?_
      subst e9
      rw [(tT j hj).2] at h1; cases h1
  · obtain ⟨b1, h1, h2⟩ := old hl
    exact hs.own l b1 (ap h1) (h2 _ hr)
theorem Wp.midE {C : Cx} {ι : Type} (id : Nat) {c y : Code} {S : St} {Q : Exit → St → Prop} (p : ι → Prop) (I : ι → St) (h1 : Wp C c S (fun e S' => e = .exit id ∧ ∃ i, p i ∧ Le S' (I i))) (h2 : ∀ i, p i → Wp C y (I i) Q) : Wp C c S (lN id (thenQ C y Q)) :=
  h1.mono fun e S' ⟨he, i, hi, hl⟩ => by
    subst he
    show if id = id then _ else _
    rw [if_pos rfl]
    exact Wp.le hl (h2 i hi)
def lpO (id : Nat) : Code → Option Code
  | .block i b => if i = id then (match b with | .loop c => some c | _ => none) else lpO id b
  | .seq a b => (lpO id a).or (lpO id b)
  | .cond _ a b => (lpO id a).or (lpO id b)
  | .loop b => lpO id b
  | _ => none
theorem Le.nx {nt : NT} {nx nx' : Nat} {fr : List (Nat × SV)} {hp : List (Nat × Option Blk)} (h : nx ≤ nx') : Le ⟨nt, nx, fr, hp⟩ ⟨nt, nx', fr, hp⟩ :=
  ⟨fun O E a w hs => ⟨E, fun n => RS.mono (E := E) (fun _ _ => ⟨rfl, rfl⟩) h (fun _ h => h) (fun _ _ => rfl) (hs.fr n), hs.nt, hs.df, fun l b hb => BS.mono (E := E) (hs.nx l b hb) (fun _ _ => ⟨rfl, rfl⟩) h (fun _ h => h) (fun _ _ => rfl) (fun _ => rfl) (hs.hp l b hb), fun l b hb => Nat.lt_of_lt_of_le (hs.nx l b hb) h, hs.inj, hs.im, hs.own, hs.kq, hs.lab, Nat.le_trans hs.nl h, hs.imo⟩⟩
theorem aD.fn1 {π : Nat → Nat} {nx' : Nat} {f : Fn} {x y : SV} (h : aD π nx' x y) : aD π nx' (.fn f [x]) (.fn f [y]) := ⟨fun E nx w v hv => by
  cases hv with
  | fn _ _ us hs hh =>
    refine .fn f _ us (by simpa using hs) fun j hj => ?_
    have : j = 0 := by simp at hj; omega
    subst this
    exact h.out _ _ _ _ (hh 0 (by simp))⟩
def l6 (π : Nat → Nat) (nx' : Nat) (fr : List (Nat × SV)) : List (Nat × SV) → Prop
  | [] => True
  | p :: r => aD π nx' (lk fr p.1) p.2 ∧ l6 π nx' fr r
theorem l6.out {π : Nat → Nat} {nx' : Nat} {fr : List (Nat × SV)} : ∀ {l : List (Nat × SV)}, l6 π nx' fr l → ∀ p ∈ l, aD π nx' (lk fr p.1) p.2
  | [], _, p, h => by cases h
  | q :: r, h, p, hp => by
    rcases Q22 hp with rfl | hp
    · exact h.1
    · exact l6.out h.2 p hp
def RowLe (b b' : Blk) : Prop := b = b' ∨ ∃ e z n f g, b = .row e z n f ∧ b' = .row e z n g ∧ ∀ i, i < n → f i = g i
theorem bS.rowE {π : Nat → Nat} {nx nx' k e z n : Nat} {f g : Nat → List D} (h : ∀ i, i < n → f i = g i) : bS π nx nx' (π k) k (.row e z n f) (.row e z n g) :=
  ⟨fun _ h => h, fun E w hb => by
    obtain ⟨h1, h2, h3, h4, h5⟩ := hb
    refine ⟨h1, h2, h3, fun i hi => by rw [← h i hi]; exact h4 i hi, fun hk => ?_⟩
    obtain ⟨vs, a1, a2, a3, a4⟩ := h5 hk
    refine ⟨vs, a1, a2, a3, fun i j hi => ?_⟩
    rw [← h i hi]
    exact a4 i j hi⟩
theorem Le.maps {nt : NT} {nx N b mm : Nat} {fr fr' : List (Nat × SV)} {hp T : List (Nat × Option Blk)} {keys : List ByteArray} {g g' : Nat → SV} {x y : SV} (π : Nat → Nat) (hm : nt.m = 0) (hN : 1000 ≤ N) (hfr : l6 π N fr fr') (p0 : π 0 = 0) (p1 : π 1 = 1)
    (h0 : lkh hp 0 = some (.cells [x])) (hx : aD π N x y) (h1 : lkh hp 1 = some (mpB b mm keys g)) (hg : ∀ j, j < keys.length → SV.Lt N (g' j) ∧ aD π N (g j) (g' j)) (hR : bH 1000 N T) (hT : ∀ k b', lkh T k = some b' → ∃ b, lkh hp (π k) = some b ∧ RowLe b b' ∧ π k ≠ 0 ∧ π k ≠ 1)
    (hinj : ∀ k k' b b', lkh T k = some b → lkh T k' = some b' → π k = π k' → k = k') : Le ⟨nt, nx, fr, hp⟩ ⟨nt, N, fr', (0, some (.cells [y])) :: (1, some (mpB b N keys g')) :: T⟩ := by
  have hlk : ∀ {k b'}, lkh ((0, some (Blk.cells [y])) :: (1, some (mpB b N keys g')) :: T) k = some b' → (k = 0 ∧ b' = .cells [y]) ∨ (k = 1 ∧ b' = mpB b N keys g') ∨ (1000 ≤ k ∧ lkh T k = some b') := fun {k b'} h => by
    rw [af, af] at h
    by_cases e0 : 0 = k
    · rw [if_pos e0] at h; cases h; exact .inl ⟨e0.symm, rfl⟩
    · rw [if_neg e0] at h
      by_cases e1 : 1 = k
      · rw [if_pos e1] at h; cases h; exact .inr (.inl ⟨e1.symm, rfl⟩)
      · rw [if_neg e1] at h; exact .inr (.inr ⟨(hR k b' h).1, h⟩)
  refine Le.pi π hm hfr.out (fun k b' hk => ?_) fun k k' b1 b2 hk hk' e => ?_
  · rcases hlk hk with ⟨rfl, rfl⟩ | ⟨rfl, rfl⟩ | ⟨_, h⟩
    · refine ⟨by omega, _, by rw [p0]; exact h0, ?_⟩
      exact bS.cells ⟨hx, trivial⟩
    · refine ⟨by omega, _, by rw [p1]; exact h1, ?_⟩
      exact bS.obj (Q4 _) hg
    · obtain ⟨_, r2, e, z, n, f, rfl⟩ := hR k b' h
      obtain ⟨b, t1, t2, _⟩ := hT k _ h
      refine ⟨r2, b, t1, ?_⟩
      rcases t2 with rfl | ⟨e', z', n', f', g', rfl, t3, t4⟩
      · exact bS.row
      · cases t3
        exact bS.rowE t4
  · rcases hlk hk with ⟨rfl, _⟩ | ⟨rfl, _⟩ | ⟨a1, h⟩ <;> rcases hlk hk' with ⟨rfl, _⟩ | ⟨rfl, _⟩ | ⟨a2, h'⟩
    · rfl
    · rw [p0, p1] at e; cases e
    · rw [p0] at e; exact absurd e.symm (hT k' _ h').choose_spec.2.2.1
    · rw [p0, p1] at e; cases e
    · rfl
    · rw [p1] at e; exact absurd e.symm (hT k' _ h').choose_spec.2.2.2
    · rw [p0] at e; exact absurd e (hT k _ h).choose_spec.2.2.1
    · rw [p1] at e; exact absurd e (hT k _ h).choose_spec.2.2.2
    · exact hinj k k' _ _ h h' e
section
def l8 (es : Array Edge) (i : Nat) : Bool := es.any fun e => Region.binds .any e && Nat.beq e.on i
def bI (l : List Oper) (o : Oper) (i : Nat) : Bool := l8 o.after i || (List.range l.length).any fun j => Nat.blt i j && ((l[j]?).map fun q => l8 q.after i).getD false
def i2 (l : List Oper) (o : Oper) : Bool :=
  (List.range l.length).all (bI l o) &&
  (List.range l.length).all (fun i => ((l[i]?).map fun q => (q.after.all fun e => !Region.binds .any e || Nat.blt e.on i) && (match q.guard with | none => true | some (j, _) => Nat.blt j l.length)).getD false) &&
  (o.after.all fun e => !Region.binds .any e || Nat.blt e.on l.length) && o.guard.isNone
theorem upon_q {P : Program} {o : Oper} {a : Act} {w : World} {K : Act → World → Prop} {Q Q' : Exit → Act → World → Prop} (hL : LetsOut Q → LetsOut Q') (hQ : ∀ c a w, Q (.panic c) a w → Q' (.panic c) a w) (h : o.wp P a w K Q) : o.wp P a w K Q' := by
  unfold Oper.wp at *
  generalize (execOp a.eval o).run P w = r at *
  cases r with
  | ok n w' =>
    cases n <;> simp only [Oper.upon] at h ⊢ <;>
      first
        | exact h
        | exact Calls.mono h (fun e w'' he => by cases e <;> first | exact he | exact hQ _ _ _ he | exact hL he)
  | halt x w' => cases x <;> simp only [Oper.upon] at h ⊢ <;> first | exact h | exact hQ _ _ _ h
theorem ia {listed : Array Bool} {i : Nat} (b : Bool) : (listed.push b).getD i b = listed.getD i b := by
  simp only [Q7, Array.getElem?_push]
  split
  · rename_i h; subst h; simp
  · rfl
theorem dF {listed : Array Bool} {i : Nat} (b d : Bool) (h : i < listed.size) : (listed.push b).getD i d = listed.getD i d := by
  simp only [Q7, Array.getElem?_push]
  rw [if_neg (by omega)]
section
variable {P : Program} {l : List Oper} {o : Oper} {Q : Exit → Act → World → Prop}
theorem fJ {i : Nat} (h : i < l.length) : (l ++ [o]).toArray[i]? = l.toArray[i]? := by simp [Q11 h]
theorem gD : (l ++ [o]).toArray[l.length]? = some o := by simp
theorem fT {listed : Array Bool} (hs : listed.size = l.length) {i : Nat} (hi : i < l.length) : i ∈ Region.ready .any (l ++ [o]).toArray (listed.push false) ↔ i ∈ Region.ready .any l.toArray listed := by
  rw [mem_ready, mem_ready, fJ hi, dF false true (by omega)]
  simp only [ia]
theorem fi {listed : Array Bool} (hs : listed.size = l.length) : l.length ∈ Region.ready .any (l ++ [o]).toArray (listed.push false) ↔ ∀ e ∈ o.after, Region.binds .any e = true → listed.getD e.on false = true := by
  rw [mem_ready, gD]
  have h0 : (listed.push false).getD l.length true = false := by rw [Q7, ← hs]; simp
  rw [h0]
  simp only [ia]
  constructor
  · rintro ⟨_, q, hq, h⟩; cases hq; exact h
  · exact fun h => ⟨trivial, o, rfl, h⟩
theorem i8 {listed : Array Bool} {i : Nat} (h : i ∈ Region.ready .any (l ++ [o]).toArray (listed.push false)) : i < l.length ∨ i = l.length := by
  rw [mem_ready] at h
  obtain ⟨_, q, hq, _⟩ := h
  have := (Q17 hq).1
  simp at this; omega
theorem jQ {R : Exit → Act → World → Prop} (hok : i2 l o = true) (hR : ∀ a w, R .normal a w → o.wp P a w (fun a w => Q .normal a w) Q) (hP : ∀ c a w, ¬ R (.panic c) a w) (hO : ¬ LetsOut R) : ∀ (fuel : Nat) (listed : Array Bool) (a : Act) (w : World), listed.size = l.length →
    (∀ i q, l[i]? = some q → listed.getD i false = true → ∀ e ∈ q.after, Region.binds .any e = true → listed.getD e.on false = true) →
    wpAny P .any l.toArray R fuel listed a w → wpAny P .any (l ++ [o]).toArray Q (fuel + 1) (listed.push false) a w := by
  unfold i2 at hok
  simp only [Q5, Q23, List.mem_range] at hok
  obtain ⟨⟨⟨hu, hp⟩, ha⟩, hg⟩ := hok
  have hgn : o.guard = none := by cases e : o.guard with | none => rfl | some _ => rw [e] at hg; cases hg
  have hpre : ∀ i q, l[i]? = some q → (∀ e ∈ q.after, Region.binds .any e = true → e.on < i) ∧ (∀ j b, q.guard = some (j, b) → j < l.length) := fun i q hq => by
    have h1 := hp i (Q3 hq).1
    rw [hq] at h1
    simp only [Option.map_some, Option.getD_some, Q5] at h1
    refine ⟨fun e he hb => ?_, fun j b hjb => ?_⟩
    · have h2 := h1.1
      rw [Array.all_eq_true'] at h2
      have := h2 e he
      rw [hb] at this
      simpa using this
    · have h2 := h1.2
      rw [hjb] at h2
      simpa using h2
  have hao : ∀ e ∈ o.after, Region.binds .any e = true → e.on < l.length := fun e he hb => by
    rw [Array.all_eq_true'] at ha
    have := ha e he
    rw [hb] at this
    simpa using this
  have cover : ∀ (listed : Array Bool), (∀ i q, l[i]? = some q → listed.getD i false = true → ∀ e ∈ q.after, Region.binds .any e = true → listed.getD e.on false = true) →
      (∀ e ∈ o.after, Region.binds .any e = true → listed.getD e.on false = true) → ∀ k i, l.length = i + k → ∀ j, i ≤ j → j < l.length → listed.getD j false = true := by
    intro listed hd hr k
    induction k with
    | zero => intro i hi j h1 h2; omega
    | succ k ih =>
      intro i hi j h1 h2
      by_cases e : i = j
      · subst e
        have h3 := hu i h2
        unfold bI at h3
        rw [Q20] at h3
        have wt : ∀ {es : Array Edge}, l8 es i = true → ∃ e ∈ es, Region.binds .any e = true ∧ e.on = i := fun {es} h => by
          unfold l8 at h
          rw [Array.any_eq_true'] at h
          obtain ⟨e, h4, h5⟩ := h
          rw [Q5] at h5
          exact ⟨e, h4, h5.1, Q2 h5.2⟩
        rcases h3 with h3 | h3
        · obtain ⟨e, h4, h5, h6⟩ := wt h3
          rw [← h6]; exact hr e h4 h5
        · rw [List.any_eq_true] at h3
          obtain ⟨q, hq, h3⟩ := h3
          rw [List.mem_range] at hq
          rw [Q5, Q0 hq] at h3
          simp only [Option.map_some, Option.getD_some] at h3
          obtain ⟨h3, h4⟩ := h3
          have h3 : i < q := by simpa using h3
          obtain ⟨e, h5, h6, h7⟩ := wt h4
          have := ih (i + 1) (by omega) q (by omega) hq
          rw [← h7]; exact hd q _ (Q0 hq) this e h5 h6
      · exact ih (i + 1) (by omega) j (by omega) h2
  have allOf : ∀ (listed : Array Bool), listed.size = l.length → Region.ready .any l.toArray listed = [] → ∀ j, j < l.length → listed.getD j false = true := by
    intro listed hs hr j
    induction j using Nat.strongRecOn with
    | _ j ih =>
      intro hj
      cases hb : listed.getD j false with
      | true => rfl
      | false =>
        exfalso
        have : j ∈ Region.ready .any l.toArray listed := mem_ready.2 ⟨by
          rw [Q7] at hb ⊢
          rw [Array.getElem?_eq_getElem (by omega)] at hb ⊢
          exact hb, l[j], by simp [Q0 hj], fun e he hbe => ih e.on ((hpre j _ (Q0 hj)).1 e he hbe) (by have := (hpre j _ (Q0 hj)).1 e he hbe; omega)⟩
        rw [hr] at this; cases this
  have wtd : ∀ (a : Act), Region.wanted o (yielded (l ++ [o]).toArray a.tmps) = true := fun a => by unfold Region.wanted; rw [hgn]
  have endC : ∀ (fuel : Nat) (listed : Array Bool) (a : Act) (w : World), listed.size = l.length → Region.ready .any l.toArray listed = [] → o.wp P a w (fun a w => Q .normal a w) Q → wpAny P .any (l ++ [o]).toArray Q (fuel + 1) (listed.push false) a w := by
    intro fuel listed a w hs hr h
    have hall := allOf listed hs hr
    have hlast : l.length ∈ Region.ready .any (l ++ [o]).toArray (listed.push false) := (fi hs).2 fun e he hb => hall _ (hao e he hb)
    refine ⟨fun h0 => (by rw [h0] at hlast; cases hlast), fun i hi => ?_⟩
    rcases i8 hi with h1 | rfl
    · rw [fT hs h1, hr] at hi; cases hi
    · unfold wpOp
      rw [gD]
      simp only
      rw [if_pos (wtd a)]
      left
      refine Oper.wp_mono (fun a' w' hQ => ?_) h
      refine wpAny_done ?_ hQ fuel
      refine List.eq_nil_iff_forall_not_mem.2 fun j hj => ?_
      have hj2 := (mem_ready.1 hj).1
      have hjl : j < l.length ∨ j = l.length := by
        obtain ⟨_, q, hq, _⟩ := mem_ready.1 hj
        have := (Q17 hq).1
        simp at this; omega
      rcases hjl with hjl | rfl
      · rw [getD_set_ne true (by omega : l.length ≠ j), dF false true (by omega)] at hj2
        have := hall j hjl
        rw [Q7, Array.getElem?_eq_getElem (by omega)] at this hj2
        simp at this hj2; rw [this] at hj2; cases hj2
      · rw [Q7] at hj2
        simp [← hs] at hj2
  intro fuel
  induction fuel with
  | zero =>
    intro listed a w hs hd h
    exact endC 0 listed a w hs h.1 (hR _ _ h.2)
  | succ fuel ih =>
    intro listed a w hs hd h
    by_cases hr : Region.ready .any l.toArray listed = []
    · exact endC (fuel + 1) listed a w hs hr (hR _ _ (h.1 hr))
    · have hnl : ¬ l.length ∈ Region.ready .any (l ++ [o]).toArray (listed.push false) := fun hin => by
        have hc := cover listed hd ((fi hs).1 hin) l.length 0 (by omega)
        apply hr
        refine List.eq_nil_iff_forall_not_mem.2 fun j hj => ?_
        obtain ⟨hj1, q, hq, _⟩ := mem_ready.1 hj
        have hjl : j < l.length := by have := (Q17 hq).1; simpa using this
        have := hc j (Nat.zero_le _) hjl
        rw [Q7, Array.getElem?_eq_getElem (by omega)] at this hj1
        simp at this hj1; rw [this] at hj1; cases hj1
      refine ⟨fun h0 => ?_, fun i hi => ?_⟩
      · exfalso
        apply hr
        refine List.eq_nil_iff_forall_not_mem.2 fun j hj => ?_
        have hjl : j < l.length := by
          obtain ⟨_, q, hq, _⟩ := mem_ready.1 hj
          have := (Q17 hq).1; simpa using this
        have := (fT (o := o) hs hjl).2 hj
        rw [h0] at this; cases this
      · rcases i8 hi with hil | rfl
        · have hi2 := (fT hs hil).1 hi
          have h2 := h.2 i hi2
          unfold wpOp at h2 ⊢
          rw [fJ hil]
          have hli : l.toArray[i]? = some l[i] := by simp [Q0 hil]
          rw [hli] at h2 ⊢
          simp only at h2 ⊢
          have hw : Region.wanted l[i] (yielded (l ++ [o]).toArray a.tmps) = Region.wanted l[i] (yielded l.toArray a.tmps) := by
            unfold Region.wanted
            cases hgd : l[i].guard with
            | none => rfl
            | some jb =>
              obtain ⟨j, b⟩ := jb
              have hj := (hpre i _ (Q0 hil)).2 j b hgd
              simp only
              unfold yielded
              rw [fJ hj]
          rw [hw]
          have hd' : ∀ i' q, l[i']? = some q → (listed.setIfInBounds i true).getD i' false = true → ∀ e ∈ q.after, Region.binds .any e = true → (listed.setIfInBounds i true).getD e.on false = true := by
            intro i' q hq hg' e he hb
            by_cases e1 : i' = i
            · subst e1
              obtain ⟨_, q2, hq2, hall⟩ := mem_ready.1 hi2
              rw [hli] at hq2; cases hq2
              have : q = l[i'] := by rw [Q0 hil] at hq; exact (Option.some.inj hq).symm
              subst this
              exact getD_set_true (hall e he hb)
            · rw [getD_set_ne false (Ne.symm e1)] at hg'
              exact getD_set_true (hd i' q hq hg' e he hb)
          have hpush : (listed.push false).setIfInBounds i true = (listed.setIfInBounds i true).push false := by
            refine Array.ext_getElem? fun k => ?_
            simp only [Array.getElem?_setIfInBounds, Array.getElem?_push, Array.size_push, Array.size_setIfInBounds]
            by_cases e1 : i = k
            · subst e1
              rw [if_pos rfl, if_pos (by omega), if_neg (by omega), if_pos rfl, if_pos (by omega)]
            · rw [if_neg e1, if_neg e1]
          rw [hpush]
          have step : ∀ a' w', wpAny P .any l.toArray R fuel (listed.setIfInBounds i true) a' w' → wpAny P .any (l ++ [o]).toArray Q (fuel + 1) ((listed.setIfInBounds i true).push false) a' w' := fun a' w' h' => ih _ a' w' (by simp [hs]) hd' h'
          split
          · rename_i hwt
            rw [if_pos hwt] at h2
            rcases h2 with h2 | ⟨_, h3⟩
            · left
              exact Oper.wp_mono step (upon_q (fun hl => absurd hl hO) (fun c a w hf => absurd hf (hP c a w)) h2)
            · exact absurd h3 hO
          · rename_i hwt
            rw [if_neg hwt] at h2
            exact step _ _ h2
        · exact absurd hi hnl
end
theorem e7 (n : Nat) : (Array.replicate n false).push false = Array.replicate (n + 1) false := by
  rw [Array.replicate_succ]
theorem Wp.drawTail {C : Cx} {id : Nat} {l : List Oper} {o : Oper} {nt : NT} {nx : Nat} {fr : List (Nat × SV)} {hp : List (Nat × Option Blk)} {Q : Exit → St → Prop} (hm : C.P.follows .mixedOrders = true) (hok : i2 l o = true)
    (h : bP C l nx l 0 ⟨nt, nx + l.length, fr, hp⟩ fun efs Sn => aj l efs nx ⟨nt, nx + l.length, fr, hp⟩ = true ∧ runK C Sn o fun S' => Q .normal S') : Wp C (.region id (l ++ [o]).toArray true) ⟨nt, nx, fr, hp⟩ Q := by
  refine ⟨fun O E a w hs => wp_region_any hm ?_⟩
  have h1 := Wp.drawAny (Q := fun e S' => match e with | .normal => runK C S' o (fun S'' => Q .normal S'') | _ => False) h hs
  have h2 := jQ (P := C.P) (l := l) (o := o) (Q := fun e a' w' => ∃ S' E', Q e S' ∧ Sat O E' S' a' w') hok (fun a' w' hh => ?_) (fun c a' w' hh => ?_) (fun hh => ?_) l.length (Array.replicate l.length false) a { w with drawn := w.drawn + 1 } (by simp) (fun i q _ hi => by
    simp [Q7, Array.getElem?_replicate] at hi; split at hi <;> simp at hi) h1
  · rw [e7] at h2
    simpa using h2
  · obtain ⟨S', E', hk, hS⟩ := hh
    refine eb hS hk _ _ fun v E2 S2 w2 x g1 g2 g3 => ?_
    obtain ⟨S3, k1, k2⟩ := ew g2 g3 g1
    exact ⟨S3, E2, k1, k2⟩
  · obtain ⟨S', E', hk, _⟩ := hh; exact hk
  · obtain ⟨_, _, S', E', hk, _⟩ := hh; exact hk
def nA : List Oper → List Oper
  | [] => []
  | [_] => []
  | x :: y :: r => x :: nA (y :: r)
def lastL : List Oper → Option Oper
  | [] => none
  | [x] => some x
  | _ :: y :: r => lastL (y :: r)
theorem gW : ∀ {l : List Oper} {o : Oper}, lastL l = some o → nA l ++ [o] = l
  | [], _, h => by cases h
  | [x], _, h => by cases h; rfl
  | x :: y :: r, o, h => by
    have := gW (l := y :: r) h
    show x :: (nA (y :: r) ++ [o]) = _
    rw [this]
theorem Wp.drawTailL {C : Cx} {id : Nat} {l l1 : List Oper} {o : Oper} {nt : NT} {nx : Nat} {fr : List (Nat × SV)} {hp : List (Nat × Option Blk)} {Q : Exit → St → Prop} (hm : C.P.follows .mixedOrders = true) (ho : lastL l = some o) (hl : nA l = l1) (hok : i2 l1 o = true)
    (h : cntK l1 nx fun m => bP C l1 nx l1 0 ⟨nt, m, fr, hp⟩ fun efs Sn => aj l1 efs nx ⟨nt, m, fr, hp⟩ = true ∧ runK C Sn o fun S' => Q .normal S') : Wp C (.region id l.toArray true) ⟨nt, nx, fr, hp⟩ Q := by
  subst hl
  have := Wp.drawTail (id := id) hm hok (iS _ nx _ h)
  rwa [gW ho] at this
end
section
open Hist
structure Reg (n : Nat) (p : Prop) : Prop where
  out : p
theorem Wp.reg (n : Nat) {C : Cx} {b : Array Oper} {d : Bool} {y : Code} {S : St} {Q : Exit → St → Prop} (h : Reg n (Wp C (.seq (.region n b d) y) S Q)) : Wp C (.seq (.region n b d) y) S Q := h.out
structure Tl (ps : List Pol) (l : List HD) (T : List (Nat × Option Blk)) : Prop where
  at_ : ∀ j, j < (ids ps l).length → lkh T (1000 + j) = some (.row 39 13 (grp ps l ((ids ps l).getD j default)).length fun q => HD.D ((grp ps l ((ids ps l).getD j default)).getD q default))
  rows : bH 1000 100000000000000000000 T
@[reducible] def mpG (ps : List Pol) (l : List HD) (j : Nat) : SV := .sl (1000 + j) 13 0 (grp ps l ((ids ps l).getD j default)).length
@[reducible] noncomputable def ckH (ps : List Pol) (calls : List HD) (b : Nat) (k : Nat × List (Nat × Option Blk)) : List (Nat × Option Blk) :=
  (0, some (.cells [.i .i64 (bu ps calls.length (calls.take k.1))])) :: (1, some (mpB b 100000000000000000000 (ids ps (calls.take k.1)) (mpG ps (calls.take k.1)))) :: k.2
@[reducible] noncomputable def ckI (ps : List Pol) (calls : List HD) (b : Nat) (k : Nat × List (Nat × Option Blk)) : St :=
  ⟨⟨Try.f15.ntmps, 0⟩, 100000000000000000000, [(0, .d (ao 4 Pol.D ps)), (6, .ptr 0 0), (7, .b (bo ps == 0)), (8, .fn (.func 32) [.ptr 0 0]), (9, mpV b), (25, .d (ao 13 HD.D calls)), (26, .i .i64 calls.length), (27, .i .i64 k.1)], ckH ps calls b k⟩
noncomputable def ckB : Code := (lpO 0 (Try.f15.body.getD .skip)).getD .skip
def ckP (ps : List Pol) (calls : List HD) (k : Nat × List (Nat × Option Blk)) : Prop := k.1 ≤ calls.length ∧ Tl ps (calls.take k.1) k.2
def ckQ (ps : List Pol) (calls : List HD) (b : Nat) (e : Exit) (S : St) : Prop := e = .exit 0 ∧ ∃ T, Tl ps calls T ∧ Le S (ckI ps calls b (calls.length, T))
theorem Wp.midAt {C : Cx} (id : Nat) {b : Array Oper} {d : Bool} {z y : Code} {S : St} {Q : Exit → St → Prop} (S1 : St) (h1 : Wp C (.seq (.region id b d) z) S (fun e S' => match e with | .normal => Le S' S1 | e => Q e S')) (h2 : Wp C y S1 Q) : Wp C (.seq (.seq (.region id b d) z) y) S Q :=
  Wp.seq (h1.mono fun e S' h => by
    cases e with
    | normal => exact Wp.le h h2
    | _ => exact h)
theorem Le.blks {nt : NT} {nx : Nat} {fr : List (Nat × SV)} {hp hp' : List (Nat × Option Blk)} (hhp : ∀ l b, lkh hp' l = some b → lkh hp l = some b) : Le ⟨nt, nx, fr, hp⟩ ⟨nt, nx, fr, hp'⟩ :=
  ⟨fun O E a w hs => ⟨E, hs.fr, hs.nt, hs.df, fun l b hb => hs.hp l b (hhp l b hb), fun l b hb => hs.nx l b (hhp l b hb), fun l l' b b' hb hb' => hs.inj l l' b b' (hhp l b hb) (hhp l' b' hb'), fun b hb => ⟨(hs.im b hb).1, (hs.im b hb).2.1, fun l x hl => (hs.im b hb).2.2 l x (hhp l x hl)⟩, fun l b hb => hs.own l b (hhp l b hb), hs.kq, hs.lab, hs.nl, hs.imo⟩⟩
def KFr (fr : List (Nat × SV)) : List (Nat × SV) → Prop
  | [] => True
  | p :: r => SV.Le (lk fr p.1) p.2 ∧ KFr fr r
theorem KFr.out {fr : List (Nat × SV)} : ∀ {l : List (Nat × SV)}, KFr fr l → ∀ p ∈ l, SV.Le (lk fr p.1) p.2
  | [], _, p, h => by cases h
  | q :: r, h, p, hp => by
    rcases Q22 hp with rfl | hp
    · exact h.1
    · exact KFr.out h.2 p hp
theorem Le.keep {nt : NT} {nx nx' : Nat} {fr fr' : List (Nat × SV)} {hp hp' : List (Nat × Option Blk)} (hn : nx ≤ nx') (hfr : KFr fr fr') (hhp : ∀ l b, lkh hp' l = some b → lkh hp l = some b) : Le ⟨nt, nx, fr, hp⟩ ⟨nt, nx', fr', hp'⟩ :=
  (Le.slots hfr.out).trans ((Le.blks hhp).trans (Le.nx hn))
@[reducible] noncomputable def ckF (ps : List Pol) (calls : List HD) (b k : Nat) : List (Nat × SV) := [(0, .d (ao 4 Pol.D ps)), (6, .ptr 0 0), (7, .b (bo ps == 0)), (8, .fn (.func 32) [.ptr 0 0]), (9, mpV b), (25, .d (ao 13 HD.D calls)), (26, .i .i64 calls.length), (27, .i .i64 k)]
@[reducible] noncomputable def ckM (ps : List Pol) (calls : List HD) (b k : Nat) (E1 : Int) (mp : Blk) (T : List (Nat × Option Blk)) : St :=
  ⟨⟨Try.f15.ntmps, 0⟩, 100000000000000000001, (11, .ptr 100000000000000000000 0) :: ckF ps calls b k, (0, some (.cells [.i .i64 E1])) :: (100000000000000000000, some (.cells ((calls.getD (k : Int).toNat default).D.map .d))) :: (1, some mp) :: T⟩
theorem nZ {calls : List HD} {k : Nat} (hlt : k < calls.length) : calls.take (k + 1) = calls.take k ++ [calls.getD (k : Int).toNat default] := by
  rw [Q13, List.take_add_one, Q0 hlt, Q1, Q0 hlt]; rfl
theorem oq {ps : List Pol} {l : List HD} {d : HD} (h : bX ps d = false) : ids ps (l ++ [d]) = ids ps l := by
  rw [cx, if_neg (by rw [h]; rintro ⟨h, _⟩; cases h)]
theorem ot {ps : List Pol} {l : List HD} {d : HD} (h : bX ps d = false) (k : ByteArray) : grp ps (l ++ [d]) k = grp ps l k := by
  rw [aS, if_neg (by rw [h]; rintro ⟨h, _⟩; cases h)]
theorem Tl.no {ps : List Pol} {l : List HD} {d : HD} {T : List (Nat × Option Blk)} (h : bX ps d = false) (hT : Tl ps l T) : Tl ps (l ++ [d]) T :=
  ⟨fun j hj => by
    rw [oq h] at hj ⊢
    rw [ot h]
    exact hT.at_ j hj, hT.rows⟩
theorem iu {ps : List Pol} {calls : List HD} {b k nx mm : Nat} {T hp : List (Nat × Option Blk)} {fr : List (Nat × SV)} {E' : Int} (hl : calls.length ≤ 1048576) (hlt : k < calls.length) (hinc : bX ps (calls.getD (k : Int).toNat default) = false) (hT : Tl ps (calls.take k) T)
    (hE : bE ps (bu ps calls.length (calls.take k)) (calls.take k) (calls.getD (k : Int).toNat default) = E') (hfr : l6 id 100000000000000000000 fr (ckF ps calls b (k + 1))) (h0 : lkh hp 0 = some (.cells [.i .i64 E'])) (h1 : lkh hp 1 = some (mpB b mm (ids ps (calls.take k)) (mpG ps (calls.take k))))
    (ht : ∀ l, 1000 ≤ l → l < 100000000000000000000 → lkh hp l = lkh T l) : ∃ i, ckP ps calls i ∧ (fun k => calls.length - k.1) i < calls.length - k ∧ Le ⟨⟨Try.f15.ntmps, 0⟩, nx, fr, hp⟩ (ckI ps calls b i) := by
  have hk1 := nZ hlt
  refine ⟨(k + 1, T), ⟨hlt, by dsimp only; rw [hk1]; exact hT.no hinc⟩, by dsimp only; omega, ?_⟩
  have hi := oq (ps := ps) (l := calls.take k) hinc
  show Le _ ⟨_, 100000000000000000000, ckF ps calls b (k + 1), (0, some (.cells [.i .i64 (bu ps calls.length (calls.take (k + 1)))])) :: (1, some (mpB b 100000000000000000000 (ids ps (calls.take (k + 1))) (mpG ps (calls.take (k + 1))))) :: T⟩
  rw [hk1, hi, cV, hE]
  refine Le.maps id rfl (by decide) hfr rfl rfl h0 (aD.free rfl) h1 (fun j hj => ?_) hT.rows (fun k b hb => ?_) fun k k' _ _ _ _ e => e
  · have hl : (ids ps (calls.take k)).length ≤ calls.length := Nat.le_trans (ge ps (calls.take k) []) (by rw [Q10, List.length_nil]; omega)
    dsimp only [mpG]
    rw [hi, ot hinc]
    exact ⟨.sl _ _ _ _ (by omega), .sl rfl (by omega)⟩
  · obtain ⟨r1, r2, _⟩ := hT.rows k b hb
    refine ⟨b, by rw [id, ht k r1 r2]; exact hb, .inl rfl, ?_, ?_⟩ <;> (show k ≠ _; omega)
def oe (id : Nat) : Code → Option Code
  | .seq (.region i b d) y => if i = id then some (.seq (.region i b d) y) else oe id y
  | .seq a b => (oe id a).or (oe id b)
  | .cond _ a b => (oe id a).or (oe id b)
  | .block _ b => oe id b
  | .loop b => oe id b
  | _ => none
noncomputable def ck16 : Code := (oe 16 (Try.f15.body.getD .skip)).getD .skip
@[reducible] noncomputable def ck6 (ps : List Pol) (calls : List HD) (b k : Nat) (E1 : Int) (T : List (Nat × Option Blk)) : St :=
  ⟨⟨Try.f15.ntmps, 0⟩, 100000000000000000001, (11, .ptr 100000000000000000000 0) :: (12, .d (ao 1 (aW .u8) (bc (calls.getD (k : Int).toNat default).pol (calls.getD (k : Int).toNat default).key))) :: ckF ps calls b k,
    (0, some (.cells [.i .i64 E1])) :: (100000000000000000000, some (.cells ((calls.getD (k : Int).toNat default).D.map .d))) :: (1, some (mpB b 100000000000000000000 (ids ps (calls.take k)) (mpG ps (calls.take k)))) :: T⟩
def ckR (ps : List Pol) (calls : List HD) (b k : Nat) (e : Exit) (S : St) : Prop := e = .normal ∧ ∃ T, Tl ps (calls.take (k + 1)) T ∧ Le S ⟨⟨Try.f15.ntmps, 0⟩, 100000000000000000000, ckF ps calls b k, ckH ps calls b (k + 1, T)⟩
theorem nq {l : List ByteArray} (h : l.Nodup) {j j' : Nat} (hj : j < l.length) (hj' : j' < l.length) (e : l.getD j' default = l.getD j default) : j' = j := by
  rw [Q1, Q1, Q0 hj, Q0 hj'] at e
  have e : l[j'] = l[j] := e
  have hp := List.pairwise_iff_getElem.1 h
  rcases Nat.lt_trichotomy j' j with g | g | g
  · exact absurd e (hp j' j hj' hj g)
  · exact g
  · exact absurd e.symm (hp j j' hj hj' g)
theorem oj {l : List ByteArray} {k : ByteArray} (h : k ∈ l) : ∃ j, j < l.length ∧ l.getD j default = k := by
  obtain ⟨j, hj, e⟩ := List.getElem_of_mem h
  exact ⟨j, hj, by rw [Q1, Q0 hj]; exact e⟩
theorem da.at_ {C : Cx} {t kt et b mm : Nat} (l : Nat) {keys : List ByteArray} {g : Nat → SV} {s : ByteArray} {hp : List (Nat × Option Blk)} {k : SV → Nat → Prop} {v : SV} (h1 : C.P.underlying t = some (.map kt et)) (h2 : C.P.underlying kt = some .string) (h3 : ∀ w, (zeroValue et).run C.P w = .ok (.slice none 0 0) w)
    (hl : lkh hp l = some (mpB b mm keys g)) (j : Nat) (hj : j < keys.length) (hs : keys.getD j default = s) (hn : ∀ j', j' < keys.length → keys.getD j' default = s → j' = j) (hv : g j = v) (h : k v l) : da C t (mpV b) (.d (.val (.string s))) hp k :=
  da.hit h1 h2 h3 hl j hj hs hn (by rw [hv]; exact h)
theorem iG (K : List ByteArray) (s : ByteArray) : (K ++ [s]).getD K.length default = s := by
  rw [Q1, Q12 (Q4 _), Nat.sub_self]; rfl
theorem snoc_un {K : List ByteArray} {s : ByteArray} (h : ∀ j, j < K.length → K.getD j default ≠ s) (j : Nat) (hj : j < (K ++ [s]).length) (e : (K ++ [s]).getD j default = s) : j = K.length := by
  by_cases hl : j < K.length
  · rw [Q1, Q11 hl, ← Q1] at e
    exact absurd e (h j hl)
  · rw [Q9, List.length_singleton] at hj; omega
theorem u53 : TC.P.underlying 53 = some (.map 9 24) := rfl
theorem u9 : TC.P.underlying 9 = some .string := rfl
theorem z24 (w : World) : (zeroValue 24).run TC.P w = .ok (.slice none 0 0) w := rfl
theorem jo {ps : List Pol} {d : HD} (h : bX ps d = true) : eQ ps d = false := by
  unfold bX at h
  rw [Q5, Bool.not_eq_true'] at h
  exact h.1
theorem Tl.miss {ps : List Pol} {l : List HD} {d : HD} {T : List (Nat × Option Blk)} (hT : Tl ps l T) (hi : bX ps d = true) (hm : ¬ kb d ∈ ids ps l) (hl : (ids ps l).length ≤ 1048576) :
    Tl ps (l ++ [d]) ((1000 + (ids ps l).length, some (.row 39 13 1 fun q => HD.D (([d] : List HD).getD q default))) :: T) := by
  refine ⟨fun j hj => ?_, fun k b h => ?_⟩
  · rw [cx, if_pos ⟨hi, hm⟩] at hj ⊢
    rw [Q9, List.length_singleton] at hj
    rw [af]
    by_cases e : j = (ids ps l).length
    · subst e
      rw [if_pos rfl, iG, aS, if_pos ⟨hi, rfl⟩, gh ps l _ hm]
      rfl
    · have hj' : j < (ids ps l).length := by omega
      rw [if_neg (by omega), hT.at_ j hj']
      have e2 : (ids ps l ++ [kb d]).getD j default = (ids ps l).getD j default := by
        rw [Q1, Q11 hj', ← Q1]
      rw [e2, aS, if_neg]
      rintro ⟨_, h⟩
      refine hm ?_
      rw [h, Q1, Q0 hj']
      exact Q14 hj'
  · rw [af] at h
    by_cases e : 1000 + (ids ps l).length = k
    · rw [if_pos e] at h
      cases h
      exact ⟨by omega, by omega, _, _, _, _, rfl⟩
    · rw [if_neg e] at h
      exact hT.rows k b h
theorem nu {ps : List Pol} {l : List HD} {d : HD} (hi : bX ps d = true) (hm : ¬ kb d ∈ ids ps l) : mpG ps (l ++ [d]) (ids ps l).length = .sl (1000 + (ids ps l).length) 13 0 1 ∧ ∀ j, j < (ids ps l).length → mpG ps (l ++ [d]) j = .sl (1000 + j) 13 0 (grp ps l ((ids ps l).getD j default)).length := by
  have e2 : ids ps (l ++ [d]) = ids ps l ++ [kb d] := by rw [cx, if_pos ⟨hi, hm⟩]
  refine ⟨?_, fun j hj => ?_⟩
  · dsimp only [mpG]
    rw [e2, iG, aS, if_pos (show bX ps d = true ∧ kb d = kb d from ⟨hi, rfl⟩), gh ps l _ hm]
    rfl
  · dsimp only [mpG]
    rw [e2, Q1, Q11 hj, ← Q1, aS, if_neg]
    rintro ⟨_, h⟩
    refine hm ?_
    rw [h, Q1, Q0 hj]
    exact Q14 hj
theorem bH.off {lo hi : Nat} {T : List (Nat × Option Blk)} (h : bH lo hi T) (l : Nat) : bH lo hi ((l, Option.none) :: T) := fun k b hb => by
  rw [af] at hb
  by_cases e : l = k
  · rw [if_pos e] at hb; cases hb
  · rw [if_neg e] at hb; exact h k b hb
theorem gw.freeD {π : Nat → Nat} {nx' : Nat} : ∀ ds : List D, gw π nx' (ds.map .d) (ds.map .d)
  | [] => trivial
  | _ :: r => ⟨aD.free rfl, gw.freeD r⟩
theorem nO {ps : List Pol} {calls : List HD} {b k : Nat} {E1 : Int} {T : List (Nat × Option Blk)} {d : HD} (hT : Tl ps (calls.take k) T) (hl : (ids ps (calls.take k)).length ≤ 1048576) {j : Nat} (hj : j < (ids ps (calls.take k)).length) :
    Le ⟨⟨Try.f15.ntmps, 0⟩, 100000000000000000001, (11, .ptr 100000000000000000000 0) :: (12, .d (ao 1 (aW .u8) (bc d.pol d.key))) :: ckF ps calls b k,
      (0, some (.cells [.i .i64 E1])) :: (100000000000000000000, some (.cells (d.D.map .d))) :: (1, some (mpB b 100000000000000000000 (ids ps (calls.take k)) (mpG ps (calls.take k)))) :: T⟩
      ⟨⟨Try.f15.ntmps, 0⟩, 100000000000000000001, (11, .ptr 100000000000000000000 0) :: (12, .d (ao 1 (aW .u8) (bc d.pol d.key))) :: ckF ps calls b k,
      (0, some (.cells [.i .i64 E1])) :: (100000000000000000000, some (.cells (d.D.map .d))) :: (1, some (mpB b 100000000000000000000 (ids ps (calls.take k)) fun q => if q = j then .sl 98 13 0 (grp ps (calls.take k) ((ids ps (calls.take k)).getD j default)).length else mpG ps (calls.take k) q)) ::
        (98, some (.row 39 13 (grp ps (calls.take k) ((ids ps (calls.take k)).getD j default)).length fun q => HD.D ((grp ps (calls.take k) ((ids ps (calls.take k)).getD j default)).getD q default))) :: (1000 + j, none) :: T⟩ := by
  have p0 : (fun l => if l = 98 then 1000 + j else l) 0 = 0 := rfl
  have p1 : (fun l => if l = 98 then 1000 + j else l) 1 = 1 := rfl
  have pN : (fun l => if l = 98 then 1000 + j else l) 100000000000000000000 = 100000000000000000000 := rfl
  have p98 : (fun l => if l = 98 then 1000 + j else l) 98 = 1000 + j := rfl
  have pn : ∀ l, ¬ 98 = l → (fun l => if l = 98 then 1000 + j else l) l = l := fun l h => if_neg (Ne.symm h)
  have key : ∀ {l b'}, lkh ((0, some (Blk.cells [.i .i64 E1])) :: (100000000000000000000, some (.cells (d.D.map .d))) :: (1, some (mpB b 100000000000000000000 (ids ps (calls.take k)) fun q => if q = j then .sl 98 13 0 (grp ps (calls.take k) ((ids ps (calls.take k)).getD j default)).length else mpG ps (calls.take k) q)) ::
        (98, some (.row 39 13 (grp ps (calls.take k) ((ids ps (calls.take k)).getD j default)).length fun q => HD.D ((grp ps (calls.take k) ((ids ps (calls.take k)).getD j default)).getD q default))) :: (1000 + j, none) :: T) l = some b' →
      l = 0 ∨ l = 100000000000000000000 ∨ l = 1 ∨ l = 98 ∨ (1000 ≤ l ∧ l < 100000000000000000000 ∧ ¬ l = 1000 + j ∧ lkh T l = some b') := fun {l b'} h => by
    by_cases e0 : 0 = l
    · exact .inl e0.symm
    by_cases eN : 100000000000000000000 = l
    · exact .inr (.inl eN.symm)
    by_cases e1 : 1 = l
    · exact .inr (.inr (.inl e1.symm))
    by_cases e98 : 98 = l
    · exact .inr (.inr (.inr (.inl e98.symm)))
    by_cases ej : 1000 + j = l
    · simp only [af, if_neg e0, if_neg e1, if_neg eN, if_neg e98, if_pos ej] at h; cases h
    simp only [af, if_neg e0, if_neg e1, if_neg eN, if_neg e98, if_neg ej] at h
    obtain ⟨r1, r2, _⟩ := hT.rows l b' h
    exact .inr (.inr (.inr (.inr ⟨r1, r2, Ne.symm ej, h⟩)))
  refine Le.pi (fun l => if l = 98 then 1000 + j else l) rfl (l6.out (by ((conv => whnf); repeat' (first | exact trivial | exact aD.free rfl | exact aD.ptr p0 (by decide) | exact aD.ptr pN (by decide) | exact aD.fn1 (aD.ptr p0 (by decide)) | ((with_reducible refine And.intro ?_ ?_) <;> (conv => whnf)))))) (fun l b' h => ?_) fun l l' b1 b2 h h' e => ?_
  · rcases key h with rfl | rfl | rfl | rfl | ⟨r1, r2, r3, h3⟩
    · obtain rfl := Option.some.inj (show some _ = some b' from h)
      exact ⟨by omega, _, rfl, bS.cells ⟨aD.free rfl, trivial⟩⟩
    · obtain rfl := Option.some.inj (show some _ = some b' from h)
      exact ⟨by omega, _, rfl, bS.cells (gw.freeD _)⟩
    · obtain rfl := Option.some.inj (show some _ = some b' from h)
      refine ⟨by omega, _, rfl, bS.obj (by omega) fun q hq => ?_⟩
      by_cases e : q = j
      · rw [if_pos e, e]
        exact ⟨.sl _ _ _ _ (by omega), .sl p98 (by omega)⟩
      · rw [if_neg e]
        exact ⟨.sl _ _ _ _ (by omega), .sl (pn _ (by omega)) (by omega)⟩
    · obtain rfl := Option.some.inj (show some _ = some b' from h)
      refine ⟨by omega, _, (congrArg (lkh _) p98).trans ?_, bS.row⟩
      simp only [af, if_neg (show ¬ 0 = 1000 + j by omega), if_neg (show ¬ 100000000000000000000 = 1000 + j by omega), if_neg (show ¬ 1 = 1000 + j by omega)]
      exact hT.at_ j hj
    · obtain ⟨_, _, e, z, n, f, rfl⟩ := hT.rows l b' h3
      refine ⟨by omega, _, (congrArg (lkh _) (pn l (by omega))).trans ?_, bS.row⟩
      simp only [af, if_neg (show ¬ 0 = l by omega), if_neg (show ¬ 100000000000000000000 = l by omega), if_neg (show ¬ 1 = l by omega)]
      exact h3
  · rcases key h with rfl | rfl | rfl | rfl | ⟨r1, r2, r3, h3⟩ <;> rcases key h' with rfl | rfl | rfl | rfl | ⟨r1', r2', r3', h3'⟩ <;> first | rfl | (exfalso; split at e <;> first | omega | (split at e <;> omega)) | (split at e <;> split at e <;> omega)
theorem Tl.hit {ps : List Pol} {l : List HD} {d : HD} {T : List (Nat × Option Blk)} (hT : Tl ps l T) (hi : bX ps d = true) {j : Nat} (hj : j < (ids ps l).length) (hjk : (ids ps l).getD j default = kb d) (hn : ∀ j', j' < (ids ps l).length → (ids ps l).getD j' default = kb d → j' = j) (hl : (ids ps l).length ≤ 1048576) :
    Tl ps (l ++ [d]) ((1000 + j, some (.row 39 13 ((grp ps l (kb d)).length + 1) fun q => HD.D ((grp ps l (kb d) ++ [d]).getD q default))) :: T) := by
  have hm : kb d ∈ ids ps l := by
    rw [← hjk, Q1, Q0 hj]
    exact Q14 hj
  have e2 : ids ps (l ++ [d]) = ids ps l := by rw [cx, if_neg (fun h => h.2 hm)]
  refine ⟨fun q hq => ?_, fun k b h => ?_⟩
  · rw [e2] at hq ⊢
    rw [af]
    by_cases e : q = j
    · subst e
      rw [if_pos rfl, hjk, aS, if_pos (show bX ps d = true ∧ kb d = kb d from ⟨hi, rfl⟩), Q9, List.length_singleton]
    · rw [if_neg (by omega), hT.at_ q hq, aS, if_neg (fun h => e (hn q hq h.2.symm))]
  · rw [af] at h
    by_cases e : 1000 + j = k
    · rw [if_pos e] at h
      cases h
      exact ⟨by omega, by omega, _, _, _, _, rfl⟩
    · rw [if_neg e] at h
      exact hT.rows k b h
theorem jD {ps : List Pol} {calls : List HD} {b k nx mm : Nat} {E1 E' : Int} {T hp : List (Nat × Option Blk)} {fr : List (Nat × SV)} {d : HD} {j : Nat} {g : Nat → SV} {f : Nat → List D} (hT : Tl ps (calls.take k) T) (hinc : bX ps d = true) (hj : j < (ids ps (calls.take k)).length) (hjk : (ids ps (calls.take k)).getD j default = kb d)
    (hn : ∀ j', j' < (ids ps (calls.take k)).length → (ids ps (calls.take k)).getD j' default = kb d → j' = j) (hl : (ids ps (calls.take k)).length ≤ 1048576) (hk1 : calls.take (k + 1) = calls.take k ++ [d]) (hE1 : (if d.last < d.first then bv (bu ps calls.length (calls.take k)) 1 else bu ps calls.length (calls.take k)) = E1)
    (hE : (if 8 < (grp ps (calls.take k) (kb d)).length + 1 then bv E1 2 else E1) = E') (hfr : l6 (fun l => if l = 1000 + j then 100000000000000000010 else l) 100000000000000000000 fr (ckF ps calls b k)) (h0 : lkh hp 0 = some (.cells [.i .i64 E'])) (h1 : lkh hp 1 = some (mpB b mm (ids ps (calls.take k)) g))
    (hg : ∀ q, g q = if q = j then .sl 100000000000000000010 13 0 ((grp ps (calls.take k) (kb d)).length + 1) else mpG ps (calls.take k) q) (hr : lkh hp 100000000000000000010 = some (.row 39 13 ((grp ps (calls.take k) (kb d)).length + 1) f)) (hf : ∀ i, i < (grp ps (calls.take k) (kb d)).length + 1 → f i = HD.D ((grp ps (calls.take k) (kb d) ++ [d]).getD i default))
    (ho : outB 1000 100000000000000000000 hp = true) : ckR ps calls b k .normal ⟨⟨Try.f15.ntmps, 0⟩, nx, fr, hp ++ ((1000 + j, none) :: T)⟩ := by
  have hm : kb d ∈ ids ps (calls.take k) := by
    rw [← hjk, Q1, Q0 hj]
    exact Q14 hj
  have hH := hT.hit hinc hj hjk hn hl
  have e2 : ids ps (calls.take (k + 1)) = ids ps (calls.take k) := by rw [hk1, cx, if_neg (fun h => h.2 hm)]
  have eg : grp ps (calls.take k ++ [d]) (kb d) = grp ps (calls.take k) (kb d) ++ [d] := by rw [aS, if_pos (show bX ps d = true ∧ kb d = kb d from ⟨hinc, rfl⟩)]
  have e1 : bu ps calls.length (calls.take (k + 1)) = E' := by
    rw [hk1, cV]
    unfold bE
    rw [hE1, if_neg (by rw [jo hinc]; decide), if_pos hinc, eg, Q9, List.length_singleton]
    exact hE
  refine ⟨rfl, _, by rw [hk1]; exact hH, ?_⟩
  show Le _ ⟨_, 100000000000000000000, ckF ps calls b k, (0, some (.cells [.i .i64 (bu ps calls.length (calls.take (k + 1)))])) :: (1, some (mpB b 100000000000000000000 (ids ps (calls.take (k + 1))) (mpG ps (calls.take (k + 1))))) :: _⟩
  rw [e1, e2]
  have hA : ∀ l bb, lkh hp l = some bb → lkh (hp ++ ((1000 + j, none) :: T)) l = some bb := fun l bb h => ap h
  refine Le.maps (fun l => if l = 1000 + j then 100000000000000000010 else l) rfl (by decide) hfr (if_neg (by omega)) (if_neg (by omega)) (hA _ _ h0) (aD.free rfl) (hA _ _ h1) (fun q hq => ?_) hH.rows (fun l bb hb => ?_) (fun l l' bb bb' hb hb' e => ?_)
  · rw [hg q]
    by_cases e : q = j
    · rw [if_pos e, e]
      have : mpG ps (calls.take (k + 1)) j = .sl (1000 + j) 13 0 ((grp ps (calls.take k) (kb d)).length + 1) := by
        dsimp only [mpG]
        rw [e2, hjk, hk1, eg, Q9, List.length_singleton]
      rw [this]
      exact ⟨.sl _ _ _ _ (by omega), .sl (if_pos rfl) (by omega)⟩
    · rw [if_neg e]
      have : mpG ps (calls.take (k + 1)) q = mpG ps (calls.take k) q := by
        dsimp only [mpG]
        rw [e2, hk1, aS, if_neg (fun h => e (hn q hq h.2.symm))]
      rw [this]
      exact ⟨.sl _ _ _ _ (by omega), .sl (if_neg (by omega)) (by omega)⟩
  · rw [af] at hb
    by_cases e : 1000 + j = l
    · rw [if_pos e] at hb
      cases hb
      refine ⟨_, (congrArg (lkh _) (if_pos e.symm)).trans (hA _ _ hr), .inr ⟨_, _, _, _, _, rfl, rfl, hf⟩, by rw [if_pos e.symm]; decide, by rw [if_pos e.symm]; decide⟩
    · rw [if_neg e] at hb
      obtain ⟨r1, r2, _⟩ := hT.rows l bb hb
      refine ⟨bb, ?_, .inl rfl, ?_, ?_⟩
      · rw [if_neg (Ne.symm e), (cj ho r1 r2).2, af, if_neg e]
        exact hb
      all_goals (rw [if_neg (Ne.symm e)]; omega)
  · obtain ⟨r1, r2, _⟩ := hH.rows l bb hb
    obtain ⟨r3, r4, _⟩ := hH.rows l' bb' hb'
    split at e <;> split at e <;> omega
theorem ck_16 {ps : List Pol} {calls : List HD} (hk : ∀ d ∈ calls, IsB d.key) (hl : calls.length ≤ 1048576) {b k : Nat} {E1 : Int} {T : List (Nat × Option Blk)} (hlt : k < calls.length) (hinc : bX ps (calls.getD (k : Int).toNat default) = true)
    (hE1 : (if (calls.getD (k : Int).toNat default).last < (calls.getD (k : Int).toNat default).first then bv (bu ps calls.length (calls.take k)) 1 else bu ps calls.length (calls.take k)) = E1) (hT : Tl ps (calls.take k) T) : Wp TC ck16 (ck6 ps calls b k E1 T) (ckR ps calls b k) := by
  conv => (arg 2; whnf)
  have hk1 := nZ hlt
  unfold ck6
  generalize hd : calls.getD (k : Int).toNat default = d at *
  have hKl : (ids ps (calls.take k)).length ≤ 1048576 := Nat.le_trans (ge ps (calls.take k) []) (by rw [Q10, List.length_nil]; omega)
  by_cases hm : kb d ∈ ids ps (calls.take k)
  · obtain ⟨j, hj, hjk⟩ := oj hm
    have hn : ∀ j', j' < (ids ps (calls.take k)).length → (ids ps (calls.take k)).getD j' default = kb d → j' = j := fun j' hj' e => nq (lg ps _) hj hj' (e.trans hjk.symm)
    have hgl := ou ps (calls.take k) ((ids ps (calls.take k)).getD j default)
    rw [Q10] at hgl
    refine Wp.le (nO hT hKl hj) ?_
    refine Wp.frame (nx := 100000000000000000001) (lo := 1000) (m := 100000000000000000000) (T := (1000 + j, none) :: T) (hp := [(0, some (.cells [.i .i64 E1])), (100000000000000000000, some (.cells (d.D.map .d))), (1, some (mpB b 100000000000000000000 (ids ps (calls.take k)) fun q => if q = j then .sl 98 13 0 (grp ps (calls.take k) ((ids ps (calls.take k)).getD j default)).length else mpG ps (calls.take k) q)),
        (98, some (.row 39 13 (grp ps (calls.take k) ((ids ps (calls.take k)).getD j default)).length fun q => HD.D ((grp ps (calls.take k) ((ids ps (calls.take k)).getD j default)).getD q default)))]) (by decide) (hT.rows.off _) rfl ?_
    rw [hjk] at hgl ⊢
    (repeat' (first
    | ((with_reducible refine Wp.drawTailL ac rfl rfl (by kernel_rfl) ?_); conv => whnf)
    | ((refine lU.mk' (bc d.pol d.key) rfl (fun i hi => rfl) ?_); (conv => whnf))
    | ((refine da.at_ 1 u53 u9 z24 rfl j hj hjk hn (if_pos rfl) ?_); (conv => whnf))
    | with_reducible refine Wp.seq ?_
    | with_reducible refine Wp.block ?_
    | ((with_reducible first | refine Wp.region ?_ | refine Wp.drawL ac ?_ | refine Wp.cond ?_ | refine Wp.ret ?_ | refine Wp.skip ?_ | refine Wp.exit ?_ | refine Go.mk ?_ | apply ay.of); conv => whnf)
    | with_reducible exact rfl
    | ((with_reducible refine Ov.ok zO ?_); conv => whnf)
    | (with_reducible refine Ov.sh1 (by with_unfolding_all exact rfl) ?_)
    | ((with_reducible refine Ov.quo (by omega) (by omega) (by omega) (fun _ _ => ?_)); conv => whnf)
    | ((with_reducible refine And.intro (show aj _ _ _ _ = true by kernel_rfl) ?_); conv => whnf)
    | ((with_reducible refine And.intro zC ?_); conv => whnf)
    | ((with_reducible refine And.intro ?hb ?_); (case hb => exact ae (zzb rfl) (by omega)); (conv => whnf))
    | ((refine ag.a rfl rfl rfl rfl rfl rfl ?hb ?_); (case hb => exact zB); (conv => whnf))
    | ((refine ag.b rfl rfl rfl rfl rfl rfl rfl rfl ?hb ?ho ?_); (case hb => exact zB); (case ho => omega); (conv => whnf))
    | ((refine ag.c rfl rfl rfl rfl rfl ?hb ?_); (case hb => exact zB); (conv => whnf))
    | ((refine ag.d rfl rfl rfl rfl rfl rfl ?hb ?ho ?_); (case hb => exact zB); (case ho => omega); (conv => whnf))
    | (with_reducible refine Or.inl ?_)
    | ((with_reducible refine nil_no (by omega) ?_); (conv => whnf))
    | ((with_reducible refine ah ?_ (fun hn0 => ?_)) <;> (conv => whnf))
    | ((refine aQ.mapUp (l := 1) u53 u9 rfl rfl rfl rfl (.sl _ _ _ _ (by omega)) rfl (Or.inl ⟨j, hj, hjk, hn, ?_⟩)); (conv => whnf))
    | ((refine aQ.look (da.at_ 1 u53 u9 z24 rfl j hj hjk hn (if_pos rfl) ?_)); (conv => whnf))
    | (with_reducible refine aa.inline Try.func32 rfl rfl rfl (zzb rfl) ?_)
    | ((refine az (fun hc => ?_) (fun hc => ?_)) <;> (try simp only [decide_eq_true_eq, decide_eq_false_iff_not, Q5, Q20, Bool.and_eq_false_iff, Bool.or_eq_false_iff, Bool.not_eq_true', Bool.not_eq_false', beq_iff_eq, bne_iff_ne, ne_eq, beq_eq_false_iff_ne, bne_eq_false_iff_eq, Bool.not_eq_true, Bool.not_eq_false] at hc) <;> (try (exfalso; omega)) <;> (conv => whnf))))
    all_goals have p0 : (fun l => if l = 1000 + j then 100000000000000000010 else l) 0 = 0 := if_neg (by omega)
    · refine ⟨_, _, _, rfl, rfl, jD hT hinc hj hjk hn hKl hk1 hE1 (E' := 2) ?_ (by ((conv => whnf); repeat' (first | exact trivial | exact aD.free rfl | exact aD.ptr p0 (by decide) | exact aD.fn1 (aD.ptr p0 (by decide)) | ((with_reducible refine And.intro ?_ ?_) <;> (conv => whnf))))) rfl rfl (fun q => ?_) rfl (fun i hi => ?_) rfl⟩
      · unfold bv; (repeat' split) <;> omega
      · by_cases e : q = j
        · rw [if_pos e]; exact (if_pos e).symm
        · rw [if_neg e]; exact (if_neg e).trans (if_neg e).symm
      · exact a7 HD.D 13 (grp ps (calls.take k) (kb d)) d _ rfl i hi
    · refine ⟨_, _, _, rfl, rfl, jD hT hinc hj hjk hn hKl hk1 hE1 (E' := 2) ?_ (by ((conv => whnf); repeat' (first | exact trivial | exact aD.free rfl | exact aD.ptr p0 (by decide) | exact aD.fn1 (aD.ptr p0 (by decide)) | ((with_reducible refine And.intro ?_ ?_) <;> (conv => whnf))))) rfl rfl (fun q => ?_) rfl (fun i hi => ?_) rfl⟩
      · unfold bv; (repeat' split) <;> omega
      · by_cases e : q = j
        · rw [if_pos e]; exact (if_pos e).symm
        · rw [if_neg e]; exact (if_neg e).trans (if_neg e).symm
      · exact a7 HD.D 13 (grp ps (calls.take k) (kb d)) d _ rfl i hi
    · refine ⟨_, _, _, rfl, rfl, jD hT hinc hj hjk hn hKl hk1 hE1 (E' := E1) ?_ (by ((conv => whnf); repeat' (first | exact trivial | exact aD.free rfl | exact aD.ptr p0 (by decide) | exact aD.fn1 (aD.ptr p0 (by decide)) | ((with_reducible refine And.intro ?_ ?_) <;> (conv => whnf))))) rfl rfl (fun q => ?_) rfl (fun i hi => ?_) rfl⟩
      · unfold bv; (repeat' split) <;> omega
      · by_cases e : q = j
        · rw [if_pos e]; exact (if_pos e).symm
        · rw [if_neg e]; exact (if_neg e).trans (if_neg e).symm
      · exact a7 HD.D 13 (grp ps (calls.take k) (kb d)) d _ rfl i hi
    · refine ⟨_, _, _, rfl, rfl, jD hT hinc hj hjk hn hKl hk1 hE1 (E' := E1) ?_ (by ((conv => whnf); repeat' (first | exact trivial | exact aD.free rfl | exact aD.ptr p0 (by decide) | exact aD.fn1 (aD.ptr p0 (by decide)) | ((with_reducible refine And.intro ?_ ?_) <;> (conv => whnf))))) rfl rfl (fun q => ?_) rfl (fun i hi => ?_) rfl⟩
      · unfold bv; (repeat' split) <;> omega
      · by_cases e : q = j
        · rw [if_pos e]; exact (if_pos e).symm
        · rw [if_neg e]; exact (if_neg e).trans (if_neg e).symm
      · exact a7 HD.D 13 (grp ps (calls.take k) (kb d)) d _ rfl i hi
  · have hno : ∀ j, j < (ids ps (calls.take k)).length → (ids ps (calls.take k)).getD j default ≠ kb d := fun j hj e => hm (by rw [← e, Q1, Q0 hj]; exact Q14 hj)
    refine Wp.frame (nx := 100000000000000000001) (lo := 1000) (m := 100000000000000000000) (T := T) (hp := [(0, some (.cells [.i .i64 E1])), (100000000000000000000, some (.cells (d.D.map .d))), (1, some (mpB b 100000000000000000000 (ids ps (calls.take k)) (mpG ps (calls.take k))))]) (by decide) hT.rows rfl ?_
    have a1 : (ids ps (calls.take k)).length < (ids ps (calls.take k) ++ [kb d]).length := by rw [Q9, List.length_singleton]; omega
    have a2 := iG (ids ps (calls.take k)) (kb d)
    have a3 := snoc_un hno
    (repeat' (first
    | ((with_reducible refine Wp.drawTailL ac rfl rfl (by kernel_rfl) ?_); conv => whnf)
    | ((refine lU.mk' (bc d.pol d.key) rfl (fun i hi => rfl) ?_); (conv => whnf))
    | ((refine da.miss (l := 1) u53 u9 z24 rfl hno ?_); (conv => whnf))
    | with_reducible refine Wp.seq ?_
    | with_reducible refine Wp.block ?_
    | ((with_reducible first | refine Wp.region ?_ | refine Wp.drawL ac ?_ | refine Wp.cond ?_ | refine Wp.ret ?_ | refine Wp.skip ?_ | refine Wp.exit ?_ | refine Go.mk ?_ | apply ay.of); conv => whnf)
    | with_reducible exact rfl
    | ((with_reducible refine Ov.ok zO ?_); conv => whnf)
    | (with_reducible refine Ov.sh1 (by with_unfolding_all exact rfl) ?_)
    | ((with_reducible refine Ov.quo (by omega) (by omega) (by omega) (fun _ _ => ?_)); conv => whnf)
    | ((with_reducible refine And.intro (show aj _ _ _ _ = true by kernel_rfl) ?_); conv => whnf)
    | ((with_reducible refine And.intro zC ?_); conv => whnf)
    | ((with_reducible refine And.intro ?hb ?_); (case hb => exact ae (zzb rfl) (by omega)); (conv => whnf))
    | ((refine ag.a rfl rfl rfl rfl rfl rfl ?hb ?_); (case hb => exact zB); (conv => whnf))
    | ((refine ag.b rfl rfl rfl rfl rfl rfl rfl rfl ?hb ?ho ?_); (case hb => exact zB); (case ho => omega); (conv => whnf))
    | ((refine ag.c rfl rfl rfl rfl rfl ?hb ?_); (case hb => exact zB); (conv => whnf))
    | ((refine ag.d rfl rfl rfl rfl rfl rfl ?hb ?ho ?_); (case hb => exact zB); (case ho => omega); (conv => whnf))
    | (with_reducible refine Or.inl ?_)
    | ((with_reducible refine nil_no (by omega) ?_); (conv => whnf))
    | ((with_reducible refine ah ?_ (fun hn0 => ?_)) <;> (conv => whnf))
    | ((refine aQ.mapUp (l := 1) u53 u9 rfl rfl rfl rfl (.sl _ _ _ _ (by omega)) rfl (Or.inr ⟨hno, ?_⟩)); (conv => whnf))
    | ((refine aQ.look (da.at_ 1 u53 u9 z24 rfl _ a1 a2 a3 (if_pos rfl) ?_)); (conv => whnf))
    | (with_reducible refine aa.inline Try.func32 rfl rfl rfl (zzb rfl) ?_)
    | ((refine az (fun hc => ?_) (fun hc => ?_)) <;> (try simp only [decide_eq_true_eq, decide_eq_false_iff_not, Q5, Q20, Bool.and_eq_false_iff, Bool.or_eq_false_iff, Bool.not_eq_true', Bool.not_eq_false', beq_iff_eq, bne_iff_ne, ne_eq, beq_eq_false_iff_ne, bne_eq_false_iff_eq, Bool.not_eq_true, Bool.not_eq_false] at hc) <;> (try (exfalso; omega)) <;> (conv => whnf))))
    refine ⟨_, _, _, rfl, rfl, rfl, (1000 + (ids ps (calls.take k)).length, some (.row 39 13 1 fun q => HD.D (([d] : List HD).getD q default))) :: T, ?_, ?_⟩
    · rw [hk1]
      exact hT.miss hinc hm hKl
    · have p0 : (fun l => if l = 1000 + (ids ps (calls.take k)).length then 100000000000000000010 else l) 0 = 0 := if_neg (by omega)
      have eg : grp ps (calls.take k ++ [d]) (kb d) = [d] := by rw [aS, if_pos (show bX ps d = true ∧ kb d = kb d from ⟨hinc, rfl⟩), gh ps _ _ hm]; rfl
      have e1 : bu ps calls.length (calls.take (k + 1)) = E1 := by
        rw [hk1, cV]
        unfold bE
        rw [hE1, if_neg (by rw [jo hinc]; decide), if_pos hinc, eg]
        exact if_neg (by show ¬ 8 < 1; decide)
      have e2 : ids ps (calls.take (k + 1)) = ids ps (calls.take k) ++ [kb d] := by rw [hk1, cx, if_pos ⟨hinc, hm⟩]
      show Le _ ⟨_, 100000000000000000000, ckF ps calls b k, (0, some (.cells [.i .i64 (bu ps calls.length (calls.take (k + 1)))])) :: (1, some (mpB b 100000000000000000000 (ids ps (calls.take (k + 1))) (mpG ps (calls.take (k + 1))))) :: _⟩
      rw [e1, e2]
      refine Le.maps (fun l => if l = 1000 + (ids ps (calls.take k)).length then 100000000000000000010 else l) rfl (by decide) (by ((conv => whnf); repeat' (first | exact trivial | exact aD.free rfl | exact aD.ptr p0 (by decide) | exact aD.fn1 (aD.ptr p0 (by decide)) | ((with_reducible refine And.intro ?_ ?_) <;> (conv => whnf))))) p0 (if_neg (by omega)) rfl (aD.free rfl) rfl (fun j hj => ?_) ?_ (fun l bb hb => ?_) (fun l l' bb bb' hb hb' e => ?_)
      · rw [Q9, List.length_singleton] at hj
        obtain ⟨m1, m2⟩ := nu (ps := ps) (l := calls.take k) hinc hm
        by_cases e : j = (ids ps (calls.take k)).length
        · rw [e, hk1, m1]
          refine ⟨.sl _ _ _ _ (by omega), ?_⟩
          show aD _ _ (if _ = _ then _ else _) _
          rw [if_pos rfl]
          exact .sl (if_pos rfl) (by omega)
        · rw [hk1, m2 j (by omega)]
          refine ⟨.sl _ _ _ _ (by omega), ?_⟩
          show aD _ _ (if _ = _ then _ else _) _
          rw [if_neg e]
          exact .sl (if_neg (by omega)) (by omega)
      · exact (hT.miss hinc hm hKl).rows
      · rw [af] at hb
        by_cases e : 1000 + (ids ps (calls.take k)).length = l
        · rw [if_pos e] at hb
          cases hb
          refine ⟨_, (congrArg (lkh _) (if_pos e.symm)).trans rfl, .inr ⟨_, _, _, _, _, rfl, rfl, fun i hi => ?_⟩, by rw [if_pos e.symm]; decide, by rw [if_pos e.symm]; decide⟩
          obtain rfl : i = 0 := by omega
          rfl
        · rw [if_neg e] at hb
          obtain ⟨r1, r2, _⟩ := hT.rows l bb hb
          refine ⟨bb, ?_, .inl rfl, ?_, ?_⟩
          · rw [if_neg (Ne.symm e)]
            exact (cj (lo := 1000) (hi := 100000000000000000000) (by rfl) r1 r2).2.trans hb
          all_goals (rw [if_neg (Ne.symm e)]; omega)
      · obtain ⟨r1, r2, _⟩ := (hT.miss hinc hm hKl).rows l bb hb
        obtain ⟨r3, r4, _⟩ := (hT.miss hinc hm hKl).rows l' bb' hb'
        split at e <;> split at e <;> omega
end
end Go.Proofs.Ytpdhdnhkhidmpaa
