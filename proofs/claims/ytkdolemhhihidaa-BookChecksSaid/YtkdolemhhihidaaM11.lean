/- Parts of the proof, one behind the other: Br2, Bk18, Br3. Lemmas and contracts of functions; no condition of its own. -/
import Derived.Test.YtkdolemhhihidaaM10
import Derived.JoinedCond
import Derived.WideWitness
import Derived.Test.YtkdolemhhihidaaRows
set_option linter.unusedVariables false
set_option linter.unusedSimpArgs false
namespace Go.Proofs.Ytkdolemhhihidaa
open Go.ChangeShapes Go.WideShapes Go.ChangeAt Go.RowKit

section
variable {H : Type} {enc : TypeId × Value → H} {P : Program}
theorem all_carry {w w' : World} {base : Nat} {sp : Nat → Bool} {hd : Bool} : ∀ {ts : List TypeId} {vs : List Value} {ds : List (DataW H)} {ps : List MemPlace}, DataW.TrodAll enc P w base sp hd ts vs ds ps → (∀ p ∈ ps, w.sameAt w' p) → DataW.TrodAll enc P w' base sp hd ts vs ds ps
  | [], [], [], _, h, _ => h
  | t :: ts, v :: vs, d :: ds, ps, ⟨p, q, ⟨n, h1⟩, h2, e⟩, hs => ⟨p, q, ⟨n, DataW.trod_carry n _ _ _ h1 fun x hx => hs x (by rw [e]; exact List.mem_append_left _ hx)⟩, all_carry h2 fun x hx => hs x (by rw [e]; exact List.mem_append_right _ hx), e⟩
theorem all_nil_app {w : World} {base : Nat} {sp : Nat → Bool} {hd : Bool} {t : TypeId} {v : Value} {d : DataW H} {ts : List TypeId} {vs : List Value} {ds : List (DataW H)} {ps : List MemPlace} (h : DataW.Trod enc P w base sp hd t v d []) (h' : DataW.TrodAll enc P w base sp hd ts vs ds ps) : DataW.TrodAll enc P w base sp hd (t :: ts) (v :: vs) (d :: ds) ps :=
  ⟨[], ps, h, h', rfl⟩
theorem kept_of {w w' : World} (h : Kp w w') (may : MemPlace → Prop) : w.keptBut w' may := by
  refine ⟨h.os, h.output, fun i hi => ?_⟩
  have hb := h.block i hi
  rw [hb]
  rcases hq : w.heap[i]? with _ | o
  · simp
  · cases o <;> simp
/-- a call that answers true and turns nothing: all that the statement asks -/
theorem law_post {T : TypeId → Prop} (K : Kids P T) (hz : ∀ t e, T t → P.underlying t = some (.slice e) → 0 < P.cellsOf e) {f : Func} {s : ChangeSpec} {W W' : World} {args : Array Value} {ds gs : List (DataW H)} {before : List MemPlace} {tb : TypeId}
    (hT : ∀ t ∈ f.params.toList, T t) (hvars : s.vars = []) (hr : f.resultTypes = #[tb]) (hb : P.underlying tb = some .bool)
    (hfn : gs = [] → (s.fn H (ds ++ gs)).results = [.lit (.bool true)] ∧ (s.fn H (ds ++ gs)).args = ds ∧ (s.fn H (ds ++ gs)).vars = [])
    (hW : DataW.Whole enc P f.params.toList s.vars false W args.toList ds gs before) (hk : Kp W W') : s.post enc P f false true false false W args (.bool true) W' := by
  have hW0 := hW
  obtain ⟨p, q, hA, hV, rfl, hfz, _⟩ := hW
  rw [hvars] at hV
  have hgs : gs = [] ∧ q = [] := by
    cases gs with
    | nil => exact ⟨rfl, hV⟩
    | cons x r => exact hV.elim
  obtain ⟨rfl, rfl⟩ := hgs
  obtain ⟨h1, h2, h3⟩ := hfn rfl
  have hlt := hW0.lt
  have hsame : ∀ x ∈ p, W.sameAt W' x := fun x hx => by
    have hb := hk.block x.block (hlt x (by simpa using hx))
    cases x with
    | cell b o => exact World.cell?_of_block hb
    | map b => exact hb
  have hA' := all_carry hA hsame
  refine ⟨ds, [], p ++ [], [], p, [], hW0, ?_, ?_, ?_, kept_of hk _, fun h => by cases h⟩
  · rw [h1, hr]
    exact ⟨[], [], shut_bool hb true, rfl, rfl⟩
  · rw [h2]
    exact DataW.TrodAll.respare K hz hT hA' fun x hx => by simpa using hlt x (by simpa using hx)
  · rw [h3, hvars]; rfl
end
end Go.Proofs.Ytkdolemhhihidaa

namespace Go.Proofs.Ytkdolemhhihidaa
open Go.RowKit
set_option maxRecDepth 100000

theorem BookChecks_holds (ps : List Pol) (op pol : Int) (key : List Int) (n : Int) : Pure TC 3 [.d (slOf 4 Pol.D ps), .agg [.i .u8 op, .i .i64 pol, .d (slOf 1 (encI .u8) key), .i .i64 n]] (.b true) := by
  refine Pure.mk' Try.func3 rfl rfl (Nat.le_of_ble_eq_true rfl) ?_
  (repeat' (first
    | with_reducible refine Wp.seq ?_
    | with_reducible refine Wp.block ?_
    | ((with_reducible refine Wp.region ?_); conv => whnf)
    | ((with_reducible refine Wp.drawL TC_mixed ?_); conv => whnf)
    | ((with_reducible refine Wp.cond ?_); conv => whnf)
    | ((with_reducible refine Wp.ret ?_); conv => whnf)
    | ((with_reducible refine Wp.skip ?_); conv => whnf)
    | ((with_reducible refine Wp.exit ?_); conv => whnf)
    | ((with_reducible refine Go.mk ?_); conv => whnf)
    | ((with_reducible apply Eff1.of); conv => whnf)
    | with_reducible exact rfl
    | ((with_reducible refine Ov.ok (by first | exact IntWalk.i64_in _ (by omega) | exact IntWalk.u64_in _ (by omega) | exact IntWalk.u8_in _ (by omega) | exact IntWalk.u32_in _ (by omega) | exact IntWalk.i32_in _ (by omega) | exact IntWalk.u16_in _ (by omega)) ?_); conv => whnf)
    | (with_reducible refine Ov.sh1 (by with_unfolding_all exact rfl) ?_)
    | ((with_reducible refine Ov.quo (by omega) (by omega) (by omega) (fun _ _ => ?_)); conv => whnf)
    | ((with_reducible refine And.intro (show drawOK _ _ _ _ = true by kernel_rfl) ?_); conv => whnf)
    | ((with_reducible refine And.intro (by first | omega | exact Nat.le_of_ble_eq_true rfl) ?_); conv => whnf)
    | ((with_reducible refine And.intro ?hb ?_); (case hb => exact bytes_bd (Nat.le_of_ble_eq_true rfl) (by omega)); (conv => whnf))
    | ((refine DApp.a rfl rfl rfl rfl rfl rfl ?hb ?_); (case hb => first | exact bytes_bd (Nat.le_of_ble_eq_true rfl) (by omega) | omega); (conv => whnf))
    | ((refine DApp.b rfl rfl rfl rfl rfl rfl rfl rfl ?hb ?ho ?_); (case hb => first | exact bytes_bd (Nat.le_of_ble_eq_true rfl) (by omega) | omega); (case ho => omega); (conv => whnf))
    | ((refine DApp.c rfl rfl rfl rfl rfl ?hb ?_); (case hb => first | exact bytes_bd (Nat.le_of_ble_eq_true rfl) (by omega) | omega); (conv => whnf))
    | ((refine DApp.d rfl rfl rfl rfl rfl rfl ?hb ?ho ?_); (case hb => first | exact bytes_bd (Nat.le_of_ble_eq_true rfl) (by omega) | omega); (case ho => omega); (conv => whnf))
    | ((with_reducible refine nil_no (by omega) ?_); (conv => whnf))
    | ((with_reducible refine nil_any ?_ (fun hn0 => ?_)) <;> (conv => whnf))
    | ((with_reducible refine CallStop.pure (awake) rfl rfl ?_); conv => whnf) | ((with_reducible refine DCall.pure (awake) rfl rfl ?_); conv => whnf)
    | ((with_reducible refine CallStop.pure (book_Policies _) rfl rfl ?_); conv => whnf) | ((with_reducible refine DCall.pure (book_Policies _) rfl rfl ?_); conv => whnf)
    | ((with_reducible refine CallStop.pure (r16_Policies _) rfl rfl ?_); conv => whnf) | ((with_reducible refine DCall.pure (r16_Policies _) rfl rfl ?_); conv => whnf)
    | ((with_reducible refine CallStop.pure (book_Check _ _ _ _ _) rfl rfl ?_); conv => whnf) | ((with_reducible refine DCall.pure (book_Check _ _ _ _ _) rfl rfl ?_); conv => whnf)
    | ((with_reducible refine CallStop.pure (r16_Check _ _ _ _ _) rfl rfl ?_); conv => whnf) | ((with_reducible refine DCall.pure (r16_Check _ _ _ _ _) rfl rfl ?_); conv => whnf)
    | ((refine ways (fun hc => ?_) (fun hc => ?_)) <;> (try simp only [decide_eq_true_eq, decide_eq_false_iff_not, Bool.and_eq_true, Bool.or_eq_true, Bool.and_eq_false_iff, Bool.or_eq_false_iff, Bool.not_eq_true', Bool.not_eq_false', beq_iff_eq, bne_iff_ne, ne_eq, beq_eq_false_iff_ne, bne_eq_false_iff_eq, Bool.not_eq_true, Bool.not_eq_false] at hc) <;> (try (exfalso; omega)) <;> (conv => whnf))))
  · exact .b (beq_self_eq_true _)
  · exact absurd trivial hc
end Go.Proofs.Ytkdolemhhihidaa

namespace Go.Proofs.Ytkdolemhhihidaa
open Go.ChangeShapes Go.WideShapes Go.ChangeAt Go.RowKit

theorem own : ownKnob Try.prog.godebug = none := by kernel_rfl
theorem kids : Kids Try.prog (· < Try.prog.types.size) := kids_rows (by kernel_rfl) (by kernel_rfl)
theorem full : ∀ t e, t < Try.prog.types.size → Try.prog.underlying t = some (.slice e) → 0 < Try.prog.cellsOf e := slices_full_of Try.prog (by kernel_rfl)

/-- what a list of cells reads as -/
def shI (k : IntKind) (n : Int) : Prop := (Lit.int k n).wf = true
theorem fit_int {k : IntKind} {d : D} (h : FitD (.int k) d) : ∃ n, d = .val (.int k n) ∧ shI k n := by cases h with | int h => exact ⟨_, rfl, h⟩
theorem fit_sl {z : Nat} {es : List Sh} {d : D} (h : FitD (.sl z es) d) : ∃ n f, d = .sl z n f ∧ n ≤ maxLen ∧ ∀ i, i < n → FitL es (f i) := by cases h with | sl hn h => exact ⟨_, _, rfl, hn, h⟩
theorem fit_cons {s : Sh} {ss : List Sh} {ds : List D} (h : FitL (s :: ss) ds) : ∃ d r, ds = d :: r ∧ FitD s d ∧ FitL ss r := by cases h with | cons h t => exact ⟨_, _, rfl, h, t⟩
theorem fit_nil {ds : List D} (h : FitL [] ds) : ds = [] := by cases h; rfl
theorem wf_u8 {n : Int} (h : shI .u8 n) : 0 ≤ n ∧ n ≤ 255 := by simpa [shI, Lit.wf, IntKind.min, IntKind.max, IntKind.signed, IntKind.bits] using h
theorem wf_i64 {n : Int} (h : shI .i64 n) : -9223372036854775808 ≤ n ∧ n ≤ 9223372036854775807 := by simpa [shI, Lit.wf, IntKind.min, IntKind.max, IntKind.signed, IntKind.bits] using h
/-- a list told element by element -/
theorem list_of {α : Type} [Inhabited α] {enc : α → List D} {p : α → Prop} {n : Nat} {f : Nat → List D} (h : ∀ i, i < n → ∃ x, f i = enc x ∧ p x) : ∃ xs : List α, xs.length = n ∧ (∀ i, i < n → f i = enc (xs.getD i default)) ∧ ∀ x ∈ xs, p x := by
  induction n with
  | zero => exact ⟨[], rfl, fun i hi => by omega, fun x hx => by simp at hx⟩
  | succ n ih =>
    obtain ⟨xs, h1, h2, h3⟩ := ih fun i hi => h i (by omega)
    obtain ⟨x, h4, h5⟩ := h n (by omega)
    refine ⟨xs ++ [x], by simp [h1], fun i hi => ?_, fun y hy => ?_⟩
    · by_cases hin : i < n
      · rw [h2 i hin]; simp [List.getD, List.getElem?_append_left (show i < xs.length by omega)]
      · obtain rfl : i = n := by omega
        rw [h4]; simp [List.getD, h1]
    · rcases List.mem_append.1 hy with hy | hy
      · exact h3 y hy
      · simp at hy; subst hy; exact h5
theorem fit_list {α : Type} [Inhabited α] {enc : α → List D} {p : α → Prop} {z : Nat} {es : List Sh} {d : D} (h : FitD (.sl z es) d) (hp : ∀ ds, FitL es ds → ∃ x, ds = enc x ∧ p x) :
    ∃ xs : List α, SV.Le (.d d) (.d (slOf z enc xs)) ∧ xs.length ≤ maxLen ∧ ∀ x ∈ xs, p x := by
  obtain ⟨n, f, rfl, hn, hf⟩ := fit_sl h
  obtain ⟨xs, h1, h2, h3⟩ := list_of (enc := enc) (p := p) fun i hi => hp _ (hf i hi)
  subst h1
  exact ⟨xs, SV.Le.sl fun i hi => h2 i hi, hn, h3⟩
theorem fit_ints {k : IntKind} {d : D} (h : FitD (.sl 1 [.int k]) d) : ∃ xs : List Int, SV.Le (.d d) (.d (slOf 1 (encI k) xs)) ∧ xs.length ≤ maxLen ∧ ∀ x ∈ xs, shI k x :=
  fit_list h fun ds hd => by
    obtain ⟨d, r, rfl, h1, h2⟩ := fit_cons hd
    obtain ⟨n, rfl, hn⟩ := fit_int h1
    obtain rfl := fit_nil h2
    exact ⟨n, rfl, hn⟩
theorem fit_pol {ds : List D} (h : FitL [.int .u8, .int .i64, .int .i64, .int .i64] ds) : ∃ p : Pol, ds = p.D ∧ True := by
  obtain ⟨d0, r0, rfl, h0, t0⟩ := fit_cons h
  obtain ⟨d1, r1, rfl, h1, t1⟩ := fit_cons t0
  obtain ⟨d2, r2, rfl, h2, t2⟩ := fit_cons t1
  obtain ⟨d3, r3, rfl, h3, t3⟩ := fit_cons t2
  obtain rfl := fit_nil t3
  obtain ⟨n0, rfl, -⟩ := fit_int h0
  obtain ⟨n1, rfl, -⟩ := fit_int h1
  obtain ⟨n2, rfl, -⟩ := fit_int h2
  obtain ⟨n3, rfl, -⟩ := fit_int h3
  exact ⟨⟨n0, n1, n2, n3⟩, rfl, trivial⟩
structure Cal where
  op : Int
  pol : Int
  key : List Int
  n : Int
@[reducible] def Cal.S (c : Cal) : SV := .agg [.i .u8 c.op, .i .i64 c.pol, .d (slOf 1 (encI .u8) c.key), .i .i64 c.n]
def Cal.ok (c : Cal) : Prop := (0 ≤ c.op ∧ c.op ≤ 255) ∧ (∀ x ∈ c.key, 0 ≤ x ∧ x ≤ 255) ∧ (-9223372036854775808 ≤ c.pol ∧ c.pol ≤ 9223372036854775807) ∧ (-9223372036854775808 ≤ c.n ∧ c.n ≤ 9223372036854775807)
theorem fit_call {ds : List D} (h : FitL [.int .u8, .int .i64, .sl 1 [.int .u8], .int .i64] ds) : ∃ c : Cal, SV.Le (.agg (ds.map SV.d)) c.S ∧ c.ok := by
  obtain ⟨d0, r0, rfl, h0, t0⟩ := fit_cons h
  obtain ⟨d1, r1, rfl, h1, t1⟩ := fit_cons t0
  obtain ⟨d2, r2, rfl, h2, t2⟩ := fit_cons t1
  obtain ⟨d3, r3, rfl, h3, t3⟩ := fit_cons t2
  obtain rfl := fit_nil t3
  obtain ⟨n0, rfl, w0⟩ := fit_int h0
  obtain ⟨n1, rfl, w1⟩ := fit_int h1
  obtain ⟨key, le, _, w2⟩ := fit_ints h2
  obtain ⟨n3, rfl, w3⟩ := fit_int h3
  exact ⟨⟨n0, n1, key, n3⟩, .agg (.cons (.rfl _) (.cons (.rfl _) (.cons le (.cons (.rfl _) .nil)))), wf_u8 w0, fun x hx => wf_u8 (w2 x hx), wf_i64 w1, wf_i64 w3⟩
/-- one argument that is a single cell -/
theorem arg1 {H : Type} {enc : TypeId × Value → H} {W : World} {t : TypeId} {v : Value} {d : DataW H} {p : List MemPlace} {s : Sh} (h : DataW.Trod enc Try.prog W 0 (fun _ => true) true t v d p) (hs : shT Try.prog 8 t = some [s]) (hv : v.cells.toList = [v]) :
    ∃ x, FitD s x ∧ RD W (fun b => b < W.heap.size) x v := by
  obtain ⟨n, h⟩ := h
  obtain ⟨ds, h1, h2⟩ := opened 8 n t _ _ _ h hs
  obtain ⟨x, r, rfl, h3, h4⟩ := fit_cons h1
  obtain rfl := fit_nil h4
  rw [hv] at h2
  exact ⟨x, h3, h2.out 0 x v rfl rfl⟩
theorem argA {H : Type} {enc : TypeId × Value → H} {W : World} {t : TypeId} {cs : Array Value} {d : DataW H} {p : List MemPlace} {ss : List Sh} (h : DataW.Trod enc Try.prog W 0 (fun _ => true) true t (.agg cs) d p) (hs : shT Try.prog 8 t = some ss) :
    ∃ ds, FitL ss ds ∧ ∀ E : Env, E.Im = (fun b => b < W.heap.size) → RS E 0 W (.agg (ds.map SV.d)) (.agg cs) := by
  obtain ⟨n, h⟩ := h
  obtain ⟨ds, h1, h2⟩ := opened 8 n t _ _ _ h hs
  have hl : ds.length = cs.size := by simpa [Value.cells] using h2.len
  have hout : ∀ j (hj : j < ds.length), RD W (fun b => b < W.heap.size) ds[j] (cs.getD j undef) := fun j hj => by
    have hj' : j < cs.size := by omega
    exact h2.out j _ _ (List.getElem?_eq_getElem hj) (by simp [Value.cells, Array.getD, hj'])
  refine ⟨ds, h1, fun E hE => .agg _ _ (by simp [hl]) (fun j hj => (hout j (by omega)).one) fun j hj => ?_⟩
  have hj' : j < ds.length := by simpa using hj
  rw [List.getElem_map]
  exact .d _ _ (by rw [hE]; exact hout j hj')
end Go.Proofs.Ytkdolemhhihidaa
