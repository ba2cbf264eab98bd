/- Parts of the proof, one behind the other: Br2, Br3, Bk19, Pl1, Pl2, Pl3, Bk20a, Br4. Lemmas and contracts of functions; no condition of its own. -/
import Derived.Test.YtkdolemhhihidaaM10
import Derived.JoinedCond
import Derived.WideWitness
import Derived.Test.YtkdolemhhihidaaRows
set_option linter.unusedVariables false
set_option linter.unusedSimpArgs false
namespace Go.Proofs.Ytkdolemhhihidaa
open Go.ChangeShapes Go.WideShapes Go.ChangeAt Go.RowKit

section
variable {H : Type} {enc : TypeId × Value → H} {P : Program}
theorem all_carry {w w' : World} {base : Nat} {sp : Nat → Bool} {hd : Bool} : ∀ {ts : List TypeId} {vs : List Value} {ds : List (DataW H)} {ps : List MemPlace}, DataW.TrodAll enc P w base sp hd ts vs ds ps → (∀ p ∈ ps, w.sameAt w' p) → DataW.TrodAll enc P w' base sp hd ts vs ds ps
  | [], [], [], _, h, _ => h
  | t :: ts, v :: vs, d :: ds, ps, ⟨p, q, ⟨n, h1⟩, h2, e⟩, hs => ⟨p, q, ⟨n, DataW.trod_carry n _ _ _ h1 fun x hx => hs x (by rw [e]; exact List.mem_append_left _ hx)⟩, all_carry h2 fun x hx => hs x (by rw [e]; exact List.mem_append_right _ hx), e⟩
theorem all_nil_app {w : World} {base : Nat} {sp : Nat → Bool} {hd : Bool} {t : TypeId} {v : Value} {d : DataW H} {ts : List TypeId} {vs : List Value} {ds : List (DataW H)} {ps : List MemPlace} (h : DataW.Trod enc P w base sp hd t v d []) (h' : DataW.TrodAll enc P w base sp hd ts vs ds ps) : DataW.TrodAll enc P w base sp hd (t :: ts) (v :: vs) (d :: ds) ps :=
  ⟨[], ps, h, h', rfl⟩
theorem kept_of {w w' : World} (h : Kp w w') (may : MemPlace → Prop) : w.keptBut w' may := by
  refine ⟨h.os, h.output, fun i hi => ?_⟩
  have hb := h.block i hi
  rw [hb]
  rcases hq : w.heap[i]? with _ | o
  · simp
  · cases o <;> simp
/-- a call that answers true and turns nothing: all that the statement asks -/
theorem law_post {T : TypeId → Prop} (K : Kids P T) (hz : ∀ t e, T t → P.underlying t = some (.slice e) → 0 < P.cellsOf e) {f : Func} {s : ChangeSpec} {W W' : World} {args : Array Value} {ds gs : List (DataW H)} {before : List MemPlace} {tb : TypeId}
    (hT : ∀ t ∈ f.params.toList, T t) (hvars : s.vars = []) (hr : f.resultTypes = #[tb]) (hb : P.underlying tb = some .bool)
    (hfn : gs = [] → (s.fn H (ds ++ gs)).results = [.lit (.bool true)] ∧ (s.fn H (ds ++ gs)).args = ds ∧ (s.fn H (ds ++ gs)).vars = [])
    (hW : DataW.Whole enc P f.params.toList s.vars false W args.toList ds gs before) (hk : Kp W W') : s.post enc P f false true false false W args (.bool true) W' := by
  have hW0 := hW
  obtain ⟨p, q, hA, hV, rfl, hfz, _⟩ := hW
  rw [hvars] at hV
  have hgs : gs = [] ∧ q = [] := by
    cases gs with
    | nil => exact ⟨rfl, hV⟩
    | cons x r => exact hV.elim
  obtain ⟨rfl, rfl⟩ := hgs
  obtain ⟨h1, h2, h3⟩ := hfn rfl
  have hlt := hW0.lt
  have hsame : ∀ x ∈ p, W.sameAt W' x := fun x hx => by
    have hb := hk.block x.block (hlt x (by simpa using hx))
    cases x with
    | cell b o => exact World.cell?_of_block hb
    | map b => exact hb
  have hA' := all_carry hA hsame
  refine ⟨ds, [], p ++ [], [], p, [], hW0, ?_, ?_, ?_, kept_of hk _, fun h => by cases h⟩
  · rw [h1, hr]
    exact ⟨[], [], shut_bool hb true, rfl, rfl⟩
  · rw [h2]
    exact DataW.TrodAll.respare K hz hT hA' fun x hx => by simpa using hlt x (by simpa using hx)
  · rw [h3, hvars]; rfl
end
end Go.Proofs.Ytkdolemhhihidaa

namespace Go.Proofs.Ytkdolemhhihidaa
open Go.ChangeShapes Go.WideShapes Go.ChangeAt Go.RowKit

theorem own : ownKnob Try.prog.godebug = none := by kernel_rfl
theorem kids : Kids Try.prog (· < Try.prog.types.size) := kids_rows (by kernel_rfl) (by kernel_rfl)
theorem full : ∀ t e, t < Try.prog.types.size → Try.prog.underlying t = some (.slice e) → 0 < Try.prog.cellsOf e := slices_full_of Try.prog (by kernel_rfl)

/-- what a list of cells reads as -/
def shI (k : IntKind) (n : Int) : Prop := (Lit.int k n).wf = true
theorem fit_int {k : IntKind} {d : D} (h : FitD (.int k) d) : ∃ n, d = .val (.int k n) ∧ shI k n := by cases h with | int h => exact ⟨_, rfl, h⟩
theorem fit_sl {z : Nat} {es : List Sh} {d : D} (h : FitD (.sl z es) d) : ∃ n f, d = .sl z n f ∧ n ≤ maxLen ∧ ∀ i, i < n → FitL es (f i) := by cases h with | sl hn h => exact ⟨_, _, rfl, hn, h⟩
theorem fit_cons {s : Sh} {ss : List Sh} {ds : List D} (h : FitL (s :: ss) ds) : ∃ d r, ds = d :: r ∧ FitD s d ∧ FitL ss r := by cases h with | cons h t => exact ⟨_, _, rfl, h, t⟩
theorem fit_nil {ds : List D} (h : FitL [] ds) : ds = [] := by cases h; rfl
theorem wf_u8 {n : Int} (h : shI .u8 n) : 0 ≤ n ∧ n ≤ 255 := by simpa [shI, Lit.wf, IntKind.min, IntKind.max, IntKind.signed, IntKind.bits] using h
theorem wf_i64 {n : Int} (h : shI .i64 n) : -9223372036854775808 ≤ n ∧ n ≤ 9223372036854775807 := by simpa [shI, Lit.wf, IntKind.min, IntKind.max, IntKind.signed, IntKind.bits] using h
/-- a thing told in other words -/
structure DLe (d d' : D) : Prop where
  out : ∀ w Im v, RD w Im d v → RD w Im d' v
theorem DLe.rfl (d : D) : DLe d d := ⟨fun _ _ _ h => h⟩
theorem DLe.sv {d d' : D} (h : DLe d d') : SV.Le (.d d) (.d d') := ⟨fun E nx w v hv => by cases hv with | d _ _ hv => exact .d _ _ (h.out _ _ _ hv)⟩
structure LsLe (ds ds' : List D) : Prop where
  len : ds.length = ds'.length
  out : ∀ (j : Nat) (d d' : D), ds[j]? = some d → ds'[j]? = some d' → DLe d d'
theorem LsLe.nil : LsLe [] [] := ⟨_root_.rfl, fun j d d' h => by simp at h⟩
theorem LsLe.cons {d d' : D} {ds ds' : List D} (h : DLe d d') (t : LsLe ds ds') : LsLe (d :: ds) (d' :: ds') :=
  ⟨by simp [t.len], fun j x y hx hy => by
    cases j with
    | zero => simp at hx hy; subst hx hy; exact h
    | succ j => simp at hx hy; exact t.out j x y hx hy⟩
theorem DLe.sl {z n : Nat} {f g : Nat → List D} (h : ∀ i, i < n → LsLe (f i) (g i)) : DLe (.sl z n f) (.sl z n g) := by
  refine ⟨fun w Im v hv => ?_⟩
  cases hv with
  | sl _ _ _ a cap gv hc hm hl ha hg =>
    refine .sl z n g a cap gv hc hm (fun i hi => by rw [← (h i hi).len]; exact hl i hi) ha fun i j hi hj => ?_
    have hj' : j < (f i).length := by rw [(h i hi).len]; exact hj
    exact ((h i hi).out j _ _ (List.getElem?_eq_getElem hj') (List.getElem?_eq_getElem hj)).out _ _ _ (hg i j hi hj')
/-- a list told element by element -/
theorem list_of {α : Type} [Inhabited α] {enc : α → List D} {p : α → Prop} {n : Nat} {f : Nat → List D} (h : ∀ i, i < n → ∃ x, LsLe (f i) (enc x) ∧ p x) : ∃ xs : List α, xs.length = n ∧ (∀ i, i < n → LsLe (f i) (enc (xs.getD i default))) ∧ ∀ x ∈ xs, p x := by
  induction n with
  | zero => exact ⟨[], rfl, fun i hi => by omega, fun x hx => by simp at hx⟩
  | succ n ih =>
    obtain ⟨xs, h1, h2, h3⟩ := ih fun i hi => h i (by omega)
    obtain ⟨x, h4, h5⟩ := h n (by omega)
    refine ⟨xs ++ [x], by simp [h1], fun i hi => ?_, fun y hy => ?_⟩
    · by_cases hin : i < n
      · have := h2 i hin
        rw [show (xs ++ [x]).getD i default = xs.getD i default by simp [List.getD, List.getElem?_append_left (show i < xs.length by omega)]]
        exact this
      · obtain rfl : i = n := by omega
        rw [show (xs ++ [x]).getD i default = x by simp [List.getD, h1]]
        exact h4
    · rcases List.mem_append.1 hy with hy | hy
      · exact h3 y hy
      · simp at hy; subst hy; exact h5
theorem fit_list {α : Type} [Inhabited α] {enc : α → List D} {p : α → Prop} {z : Nat} {es : List Sh} {d : D} (h : FitD (.sl z es) d) (hp : ∀ ds, FitL es ds → ∃ x, LsLe ds (enc x) ∧ p x) :
    ∃ xs : List α, DLe d (slOf z enc xs) ∧ xs.length ≤ maxLen ∧ ∀ x ∈ xs, p x := by
  obtain ⟨n, f, rfl, hn, hf⟩ := fit_sl h
  obtain ⟨xs, h1, h2, h3⟩ := list_of (enc := enc) (p := p) fun i hi => hp _ (hf i hi)
  subst h1
  exact ⟨xs, DLe.sl fun i hi => h2 i hi, hn, h3⟩
theorem fit_ints {k : IntKind} {d : D} (h : FitD (.sl 1 [.int k]) d) : ∃ xs : List Int, DLe d (slOf 1 (encI k) xs) ∧ xs.length ≤ maxLen ∧ ∀ x ∈ xs, shI k x :=
  fit_list h fun ds hd => by
    obtain ⟨d, r, rfl, h1, h2⟩ := fit_cons hd
    obtain ⟨n, rfl, hn⟩ := fit_int h1
    obtain rfl := fit_nil h2
    exact ⟨n, .cons (.rfl _) .nil, hn⟩
theorem fit_pol {ds : List D} (h : FitL [.int .u8, .int .i64, .int .i64, .int .i64] ds) : ∃ p : Pol, LsLe ds p.D ∧ True := by
  obtain ⟨d0, r0, rfl, h0, t0⟩ := fit_cons h
  obtain ⟨d1, r1, rfl, h1, t1⟩ := fit_cons t0
  obtain ⟨d2, r2, rfl, h2, t2⟩ := fit_cons t1
  obtain ⟨d3, r3, rfl, h3, t3⟩ := fit_cons t2
  obtain rfl := fit_nil t3
  obtain ⟨n0, rfl, -⟩ := fit_int h0
  obtain ⟨n1, rfl, -⟩ := fit_int h1
  obtain ⟨n2, rfl, -⟩ := fit_int h2
  obtain ⟨n3, rfl, -⟩ := fit_int h3
  exact ⟨⟨n0, n1, n2, n3⟩, .cons (.rfl _) (.cons (.rfl _) (.cons (.rfl _) (.cons (.rfl _) .nil))), trivial⟩
structure Cal where
  op : Int
  pol : Int
  key : List Int
  n : Int
@[reducible] def Cal.S (c : Cal) : SV := .agg [.i .u8 c.op, .i .i64 c.pol, .d (slOf 1 (encI .u8) c.key), .i .i64 c.n]
def Cal.ok (c : Cal) : Prop := (0 ≤ c.op ∧ c.op ≤ 255) ∧ (∀ x ∈ c.key, 0 ≤ x ∧ x ≤ 255) ∧ (-9223372036854775808 ≤ c.pol ∧ c.pol ≤ 9223372036854775807) ∧ (-9223372036854775808 ≤ c.n ∧ c.n ≤ 9223372036854775807)
theorem fit_call {ds : List D} (h : FitL [.int .u8, .int .i64, .sl 1 [.int .u8], .int .i64] ds) : ∃ c : Cal, SV.Le (.agg (ds.map SV.d)) c.S ∧ c.ok := by
  obtain ⟨d0, r0, rfl, h0, t0⟩ := fit_cons h
  obtain ⟨d1, r1, rfl, h1, t1⟩ := fit_cons t0
  obtain ⟨d2, r2, rfl, h2, t2⟩ := fit_cons t1
  obtain ⟨d3, r3, rfl, h3, t3⟩ := fit_cons t2
  obtain rfl := fit_nil t3
  obtain ⟨n0, rfl, w0⟩ := fit_int h0
  obtain ⟨n1, rfl, w1⟩ := fit_int h1
  obtain ⟨key, le, _, w2⟩ := fit_ints h2
  obtain ⟨n3, rfl, w3⟩ := fit_int h3
  exact ⟨⟨n0, n1, key, n3⟩, .agg (.cons (.rfl _) (.cons (.rfl _) (.cons le.sv (.cons (.rfl _) .nil)))), wf_u8 w0, fun x hx => wf_u8 (w2 x hx), wf_i64 w1, wf_i64 w3⟩
/-- one argument that is a single cell -/
theorem arg1 {H : Type} {enc : TypeId × Value → H} {W : World} {t : TypeId} {v : Value} {d : DataW H} {p : List MemPlace} {s : Sh} (h : DataW.Trod enc Try.prog W 0 (fun _ => true) true t v d p) (hs : shT Try.prog 8 t = some [s]) (hv : v.cells.toList = [v]) :
    ∃ x, FitD s x ∧ RD W (fun b => b < W.heap.size) x v := by
  obtain ⟨n, h⟩ := h
  obtain ⟨ds, h1, h2⟩ := opened 8 n t _ _ _ h hs
  obtain ⟨x, r, rfl, h3, h4⟩ := fit_cons h1
  obtain rfl := fit_nil h4
  rw [hv] at h2
  exact ⟨x, h3, h2.out 0 x v rfl rfl⟩
theorem argA {H : Type} {enc : TypeId × Value → H} {W : World} {t : TypeId} {cs : Array Value} {d : DataW H} {p : List MemPlace} {ss : List Sh} (h : DataW.Trod enc Try.prog W 0 (fun _ => true) true t (.agg cs) d p) (hs : shT Try.prog 8 t = some ss) :
    ∃ ds, FitL ss ds ∧ ∀ E : Env, E.Im = (fun b => b < W.heap.size) → RS E 0 W (.agg (ds.map SV.d)) (.agg cs) := by
  obtain ⟨n, h⟩ := h
  obtain ⟨ds, h1, h2⟩ := opened 8 n t _ _ _ h hs
  have hl : ds.length = cs.size := by simpa [Value.cells] using h2.len
  have hout : ∀ j (hj : j < ds.length), RD W (fun b => b < W.heap.size) ds[j] (cs.getD j undef) := fun j hj => by
    have hj' : j < cs.size := by omega
    exact h2.out j _ _ (List.getElem?_eq_getElem hj) (by simp [Value.cells, Array.getD, hj'])
  refine ⟨ds, h1, fun E hE => .agg _ _ (by simp [hl]) (fun j hj => (hout j (by omega)).one) fun j hj => ?_⟩
  have hj' : j < ds.length := by simpa using hj
  rw [List.getElem_map]
  exact .d _ _ (by rw [hE]; exact hout j hj')
end Go.Proofs.Ytkdolemhhihidaa

namespace Go.Proofs.Ytkdolemhhihidaa
open Go.RowKit
set_option maxRecDepth 100000

def wordL (n : Int) : List Int := if n = 0 then [] else if n / 4294967296 = 0 then [n % 4294967296] else [n % 4294967296, n / 4294967296]
theorem sl_eq {z m n : Nat} {f g : Nat → List D} (h : m = n) (hf : ∀ i, i < n → f i = g i) : SV.Le (.d (.sl z m f)) (.d (.sl z n g)) := by subst h; exact SV.Le.sl hf
theorem Pure.le {C : Cx} {g : Nat} {args args' : List SV} {r : SV} (h : Pure C g args' r) (ha : Les args args') : Pure C g args r :=
  ⟨h.ent, fun E w vs hIm hsz hargs => h.out E w vs hIm (hsz.trans ha.len) fun j hj => (ha.out j (by rw [ha.len]; exact hj) hj).out _ _ _ _ (hargs j (by rw [ha.len]; exact hj))⟩
theorem r1_Word (n : Int) (h0 : 0 ≤ n) (h1 : n < 18446744073709551616) : Pure TC 44 [.i .u64 n] (.d (slOf 1 (encI .u64) (wordL n))) := by
  have hm : n.tmod 4294967296 = n % 4294967296 := Int.tmod_eq_emod_of_nonneg h0
  have hd : n.tdiv 4294967296 = n / 4294967296 := Int.tdiv_eq_ediv_of_nonneg h0
  refine Pure.mk' Try.func44 rfl rfl (Nat.le_of_ble_eq_true rfl) ?_
  (repeat' (first
    | with_reducible refine Wp.seq ?_
    | with_reducible refine Wp.block ?_
    | ((with_reducible refine Wp.region ?_); conv => whnf)
    | ((with_reducible refine Wp.drawL TC_mixed ?_); conv => whnf)
    | ((with_reducible refine Wp.cond ?_); conv => whnf)
    | ((with_reducible refine Wp.ret ?_); conv => whnf)
    | ((with_reducible refine Wp.skip ?_); conv => whnf)
    | ((with_reducible refine Wp.exit ?_); conv => whnf)
    | ((with_reducible refine Go.mk ?_); conv => whnf)
    | ((with_reducible apply Eff1.of); conv => whnf)
    | with_reducible exact rfl
    | ((with_reducible refine Ov.ok (by first | exact IntWalk.i64_in _ (by omega) | exact IntWalk.u64_in _ (by omega) | exact IntWalk.u8_in _ (by omega) | exact IntWalk.u32_in _ (by omega) | exact IntWalk.i32_in _ (by omega) | exact IntWalk.u16_in _ (by omega)) ?_); conv => whnf)
    | (with_reducible refine Ov.sh1 (by with_unfolding_all exact rfl) ?_)
    | ((with_reducible refine Ov.quo (by omega) (by omega) (by omega) (fun _ _ => ?_)); conv => whnf)
    | ((with_reducible refine And.intro (show drawOK _ _ _ _ = true by kernel_rfl) ?_); conv => whnf)
    | ((with_reducible refine And.intro (by first | omega | exact Nat.le_of_ble_eq_true rfl) ?_); conv => whnf)
    | ((with_reducible refine And.intro ?hb ?_); (case hb => exact bytes_bd (Nat.le_of_ble_eq_true rfl) (by omega)); (conv => whnf))
    | ((refine DApp.a rfl rfl rfl rfl rfl rfl ?hb ?_); (case hb => first | exact bytes_bd (Nat.le_of_ble_eq_true rfl) (by omega) | omega); (conv => whnf))
    | ((refine DApp.b rfl rfl rfl rfl rfl rfl rfl rfl ?hb ?ho ?_); (case hb => first | exact bytes_bd (Nat.le_of_ble_eq_true rfl) (by omega) | omega); (case ho => omega); (conv => whnf))
    | ((refine DApp.c rfl rfl rfl rfl rfl ?hb ?_); (case hb => first | exact bytes_bd (Nat.le_of_ble_eq_true rfl) (by omega) | omega); (conv => whnf))
    | ((refine DApp.d rfl rfl rfl rfl rfl rfl ?hb ?ho ?_); (case hb => first | exact bytes_bd (Nat.le_of_ble_eq_true rfl) (by omega) | omega); (case ho => omega); (conv => whnf))
    | ((with_reducible refine nil_no (by omega) ?_); (conv => whnf))
    | ((with_reducible refine nil_any ?_ (fun hn0 => ?_)) <;> (conv => whnf))
    | (with_reducible refine CallStop.inline Try.func61 rfl rfl rfl (Nat.le_of_ble_eq_true rfl) ?_)
    | ((with_reducible refine Wp.loopN 4 ?_); conv => whnf)
    | ((refine ways (fun hc => ?_) (fun hc => ?_)) <;> (try simp only [decide_eq_true_eq, decide_eq_false_iff_not, Bool.and_eq_true, Bool.or_eq_true, Bool.and_eq_false_iff, Bool.or_eq_false_iff, Bool.not_eq_true', Bool.not_eq_false', beq_iff_eq, bne_iff_ne, ne_eq, beq_eq_false_iff_ne, bne_eq_false_iff_eq, Bool.not_eq_true, Bool.not_eq_false] at hc) <;> (try (exfalso; omega)) <;> (conv => whnf))))
  · rw [wordL, if_pos (by omega)]; exact sl_eq rfl fun i hi => absurd hi (Nat.not_lt_zero _)
  · rw [wordL, if_neg (by omega), if_pos (by omega), hm]
    exact sl_eq rfl fun i hi => by
      have : i = 0 := by simp at hi; omega
      subst this; rfl
  · rw [wordL, if_neg (by omega), if_neg (by omega), hm, hd]
    exact sl_eq rfl fun i hi => by
      have : i = 0 ∨ i = 1 := by simp at hi; omega
      rcases this with rfl | rfl <;> rfl
def f1 (a : Int) : Nat → List D := fun _ => [.val (.int .u64 a)]
def f2 (a b : Int) : Nat → List D
  | 0 => [.val (.int .u64 a)]
  | _ + 1 => [.val (.int .u64 b)]
theorem r1_Fits (n : Int) (h0 : 0 ≤ n) (h1 : n < 18446744073709551616) : Pure TC 60 [.d (slOf 1 (encI .u64) (wordL n))] (.tup [.i .u64 n, .b true]) := by
  unfold wordL
  split
  · refine Pure.le (args' := [.d (.sl 1 0 (f1 0))]) ?_ (.cons (sl_eq rfl fun i hi => absurd hi (Nat.not_lt_zero _)) .nil)
    refine Pure.mk' Try.func60 rfl rfl (Nat.le_of_ble_eq_true rfl) ?_
    (repeat' (first
    | with_reducible refine Wp.seq ?_
    | with_reducible refine Wp.block ?_
    | ((with_reducible refine Wp.region ?_); conv => whnf)
    | ((with_reducible refine Wp.drawL TC_mixed ?_); conv => whnf)
    | ((with_reducible refine Wp.cond ?_); conv => whnf)
    | ((with_reducible refine Wp.ret ?_); conv => whnf)
    | ((with_reducible refine Wp.skip ?_); conv => whnf)
    | ((with_reducible refine Wp.exit ?_); conv => whnf)
    | ((with_reducible refine Go.mk ?_); conv => whnf)
    | ((with_reducible apply Eff1.of); conv => whnf)
    | with_reducible exact rfl
    | ((with_reducible refine Ov.ok (by first | exact IntWalk.i64_in _ (by omega) | exact IntWalk.u64_in _ (by omega) | exact IntWalk.u8_in _ (by omega) | exact IntWalk.u32_in _ (by omega) | exact IntWalk.i32_in _ (by omega) | exact IntWalk.u16_in _ (by omega)) ?_); conv => whnf)
    | (with_reducible refine Ov.sh1 (by with_unfolding_all exact rfl) ?_)
    | ((with_reducible refine Ov.quo (by omega) (by omega) (by omega) (fun _ _ => ?_)); conv => whnf)
    | ((with_reducible refine And.intro (show drawOK _ _ _ _ = true by kernel_rfl) ?_); conv => whnf)
    | ((with_reducible refine And.intro (by first | omega | exact Nat.le_of_ble_eq_true rfl) ?_); conv => whnf)
    | ((with_reducible refine And.intro ?hb ?_); (case hb => exact bytes_bd (Nat.le_of_ble_eq_true rfl) (by omega)); (conv => whnf))
    | ((refine DApp.a rfl rfl rfl rfl rfl rfl ?hb ?_); (case hb => first | exact bytes_bd (Nat.le_of_ble_eq_true rfl) (by omega) | omega); (conv => whnf))
    | ((refine DApp.b rfl rfl rfl rfl rfl rfl rfl rfl ?hb ?ho ?_); (case hb => first | exact bytes_bd (Nat.le_of_ble_eq_true rfl) (by omega) | omega); (case ho => omega); (conv => whnf))
    | ((refine DApp.c rfl rfl rfl rfl rfl ?hb ?_); (case hb => first | exact bytes_bd (Nat.le_of_ble_eq_true rfl) (by omega) | omega); (conv => whnf))
    | ((refine DApp.d rfl rfl rfl rfl rfl rfl ?hb ?ho ?_); (case hb => first | exact bytes_bd (Nat.le_of_ble_eq_true rfl) (by omega) | omega); (case ho => omega); (conv => whnf))
    | ((with_reducible refine nil_no (by omega) ?_); (conv => whnf))
    | ((with_reducible refine nil_any ?_ (fun hn0 => ?_)) <;> (conv => whnf))
    | ((with_reducible refine Wp.loopN 4 ?_); conv => whnf)
    | ((refine ways (fun hc => ?_) (fun hc => ?_)) <;> (try simp only [decide_eq_true_eq, decide_eq_false_iff_not, Bool.and_eq_true, Bool.or_eq_true, Bool.and_eq_false_iff, Bool.or_eq_false_iff, Bool.not_eq_true', Bool.not_eq_false', beq_iff_eq, bne_iff_ne, ne_eq, beq_eq_false_iff_ne, bne_eq_false_iff_eq, Bool.not_eq_true, Bool.not_eq_false] at hc) <;> (try (exfalso; omega)) <;> (conv => whnf))))
    exact .tup (.cons (.i (by omega)) (.cons (.b rfl) .nil))
  · split
    · refine Pure.le (args' := [.d (.sl 1 1 (f1 (n % 4294967296)))]) ?_ (.cons (sl_eq rfl fun i hi => by
        have : i = 0 := by omega
        subst this; rfl) .nil)
      refine Pure.mk' Try.func60 rfl rfl (Nat.le_of_ble_eq_true rfl) ?_
      (repeat' (first
    | with_reducible refine Wp.seq ?_
    | with_reducible refine Wp.block ?_
    | ((with_reducible refine Wp.region ?_); conv => whnf)
    | ((with_reducible refine Wp.drawL TC_mixed ?_); conv => whnf)
    | ((with_reducible refine Wp.cond ?_); conv => whnf)
    | ((with_reducible refine Wp.ret ?_); conv => whnf)
    | ((with_reducible refine Wp.skip ?_); conv => whnf)
    | ((with_reducible refine Wp.exit ?_); conv => whnf)
    | ((with_reducible refine Go.mk ?_); conv => whnf)
    | ((with_reducible apply Eff1.of); conv => whnf)
    | with_reducible exact rfl
    | ((with_reducible refine Ov.ok (by first | exact IntWalk.i64_in _ (by omega) | exact IntWalk.u64_in _ (by omega) | exact IntWalk.u8_in _ (by omega) | exact IntWalk.u32_in _ (by omega) | exact IntWalk.i32_in _ (by omega) | exact IntWalk.u16_in _ (by omega)) ?_); conv => whnf)
    | (with_reducible refine Ov.sh1 (by with_unfolding_all exact rfl) ?_)
    | ((with_reducible refine Ov.quo (by omega) (by omega) (by omega) (fun _ _ => ?_)); conv => whnf)
    | ((with_reducible refine And.intro (show drawOK _ _ _ _ = true by kernel_rfl) ?_); conv => whnf)
    | ((with_reducible refine And.intro (by first | omega | exact Nat.le_of_ble_eq_true rfl) ?_); conv => whnf)
    | ((with_reducible refine And.intro ?hb ?_); (case hb => exact bytes_bd (Nat.le_of_ble_eq_true rfl) (by omega)); (conv => whnf))
    | ((refine DApp.a rfl rfl rfl rfl rfl rfl ?hb ?_); (case hb => first | exact bytes_bd (Nat.le_of_ble_eq_true rfl) (by omega) | omega); (conv => whnf))
    | ((refine DApp.b rfl rfl rfl rfl rfl rfl rfl rfl ?hb ?ho ?_); (case hb => first | exact bytes_bd (Nat.le_of_ble_eq_true rfl) (by omega) | omega); (case ho => omega); (conv => whnf))
    | ((refine DApp.c rfl rfl rfl rfl rfl ?hb ?_); (case hb => first | exact bytes_bd (Nat.le_of_ble_eq_true rfl) (by omega) | omega); (conv => whnf))
    | ((refine DApp.d rfl rfl rfl rfl rfl rfl ?hb ?ho ?_); (case hb => first | exact bytes_bd (Nat.le_of_ble_eq_true rfl) (by omega) | omega); (case ho => omega); (conv => whnf))
    | ((with_reducible refine nil_no (by omega) ?_); (conv => whnf))
    | ((with_reducible refine nil_any ?_ (fun hn0 => ?_)) <;> (conv => whnf))
    | ((with_reducible refine Wp.loopN 4 ?_); conv => whnf)
    | ((refine ways (fun hc => ?_) (fun hc => ?_)) <;> (try simp only [decide_eq_true_eq, decide_eq_false_iff_not, Bool.and_eq_true, Bool.or_eq_true, Bool.and_eq_false_iff, Bool.or_eq_false_iff, Bool.not_eq_true', Bool.not_eq_false', beq_iff_eq, bne_iff_ne, ne_eq, beq_eq_false_iff_ne, bne_eq_false_iff_eq, Bool.not_eq_true, Bool.not_eq_false] at hc) <;> (try (exfalso; omega)) <;> (conv => whnf))))
      exact .tup (.cons (.i (by omega)) (.cons (.b rfl) .nil))
    · refine Pure.le (args' := [.d (.sl 1 2 (f2 (n % 4294967296) (n / 4294967296)))]) ?_ (.cons (sl_eq rfl fun i hi => by
        have : i = 0 ∨ i = 1 := by omega
        rcases this with rfl | rfl <;> rfl) .nil)
      refine Pure.mk' Try.func60 rfl rfl (Nat.le_of_ble_eq_true rfl) ?_
      (repeat' (first
    | with_reducible refine Wp.seq ?_
    | with_reducible refine Wp.block ?_
    | ((with_reducible refine Wp.region ?_); conv => whnf)
    | ((with_reducible refine Wp.drawL TC_mixed ?_); conv => whnf)
    | ((with_reducible refine Wp.cond ?_); conv => whnf)
    | ((with_reducible refine Wp.ret ?_); conv => whnf)
    | ((with_reducible refine Wp.skip ?_); conv => whnf)
    | ((with_reducible refine Wp.exit ?_); conv => whnf)
    | ((with_reducible refine Go.mk ?_); conv => whnf)
    | ((with_reducible apply Eff1.of); conv => whnf)
    | with_reducible exact rfl
    | ((with_reducible refine Ov.ok (by first | exact IntWalk.i64_in _ (by omega) | exact IntWalk.u64_in _ (by omega) | exact IntWalk.u8_in _ (by omega) | exact IntWalk.u32_in _ (by omega) | exact IntWalk.i32_in _ (by omega) | exact IntWalk.u16_in _ (by omega)) ?_); conv => whnf)
    | (with_reducible refine Ov.sh1 (by with_unfolding_all exact rfl) ?_)
    | ((with_reducible refine Ov.quo (by omega) (by omega) (by omega) (fun _ _ => ?_)); conv => whnf)
    | ((with_reducible refine And.intro (show drawOK _ _ _ _ = true by kernel_rfl) ?_); conv => whnf)
    | ((with_reducible refine And.intro (by first | omega | exact Nat.le_of_ble_eq_true rfl) ?_); conv => whnf)
    | ((with_reducible refine And.intro ?hb ?_); (case hb => exact bytes_bd (Nat.le_of_ble_eq_true rfl) (by omega)); (conv => whnf))
    | ((refine DApp.a rfl rfl rfl rfl rfl rfl ?hb ?_); (case hb => first | exact bytes_bd (Nat.le_of_ble_eq_true rfl) (by omega) | omega); (conv => whnf))
    | ((refine DApp.b rfl rfl rfl rfl rfl rfl rfl rfl ?hb ?ho ?_); (case hb => first | exact bytes_bd (Nat.le_of_ble_eq_true rfl) (by omega) | omega); (case ho => omega); (conv => whnf))
    | ((refine DApp.c rfl rfl rfl rfl rfl ?hb ?_); (case hb => first | exact bytes_bd (Nat.le_of_ble_eq_true rfl) (by omega) | omega); (conv => whnf))
    | ((refine DApp.d rfl rfl rfl rfl rfl rfl ?hb ?ho ?_); (case hb => first | exact bytes_bd (Nat.le_of_ble_eq_true rfl) (by omega) | omega); (case ho => omega); (conv => whnf))
    | ((with_reducible refine nil_no (by omega) ?_); (conv => whnf))
    | ((with_reducible refine nil_any ?_ (fun hn0 => ?_)) <;> (conv => whnf))
    | ((with_reducible refine Wp.loopN 4 ?_); conv => whnf)
    | ((refine ways (fun hc => ?_) (fun hc => ?_)) <;> (try simp only [decide_eq_true_eq, decide_eq_false_iff_not, Bool.and_eq_true, Bool.or_eq_true, Bool.and_eq_false_iff, Bool.or_eq_false_iff, Bool.not_eq_true', Bool.not_eq_false', beq_iff_eq, bne_iff_ne, ne_eq, beq_eq_false_iff_ne, bne_eq_false_iff_eq, Bool.not_eq_true, Bool.not_eq_false] at hc) <;> (try (exfalso; omega)) <;> (conv => whnf))))
      exact .tup (.cons (.i (by omega)) (.cons (.b rfl) .nil))
theorem r1_Held (n : Int) (h0 : 0 ≤ n) (h1 : n < 18446744073709551616) : Pure TC 43 [.d (slOf 1 (encI .u64) (wordL n))] (.i .i64 (min n 4611686018427387903)) := by
  refine Pure.mk' Try.func43 rfl rfl (Nat.le_of_ble_eq_true rfl) ?_
  (repeat' (first
    | with_reducible refine Wp.seq ?_
    | with_reducible refine Wp.block ?_
    | ((with_reducible refine Wp.region ?_); conv => whnf)
    | ((with_reducible refine Wp.drawL TC_mixed ?_); conv => whnf)
    | ((with_reducible refine Wp.cond ?_); conv => whnf)
    | ((with_reducible refine Wp.ret ?_); conv => whnf)
    | ((with_reducible refine Wp.skip ?_); conv => whnf)
    | ((with_reducible refine Wp.exit ?_); conv => whnf)
    | ((with_reducible refine Go.mk ?_); conv => whnf)
    | ((with_reducible apply Eff1.of); conv => whnf)
    | with_reducible exact rfl
    | ((with_reducible refine Ov.ok (by first | exact IntWalk.i64_in _ (by omega) | exact IntWalk.u64_in _ (by omega) | exact IntWalk.u8_in _ (by omega) | exact IntWalk.u32_in _ (by omega) | exact IntWalk.i32_in _ (by omega) | exact IntWalk.u16_in _ (by omega)) ?_); conv => whnf)
    | (with_reducible refine Ov.sh1 (by with_unfolding_all exact rfl) ?_)
    | ((with_reducible refine Ov.quo (by omega) (by omega) (by omega) (fun _ _ => ?_)); conv => whnf)
    | ((with_reducible refine And.intro (show drawOK _ _ _ _ = true by kernel_rfl) ?_); conv => whnf)
    | ((with_reducible refine And.intro (by first | omega | exact Nat.le_of_ble_eq_true rfl) ?_); conv => whnf)
    | ((with_reducible refine And.intro ?hb ?_); (case hb => exact bytes_bd (Nat.le_of_ble_eq_true rfl) (by omega)); (conv => whnf))
    | ((refine DApp.a rfl rfl rfl rfl rfl rfl ?hb ?_); (case hb => first | exact bytes_bd (Nat.le_of_ble_eq_true rfl) (by omega) | omega); (conv => whnf))
    | ((refine DApp.b rfl rfl rfl rfl rfl rfl rfl rfl ?hb ?ho ?_); (case hb => first | exact bytes_bd (Nat.le_of_ble_eq_true rfl) (by omega) | omega); (case ho => omega); (conv => whnf))
    | ((refine DApp.c rfl rfl rfl rfl rfl ?hb ?_); (case hb => first | exact bytes_bd (Nat.le_of_ble_eq_true rfl) (by omega) | omega); (conv => whnf))
    | ((refine DApp.d rfl rfl rfl rfl rfl rfl ?hb ?ho ?_); (case hb => first | exact bytes_bd (Nat.le_of_ble_eq_true rfl) (by omega) | omega); (case ho => omega); (conv => whnf))
    | ((with_reducible refine nil_no (by omega) ?_); (conv => whnf))
    | ((with_reducible refine nil_any ?_ (fun hn0 => ?_)) <;> (conv => whnf))
    | ((with_reducible refine CallStop.pure (r1_Fits n h0 h1) rfl rfl ?_); conv => whnf) | ((with_reducible refine DCall.pure (r1_Fits n h0 h1) rfl rfl ?_); conv => whnf)
    | ((refine ways (fun hc => ?_) (fun hc => ?_)) <;> (try simp only [decide_eq_true_eq, decide_eq_false_iff_not, Bool.and_eq_true, Bool.or_eq_true, Bool.and_eq_false_iff, Bool.or_eq_false_iff, Bool.not_eq_true', Bool.not_eq_false', beq_iff_eq, bne_iff_ne, ne_eq, beq_eq_false_iff_ne, bne_eq_false_iff_eq, Bool.not_eq_true, Bool.not_eq_false] at hc) <;> (try (exfalso; omega)) <;> (conv => whnf))))
  · exact .i (by omega)
  · exact .i (by omega)
theorem r1_Clamp (n : Int) (h : n ≤ 9223372036854775807) : Pure TC 21 [.i .i64 n] (.i .i64 (clampI n)) := by
  refine Pure.mk' Try.func21 rfl rfl (Nat.le_of_ble_eq_true rfl) ?_
  (repeat' (first
    | with_reducible refine Wp.seq ?_
    | with_reducible refine Wp.block ?_
    | ((with_reducible refine Wp.region ?_); conv => whnf)
    | ((with_reducible refine Wp.drawL TC_mixed ?_); conv => whnf)
    | ((with_reducible refine Wp.cond ?_); conv => whnf)
    | ((with_reducible refine Wp.ret ?_); conv => whnf)
    | ((with_reducible refine Wp.skip ?_); conv => whnf)
    | ((with_reducible refine Wp.exit ?_); conv => whnf)
    | ((with_reducible refine Go.mk ?_); conv => whnf)
    | ((with_reducible apply Eff1.of); conv => whnf)
    | with_reducible exact rfl
    | ((with_reducible refine Ov.ok (by first | exact IntWalk.i64_in _ (by omega) | exact IntWalk.u64_in _ (by omega) | exact IntWalk.u8_in _ (by omega) | exact IntWalk.u32_in _ (by omega) | exact IntWalk.i32_in _ (by omega) | exact IntWalk.u16_in _ (by omega)) ?_); conv => whnf)
    | (with_reducible refine Ov.sh1 (by with_unfolding_all exact rfl) ?_)
    | ((with_reducible refine Ov.quo (by omega) (by omega) (by omega) (fun _ _ => ?_)); conv => whnf)
    | ((with_reducible refine And.intro (show drawOK _ _ _ _ = true by kernel_rfl) ?_); conv => whnf)
    | ((with_reducible refine And.intro (by first | omega | exact Nat.le_of_ble_eq_true rfl) ?_); conv => whnf)
    | ((with_reducible refine And.intro ?hb ?_); (case hb => exact bytes_bd (Nat.le_of_ble_eq_true rfl) (by omega)); (conv => whnf))
    | ((refine DApp.a rfl rfl rfl rfl rfl rfl ?hb ?_); (case hb => first | exact bytes_bd (Nat.le_of_ble_eq_true rfl) (by omega) | omega); (conv => whnf))
    | ((refine DApp.b rfl rfl rfl rfl rfl rfl rfl rfl ?hb ?ho ?_); (case hb => first | exact bytes_bd (Nat.le_of_ble_eq_true rfl) (by omega) | omega); (case ho => omega); (conv => whnf))
    | ((refine DApp.c rfl rfl rfl rfl rfl ?hb ?_); (case hb => first | exact bytes_bd (Nat.le_of_ble_eq_true rfl) (by omega) | omega); (conv => whnf))
    | ((refine DApp.d rfl rfl rfl rfl rfl rfl ?hb ?ho ?_); (case hb => first | exact bytes_bd (Nat.le_of_ble_eq_true rfl) (by omega) | omega); (case ho => omega); (conv => whnf))
    | ((with_reducible refine nil_no (by omega) ?_); (conv => whnf))
    | ((with_reducible refine nil_any ?_ (fun hn0 => ?_)) <;> (conv => whnf))
    | ((with_reducible refine CallStop.pure (r1_Word n (by omega) (by omega)) rfl rfl ?_); conv => whnf) | ((with_reducible refine DCall.pure (r1_Word n (by omega) (by omega)) rfl rfl ?_); conv => whnf)
    | ((with_reducible refine CallStop.pure (r1_Held n (by omega) (by omega)) rfl rfl ?_); conv => whnf) | ((with_reducible refine DCall.pure (r1_Held n (by omega) (by omega)) rfl rfl ?_); conv => whnf)
    | ((refine ways (fun hc => ?_) (fun hc => ?_)) <;> (try simp only [decide_eq_true_eq, decide_eq_false_iff_not, Bool.and_eq_true, Bool.or_eq_true, Bool.and_eq_false_iff, Bool.or_eq_false_iff, Bool.not_eq_true', Bool.not_eq_false', beq_iff_eq, bne_iff_ne, ne_eq, beq_eq_false_iff_ne, bne_eq_false_iff_eq, Bool.not_eq_true, Bool.not_eq_false] at hc) <;> (try (exfalso; omega)) <;> (conv => whnf))))
  · exact .i (by unfold clampI; omega)
  · exact .i (by unfold clampI; omega)
structure Ask where
  op : Int
  pol : Int
  key : List Int
  n : Int
  now : Int
  serial : Int
  deriving Inhabited
@[reducible] def Ask.D (a : Ask) : List D := [.val (.int .u8 a.op), .val (.int .i64 a.pol), slOf 1 (encI .u8) a.key, .val (.int .i64 a.n), .val (.int .i64 a.now), .val (.int .i64 a.serial)]
@[reducible] def Ask.S (a : Ask) : SV := .agg [.i .u8 a.op, .i .i64 a.pol, .d (slOf 1 (encI .u8) a.key), .i .i64 a.n, .i .i64 a.now, .i .i64 a.serial]
def fitO (op : Int) : Int := if op < 1 ∨ 6 < op then 1 + op % 6 else op
def fitA (a : Ask) : Ask :=
  ⟨fitO a.op, if fitO a.op = 2 ∨ fitO a.op = 3 ∨ (fitO a.op = 4 ∧ a.n.tmod 2 = 0) then 1 else 0, a.key.take 2, if fitO a.op = 1 then clampI a.n else a.n, clampI a.now, max (clampI a.serial) 1⟩
theorem law_fit (a : Ask) (h0 : 0 ≤ a.op) (h1 : a.op ≤ 255) (h2 : a.n ≤ 9223372036854775807) (h3 : a.now ≤ 9223372036854775807) (h4 : a.serial ≤ 9223372036854775807) : Pure TC 17 [a.S] (fitA a).S := by
  have hm : a.op.tmod 6 = a.op % 6 := Int.tmod_eq_emod_of_nonneg h0
  refine Pure.mk' Try.func17 rfl rfl (Nat.le_of_ble_eq_true rfl) ?_
  (repeat' (first
    | with_reducible refine Wp.seq ?_
    | with_reducible refine Wp.block ?_
    | ((with_reducible refine Wp.region ?_); conv => whnf)
    | ((with_reducible refine Wp.drawL TC_mixed ?_); conv => whnf)
    | ((with_reducible refine Wp.cond ?_); conv => whnf)
    | ((with_reducible refine Wp.ret ?_); conv => whnf)
    | ((with_reducible refine Wp.skip ?_); conv => whnf)
    | ((with_reducible refine Wp.exit ?_); conv => whnf)
    | ((with_reducible refine Go.mk ?_); conv => whnf)
    | ((with_reducible apply Eff1.of); conv => whnf)
    | with_reducible exact rfl
    | ((with_reducible refine Ov.ok (by first | exact IntWalk.i64_in _ (by omega) | exact IntWalk.u64_in _ (by omega) | exact IntWalk.u8_in _ (by omega) | exact IntWalk.u32_in _ (by omega) | exact IntWalk.i32_in _ (by omega) | exact IntWalk.u16_in _ (by omega)) ?_); conv => whnf)
    | (with_reducible refine Ov.sh1 (by with_unfolding_all exact rfl) ?_)
    | ((with_reducible refine Ov.quo (by omega) (by omega) (by omega) (fun _ _ => ?_)); conv => whnf)
    | ((with_reducible refine And.intro (show drawOK _ _ _ _ = true by kernel_rfl) ?_); conv => whnf)
    | ((with_reducible refine And.intro (by first | omega | exact Nat.le_of_ble_eq_true rfl) ?_); conv => whnf)
    | ((with_reducible refine And.intro ?hb ?_); (case hb => exact bytes_bd (Nat.le_of_ble_eq_true rfl) (by omega)); (conv => whnf))
    | ((refine DApp.a rfl rfl rfl rfl rfl rfl ?hb ?_); (case hb => first | exact bytes_bd (Nat.le_of_ble_eq_true rfl) (by omega) | omega); (conv => whnf))
    | ((refine DApp.b rfl rfl rfl rfl rfl rfl rfl rfl ?hb ?ho ?_); (case hb => first | exact bytes_bd (Nat.le_of_ble_eq_true rfl) (by omega) | omega); (case ho => omega); (conv => whnf))
    | ((refine DApp.c rfl rfl rfl rfl rfl ?hb ?_); (case hb => first | exact bytes_bd (Nat.le_of_ble_eq_true rfl) (by omega) | omega); (conv => whnf))
    | ((refine DApp.d rfl rfl rfl rfl rfl rfl ?hb ?ho ?_); (case hb => first | exact bytes_bd (Nat.le_of_ble_eq_true rfl) (by omega) | omega); (case ho => omega); (conv => whnf))
    | ((with_reducible refine nil_no (by omega) ?_); (conv => whnf))
    | ((with_reducible refine nil_any ?_ (fun hn0 => ?_)) <;> (conv => whnf))
    | ((with_reducible refine CallStop.pure (r1_Clamp _ (by omega)) rfl rfl ?_); conv => whnf) | ((with_reducible refine DCall.pure (r1_Clamp _ (by omega)) rfl rfl ?_); conv => whnf)
    | ((refine ways (fun hc => ?_) (fun hc => ?_)) <;> (try simp only [decide_eq_true_eq, decide_eq_false_iff_not, Bool.and_eq_true, Bool.or_eq_true, Bool.and_eq_false_iff, Bool.or_eq_false_iff, Bool.not_eq_true', Bool.not_eq_false', beq_iff_eq, bne_iff_ne, ne_eq, beq_eq_false_iff_ne, bne_eq_false_iff_eq, Bool.not_eq_true, Bool.not_eq_false] at hc) <;> (try (exfalso; omega)) <;> (conv => whnf))))
  all_goals refine SV.Le.agg (.cons (.i ?_) (.cons (.i ?_) (.cons (sl_eq ?_ fun i hi => ?_) (.cons (.i ?_) (.cons (.i ?_) (.cons (.i ?_) .nil))))))
  all_goals first
    | exact rfl
    | (simp only [fitA, fitO]; (repeat' split) <;> omega)
    | (simp only [fitA, List.length_take]; split <;> omega)
    | (simp only [fitA, Nat.zero_add] at hi ⊢; rw [List.getD_eq_getElem?_getD, List.getD_eq_getElem?_getD, List.getElem?_take, if_pos (by simp at hi; omega)])
    | skip
theorem eq_of_getD {a b : List Int} (hl : a.length = b.length) (h : ∀ j, j < a.length → a.getD j default = b.getD j default) : a = b := by
  refine List.ext_getElem hl fun j h1 h2 => ?_
  have := h j h1
  rw [List.getD_eq_getElem?_getD, List.getD_eq_getElem?_getD, List.getElem?_eq_getElem h1, List.getElem?_eq_getElem h2] at this
  simpa using this
theorem r1_SameBytes (a b : List Int) : Pure TC 19 [.d (slOf 1 (encI .u8) a), .d (slOf 1 (encI .u8) b)] (.b (decide (a = b))) := by
  refine Pure.lens (.mk Try.func19 rfl rfl) fun hlen => ?_
  have ha := hlen a.length (by simp [lensOf, slOf])
  refine Pure.mk' Try.func19 rfl rfl (Nat.le_of_ble_eq_true rfl) ?_
  (repeat' (first
    | with_reducible refine Wp.seq ?_
    | with_reducible refine Wp.block ?_
    | ((with_reducible refine Wp.region ?_); conv => whnf)
    | ((with_reducible refine Wp.drawL TC_mixed ?_); conv => whnf)
    | ((with_reducible refine Wp.cond ?_); conv => whnf)
    | ((with_reducible refine Wp.ret ?_); conv => whnf)
    | ((with_reducible refine Wp.skip ?_); conv => whnf)
    | ((with_reducible refine Wp.exit ?_); conv => whnf)
    | ((with_reducible refine Go.mk ?_); conv => whnf)
    | ((with_reducible apply Eff1.of); conv => whnf)
    | with_reducible exact rfl
    | ((with_reducible refine Ov.ok (by first | exact IntWalk.i64_in _ (by omega) | exact IntWalk.u64_in _ (by omega) | exact IntWalk.u8_in _ (by omega) | exact IntWalk.u32_in _ (by omega) | exact IntWalk.i32_in _ (by omega) | exact IntWalk.u16_in _ (by omega)) ?_); conv => whnf)
    | (with_reducible refine Ov.sh1 (by with_unfolding_all exact rfl) ?_)
    | ((with_reducible refine Ov.quo (by omega) (by omega) (by omega) (fun _ _ => ?_)); conv => whnf)
    | ((with_reducible refine And.intro (show drawOK _ _ _ _ = true by kernel_rfl) ?_); conv => whnf)
    | ((with_reducible refine And.intro (by first | omega | exact Nat.le_of_ble_eq_true rfl) ?_); conv => whnf)
    | ((with_reducible refine And.intro ?hb ?_); (case hb => exact bytes_bd (Nat.le_of_ble_eq_true rfl) (by omega)); (conv => whnf))
    | ((refine DApp.a rfl rfl rfl rfl rfl rfl ?hb ?_); (case hb => first | exact bytes_bd (Nat.le_of_ble_eq_true rfl) (by omega) | omega); (conv => whnf))
    | ((refine DApp.b rfl rfl rfl rfl rfl rfl rfl rfl ?hb ?ho ?_); (case hb => first | exact bytes_bd (Nat.le_of_ble_eq_true rfl) (by omega) | omega); (case ho => omega); (conv => whnf))
    | ((refine DApp.c rfl rfl rfl rfl rfl ?hb ?_); (case hb => first | exact bytes_bd (Nat.le_of_ble_eq_true rfl) (by omega) | omega); (conv => whnf))
    | ((refine DApp.d rfl rfl rfl rfl rfl rfl ?hb ?ho ?_); (case hb => first | exact bytes_bd (Nat.le_of_ble_eq_true rfl) (by omega) | omega); (case ho => omega); (conv => whnf))
    | ((with_reducible refine nil_no (by omega) ?_); (conv => whnf))
    | ((with_reducible refine nil_any ?_ (fun hn0 => ?_)) <;> (conv => whnf))
    
    | ((refine ways (fun hc => ?_) (fun hc => ?_)) <;> (try simp only [decide_eq_true_eq, decide_eq_false_iff_not, Bool.and_eq_true, Bool.or_eq_true, Bool.and_eq_false_iff, Bool.or_eq_false_iff, Bool.not_eq_true', Bool.not_eq_false', beq_iff_eq, bne_iff_ne, ne_eq, beq_eq_false_iff_ne, bne_eq_false_iff_eq, Bool.not_eq_true, Bool.not_eq_false] at hc) <;> (try (exfalso; omega)) <;> (conv => whnf))))
  · exact .b (decide_eq_false fun e => by subst e; omega).symm
  refine Wp.loopP (ι := Nat) (fun i => i ≤ a.length ∧ ∀ j, j < i → a.getD j default = b.getD j default) (fun i => ⟨⟨Try.f19.ntmps, 0⟩, 0, [(0, .d (slOf 1 (encI .u8) a)), (1, .d (slOf 1 (encI .u8) b)), (12, .i .i64 a.length), (13, .i .i64 i)], []⟩) (fun i => a.length - i) 0 ⟨by simp, by simp⟩ ?_ ?_
  · (refine Le.by [] rfl rfl rfl rfl ?_ ?_ <;> (conv => whnf) <;> (repeat' (first | exact trivial | exact ArgLe.rfl rfl | exact ArgLe.ptr rfl | exact ArgLe.sl rfl | ((with_reducible refine ArgLe.fn ?_); (conv => whnf)) | exact ⟨rfl, rfl, rfl⟩ | exact fun i hi => rfl | ((with_reducible refine And.intro ?_ ?_) <;> (conv => whnf)))))
  · rintro i ⟨h1, h2⟩
    (repeat' (first
    | with_reducible refine Wp.seq ?_
    | with_reducible refine Wp.block ?_
    | ((with_reducible refine Wp.region ?_); conv => whnf)
    | ((with_reducible refine Wp.drawL TC_mixed ?_); conv => whnf)
    | ((with_reducible refine Wp.cond ?_); conv => whnf)
    | ((with_reducible refine Wp.ret ?_); conv => whnf)
    | ((with_reducible refine Wp.skip ?_); conv => whnf)
    | ((with_reducible refine Wp.exit ?_); conv => whnf)
    | ((with_reducible refine Go.mk ?_); conv => whnf)
    | ((with_reducible apply Eff1.of); conv => whnf)
    | with_reducible exact rfl
    | ((with_reducible refine Ov.ok (by first | exact IntWalk.i64_in _ (by omega) | exact IntWalk.u64_in _ (by omega) | exact IntWalk.u8_in _ (by omega) | exact IntWalk.u32_in _ (by omega) | exact IntWalk.i32_in _ (by omega) | exact IntWalk.u16_in _ (by omega)) ?_); conv => whnf)
    | (with_reducible refine Ov.sh1 (by with_unfolding_all exact rfl) ?_)
    | ((with_reducible refine Ov.quo (by omega) (by omega) (by omega) (fun _ _ => ?_)); conv => whnf)
    | ((with_reducible refine And.intro (show drawOK _ _ _ _ = true by kernel_rfl) ?_); conv => whnf)
    | ((with_reducible refine And.intro (by first | omega | exact Nat.le_of_ble_eq_true rfl) ?_); conv => whnf)
    | ((with_reducible refine And.intro ?hb ?_); (case hb => exact bytes_bd (Nat.le_of_ble_eq_true rfl) (by omega)); (conv => whnf))
    | ((refine DApp.a rfl rfl rfl rfl rfl rfl ?hb ?_); (case hb => first | exact bytes_bd (Nat.le_of_ble_eq_true rfl) (by omega) | omega); (conv => whnf))
    | ((refine DApp.b rfl rfl rfl rfl rfl rfl rfl rfl ?hb ?ho ?_); (case hb => first | exact bytes_bd (Nat.le_of_ble_eq_true rfl) (by omega) | omega); (case ho => omega); (conv => whnf))
    | ((refine DApp.c rfl rfl rfl rfl rfl ?hb ?_); (case hb => first | exact bytes_bd (Nat.le_of_ble_eq_true rfl) (by omega) | omega); (conv => whnf))
    | ((refine DApp.d rfl rfl rfl rfl rfl rfl ?hb ?ho ?_); (case hb => first | exact bytes_bd (Nat.le_of_ble_eq_true rfl) (by omega) | omega); (case ho => omega); (conv => whnf))
    | ((with_reducible refine nil_no (by omega) ?_); (conv => whnf))
    | ((with_reducible refine nil_any ?_ (fun hn0 => ?_)) <;> (conv => whnf))
    
    | ((refine ways (fun hc => ?_) (fun hc => ?_)) <;> (try simp only [decide_eq_true_eq, decide_eq_false_iff_not, Bool.and_eq_true, Bool.or_eq_true, Bool.and_eq_false_iff, Bool.or_eq_false_iff, Bool.not_eq_true', Bool.not_eq_false', beq_iff_eq, bne_iff_ne, ne_eq, beq_eq_false_iff_ne, bne_eq_false_iff_eq, Bool.not_eq_true, Bool.not_eq_false] at hc) <;> (try (exfalso; omega)) <;> (conv => whnf))))
    all_goals try simp only [Int.toNat_natCast] at *
    · exact .b (decide_eq_false fun e => by subst e; exact hc rfl).symm
    · refine ⟨i + 1, ⟨by omega, fun j hj => ?_⟩, by first | omega | (dsimp only; omega), ?_⟩
      · by_cases e : j = i
        · subst e; exact hc
        · exact h2 j (by omega)
      · (refine Le.by [] rfl rfl rfl rfl ?_ ?_ <;> (conv => whnf) <;> (repeat' (first | exact trivial | exact ArgLe.rfl rfl | exact ArgLe.ptr rfl | exact ArgLe.sl rfl | ((with_reducible refine ArgLe.fn ?_); (conv => whnf)) | exact ⟨rfl, rfl, rfl⟩ | exact fun i hi => rfl | ((with_reducible refine And.intro ?_ ?_) <;> (conv => whnf)))))
    · exact .b (decide_eq_true (eq_of_getD (by omega) fun j hj => h2 j (by omega))).symm
theorem r1_SameInts (a b : List Int) : Pure TC 46 [.d (slOf 1 (encI .i64) a), .d (slOf 1 (encI .i64) b)] (.b (decide (a = b))) := by
  refine Pure.lens (.mk Try.func46 rfl rfl) fun hlen => ?_
  have ha := hlen a.length (by simp [lensOf, slOf])
  refine Pure.mk' Try.func46 rfl rfl (Nat.le_of_ble_eq_true rfl) ?_
  (repeat' (first
    | with_reducible refine Wp.seq ?_
    | with_reducible refine Wp.block ?_
    | ((with_reducible refine Wp.region ?_); conv => whnf)
    | ((with_reducible refine Wp.drawL TC_mixed ?_); conv => whnf)
    | ((with_reducible refine Wp.cond ?_); conv => whnf)
    | ((with_reducible refine Wp.ret ?_); conv => whnf)
    | ((with_reducible refine Wp.skip ?_); conv => whnf)
    | ((with_reducible refine Wp.exit ?_); conv => whnf)
    | ((with_reducible refine Go.mk ?_); conv => whnf)
    | ((with_reducible apply Eff1.of); conv => whnf)
    | with_reducible exact rfl
    | ((with_reducible refine Ov.ok (by first | exact IntWalk.i64_in _ (by omega) | exact IntWalk.u64_in _ (by omega) | exact IntWalk.u8_in _ (by omega) | exact IntWalk.u32_in _ (by omega) | exact IntWalk.i32_in _ (by omega) | exact IntWalk.u16_in _ (by omega)) ?_); conv => whnf)
    | (with_reducible refine Ov.sh1 (by with_unfolding_all exact rfl) ?_)
    | ((with_reducible refine Ov.quo (by omega) (by omega) (by omega) (fun _ _ => ?_)); conv => whnf)
    | ((with_reducible refine And.intro (show drawOK _ _ _ _ = true by kernel_rfl) ?_); conv => whnf)
    | ((with_reducible refine And.intro (by first | omega | exact Nat.le_of_ble_eq_true rfl) ?_); conv => whnf)
    | ((with_reducible refine And.intro ?hb ?_); (case hb => exact bytes_bd (Nat.le_of_ble_eq_true rfl) (by omega)); (conv => whnf))
    | ((refine DApp.a rfl rfl rfl rfl rfl rfl ?hb ?_); (case hb => first | exact bytes_bd (Nat.le_of_ble_eq_true rfl) (by omega) | omega); (conv => whnf))
    | ((refine DApp.b rfl rfl rfl rfl rfl rfl rfl rfl ?hb ?ho ?_); (case hb => first | exact bytes_bd (Nat.le_of_ble_eq_true rfl) (by omega) | omega); (case ho => omega); (conv => whnf))
    | ((refine DApp.c rfl rfl rfl rfl rfl ?hb ?_); (case hb => first | exact bytes_bd (Nat.le_of_ble_eq_true rfl) (by omega) | omega); (conv => whnf))
    | ((refine DApp.d rfl rfl rfl rfl rfl rfl ?hb ?ho ?_); (case hb => first | exact bytes_bd (Nat.le_of_ble_eq_true rfl) (by omega) | omega); (case ho => omega); (conv => whnf))
    | ((with_reducible refine nil_no (by omega) ?_); (conv => whnf))
    | ((with_reducible refine nil_any ?_ (fun hn0 => ?_)) <;> (conv => whnf))
    
    | ((refine ways (fun hc => ?_) (fun hc => ?_)) <;> (try simp only [decide_eq_true_eq, decide_eq_false_iff_not, Bool.and_eq_true, Bool.or_eq_true, Bool.and_eq_false_iff, Bool.or_eq_false_iff, Bool.not_eq_true', Bool.not_eq_false', beq_iff_eq, bne_iff_ne, ne_eq, beq_eq_false_iff_ne, bne_eq_false_iff_eq, Bool.not_eq_true, Bool.not_eq_false] at hc) <;> (try (exfalso; omega)) <;> (conv => whnf))))
  · exact .b (decide_eq_false fun e => by subst e; omega).symm
  refine Wp.loopP (ι := Nat) (fun i => i ≤ a.length ∧ ∀ j, j < i → a.getD j default = b.getD j default) (fun i => ⟨⟨Try.f46.ntmps, 0⟩, 0, [(0, .d (slOf 1 (encI .i64) a)), (1, .d (slOf 1 (encI .i64) b)), (12, .i .i64 a.length), (13, .i .i64 i)], []⟩) (fun i => a.length - i) 0 ⟨by simp, by simp⟩ ?_ ?_
  · (refine Le.by [] rfl rfl rfl rfl ?_ ?_ <;> (conv => whnf) <;> (repeat' (first | exact trivial | exact ArgLe.rfl rfl | exact ArgLe.ptr rfl | exact ArgLe.sl rfl | ((with_reducible refine ArgLe.fn ?_); (conv => whnf)) | exact ⟨rfl, rfl, rfl⟩ | exact fun i hi => rfl | ((with_reducible refine And.intro ?_ ?_) <;> (conv => whnf)))))
  · rintro i ⟨h1, h2⟩
    (repeat' (first
    | with_reducible refine Wp.seq ?_
    | with_reducible refine Wp.block ?_
    | ((with_reducible refine Wp.region ?_); conv => whnf)
    | ((with_reducible refine Wp.drawL TC_mixed ?_); conv => whnf)
    | ((with_reducible refine Wp.cond ?_); conv => whnf)
    | ((with_reducible refine Wp.ret ?_); conv => whnf)
    | ((with_reducible refine Wp.skip ?_); conv => whnf)
    | ((with_reducible refine Wp.exit ?_); conv => whnf)
    | ((with_reducible refine Go.mk ?_); conv => whnf)
    | ((with_reducible apply Eff1.of); conv => whnf)
    | with_reducible exact rfl
    | ((with_reducible refine Ov.ok (by first | exact IntWalk.i64_in _ (by omega) | exact IntWalk.u64_in _ (by omega) | exact IntWalk.u8_in _ (by omega) | exact IntWalk.u32_in _ (by omega) | exact IntWalk.i32_in _ (by omega) | exact IntWalk.u16_in _ (by omega)) ?_); conv => whnf)
    | (with_reducible refine Ov.sh1 (by with_unfolding_all exact rfl) ?_)
    | ((with_reducible refine Ov.quo (by omega) (by omega) (by omega) (fun _ _ => ?_)); conv => whnf)
    | ((with_reducible refine And.intro (show drawOK _ _ _ _ = true by kernel_rfl) ?_); conv => whnf)
    | ((with_reducible refine And.intro (by first | omega | exact Nat.le_of_ble_eq_true rfl) ?_); conv => whnf)
    | ((with_reducible refine And.intro ?hb ?_); (case hb => exact bytes_bd (Nat.le_of_ble_eq_true rfl) (by omega)); (conv => whnf))
    | ((refine DApp.a rfl rfl rfl rfl rfl rfl ?hb ?_); (case hb => first | exact bytes_bd (Nat.le_of_ble_eq_true rfl) (by omega) | omega); (conv => whnf))
    | ((refine DApp.b rfl rfl rfl rfl rfl rfl rfl rfl ?hb ?ho ?_); (case hb => first | exact bytes_bd (Nat.le_of_ble_eq_true rfl) (by omega) | omega); (case ho => omega); (conv => whnf))
    | ((refine DApp.c rfl rfl rfl rfl rfl ?hb ?_); (case hb => first | exact bytes_bd (Nat.le_of_ble_eq_true rfl) (by omega) | omega); (conv => whnf))
    | ((refine DApp.d rfl rfl rfl rfl rfl rfl ?hb ?ho ?_); (case hb => first | exact bytes_bd (Nat.le_of_ble_eq_true rfl) (by omega) | omega); (case ho => omega); (conv => whnf))
    | ((with_reducible refine nil_no (by omega) ?_); (conv => whnf))
    | ((with_reducible refine nil_any ?_ (fun hn0 => ?_)) <;> (conv => whnf))
    
    | ((refine ways (fun hc => ?_) (fun hc => ?_)) <;> (try simp only [decide_eq_true_eq, decide_eq_false_iff_not, Bool.and_eq_true, Bool.or_eq_true, Bool.and_eq_false_iff, Bool.or_eq_false_iff, Bool.not_eq_true', Bool.not_eq_false', beq_iff_eq, bne_iff_ne, ne_eq, beq_eq_false_iff_ne, bne_eq_false_iff_eq, Bool.not_eq_true, Bool.not_eq_false] at hc) <;> (try (exfalso; omega)) <;> (conv => whnf))))
    all_goals try simp only [Int.toNat_natCast] at *
    · exact .b (decide_eq_false fun e => by subst e; exact hc rfl).symm
    · refine ⟨i + 1, ⟨by omega, fun j hj => ?_⟩, by first | omega | (dsimp only; omega), ?_⟩
      · by_cases e : j = i
        · subst e; exact hc
        · exact h2 j (by omega)
      · (refine Le.by [] rfl rfl rfl rfl ?_ ?_ <;> (conv => whnf) <;> (repeat' (first | exact trivial | exact ArgLe.rfl rfl | exact ArgLe.ptr rfl | exact ArgLe.sl rfl | ((with_reducible refine ArgLe.fn ?_); (conv => whnf)) | exact ⟨rfl, rfl, rfl⟩ | exact fun i hi => rfl | ((with_reducible refine And.intro ?_ ?_) <;> (conv => whnf)))))
    · exact .b (decide_eq_true (eq_of_getD (by omega) fun j hj => h2 j (by omega))).symm
instance : DecidableEq Cel := fun a b => decidable_of_iff (a.pol = b.pol ∧ a.key = b.key ∧ a.tat = b.tat ∧ a.held = b.held) (by
  cases a; cases b; simp)
def fndI (xs : List Cel) (pol : Int) (key : List Int) : Int := if fst (fun c => decide (c.pol = pol) && decide (c.key = key)) xs < xs.length then fst (fun c => decide (c.pol = pol) && decide (c.key = key)) xs else -1
theorem r16_Find (xs : List Cel) (pol : Int) (key : List Int) : Pure TC 25 [.d (slOf 4 Cel.D xs), .i .i64 pol, .d (slOf 1 (encI .u8) key)] (.i .i64 (fndI xs pol key)) := by
  refine Pure.lens (.mk Try.func25 rfl rfl) fun hlen => ?_
  have ha := hlen xs.length (by simp [lensOf, slOf])
  refine Pure.mk' Try.func25 rfl rfl (Nat.le_of_ble_eq_true rfl) ?_
  (repeat' (first
    | with_reducible refine Wp.seq ?_
    | with_reducible refine Wp.block ?_
    | ((with_reducible refine Wp.region ?_); conv => whnf)
    | ((with_reducible refine Wp.drawL TC_mixed ?_); conv => whnf)
    | ((with_reducible refine Wp.cond ?_); conv => whnf)
    | ((with_reducible refine Wp.ret ?_); conv => whnf)
    | ((with_reducible refine Wp.skip ?_); conv => whnf)
    | ((with_reducible refine Wp.exit ?_); conv => whnf)
    | ((with_reducible refine Go.mk ?_); conv => whnf)
    | ((with_reducible apply Eff1.of); conv => whnf)
    | with_reducible exact rfl
    | ((with_reducible refine Ov.ok (by first | exact IntWalk.i64_in _ (by omega) | exact IntWalk.u64_in _ (by omega) | exact IntWalk.u8_in _ (by omega) | exact IntWalk.u32_in _ (by omega) | exact IntWalk.i32_in _ (by omega) | exact IntWalk.u16_in _ (by omega)) ?_); conv => whnf)
    | (with_reducible refine Ov.sh1 (by with_unfolding_all exact rfl) ?_)
    | ((with_reducible refine Ov.quo (by omega) (by omega) (by omega) (fun _ _ => ?_)); conv => whnf)
    | ((with_reducible refine And.intro (show drawOK _ _ _ _ = true by kernel_rfl) ?_); conv => whnf)
    | ((with_reducible refine And.intro (by first | omega | exact Nat.le_of_ble_eq_true rfl) ?_); conv => whnf)
    | ((with_reducible refine And.intro ?hb ?_); (case hb => exact bytes_bd (Nat.le_of_ble_eq_true rfl) (by omega)); (conv => whnf))
    | ((refine DApp.a rfl rfl rfl rfl rfl rfl ?hb ?_); (case hb => first | exact bytes_bd (Nat.le_of_ble_eq_true rfl) (by omega) | omega); (conv => whnf))
    | ((refine DApp.b rfl rfl rfl rfl rfl rfl rfl rfl ?hb ?ho ?_); (case hb => first | exact bytes_bd (Nat.le_of_ble_eq_true rfl) (by omega) | omega); (case ho => omega); (conv => whnf))
    | ((refine DApp.c rfl rfl rfl rfl rfl ?hb ?_); (case hb => first | exact bytes_bd (Nat.le_of_ble_eq_true rfl) (by omega) | omega); (conv => whnf))
    | ((refine DApp.d rfl rfl rfl rfl rfl rfl ?hb ?ho ?_); (case hb => first | exact bytes_bd (Nat.le_of_ble_eq_true rfl) (by omega) | omega); (case ho => omega); (conv => whnf))
    | ((with_reducible refine nil_no (by omega) ?_); (conv => whnf))
    | ((with_reducible refine nil_any ?_ (fun hn0 => ?_)) <;> (conv => whnf))
    
    | ((refine ways (fun hc => ?_) (fun hc => ?_)) <;> (try simp only [decide_eq_true_eq, decide_eq_false_iff_not, Bool.and_eq_true, Bool.or_eq_true, Bool.and_eq_false_iff, Bool.or_eq_false_iff, Bool.not_eq_true', Bool.not_eq_false', beq_iff_eq, bne_iff_ne, ne_eq, beq_eq_false_iff_ne, bne_eq_false_iff_eq, Bool.not_eq_true, Bool.not_eq_false] at hc) <;> (try (exfalso; omega)) <;> (conv => whnf))))
  refine Wp.loopP (ι := Nat) (fun i => i ≤ xs.length ∧ ∀ j, j < i → (decide ((xs.getD j default).pol = pol) && decide ((xs.getD j default).key = key)) = false) (fun i => ⟨⟨Try.f25.ntmps, 0⟩, 0, [(1, .i .i64 pol), (2, .d (slOf 1 (encI .u8) key)), (9, .d (slOf 4 Cel.D xs)), (10, .i .i64 xs.length), (11, .i .i64 i)], []⟩) (fun i => xs.length - i) 0 ⟨by simp, by simp⟩ ?_ ?_
  · (refine Le.by [] rfl rfl rfl rfl ?_ ?_ <;> (conv => whnf) <;> (repeat' (first | exact trivial | exact ArgLe.rfl rfl | exact ArgLe.ptr rfl | exact ArgLe.sl rfl | ((with_reducible refine ArgLe.fn ?_); (conv => whnf)) | exact ⟨rfl, rfl, rfl⟩ | exact fun i hi => rfl | ((with_reducible refine And.intro ?_ ?_) <;> (conv => whnf)))))
  · rintro i ⟨h1, h2⟩
    have hF : ∀ k, k = i → i < xs.length → (decide ((xs.getD i default).pol = pol) && decide ((xs.getD i default).key = key)) = true → fst (fun c => decide (c.pol = pol) && decide (c.key = key)) xs = i := fun k _ hi hp => by
      rw [fst_drop _ xs i h1 h2, drop_getD hi, fst, if_pos hp]; rfl
    (repeat' (first
    | with_reducible refine Wp.seq ?_
    | with_reducible refine Wp.block ?_
    | ((with_reducible refine Wp.region ?_); conv => whnf)
    | ((with_reducible refine Wp.drawL TC_mixed ?_); conv => whnf)
    | ((with_reducible refine Wp.cond ?_); conv => whnf)
    | ((with_reducible refine Wp.ret ?_); conv => whnf)
    | ((with_reducible refine Wp.skip ?_); conv => whnf)
    | ((with_reducible refine Wp.exit ?_); conv => whnf)
    | ((with_reducible refine Go.mk ?_); conv => whnf)
    | ((with_reducible apply Eff1.of); conv => whnf)
    | with_reducible exact rfl
    | ((with_reducible refine Ov.ok (by first | exact IntWalk.i64_in _ (by omega) | exact IntWalk.u64_in _ (by omega) | exact IntWalk.u8_in _ (by omega) | exact IntWalk.u32_in _ (by omega) | exact IntWalk.i32_in _ (by omega) | exact IntWalk.u16_in _ (by omega)) ?_); conv => whnf)
    | (with_reducible refine Ov.sh1 (by with_unfolding_all exact rfl) ?_)
    | ((with_reducible refine Ov.quo (by omega) (by omega) (by omega) (fun _ _ => ?_)); conv => whnf)
    | ((with_reducible refine And.intro (show drawOK _ _ _ _ = true by kernel_rfl) ?_); conv => whnf)
    | ((with_reducible refine And.intro (by first | omega | exact Nat.le_of_ble_eq_true rfl) ?_); conv => whnf)
    | ((with_reducible refine And.intro ?hb ?_); (case hb => exact bytes_bd (Nat.le_of_ble_eq_true rfl) (by omega)); (conv => whnf))
    | ((refine DApp.a rfl rfl rfl rfl rfl rfl ?hb ?_); (case hb => first | exact bytes_bd (Nat.le_of_ble_eq_true rfl) (by omega) | omega); (conv => whnf))
    | ((refine DApp.b rfl rfl rfl rfl rfl rfl rfl rfl ?hb ?ho ?_); (case hb => first | exact bytes_bd (Nat.le_of_ble_eq_true rfl) (by omega) | omega); (case ho => omega); (conv => whnf))
    | ((refine DApp.c rfl rfl rfl rfl rfl ?hb ?_); (case hb => first | exact bytes_bd (Nat.le_of_ble_eq_true rfl) (by omega) | omega); (conv => whnf))
    | ((refine DApp.d rfl rfl rfl rfl rfl rfl ?hb ?ho ?_); (case hb => first | exact bytes_bd (Nat.le_of_ble_eq_true rfl) (by omega) | omega); (case ho => omega); (conv => whnf))
    | ((with_reducible refine nil_no (by omega) ?_); (conv => whnf))
    | ((with_reducible refine nil_any ?_ (fun hn0 => ?_)) <;> (conv => whnf))
    | ((with_reducible refine CallStop.pure (r1_SameBytes _ _) rfl rfl ?_); conv => whnf) | ((with_reducible refine DCall.pure (r1_SameBytes _ _) rfl rfl ?_); conv => whnf)
    | ((refine ways (fun hc => ?_) (fun hc => ?_)) <;> (try simp only [decide_eq_true_eq, decide_eq_false_iff_not, Bool.and_eq_true, Bool.or_eq_true, Bool.and_eq_false_iff, Bool.or_eq_false_iff, Bool.not_eq_true', Bool.not_eq_false', beq_iff_eq, bne_iff_ne, ne_eq, beq_eq_false_iff_ne, bne_eq_false_iff_eq, Bool.not_eq_true, Bool.not_eq_false] at hc) <;> (try (exfalso; omega)) <;> (conv => whnf))))
    all_goals try simp only [Int.toNat_natCast] at *
    · rename_i hp
      have hf := hF i rfl (by omega) (by rw [hp, hc]; simp)
      exact .i (by rw [fndI, hf, if_pos (by omega)])
    · refine ⟨i + 1, ⟨by omega, fun j hj => ?_⟩, by first | omega | (dsimp only; omega), ?_⟩
      · by_cases e : j = i
        · subst e; rw [decide_eq_false hc]; simp
        · exact h2 j (by omega)
      · (refine Le.by [] rfl rfl rfl rfl ?_ ?_ <;> (conv => whnf) <;> (repeat' (first | exact trivial | exact ArgLe.rfl rfl | exact ArgLe.ptr rfl | exact ArgLe.sl rfl | ((with_reducible refine ArgLe.fn ?_); (conv => whnf)) | exact ⟨rfl, rfl, rfl⟩ | exact fun i hi => rfl | ((with_reducible refine And.intro ?_ ?_) <;> (conv => whnf)))))
    · refine ⟨i + 1, ⟨by omega, fun j hj => ?_⟩, by first | omega | (dsimp only; omega), ?_⟩
      · by_cases e : j = i
        · subst e; rw [decide_eq_false hc]; simp
        · exact h2 j (by omega)
      · (refine Le.by [] rfl rfl rfl rfl ?_ ?_ <;> (conv => whnf) <;> (repeat' (first | exact trivial | exact ArgLe.rfl rfl | exact ArgLe.ptr rfl | exact ArgLe.sl rfl | ((with_reducible refine ArgLe.fn ?_); (conv => whnf)) | exact ⟨rfl, rfl, rfl⟩ | exact fun i hi => rfl | ((with_reducible refine And.intro ?_ ?_) <;> (conv => whnf)))))
    · have hf : fst (fun c => decide (c.pol = pol) && decide (c.key = key)) xs = xs.length := by
        rw [fst_drop _ xs i h1 h2, List.drop_eq_nil_of_le (by omega), fst]; omega
      exact .i (by rw [fndI, hf, if_neg (by omega)])
theorem r16_Same (xs ys : List Cel) : Pure TC 23 [.d (slOf 4 Cel.D xs), .d (slOf 4 Cel.D ys)] (.b (decide (xs = ys))) := by
  refine Pure.lens (.mk Try.func23 rfl rfl) fun hlen => ?_
  have ha := hlen xs.length (by simp [lensOf, slOf])
  refine Pure.mk' Try.func23 rfl rfl (Nat.le_of_ble_eq_true rfl) ?_
  (repeat' (first
    | with_reducible refine Wp.seq ?_
    | with_reducible refine Wp.block ?_
    | ((with_reducible refine Wp.region ?_); conv => whnf)
    | ((with_reducible refine Wp.drawL TC_mixed ?_); conv => whnf)
    | ((with_reducible refine Wp.cond ?_); conv => whnf)
    | ((with_reducible refine Wp.ret ?_); conv => whnf)
    | ((with_reducible refine Wp.skip ?_); conv => whnf)
    | ((with_reducible refine Wp.exit ?_); conv => whnf)
    | ((with_reducible refine Go.mk ?_); conv => whnf)
    | ((with_reducible apply Eff1.of); conv => whnf)
    | with_reducible exact rfl
    | ((with_reducible refine Ov.ok (by first | exact IntWalk.i64_in _ (by omega) | exact IntWalk.u64_in _ (by omega) | exact IntWalk.u8_in _ (by omega) | exact IntWalk.u32_in _ (by omega) | exact IntWalk.i32_in _ (by omega) | exact IntWalk.u16_in _ (by omega)) ?_); conv => whnf)
    | (with_reducible refine Ov.sh1 (by with_unfolding_all exact rfl) ?_)
    | ((with_reducible refine Ov.quo (by omega) (by omega) (by omega) (fun _ _ => ?_)); conv => whnf)
    | ((with_reducible refine And.intro (show drawOK _ _ _ _ = true by kernel_rfl) ?_); conv => whnf)
    | ((with_reducible refine And.intro (by first | omega | exact Nat.le_of_ble_eq_true rfl) ?_); conv => whnf)
    | ((with_reducible refine And.intro ?hb ?_); (case hb => exact bytes_bd (Nat.le_of_ble_eq_true rfl) (by omega)); (conv => whnf))
    | ((refine DApp.a rfl rfl rfl rfl rfl rfl ?hb ?_); (case hb => first | exact bytes_bd (Nat.le_of_ble_eq_true rfl) (by omega) | omega); (conv => whnf))
    | ((refine DApp.b rfl rfl rfl rfl rfl rfl rfl rfl ?hb ?ho ?_); (case hb => first | exact bytes_bd (Nat.le_of_ble_eq_true rfl) (by omega) | omega); (case ho => omega); (conv => whnf))
    | ((refine DApp.c rfl rfl rfl rfl rfl ?hb ?_); (case hb => first | exact bytes_bd (Nat.le_of_ble_eq_true rfl) (by omega) | omega); (conv => whnf))
    | ((refine DApp.d rfl rfl rfl rfl rfl rfl ?hb ?ho ?_); (case hb => first | exact bytes_bd (Nat.le_of_ble_eq_true rfl) (by omega) | omega); (case ho => omega); (conv => whnf))
    | ((with_reducible refine nil_no (by omega) ?_); (conv => whnf))
    | ((with_reducible refine nil_any ?_ (fun hn0 => ?_)) <;> (conv => whnf))
    
    | ((refine ways (fun hc => ?_) (fun hc => ?_)) <;> (try simp only [decide_eq_true_eq, decide_eq_false_iff_not, Bool.and_eq_true, Bool.or_eq_true, Bool.and_eq_false_iff, Bool.or_eq_false_iff, Bool.not_eq_true', Bool.not_eq_false', beq_iff_eq, bne_iff_ne, ne_eq, beq_eq_false_iff_ne, bne_eq_false_iff_eq, Bool.not_eq_true, Bool.not_eq_false] at hc) <;> (try (exfalso; omega)) <;> (conv => whnf))))
  · exact .b (decide_eq_false fun e => by subst e; omega).symm
  refine Wp.loopP (ι := Nat) (fun i => i ≤ xs.length ∧ ∀ j, j < i → xs.getD j default = ys.getD j default) (fun i => ⟨⟨Try.f23.ntmps, 0⟩, 0, [(0, .d (slOf 4 Cel.D xs)), (1, .d (slOf 4 Cel.D ys)), (12, .i .i64 xs.length), (13, .i .i64 i)], []⟩) (fun i => xs.length - i) 0 ⟨by simp, by simp⟩ ?_ ?_
  · (refine Le.by [] rfl rfl rfl rfl ?_ ?_ <;> (conv => whnf) <;> (repeat' (first | exact trivial | exact ArgLe.rfl rfl | exact ArgLe.ptr rfl | exact ArgLe.sl rfl | ((with_reducible refine ArgLe.fn ?_); (conv => whnf)) | exact ⟨rfl, rfl, rfl⟩ | exact fun i hi => rfl | ((with_reducible refine And.intro ?_ ?_) <;> (conv => whnf)))))
  · rintro i ⟨h1, h2⟩
    (repeat' (first
    | with_reducible refine Wp.seq ?_
    | with_reducible refine Wp.block ?_
    | ((with_reducible refine Wp.region ?_); conv => whnf)
    | ((with_reducible refine Wp.drawL TC_mixed ?_); conv => whnf)
    | ((with_reducible refine Wp.cond ?_); conv => whnf)
    | ((with_reducible refine Wp.ret ?_); conv => whnf)
    | ((with_reducible refine Wp.skip ?_); conv => whnf)
    | ((with_reducible refine Wp.exit ?_); conv => whnf)
    | ((with_reducible refine Go.mk ?_); conv => whnf)
    | ((with_reducible apply Eff1.of); conv => whnf)
    | with_reducible exact rfl
    | ((with_reducible refine Ov.ok (by first | exact IntWalk.i64_in _ (by omega) | exact IntWalk.u64_in _ (by omega) | exact IntWalk.u8_in _ (by omega) | exact IntWalk.u32_in _ (by omega) | exact IntWalk.i32_in _ (by omega) | exact IntWalk.u16_in _ (by omega)) ?_); conv => whnf)
    | (with_reducible refine Ov.sh1 (by with_unfolding_all exact rfl) ?_)
    | ((with_reducible refine Ov.quo (by omega) (by omega) (by omega) (fun _ _ => ?_)); conv => whnf)
    | ((with_reducible refine And.intro (show drawOK _ _ _ _ = true by kernel_rfl) ?_); conv => whnf)
    | ((with_reducible refine And.intro (by first | omega | exact Nat.le_of_ble_eq_true rfl) ?_); conv => whnf)
    | ((with_reducible refine And.intro ?hb ?_); (case hb => exact bytes_bd (Nat.le_of_ble_eq_true rfl) (by omega)); (conv => whnf))
    | ((refine DApp.a rfl rfl rfl rfl rfl rfl ?hb ?_); (case hb => first | exact bytes_bd (Nat.le_of_ble_eq_true rfl) (by omega) | omega); (conv => whnf))
    | ((refine DApp.b rfl rfl rfl rfl rfl rfl rfl rfl ?hb ?ho ?_); (case hb => first | exact bytes_bd (Nat.le_of_ble_eq_true rfl) (by omega) | omega); (case ho => omega); (conv => whnf))
    | ((refine DApp.c rfl rfl rfl rfl rfl ?hb ?_); (case hb => first | exact bytes_bd (Nat.le_of_ble_eq_true rfl) (by omega) | omega); (conv => whnf))
    | ((refine DApp.d rfl rfl rfl rfl rfl rfl ?hb ?ho ?_); (case hb => first | exact bytes_bd (Nat.le_of_ble_eq_true rfl) (by omega) | omega); (case ho => omega); (conv => whnf))
    | ((with_reducible refine nil_no (by omega) ?_); (conv => whnf))
    | ((with_reducible refine nil_any ?_ (fun hn0 => ?_)) <;> (conv => whnf))
    | ((with_reducible refine CallStop.pure (r1_SameBytes _ _) rfl rfl ?_); conv => whnf) | ((with_reducible refine DCall.pure (r1_SameBytes _ _) rfl rfl ?_); conv => whnf)
    | ((with_reducible refine CallStop.pure (r1_SameInts _ _) rfl rfl ?_); conv => whnf) | ((with_reducible refine DCall.pure (r1_SameInts _ _) rfl rfl ?_); conv => whnf)
    | ((refine ways (fun hc => ?_) (fun hc => ?_)) <;> (try simp only [decide_eq_true_eq, decide_eq_false_iff_not, Bool.and_eq_true, Bool.or_eq_true, Bool.and_eq_false_iff, Bool.or_eq_false_iff, Bool.not_eq_true', Bool.not_eq_false', beq_iff_eq, bne_iff_ne, ne_eq, beq_eq_false_iff_ne, bne_eq_false_iff_eq, Bool.not_eq_true, Bool.not_eq_false] at hc) <;> (try (exfalso; omega)) <;> (conv => whnf))))
    all_goals try simp only [Int.toNat_natCast] at *
    · exact .b (decide_eq_false fun e => by subst e; exact hc rfl).symm
    · exact .b (decide_eq_false fun e => by subst e; exact hc rfl).symm
    · exact .b (decide_eq_false fun e => by subst e; exact hc rfl).symm
    · exact .b (decide_eq_false fun e => by subst e; exact hc rfl).symm
    · rename_i q1 q2 q3
      refine ⟨i + 1, ⟨by omega, fun j hj => ?_⟩, by first | omega | (dsimp only; omega), ?_⟩
      · by_cases e : j = i
        · subst e
          cases hx : xs.getD j default with | mk a1 a2 a3 a4 =>
          cases hy : ys.getD j default with | mk b1 b2 b3 b4 =>
          rw [hx, hy] at q1 q2 q3 hc
          simp only at q1 q2 q3 hc
          subst q1 q2 q3 hc; rfl
        · exact h2 j (by omega)
      · (refine Le.by [] rfl rfl rfl rfl ?_ ?_ <;> (conv => whnf) <;> (repeat' (first | exact trivial | exact ArgLe.rfl rfl | exact ArgLe.ptr rfl | exact ArgLe.sl rfl | ((with_reducible refine ArgLe.fn ?_); (conv => whnf)) | exact ⟨rfl, rfl, rfl⟩ | exact fun i hi => rfl | ((with_reducible refine And.intro ?_ ?_) <;> (conv => whnf)))))
    · refine .b (decide_eq_true (List.ext_getElem (by omega) fun j g1 g2 => ?_)).symm
      have := h2 j (by omega)
      rw [List.getD_eq_getElem?_getD, List.getD_eq_getElem?_getD, List.getElem?_eq_getElem g1, List.getElem?_eq_getElem g2] at this
      simpa using this
end Go.Proofs.Ytkdolemhhihidaa

namespace Go.Proofs.Ytkdolemhhihidaa
open Go.RowKit

theorem cmpI_self : ∀ a : List Int, cmpI a a = 0
  | [] => rfl
  | x :: r => by simp only [cmpI]; rw [if_neg (by omega), if_neg (by omega)]; exact cmpI_self r
theorem cmpI_eq : ∀ {a b : List Int}, cmpI a b = 0 → a = b
  | [], [], _ => rfl
  | [], _ :: _, h => by simp [cmpI] at h
  | _ :: _, [], h => by simp [cmpI] at h
  | x :: a, y :: b, h => by
    simp only [cmpI] at h
    split at h
    · omega
    · split at h
      · omega
      · rw [cmpI_eq h, show x = y by omega]
theorem cmpI_swap : ∀ a b : List Int, cmpI b a = - cmpI a b
  | [], [] => rfl
  | [], _ :: _ => rfl
  | _ :: _, [] => rfl
  | x :: a, y :: b => by
    simp only [cmpI]
    by_cases h1 : x < y
    · rw [if_neg (by omega), if_pos h1, if_pos h1]; rfl
    · by_cases h2 : y < x
      · rw [if_pos h2, if_neg h1, if_pos h2]
      · rw [if_neg h2, if_neg h1, if_neg h1, if_neg h2]; exact cmpI_swap a b
theorem cmpI_trans : ∀ {a b c : List Int}, cmpI a b < 0 → cmpI b c < 0 → cmpI a c < 0
  | [], [], _, h, _ => by simp [cmpI] at h
  | [], _ :: _, [], _, h => by simp [cmpI] at h
  | [], _ :: _, _ :: _, _, _ => by simp [cmpI]
  | _ :: _, [], _, h, _ => by simp [cmpI] at h
  | _ :: _, _ :: _, [], _, h => by simp [cmpI] at h
  | x :: a, y :: b, z :: c, h1, h2 => by
    simp only [cmpI] at h1 h2 ⊢
    by_cases e1 : x < y
    · by_cases e2 : y < z
      · rw [if_pos (by omega)]; omega
      · by_cases e3 : z < y
        · rw [if_neg e2, if_pos e3] at h2; omega
        · rw [if_pos (by omega)]; omega
    · by_cases e2 : y < x
      · rw [if_neg e1, if_pos e2] at h1; omega
      · rw [if_neg e1, if_neg e2] at h1
        by_cases e3 : y < z
        · rw [if_pos (by omega)]; omega
        · by_cases e4 : z < y
          · rw [if_neg e3, if_pos e4] at h2; omega
          · rw [if_neg e3, if_neg e4] at h2
            rw [if_neg (by omega), if_neg (by omega)]
            exact cmpI_trans h1 h2
def idn (c : Cel) : List Int := c.pol :: c.key
/-- an identity that may be -/
def okId (pol : Int) (key : List Int) : Prop := 0 ≤ pol ∧ pol < 32 ∧ key.length ≤ 255
theorem identL_ok {pol : Int} {key : List Int} (h : okId pol key) : identL pol key = pol :: key := by
  obtain ⟨h1, h2, h3⟩ := h
  rw [identL, if_pos (by rw [identE, if_neg (by omega), if_neg (by omega)])]
theorem ordC_id {a b : Cel} (ha : okId a.pol a.key) (hb : okId b.pol b.key) : ordC a b = cmpI (idn a) (idn b) := by
  rw [ordC, identL_ok ha, identL_ok hb]; rfl

/-- the search comes to the first that isn't less -/
theorem bsF_spec {lt : Nat → Bool} {n : Nat} (mono : ∀ i j, i ≤ j → j < n → lt j = true → lt i = true) : ∀ (q i j : Nat), i ≤ j → j ≤ n → j - i < q → (∀ k, k < i → lt k = true) → (∀ k, j ≤ k → k < n → lt k = false) →
    (∀ k, k < bsF lt q i j → lt k = true) ∧ ∀ k, bsF lt q i j ≤ k → k < n → lt k = false
  | 0, i, j, _, _, h, _, _ => by omega
  | q + 1, i, j, h1, h2, h3, h4, h5 => by
    unfold bsF
    by_cases hij : i < j
    · rw [if_pos hij]
      by_cases hl : lt ((i + j) / 2) = true
      · rw [if_pos hl]
        exact bsF_spec mono q _ _ (by omega) h2 (by omega) (fun k hk => mono k ((i + j) / 2) (by omega) (by omega) hl) h5
      · rw [if_neg hl]
        refine bsF_spec mono q _ _ (by omega) (by omega) (by omega) h4 (fun k hk hkn => ?_)
        cases hlk : lt k with
        | false => rfl
        | true => exact absurd (mono _ k hk hkn hlk) hl
    · rw [if_neg hij]
      exact ⟨h4, fun k hk hkn => h5 k (by omega) hkn⟩
theorem bs_spec {lt : Nat → Bool} {n : Nat} (mono : ∀ i j, i ≤ j → j < n → lt j = true → lt i = true) : (∀ k, k < bs lt n → lt k = true) ∧ ∀ k, bs lt n ≤ k → k < n → lt k = false :=
  bsF_spec mono (n + 1) 0 n (Nat.zero_le _) (Nat.le_refl _) (by omega) (fun k hk => by omega) (fun k hk hkn => by omega)

/-- cells in order -/
structure Srt (xs : List Cel) : Prop where
  ok : ∀ c ∈ xs, okId c.pol c.key
  lt : xs.Pairwise fun a b => cmpI (idn a) (idn b) < 0
theorem getD_mem {xs : List Cel} {k : Nat} (h : k < xs.length) : xs.getD k default ∈ xs := by
  rw [List.getD_eq_getElem?_getD, List.getElem?_eq_getElem h]; exact List.getElem_mem h
theorem getD_get {xs : List Cel} {k : Nat} (h : k < xs.length) : xs.getD k default = xs[k] := by
  rw [List.getD_eq_getElem?_getD, List.getElem?_eq_getElem h]; rfl
theorem Srt.at {xs : List Cel} (h : Srt xs) {i j : Nat} (hij : i < j) (hj : j < xs.length) : cmpI (idn (xs.getD i default)) (idn (xs.getD j default)) < 0 := by
  rw [getD_get hj, getD_get (show i < xs.length by omega)]
  exact List.pairwise_iff_getElem.1 h.lt i j (by omega) hj hij
theorem pos_spec {xs : List Cel} (h : Srt xs) {t : Cel} (ht : okId t.pol t.key) : posC xs t ≤ xs.length ∧ (∀ k, k < posC xs t → cmpI (idn (xs.getD k default)) (idn t) < 0) ∧ ∀ k, posC xs t ≤ k → k < xs.length → ¬ cmpI (idn (xs.getD k default)) (idn t) < 0 := by
  have hle : posC xs t ≤ xs.length := posC_le xs t
  have hord : ∀ k, k < xs.length → ordC (xs.getD k default) t = cmpI (idn (xs.getD k default)) (idn t) := fun k hk => ordC_id (h.ok _ (getD_mem hk)) ht
  have := bs_spec (lt := fun k => decide (ordC (xs.getD k default) t < 0)) (n := xs.length) (fun i j hij hj hlt => by
    simp only [decide_eq_true_eq] at hlt ⊢
    rw [hord j hj] at hlt
    rw [hord i (by omega)]
    by_cases e : i = j
    · subst e; exact hlt
    · exact cmpI_trans (h.at (by omega) hj) hlt)
  refine ⟨hle, fun k hk => ?_, fun k hk hkn => ?_⟩
  · have := this.1 k hk
    simp only [decide_eq_true_eq] at this
    rw [hord k (by omega)] at this; exact this
  · have := this.2 k hk hkn
    simp only [decide_eq_false_iff_not] at this
    rw [hord k hkn] at this; exact this
/-- the cell of an identity -/
def look (xs : List Cel) (i : List Int) : Option Cel := xs.find? fun c => decide (idn c = i)
theorem look_mem {xs : List Cel} {i : List Int} {c : Cel} (h : look xs i = some c) : c ∈ xs ∧ idn c = i := by
  unfold look at h
  exact ⟨List.mem_of_find?_eq_some h, by simpa using List.find?_some h⟩
theorem Srt.uniq {xs : List Cel} (h : Srt xs) {a b : Cel} (ha : a ∈ xs) (hb : b ∈ xs) (e : idn a = idn b) : a = b := by
  obtain ⟨i, hi, rfl⟩ := List.getElem_of_mem ha
  obtain ⟨j, hj, rfl⟩ := List.getElem_of_mem hb
  have hp := List.pairwise_iff_getElem.1 h.lt
  rcases Nat.lt_trichotomy i j with hlt | rfl | hlt
  · have := hp i j hi hj hlt; rw [e, cmpI_self] at this; omega
  · rfl
  · have := hp j i hj hi hlt; rw [e, cmpI_self] at this; omega
theorem Srt.look_of {xs : List Cel} (h : Srt xs) {c : Cel} (hc : c ∈ xs) : look xs (idn c) = some c := by
  cases hl : look xs (idn c) with
  | none => unfold look at hl; rw [List.find?_eq_none] at hl; exact absurd (by simp) (hl c hc)
  | some d => obtain ⟨h1, h2⟩ := look_mem hl; rw [h.uniq h1 hc h2]
theorem look_none {xs : List Cel} {i : List Int} : look xs i = none ↔ ∀ c ∈ xs, idn c ≠ i := by unfold look; rw [List.find?_eq_none]; simp
theorem has_look {xs : List Cel} (h : Srt xs) {t : Cel} (ht : okId t.pol t.key) : (hasC xs t = true → look xs (idn t) = some (xs.getD (posC xs t) default)) ∧ (hasC xs t = false → look xs (idn t) = none) := by
  obtain ⟨h1, h2, h3⟩ := pos_spec h ht
  constructor
  · intro hh
    obtain ⟨p1, p2⟩ := (hasC_t _ _).1 hh
    rw [ordC_id (h.ok _ (getD_mem p1)) ht] at p2
    rw [← cmpI_eq p2]
    exact h.look_of (getD_mem p1)
  · intro hh
    rw [look_none]
    intro c hc e
    obtain ⟨k, hk, rfl⟩ := List.getElem_of_mem hc
    rw [← getD_get hk] at e
    have h9 : ¬ k < posC xs t := fun hlt => by have := h2 k hlt; rw [e, cmpI_self] at this; omega
    by_cases hkp : k = posC xs t
    · subst hkp
      have : hasC xs t = true := (hasC_t _ _).2 ⟨hk, by rw [ordC_id (h.ok _ (getD_mem hk)) ht, e, cmpI_self]⟩
      rw [this] at hh; cases hh
    · have := h3 (posC xs t) (Nat.le_refl _) (by omega)
      have h8 := h.at (show posC xs t < k by omega) hk
      rw [e] at h8
      exact this h8
theorem has_iff {xs : List Cel} (h : Srt xs) {t : Cel} (ht : okId t.pol t.key) : hasC xs t = (look xs (idn t)).isSome := by
  obtain ⟨h1, h2⟩ := has_look h ht
  cases hh : hasC xs t with
  | true => rw [h1 hh]; rfl
  | false => rw [h2 hh]; rfl
theorem find_look {xs : List Cel} (h : Srt xs) {pol : Int} {key : List Int} (ht : okId pol key) : findC xs pol key = (look xs (pol :: key)).getD (newC pol key) := by
  obtain ⟨h1, h2⟩ := has_look h (t := newC pol key) ht
  unfold findC
  by_cases hh : hasC xs (newC pol key) = true
  · rw [if_pos hh]; have := h1 hh; rw [show idn (newC pol key) = pol :: key from rfl] at this; rw [this]; rfl
  · rw [if_neg hh]; have := h2 (by simpa using hh); rw [show idn (newC pol key) = pol :: key from rfl] at this; rw [this]; rfl
theorem look_iff {xs : List Cel} (h : Srt xs) {i : List Int} {d : Cel} : look xs i = some d ↔ d ∈ xs ∧ idn d = i :=
  ⟨look_mem, fun ⟨h1, h2⟩ => by rw [← h2]; exact h.look_of h1⟩
theorem opt_ext {α : Type} {a b : Option α} (h : ∀ d, a = some d ↔ b = some d) : a = b := by
  cases a with
  | none => cases b with
    | none => rfl
    | some d => have := (h d).2 rfl; cases this
  | some d => exact ((h d).1 rfl).symm
theorem Srt.ids {xs : List Cel} (h : Srt xs) : (xs.map idn).Pairwise fun a b => cmpI a b < 0 := by rw [List.pairwise_map]; exact h.lt
theorem set_mem {xs : List Cel} (h : Srt xs) {p : Nat} {c : Cel} (hp : p < xs.length) (e : idn (xs.getD p default) = idn c) (d : Cel) : d ∈ xs.set p c ↔ d = c ∨ (d ∈ xs ∧ idn d ≠ idn c) := by
  rw [getD_get hp] at e
  constructor
  · intro hd
    obtain ⟨k, hk, rfl⟩ := List.getElem_of_mem hd
    rw [List.length_set] at hk
    rw [List.getElem_set]
    by_cases hkp : p = k
    · rw [if_pos hkp]; exact Or.inl rfl
    · rw [if_neg hkp]
      refine Or.inr ⟨List.getElem_mem hk, fun e2 => ?_⟩
      have hp2 := List.pairwise_iff_getElem.1 h.lt
      rw [← e] at e2
      rcases Nat.lt_or_gt_of_ne hkp with hlt | hlt
      · have := hp2 p k hp hk hlt; rw [e2, cmpI_self] at this; omega
      · have := hp2 k p hk hp hlt; rw [e2, cmpI_self] at this; omega
  · rintro (rfl | ⟨h1, h2⟩)
    · exact List.mem_set hp _
    · obtain ⟨k, hk, rfl⟩ := List.getElem_of_mem h1
      have hkp : ¬ p = k := fun e2 => by subst e2; exact h2 e
      have : (xs.set p c)[k]'(by rw [List.length_set]; exact hk) = xs[k] := by rw [List.getElem_set, if_neg hkp]
      rw [← this]; exact List.getElem_mem _
theorem with_srt {xs : List Cel} (h : Srt xs) {t c : Cel} (hc : okId c.pol c.key) (e : idn c = idn t) :
    Srt (withC xs (posC xs t) (hasC xs t) c) ∧ (∀ d, d ∈ withC xs (posC xs t) (hasC xs t) c ↔ d = c ∨ (d ∈ xs ∧ idn d ≠ idn c)) ∧ (withC xs (posC xs t) (hasC xs t) c).length = if hasC xs t = true then xs.length else xs.length + 1 := by
  have ht : okId t.pol t.key := by
    have e1 : c.pol = t.pol := by have := e; simp only [idn, List.cons.injEq] at this; exact this.1
    have e2 : c.key = t.key := by have := e; simp only [idn, List.cons.injEq] at this; exact this.2
    rw [← e1, ← e2]; exact hc
  obtain ⟨h1, h2, h3⟩ := pos_spec h ht
  cases hh : hasC xs t with
  | true =>
    obtain ⟨p1, p2⟩ := (hasC_t _ _).1 hh
    rw [ordC_id (h.ok _ (getD_mem p1)) ht] at p2
    have p3 : idn (xs.getD (posC xs t) default) = idn c := by rw [cmpI_eq p2, e]
    have hm := set_mem h p1 p3
    simp only [withC, if_true]
    refine ⟨⟨fun d hd => ?_, ?_⟩, hm, List.length_set ..⟩
    · rcases (hm d).1 hd with rfl | ⟨hd, _⟩
      · exact hc
      · exact h.ok d hd
    · rw [← List.pairwise_map (f := idn) (R := fun a b => cmpI a b < 0), List.map_set, ← p3]
      have : (xs.map idn).set (posC xs t) (idn (xs.getD (posC xs t) default)) = xs.map idn := by
        rw [getD_get p1]
        have : idn xs[posC xs t] = (xs.map idn)[posC xs t]'(by simpa using p1) := by simp
        rw [this]; exact List.set_getElem_self _
      rw [this]; exact h.ids
  | false =>
    simp only [withC, Bool.false_eq_true, if_false]
    have hn := look_none.1 ((has_look h ht).2 hh)
    have hge : ∀ k, posC xs t ≤ k → k < xs.length → cmpI (idn c) (idn (xs.getD k default)) < 0 := fun k hk hkn => by
      have h9 := h3 k hk hkn
      have h8 := cmpI_swap (idn (xs.getD k default)) (idn t)
      rw [e, h8]
      have h7 : cmpI (idn (xs.getD k default)) (idn t) ≠ 0 := fun h0 => hn _ (getD_mem hkn) (cmpI_eq h0)
      omega
    have hm : ∀ d, d ∈ insAt xs (posC xs t) c ↔ d = c ∨ (d ∈ xs ∧ idn d ≠ idn c) := fun d => by
      have hx : d ∈ insAt xs (posC xs t) c ↔ d = c ∨ d ∈ xs := by
        unfold insAt
        rw [List.mem_append, List.mem_append, List.mem_singleton]
        constructor
        · rintro ((h | h) | h)
          · exact Or.inr (List.mem_of_mem_take h)
          · exact Or.inl h
          · exact Or.inr (List.mem_of_mem_drop h)
        · rintro (h | h)
          · exact Or.inl (Or.inr h)
          · rw [← List.take_append_drop (posC xs t) xs] at h
            rcases List.mem_append.1 h with h | h
            · exact Or.inl (Or.inl h)
            · exact Or.inr h
      rw [hx]
      constructor
      · rintro (h | h)
        · exact Or.inl h
        · exact Or.inr ⟨h, by rw [e]; exact hn d h⟩
      · rintro (h | ⟨h, _⟩)
        · exact Or.inl h
        · exact Or.inr h
    refine ⟨⟨fun d hd => ?_, ?_⟩, hm, insAt_length _ _ _ h1⟩
    · rcases (hm d).1 hd with rfl | ⟨hd, _⟩
      · exact hc
      · exact h.ok d hd
    · unfold insAt
      rw [List.append_assoc, List.pairwise_append]
      have hpt : (xs.take (posC xs t)).Pairwise fun a b => cmpI (idn a) (idn b) < 0 := h.lt.sublist (List.take_sublist _ _)
      have hpd : (xs.drop (posC xs t)).Pairwise fun a b => cmpI (idn a) (idn b) < 0 := h.lt.sublist (List.drop_sublist _ _)
      have htl : ∀ a ∈ xs.take (posC xs t), cmpI (idn a) (idn c) < 0 := fun a ha => by
        obtain ⟨k, hk, rfl⟩ := List.getElem_of_mem ha
        rw [List.length_take] at hk
        rw [List.getElem_take, ← getD_get (show k < xs.length by omega), e]
        exact h2 k (by omega)
      have hdl : ∀ b ∈ xs.drop (posC xs t), cmpI (idn c) (idn b) < 0 := fun b hb => by
        obtain ⟨k, hk, rfl⟩ := List.getElem_of_mem hb
        rw [List.length_drop] at hk
        rw [List.getElem_drop, ← getD_get (show posC xs t + k < xs.length by omega)]
        exact hge _ (by omega) (by omega)
      refine ⟨hpt, ?_, fun a ha b hb => ?_⟩
      · rw [List.singleton_append, List.pairwise_cons]; exact ⟨hdl, hpd⟩
      · rw [List.singleton_append] at hb
        rcases List.mem_cons.1 hb with rfl | hb
        · exact htl a ha
        · exact cmpI_trans (htl a ha) (hdl b hb)
theorem with_look {xs : List Cel} (h : Srt xs) {t c : Cel} (hc : okId c.pol c.key) (e : idn c = idn t) (i : List Int) : look (withC xs (posC xs t) (hasC xs t) c) i = if i = idn c then some c else look xs i := by
  obtain ⟨h1, h2, _⟩ := with_srt h hc e
  refine opt_ext fun d => ?_
  rw [look_iff h1, h2]
  by_cases hi : i = idn c
  · rw [if_pos hi]
    constructor
    · rintro ⟨rfl | ⟨_, h4⟩, h5⟩
      · rfl
      · exact absurd (h5.trans hi) h4
    · intro h; cases h; exact ⟨Or.inl rfl, hi.symm⟩
  · rw [if_neg hi, look_iff h]
    constructor
    · rintro ⟨rfl | ⟨h3, _⟩, h5⟩
      · exact absurd h5.symm hi
      · exact ⟨h3, h5⟩
    · rintro ⟨h3, h5⟩; exact ⟨Or.inr ⟨h3, fun e2 => hi (h5.symm.trans e2)⟩, h5⟩
theorem Srt.filter {xs : List Cel} (h : Srt xs) (q : Cel → Bool) : Srt (xs.filter q) := ⟨fun c hc => h.ok c (List.mem_filter.1 hc).1, h.lt.filter _⟩
theorem filter_look {xs : List Cel} (h : Srt xs) (q : Cel → Bool) (i : List Int) : look (xs.filter q) i = (look xs i).filter q := by
  refine opt_ext fun d => ?_
  rw [look_iff (h.filter q), List.mem_filter, Option.filter_eq_some_iff, look_iff h]
  exact ⟨fun ⟨⟨a, b⟩, c⟩ => ⟨⟨a, c⟩, b⟩, fun ⟨⟨a, c⟩, b⟩ => ⟨⟨a, b⟩, c⟩⟩
theorem Srt.tail {c : Cel} {xs : List Cel} (h : Srt (c :: xs)) : Srt xs := ⟨fun d hd => h.ok d (by simp [hd]), (List.pairwise_cons.1 h.lt).2⟩
/-- sorted cells are what their identities find -/
theorem srt_ext : ∀ {xs ys : List Cel}, Srt xs → Srt ys → (∀ i, look xs i = look ys i) → xs = ys
  | [], [], _, _, _ => rfl
  | [], b :: s, _, h', e => by have := e (idn b); rw [h'.look_of (by simp)] at this; simp [look] at this
  | a :: r, [], h, _, e => by have := e (idn a); rw [h.look_of (by simp)] at this; simp [look] at this
  | a :: r, b :: s, h, h', e => by
    have ha : a ∈ b :: s := by have := e (idn a); rw [h.look_of (by simp)] at this; exact (look_mem this.symm).1
    have hb : b ∈ a :: r := by have := e (idn b); rw [h'.look_of (by simp)] at this; exact (look_mem this).1
    have hab : a = b := by
      rcases List.mem_cons.1 ha with h1 | h1
      · exact h1
      · rcases List.mem_cons.1 hb with h2 | h2
        · exact h2.symm
        · have p1 := (List.pairwise_cons.1 h'.lt).1 a h1
          have p2 := (List.pairwise_cons.1 h.lt).1 b h2
          have := cmpI_trans p1 p2
          rw [cmpI_self] at this; omega
    subst hab
    congr 1
    refine srt_ext h.tail h'.tail fun i => opt_ext fun d => ?_
    have e1 := e i
    rw [look_iff h.tail, look_iff h'.tail]
    have key : ∀ {zs : List Cel} (hz : Srt (a :: zs)), (d ∈ zs ∧ idn d = i) ↔ (look (a :: zs) i = some d ∧ i ≠ idn a) := fun {zs} hz => by
      rw [look_iff hz]
      constructor
      · rintro ⟨h1, h2⟩
        refine ⟨⟨by simp [h1], h2⟩, fun e2 => ?_⟩
        have := (List.pairwise_cons.1 hz.lt).1 d h1
        rw [h2, e2, cmpI_self] at this; omega
      · rintro ⟨⟨h1, h2⟩, h3⟩
        rcases List.mem_cons.1 h1 with rfl | h1
        · exact absurd h2.symm h3
        · exact ⟨h1, h2⟩
    rw [key h, key h', e1]
end Go.Proofs.Ytkdolemhhihidaa

namespace Go.Proofs.Ytkdolemhhihidaa
open Go.RowKit

theorem BookOK.mem {ps : List Pol} {xs : List Cel} (h : BookOK ps xs) {c : Cel} (hc : c ∈ xs) : (∀ b ∈ c.key, 0 ≤ b ∧ b ≤ 255) ∧ c.key.length ≤ 255 ∧ c.held.length ≤ 64 ∧ 0 ≤ c.pol ∧ c.pol < ps.length := by
  obtain ⟨k, hk, rfl⟩ := List.getElem_of_mem hc
  have e := getD_get hk
  refine ⟨?_, ?_, ?_, ?_⟩
  · have := h.byt k; rw [e] at this; exact this
  · have := h.key k; rw [e] at this; exact this
  · have := h.held k; rw [e] at this; exact this
  · have := h.pol k hk; rw [e] at this; exact this
/-- a book in order -/
structure BInv (ps : List Pol) (room : Int) (xs : List Cel) : Prop where
  srt : Srt xs
  ok : BookOK ps xs
  le : (xs.length : Int) ≤ room
  rm : room ≤ 4096
  pl : ps.length ≤ 32
theorem BInv.nil {ps : List Pol} {room : Int} (h0 : 0 ≤ room) (h1 : room ≤ 4096) (h2 : ps.length ≤ 32) : BInv ps room [] :=
  ⟨⟨fun c hc => by simp at hc, .nil⟩, ok_of ⟨by simp, fun c hc => by simp at hc⟩, by simpa using h0, h1, h2⟩
theorem BInv.len {ps : List Pol} {room : Int} {xs : List Cel} (h : BInv ps room xs) : xs.length ≤ 4096 := by have := h.le; have := h.rm; omega

section
variable {ps : List Pol} {room : Int} {xs : List Cel} {op pol : Int} {key : List Int} {n now serial : Int}
theorem id_of (hE : bchkE ps op pol key n now serial = 0) (hop : op < 5) : okId pol key ∧ pol < ps.length := by
  obtain ⟨_, _, _, h1, h2, _⟩ := bchk_0 hE
  have := h2 hop
  have := polsE_len h1
  exact ⟨⟨by omega, by omega, by omega⟩, by omega⟩
theorem find_mem (h : Srt xs) (hid : okId pol key) : idn (findC xs pol key) = pol :: key ∧ (findC xs pol key ∈ xs ∨ findC xs pol key = newC pol key) := by
  rw [find_look h hid]
  cases hl : look xs (pol :: key) with
  | none => exact ⟨rfl, Or.inr rfl⟩
  | some c => obtain ⟨h1, h2⟩ := look_mem hl; exact ⟨h2, Or.inl h1⟩
theorem one_idn {p : Pol} {c : Cel} : idn (oneR p c op n now serial).2 = idn c := by
  unfold oneR
  split
  · rfl
  · split
    · unfold acqC idn; split <;> rfl
    · unfold relC idn; split <;> rfl
theorem one_held {p : Pol} {c : Cel} (h : c.held.length ≤ 64) : (oneR p c op n now serial).2.held.length ≤ 64 := by
  unfold oneR
  split
  · exact h
  · split
    · unfold acqC
      split
      · have := takeE_bd (by assumption : takeE p.permits c.held serial = 0); simp only; omega
      · exact h
    · unfold relC
      split
      · have := giveE_bd (by assumption : giveE p.permits c.held n = 0); simp only; omega
      · exact h
/-- one call on one identity: the reply, the cell behind it where it turns -/
def cellS (p : Pol) (o : Option Cel) (op pol : Int) (key : List Int) (n now serial : Int) : Rpl × Option Cel :=
  if op = 4 then (peekR p (o.getD (newC pol key)) now, none)
  else if (oneR p (o.getD (newC pol key)) op n now serial).1.g = false ∨ (op = 1 ∧ n = 0) then ((oneR p (o.getD (newC pol key)) op n now serial).1, none)
  else ((oneR p (o.getD (newC pol key)) op n now serial).1, some (oneR p (o.getD (newC pol key)) op n now serial).2)
theorem do_keyed (h : BInv ps room xs) (hE : bchkE ps op pol key n now serial = 0) (hop : op < 5) :
    doS ps room xs op pol key n now serial = match (cellS (ps.getD pol.toNat default) (look xs (pol :: key)) op pol key n now serial).2 with
      | none => ((cellS (ps.getD pol.toNat default) (look xs (pol :: key)) op pol key n now serial).1, xs)
      | some c => if look xs (pol :: key) = none ∧ (xs.length : Int) = room then (errR 10, xs) else ((cellS (ps.getD pol.toNat default) (look xs (pol :: key)) op pol key n now serial).1, withC xs (posC xs (newC pol key)) (hasC xs (newC pol key)) c) := by
  obtain ⟨hid, _⟩ := id_of hE hop
  unfold doS
  rw [if_neg (fun h => h hE), if_neg (by omega), if_neg (by omega), find_look h.srt hid]
  unfold cellS
  by_cases h4 : op = 4
  · rw [if_pos h4, if_pos h4]
  · rw [if_neg h4, if_neg h4]
    unfold putS
    have hdz : (decide (op = 1 ∧ n = 0) = true) ↔ (op = 1 ∧ n = 0) := by simp
    generalize oneR (ps.getD pol.toNat default) ((look xs (pol :: key)).getD (newC pol key)) op n now serial = q
    by_cases h1 : q.1.g = false ∨ (op = 1 ∧ n = 0)
    · rw [if_pos (h1.imp (fun h => h) hdz.2), if_pos h1]
    · rw [if_neg (fun h => h1 (h.imp (fun h => h) hdz.1)), if_neg h1]
      have hh : hasC xs (newC pol key) = false ↔ look xs (pol :: key) = none := by
        have := has_iff h.srt (t := newC pol key) hid
        rw [this, show idn (newC pol key) = pol :: key from rfl]
        cases look xs (pol :: key) <;> simp
      show _ = if look xs (pol :: key) = none ∧ (xs.length : Int) = room then _ else _
      by_cases h9 : look xs (pol :: key) = none ∧ (xs.length : Int) = room
      · rw [if_pos ⟨hh.2 h9.1, h9.2⟩, if_pos h9]
      · rw [if_neg (fun h => h9 ⟨hh.1 h.1, h.2⟩), if_neg h9]
theorem cell_idn {p : Pol} {o : Option Cel} {c : Cel} (ho : ∀ d, o = some d → idn d = pol :: key) (h : (cellS p o op pol key n now serial).2 = some c) : idn c = pol :: key := by
  have hb : idn (o.getD (newC pol key)) = pol :: key := by
    cases o with
    | none => rfl
    | some d => exact ho d rfl
  unfold cellS at h
  split at h
  · cases h
  · split at h
    · cases h
    · simp only [Option.some.injEq] at h; rw [← h, one_idn]; exact hb
theorem cell_held {p : Pol} {o : Option Cel} {c : Cel} (ho : ∀ d, o = some d → d.held.length ≤ 64) (h : (cellS p o op pol key n now serial).2 = some c) : c.held.length ≤ 64 := by
  have hb : (o.getD (newC pol key)).held.length ≤ 64 := by
    cases o with
    | none => exact Nat.zero_le _
    | some d => exact ho d rfl
  unfold cellS at h
  split at h
  · cases h
  · split at h
    · cases h
    · simp only [Option.some.injEq] at h; rw [← h]; exact one_held hb
theorem ok_put (h : BInv ps room xs) (hk : IsB key) (hE : bchkE ps op pol key n now serial = 0) (hop : op < 5) {c : Cel} (hc : (cellS (ps.getD pol.toNat default) (look xs (pol :: key)) op pol key n now serial).2 = some c) (hfull : ¬ (look xs (pol :: key) = none ∧ (xs.length : Int) = room)) :
    BInv ps room (withC xs (posC xs (newC pol key)) (hasC xs (newC pol key)) c) := by
  obtain ⟨hid, hpl⟩ := id_of hE hop
  have hidn : idn c = pol :: key := cell_idn (fun d hd => (look_mem hd).2) hc
  have e1 : c.pol = pol ∧ c.key = key := by simpa [idn] using hidn
  have hheld : c.held.length ≤ 64 := cell_held (fun d hd => (h.ok.mem (look_mem hd).1).2.2.1) hc
  have hcid : okId c.pol c.key := by rw [e1.1, e1.2]; exact hid
  obtain ⟨s1, s2, s3⟩ := with_srt h.srt (t := newC pol key) hcid hidn
  have hlen : ((withC xs (posC xs (newC pol key)) (hasC xs (newC pol key)) c).length : Int) ≤ room := by
    have hr := h.le
    rw [s3]
    split
    · exact hr
    · rename_i hh
      have h9 : look xs (pol :: key) = none := by
        have := has_iff h.srt (t := newC pol key) hid
        rw [show idn (newC pol key) = pol :: key from rfl] at this
        cases hl : look xs (pol :: key) with
        | none => rfl
        | some d => rw [this, hl] at hh; simp at hh
      have : ¬ (xs.length : Int) = room := fun e => hfull ⟨h9, e⟩
      push_cast
      omega
  refine ⟨s1, ok_of ⟨?_, fun d hd => ?_⟩, hlen, h.rm, h.pl⟩
  · have := h.rm; omega
  · rcases (s2 d).1 hd with rfl | ⟨hd, _⟩
    · rw [e1.1, e1.2]
      exact ⟨hk, hid.2.2, hheld, hid.1, hpl⟩
    · exact h.ok.mem hd
theorem do_inv (h : BInv ps room xs) (hk : IsB key) : BInv ps room (doS ps room xs op pol key n now serial).2 := by
  by_cases hE : bchkE ps op pol key n now serial = 0
  · by_cases hop : op < 5
    · rw [do_keyed h hE hop]
      cases hc : (cellS (ps.getD pol.toNat default) (look xs (pol :: key)) op pol key n now serial).2 with
      | none => exact h
      | some c =>
        simp only
        split
        · exact h
        · exact ok_put h hk hE hop hc (by assumption)
    · unfold doS
      rw [if_neg (fun h => h hE)]
      have hb := (bchk_0 hE).2.2.1
      by_cases h5 : op = 5
      · rw [if_pos h5]
        refine ⟨h.srt.filter _, ok_of ⟨?_, fun d hd => h.ok.mem (List.mem_filter.1 hd).1⟩, ?_, h.rm, h.pl⟩
        · have := List.length_filter_le (fun c => !idleB ps c now) xs
          have := h.len
          simp only [stay]; omega
        · have := List.length_filter_le (fun c => !idleB ps c now) xs
          have := h.le
          simp only [stay]; omega
      · rw [if_neg h5, if_pos (by omega)]; exact h
  · unfold doS; rw [if_pos hE]; exact h
/-- one call on one identity, errors and all -/
def stepS (ps : List Pol) (o : Option Cel) (op pol : Int) (key : List Int) (n now serial : Int) : Rpl × Option Cel :=
  if bchkE ps op pol key n now serial ≠ 0 then (errR (bchkE ps op pol key n now serial), none) else cellS (ps.getD pol.toNat default) o op pol key n now serial
/-- where there is room, a call on an identity does to it what it does to its cell alone -/
theorem do_step (h : BInv ps room xs) (hop : op < 5) (hroom : (xs.length : Int) < room) :
    (doS ps room xs op pol key n now serial).1 = (stepS ps (look xs (pol :: key)) op pol key n now serial).1 ∧
    (∀ i, look (doS ps room xs op pol key n now serial).2 i = if i = pol :: key then ((stepS ps (look xs (pol :: key)) op pol key n now serial).2.or (look xs i)) else look xs i) ∧
    (doS ps room xs op pol key n now serial).2.length ≤ xs.length + 1 := by
  unfold stepS
  by_cases hE : bchkE ps op pol key n now serial = 0
  · rw [if_neg (fun h => h hE), do_keyed h hE hop]
    obtain ⟨hid, _⟩ := id_of hE hop
    cases hc : (cellS (ps.getD pol.toNat default) (look xs (pol :: key)) op pol key n now serial).2 with
    | none => exact ⟨rfl, fun i => by simp, by simp⟩
    | some c =>
      simp only
      rw [if_neg (fun h => by omega)]
      have hidn : idn c = pol :: key := cell_idn (fun d hd => (look_mem hd).2) hc
      have e1 : c.pol = pol ∧ c.key = key := by simpa [idn] using hidn
      have hcid : okId c.pol c.key := by rw [e1.1, e1.2]; exact hid
      refine ⟨rfl, fun i => ?_, ?_⟩
      · rw [with_look h.srt (t := newC pol key) hcid hidn, hidn]
        split <;> simp
      · rw [(with_srt h.srt (t := newC pol key) hcid hidn).2.2]
        split <;> omega
  · rw [if_pos hE]
    unfold doS
    rw [if_pos hE]
    exact ⟨rfl, fun i => by simp, by simp⟩
/-- evict -/
theorem do_evict (hE : bchkE ps 5 pol key n now serial = 0) : doS ps room xs 5 pol key n now serial = (⟨0, false, (xs.length : Int) - (stay ps now xs).length, 0, 0, now⟩, stay ps now xs) := by
  unfold doS; rw [if_neg (fun h => h hE), if_pos rfl]
theorem stay_look (h : Srt xs) (i : List Int) : look (stay ps now xs) i = (look xs i).filter fun c => !idleB ps c now := filter_look h _ i
end
end Go.Proofs.Ytkdolemhhihidaa

namespace Go.Proofs.Ytkdolemhhihidaa
open Go.RowKit

section
variable {ps : List Pol} {room : Int} {xs : List Cel} {op pol : Int} {key : List Int} {n now serial : Int}
theorem polsE_ne (ps : List Pol) : polsE ps ≠ 10 := by unfold polsE; split <;> (try split) <;> omega
theorem bchkE_ne : bchkE ps op pol key n now serial ≠ 10 := by
  unfold bchkE chkE
  have := polsE_ne ps
  repeat' split
  all_goals first | omega | assumption
theorem semE_ne (p : Int) (hs : List Int) : semE p hs = 0 ∨ semE p hs = 3 := by unfold semE; split <;> simp
theorem takeE_ne (p : Int) (hs : List Int) (s : Int) : takeE p hs s ≠ 10 := by
  unfold takeE
  rcases semE_ne p hs with h | h <;> (repeat' split) <;> omega
theorem giveE_ne (p : Int) (hs : List Int) (s : Int) : giveE p hs s ≠ 10 := by
  unfold giveE
  rcases semE_ne p hs with h | h <;> (repeat' split) <;> omega
theorem one_ne {p : Pol} {c : Cel} : (oneR p c op n now serial).1.e ≠ 10 := by
  unfold oneR
  split
  · simp [allowR]
  · split
    · unfold acqR; split
      · simp
      · exact takeE_ne _ _ _
    · unfold relR; split
      · simp
      · exact giveE_ne _ _ _
theorem cell_ne {p : Pol} {o : Option Cel} : (cellS p o op pol key n now serial).1.e ≠ 10 := by
  unfold cellS
  split
  · unfold peekR; split <;> simp
  · split <;> exact one_ne
/-- refused for room: the identity has no cell, and all are taken -/
theorem full_1 (h : BInv ps room xs) (he : (doS ps room xs op pol key n now serial).1.e = 10) : look xs (pol :: key) = none ∧ (xs.length : Int) = room ∧ (doS ps room xs op pol key n now serial).2 = xs := by
  by_cases hE : bchkE ps op pol key n now serial = 0
  · by_cases hop : op < 5
    · rw [do_keyed h hE hop] at he ⊢
      cases hc : (cellS (ps.getD pol.toNat default) (look xs (pol :: key)) op pol key n now serial).2 with
      | none => rw [hc] at he; exact absurd he cell_ne
      | some c =>
        rw [hc] at he
        simp only at he ⊢
        split at he
        · rename_i h9; rw [if_pos h9]; exact ⟨h9.1, h9.2, rfl⟩
        · exact absurd he cell_ne
    · exfalso
      unfold doS at he
      rw [if_neg (fun h => h hE)] at he
      have hb := (bchk_0 hE).2.2.1
      by_cases h5 : op = 5
      · rw [if_pos h5] at he; simp at he
      · rw [if_neg h5, if_pos (by omega)] at he; simp [errR] at he
  · exfalso
    unfold doS at he; rw [if_pos hE] at he
    exact bchkE_ne he
/-- a cost that was granted on an identity without a cell: there was room, and one cell more is there -/
theorem full_2 (h : BInv ps room xs) (hop : op < 3) (hg : (doS ps room xs op pol key n now serial).1.g = true) (hn : look xs (pol :: key) = none) (hc : op = 2 ∨ 0 < n) : (xs.length : Int) < room ∧ (doS ps room xs op pol key n now serial).2.length = xs.length + 1 := by
  by_cases hE : bchkE ps op pol key n now serial = 0
  · obtain ⟨hid, _⟩ := id_of hE (by omega)
    rw [do_keyed h hE (by omega)] at hg ⊢
    have hs : (cellS (ps.getD pol.toNat default) (look xs (pol :: key)) op pol key n now serial).1.g = true → ∃ c, (cellS (ps.getD pol.toNat default) (look xs (pol :: key)) op pol key n now serial).2 = some c := by
      intro hg
      unfold cellS at hg ⊢
      rw [if_neg (by omega)] at hg ⊢
      split at hg
      · rename_i h9
        rcases h9 with h9 | h9
        · simp only at hg; rw [h9] at hg; cases hg
        · omega
      · rename_i h9; rw [if_neg h9]; exact ⟨_, rfl⟩
    cases hc' : (cellS (ps.getD pol.toNat default) (look xs (pol :: key)) op pol key n now serial).2 with
    | none =>
      rw [hc'] at hg
      obtain ⟨c, h9⟩ := hs hg
      rw [h9] at hc'; cases hc'
    | some c =>
      rw [hc'] at hg
      simp only at hg ⊢
      split at hg
      · simp [errR] at hg
      · rename_i h9
        rw [if_neg h9]
        have hidn : idn c = pol :: key := cell_idn (fun d hd => (look_mem hd).2) hc'
        have e1 : c.pol = pol ∧ c.key = key := by simpa [idn] using hidn
        have hcid : okId c.pol c.key := by rw [e1.1, e1.2]; exact hid
        have hlen := (with_srt h.srt (t := newC pol key) hcid hidn).2.2
        have hh := has_iff h.srt (t := newC pol key) hid
        rw [show idn (newC pol key) = pol :: key from rfl, hn] at hh
        rw [hh] at hlen ⊢
        have hr := h.le
        refine ⟨?_, by simpa using hlen⟩
        have : ¬ (xs.length : Int) = room := fun e => h9 ⟨hn, e⟩
        omega
  · unfold doS at hg; rw [if_pos hE] at hg; simp [errR] at hg
end
end Go.Proofs.Ytkdolemhhihidaa

namespace Go.Proofs.Ytkdolemhhihidaa
open Go.RowKit
set_option maxRecDepth 100000

def Ask.ok (a : Ask) : Prop := (0 ≤ a.op ∧ a.op ≤ 255) ∧ (∀ x ∈ a.key, 0 ≤ x ∧ x ≤ 255) ∧ (-9223372036854775808 ≤ a.pol ∧ a.pol ≤ 9223372036854775807) ∧ (-9223372036854775808 ≤ a.n ∧ a.n ≤ 9223372036854775807) ∧ (-9223372036854775808 ≤ a.now ∧ a.now ≤ 9223372036854775807) ∧ (-9223372036854775808 ≤ a.serial ∧ a.serial ≤ 9223372036854775807)
theorem ask_at {script : List Ask} (hs : ∀ a ∈ script, a.ok) (i : Nat) : (script.getD i default).ok := by
  by_cases h : i < script.length
  · have : script.getD i default ∈ script := by rw [List.getD_eq_getElem?_getD, List.getElem?_eq_getElem h]; exact List.getElem_mem h
    exact hs _ this
  · rw [List.getD_eq_getElem?_getD, List.getElem?_eq_none (by omega)]
    show Ask.ok default
    unfold Ask.ok
    decide
theorem fit_op (a : Ask) (h : a.ok) : 1 ≤ (fitA a).op ∧ (fitA a).op ≤ 6 := by
  have := h.1
  simp only [fitA, fitO]
  split <;> omega
theorem fit_B {a : Ask} (h : a.ok) : IsB (fitA a).key := fun x hx => h.2.1 x (List.mem_of_mem_take hx)
theorem clampI_bd (n : Int) : 0 ≤ clampI n ∧ clampI n ≤ 4611686018427387903 := by unfold clampI; omega
theorem fnd_look {xs : List Cel} {pol : Int} {key : List Int} : (0 ≤ fndI xs pol key ↔ look xs (pol :: key) ≠ none) := by
  have hp : ∀ c : Cel, (decide (c.pol = pol) && decide (c.key = key)) = true ↔ idn c = pol :: key := fun c => by simp [idn]
  have hle := fst_le (fun c => decide (c.pol = pol) && decide (c.key = key)) xs
  unfold fndI
  constructor
  · intro h
    split at h
    · rename_i hlt
      have := fst_hit _ xs hlt
      rw [hp] at this
      intro e
      exact look_none.1 e _ (getD_mem hlt) this
    · omega
  · intro h
    rw [if_pos]
    · omega
    · refine Classical.byContradiction fun hn => h (look_none.2 fun c hc e => ?_)
      obtain ⟨k, hk, rfl⟩ := List.getElem_of_mem hc
      have := fst_spec (fun c => decide (c.pol = pol) && decide (c.key = key)) xs k (by omega)
      rw [getD_get hk] at this
      have h2 := (hp xs[k]).2 e
      rw [h2] at this; cases this
theorem isB_nil : IsB [] := fun x hx => by simp at hx
theorem new4096 : newE tab 4096 = 0 := rfl
@[reducible] def apH (xs ys : List Cel) : List (Nat × Option Blk) :=
  [(0, some (.cells [.d (slOf 4 Pol.D tab), .i .i64 4096, .sl 1 4 0 xs.length])), (1, some (rowOf 73 4 Cel.D xs)), (2, some (.cells [.d (slOf 4 Pol.D tab), .i .i64 4096, .sl 3 4 0 ys.length])), (3, some (rowOf 73 4 Cel.D ys))]
end Go.Proofs.Ytkdolemhhihidaa

namespace Go.Proofs.Ytkdolemhhihidaa
open Go.ChangeShapes Go.WideShapes Go.ChangeAt Go.RowKit

@[reducible] def shAsk : List Sh := [.int .u8, .int .i64, .sl 1 [.int .u8], .int .i64, .int .i64, .int .i64]
theorem fit_ask {ds : List D} (h : FitL shAsk ds) : ∃ a : Ask, LsLe ds a.D ∧ a.ok := by
  obtain ⟨d0, r0, rfl, h0, t0⟩ := fit_cons h
  obtain ⟨d1, r1, rfl, h1, t1⟩ := fit_cons t0
  obtain ⟨d2, r2, rfl, h2, t2⟩ := fit_cons t1
  obtain ⟨d3, r3, rfl, h3, t3⟩ := fit_cons t2
  obtain ⟨d4, r4, rfl, h4, t4⟩ := fit_cons t3
  obtain ⟨d5, r5, rfl, h5, t5⟩ := fit_cons t4
  obtain rfl := fit_nil t5
  obtain ⟨n0, rfl, w0⟩ := fit_int h0
  obtain ⟨n1, rfl, w1⟩ := fit_int h1
  obtain ⟨key, le, _, w2⟩ := fit_ints h2
  obtain ⟨n3, rfl, w3⟩ := fit_int h3
  obtain ⟨n4, rfl, w4⟩ := fit_int h4
  obtain ⟨n5, rfl, w5⟩ := fit_int h5
  exact ⟨⟨n0, n1, key, n3, n4, n5⟩, .cons (.rfl _) (.cons (.rfl _) (.cons le (.cons (.rfl _) (.cons (.rfl _) (.cons (.rfl _) .nil))))), wf_u8 w0, fun x hx => wf_u8 (w2 x hx), wf_i64 w1, wf_i64 w3, wf_i64 w4, wf_i64 w5⟩
theorem LsLe.agg {ds ds' : List D} (h : LsLe ds ds') : SV.Le (.agg (ds.map SV.d)) (.agg (ds'.map SV.d)) := by
  refine SV.Le.agg ⟨by simp [h.len], fun j hx hy => ?_⟩
  rw [List.getElem_map, List.getElem_map]
  exact (h.out j _ _ (List.getElem?_eq_getElem _) (List.getElem?_eq_getElem _)).sv
/-- a script -/
theorem argScript {H : Type} {enc : TypeId × Value → H} {W : World} {v : Value} {d : DataW H} {p : List MemPlace} (h : DataW.Trod enc Try.prog W 0 (fun _ => true) true 33 v d p) (hv : v.cells.toList = [v]) :
    ∃ script : List Ask, (∀ a ∈ script, a.ok) ∧ ∀ E : Env, E.Im = (fun b => b < W.heap.size) → RS E 0 W (.d (slOf 6 Ask.D script)) v := by
  obtain ⟨x, f, g⟩ := arg1 h (s := .sl 6 shAsk) (by kernel_rfl) hv
  obtain ⟨script, le, _, hok⟩ := fit_list f fun ds hd => fit_ask hd
  exact ⟨script, hok, fun E hE => .d _ _ (by rw [hE]; exact le.out _ _ _ g)⟩
end Go.Proofs.Ytkdolemhhihidaa
