/- Lemmas of Br2, Br3a, Pl1, Pl2, Pl3, Pl4, Hi1, Hi2, Sx23, Sx29, Sx31, Hi3, Rc1. No condition. -/
import Derived.Test.YtpdhdnhkhidmpaaMI7
import Derived.JoinedCond
import Derived.WideWitness
import Derived.Test.YtpdhdnhkhidmpaaRows
set_option linter.unusedVariables false
set_option linter.unusedSimpArgs false
set_option maxHeartbeats 80000000
set_option maxRecDepth 100000
namespace Go.Proofs.Ytpdhdnhkhidmpaa
open Go.RowKit
section
open Go.ChangeShapes Go.WideShapes Go.ChangeAt Go.RowKit
section
variable {H : Type} {enc : TypeId × Value → H} {P : Program}
theorem jL {w w' : World} {base : Nat} {sp : Nat → Bool} {hd : Bool} : ∀ {ts : List TypeId} {vs : List Value} {ds : List (DataW H)} {ps : List MemPlace}, DataW.TrodAll enc P w base sp hd ts vs ds ps → (∀ p ∈ ps, w.sameAt w' p) → DataW.TrodAll enc P w' base sp hd ts vs ds ps
  | [], [], [], _, h, _ => h
  | t :: ts, v :: vs, d :: ds, ps, ⟨p, q, ⟨n, h1⟩, h2, e⟩, hs => ⟨p, q, ⟨n, DataW.trod_carry n _ _ _ h1 fun x hx => hs x (by rw [e]; exact List.mem_append_left _ hx)⟩, jL h2 fun x hx => hs x (by rw [e]; exact List.mem_append_right _ hx), e⟩
theorem kept_of {w w' : World} (h : Kp w w') (may : MemPlace → Prop) : w.keptBut w' may := by
  refine ⟨h.os, h.output, fun i hi => ?_⟩
  have hb := h.block i hi
  rw [hb]
  rcases hq : w.heap[i]? with _ | o
  · simp
  · cases o <;> simp
theorem kS {T : TypeId → Prop} (K : Kids P T) (hz : ∀ t e, T t → P.underlying t = some (.slice e) → 0 < P.cellsOf e) {f : Func} {s : ChangeSpec} {W W' : World} {args : Array Value} {ds gs : List (DataW H)} {before : List MemPlace} {tb : TypeId}
    (hT : ∀ t ∈ f.params.toList, T t) (hvars : s.vars = []) (hr : f.resultTypes = #[tb]) (hb : P.underlying tb = some .bool)
    (hfn : gs = [] → (s.fn H (ds ++ gs)).results = [.lit (.bool true)] ∧ (s.fn H (ds ++ gs)).args = ds ∧ (s.fn H (ds ++ gs)).vars = [])
    (hW : DataW.Whole enc P f.params.toList s.vars false W args.toList ds gs before) (hk : Kp W W') : s.post enc P f false true false false W args (.bool true) W' := by
  have hW0 := hW
  obtain ⟨p, q, hA, hV, rfl, hfz, _⟩ := hW
  rw [hvars] at hV
  have hgs : gs = [] ∧ q = [] := by
    cases gs with
    | nil => exact ⟨rfl, hV⟩
    | cons x r => exact hV.elim
  obtain ⟨rfl, rfl⟩ := hgs
  obtain ⟨h1, h2, h3⟩ := hfn rfl
  have hlt := hW0.lt
  have hsame : ∀ x ∈ p, W.sameAt W' x := fun x hx => by
    have hb := hk.block x.block (hlt x (by simpa using hx))
    cases x with
    | cell b o => exact World.cell?_of_block hb
    | map b => exact hb
  have hA' := jL hA hsame
  refine ⟨ds, [], p ++ [], [], p, [], hW0, ?_, ?_, ?_, kept_of hk _, fun h => by cases h⟩
  · rw [h1, hr]
    exact ⟨[], [], shut_bool hb true, rfl, rfl⟩
  · rw [h2]
    exact DataW.TrodAll.respare K hz hT hA' fun x hx => by simpa using hlt x (by simpa using hx)
  · rw [h3, hvars]; rfl
end
end
section
open Go.ChangeShapes Go.WideShapes Go.ChangeAt Go.RowKit
theorem own : ownKnob Try.prog.godebug = none := by kernel_rfl
theorem kids : Kids Try.prog (· < Try.prog.types.size) := kids_rows (by kernel_rfl) (by kernel_rfl)
theorem full : ∀ t e, t < Try.prog.types.size → Try.prog.underlying t = some (.slice e) → 0 < Try.prog.cellsOf e := slices_full_of Try.prog (by kernel_rfl)
def shI (k : IntKind) (n : Int) : Prop := (Lit.int k n).wf = true
theorem cK {k : IntKind} {d : D} (h : mb (.int k) d) : ∃ n, d = .val (.int k n) ∧ shI k n := by cases h with | int h => exact ⟨_, rfl, h⟩
theorem qD {z : Nat} {es : List Sh} {d : D} (h : mb (.sl z es) d) : ∃ n f, d = .sl z n f ∧ n ≤ maxLen ∧ ∀ i, i < n → eJ es (f i) := by cases h with | sl hn h => exact ⟨_, _, rfl, hn, h⟩
theorem bm {s : Sh} {ss : List Sh} {ds : List D} (h : eJ (s :: ss) ds) : ∃ d r, ds = d :: r ∧ mb s d ∧ eJ ss r := by cases h with | cons h t => exact ⟨_, _, rfl, h, t⟩
theorem iq {ds : List D} (h : eJ [] ds) : ds = [] := by cases h; rfl
theorem lG {n : Int} (h : shI .u8 n) : 0 ≤ n ∧ n ≤ 255 := by simpa [shI, Lit.wf, IntKind.min, IntKind.max, IntKind.signed, IntKind.bits] using h
theorem iM {n : Int} (h : shI .i64 n) : -9223372036854775808 ≤ n ∧ n ≤ 9223372036854775807 := by simpa [shI, Lit.wf, IntKind.min, IntKind.max, IntKind.signed, IntKind.bits] using h
structure TLe (d d' : D) : Prop where
  out : ∀ w Im v, RD w Im d v → RD w Im d' v
theorem TLe.rfl (d : D) : TLe d d := ⟨fun _ _ _ h => h⟩
theorem TLe.sv {d d' : D} (h : TLe d d') : SV.Le (.d d) (.d d') := ⟨fun E nx w v hv => by cases hv with | d _ _ hv => exact .d _ _ (h.out _ _ _ hv)⟩
structure mh (ds ds' : List D) : Prop where
  len : ds.length = ds'.length
  out : ∀ (j : Nat) (d d' : D), ds[j]? = some d → ds'[j]? = some d' → TLe d d'
theorem mh.nil : mh [] [] := ⟨_root_.rfl, fun j d d' h => by simp at h⟩
theorem mh.cons {d d' : D} {ds ds' : List D} (h : TLe d d') (t : mh ds ds') : mh (d :: ds) (d' :: ds') :=
  ⟨by simp [t.len], fun j x y hx hy => by
    cases j with
    | zero => simp at hx hy; subst hx hy; exact h
    | succ j => simp at hx hy; exact t.out j x y hx hy⟩
theorem TLe.sl {z n : Nat} {f g : Nat → List D} (h : ∀ i, i < n → mh (f i) (g i)) : TLe (.sl z n f) (.sl z n g) := by
  refine ⟨fun w Im v hv => ?_⟩
  cases hv with
  | sl _ _ _ a cap gv hc hm hl ha hg =>
    refine .sl z n g a cap gv hc hm (fun i hi => by rw [← (h i hi).len]; exact hl i hi) ha fun i j hi hj => ?_
    have hj' : j < (f i).length := by rw [(h i hi).len]; exact hj
    exact ((h i hi).out j _ _ (Q0 hj') (Q0 hj)).out _ _ _ (hg i j hi hj')
theorem m9 {α : Type} [Inhabited α] {enc : α → List D} {p : α → Prop} {n : Nat} {f : Nat → List D} (h : ∀ i, i < n → ∃ x, mh (f i) (enc x) ∧ p x) : ∃ xs : List α, xs.length = n ∧ (∀ i, i < n → mh (f i) (enc (xs.getD i default))) ∧ ∀ x ∈ xs, p x := by
  induction n with
  | zero => exact ⟨[], rfl, fun i hi => by omega, fun x hx => by simp at hx⟩
  | succ n ih =>
    obtain ⟨xs, h1, h2, h3⟩ := ih fun i hi => h i (by omega)
    obtain ⟨x, h4, h5⟩ := h n (by omega)
    refine ⟨xs ++ [x], by simp [h1], fun i hi => ?_, fun y hy => ?_⟩
    · by_cases hin : i < n
      · have := h2 i hin
        rw [show (xs ++ [x]).getD i default = xs.getD i default by simp [List.getD, Q11 (show i < xs.length by omega)]]
        exact this
      · obtain rfl : i = n := by omega
        rw [show (xs ++ [x]).getD i default = x by simp [List.getD, h1]]
        exact h4
    · rcases List.mem_append.1 hy with hy | hy
      · exact h3 y hy
      · simp at hy; subst hy; exact h5
theorem la {α : Type} [Inhabited α] {enc : α → List D} {p : α → Prop} {z : Nat} {es : List Sh} {d : D} (h : mb (.sl z es) d) (hp : ∀ ds, eJ es ds → ∃ x, mh ds (enc x) ∧ p x) :
    ∃ xs : List α, TLe d (ap z enc xs) ∧ xs.length ≤ maxLen ∧ ∀ x ∈ xs, p x := by
  obtain ⟨n, f, rfl, hn, hf⟩ := qD h
  obtain ⟨xs, h1, h2, h3⟩ := m9 (enc := enc) (p := p) fun i hi => hp _ (hf i hi)
  subst h1
  exact ⟨xs, TLe.sl fun i hi => h2 i hi, hn, h3⟩
theorem lc {k : IntKind} {d : D} (h : mb (.sl 1 [.int k]) d) : ∃ xs : List Int, TLe d (ap 1 (aQ k) xs) ∧ xs.length ≤ maxLen ∧ ∀ x ∈ xs, shI k x :=
  la h fun ds hd => by
    obtain ⟨d, r, rfl, h1, h2⟩ := bm hd
    obtain ⟨n, rfl, hn⟩ := cK h1
    obtain rfl := iq h2
    exact ⟨n, .cons (.rfl _) .nil, hn⟩
theorem arg1 {H : Type} {enc : TypeId × Value → H} {W : World} {t : TypeId} {v : Value} {d : DataW H} {p : List MemPlace} {s : Sh} (h : DataW.Trod enc Try.prog W 0 (fun _ => true) true t v d p) (hs : shT Try.prog 8 t = some [s]) (hv : v.cells.toList = [v]) :
    ∃ x, mb s x ∧ RD W (fun b => b < W.heap.size) x v := by
  obtain ⟨n, h⟩ := h
  obtain ⟨ds, h1, h2⟩ := qr 8 n t _ _ _ h hs
  obtain ⟨x, r, rfl, h3, h4⟩ := bm h1
  obtain rfl := iq h4
  rw [hv] at h2
  exact ⟨x, h3, h2.out 0 x v rfl rfl⟩
end
theorem aZ : ∀ a : List Int, cm a a = 0
  | [] => rfl
  | x :: r => by simp only [cm]; rw [if_neg (by omega), if_neg (by omega)]; exact aZ r
theorem ix : ∀ {a b : List Int}, cm a b = 0 → a = b
  | [], [], _ => rfl
  | [], _ :: _, h => by simp [cm] at h
  | _ :: _, [], h => by simp [cm] at h
  | x :: a, y :: b, h => by
    simp only [cm] at h
    split at h
    · omega
    · split at h
      · omega
      · rw [ix h, show x = y by omega]
theorem jB : ∀ a b : List Int, cm b a = - cm a b
  | [], [] => rfl
  | [], _ :: _ => rfl
  | _ :: _, [] => rfl
  | x :: a, y :: b => by
    simp only [cm]
    by_cases h1 : x < y
    · rw [if_neg (by omega), if_pos h1, if_pos h1]; rfl
    · by_cases h2 : y < x
      · rw [if_pos h2, if_neg h1, if_pos h2]
      · rw [if_neg h2, if_neg h1, if_neg h1, if_neg h2]; exact jB a b
theorem da : ∀ {a b c : List Int}, cm a b < 0 → cm b c < 0 → cm a c < 0
  | [], [], _, h, _ => by simp [cm] at h
  | [], _ :: _, [], _, h => by simp [cm] at h
  | [], _ :: _, _ :: _, _, _ => by simp [cm]
  | _ :: _, [], _, h, _ => by simp [cm] at h
  | _ :: _, _ :: _, [], _, h => by simp [cm] at h
  | x :: a, y :: b, z :: c, h1, h2 => by
    simp only [cm] at h1 h2 ⊢
    by_cases e1 : x < y
    · by_cases e2 : y < z
      · rw [if_pos (by omega)]; omega
      · by_cases e3 : z < y
        · rw [if_neg e2, if_pos e3] at h2; omega
        · rw [if_pos (by omega)]; omega
    · by_cases e2 : y < x
      · rw [if_neg e1, if_pos e2] at h1; omega
      · rw [if_neg e1, if_neg e2] at h1
        by_cases e3 : y < z
        · rw [if_pos (by omega)]; omega
        · by_cases e4 : z < y
          · rw [if_neg e3, if_pos e4] at h2; omega
          · rw [if_neg e3, if_neg e4] at h2
            rw [if_neg (by omega), if_neg (by omega)]
            exact da h1 h2
def idn (c : Cel) : List Int := c.pol :: c.key
def kL (pol : Int) (key : List Int) : Prop := 0 ≤ pol ∧ pol < 32 ∧ key.length ≤ 255
theorem jk {pol : Int} {key : List Int} (h : kL pol key) : aT pol key = pol :: key := by
  obtain ⟨h1, h2, h3⟩ := h
  rw [aT, if_pos (by rw [bk, if_neg (by omega), if_neg (by omega)])]
theorem hY {a b : Cel} (ha : kL a.pol a.key) (hb : kL b.pol b.key) : lR a b = cm (idn a) (idn b) := by
  rw [lR, jk ha, jk hb]; rfl
theorem iz {lt : Nat → Bool} {n : Nat} (mono : ∀ i j, i ≤ j → j < n → lt j = true → lt i = true) : ∀ (q i j : Nat), i ≤ j → j ≤ n → j - i < q → (∀ k, k < i → lt k = true) → (∀ k, j ≤ k → k < n → lt k = false) →
    (∀ k, k < bsF lt q i j → lt k = true) ∧ ∀ k, bsF lt q i j ≤ k → k < n → lt k = false
  | 0, i, j, _, _, h, _, _ => by omega
  | q + 1, i, j, h1, h2, h3, h4, h5 => by
    unfold bsF
    by_cases hij : i < j
    · rw [if_pos hij]
      by_cases hl : lt ((i + j) / 2) = true
      · rw [if_pos hl]
        exact iz mono q _ _ (by omega) h2 (by omega) (fun k hk => mono k ((i + j) / 2) (by omega) (by omega) hl) h5
      · rw [if_neg hl]
        refine iz mono q _ _ (by omega) (by omega) (by omega) h4 (fun k hk hkn => ?_)
        cases hlk : lt k with
        | false => rfl
        | true => exact absurd (mono _ k hk hkn hlk) hl
    · rw [if_neg hij]
      exact ⟨h4, fun k hk hkn => h5 k (by omega) hkn⟩
theorem nO {lt : Nat → Bool} {n : Nat} (mono : ∀ i j, i ≤ j → j < n → lt j = true → lt i = true) : (∀ k, k < bs lt n → lt k = true) ∧ ∀ k, bs lt n ≤ k → k < n → lt k = false :=
  iz mono (n + 1) 0 n (Nat.zero_le _) (Q4 _) (by omega) (fun k hk => by omega) (fun k hk hkn => by omega)
structure Srt (xs : List Cel) : Prop where
  ok : ∀ c ∈ xs, kL c.pol c.key
  lt : xs.Pairwise fun a b => cm (idn a) (idn b) < 0
theorem c6 {xs : List Cel} {k : Nat} (h : k < xs.length) : xs.getD k default ∈ xs := by
  rw [Q1, Q0 h]; exact Q14 h
theorem bP {xs : List Cel} {k : Nat} (h : k < xs.length) : xs.getD k default = xs[k] := by
  rw [Q1, Q0 h]; rfl
theorem Srt.at {xs : List Cel} (h : Srt xs) {i j : Nat} (hij : i < j) (hj : j < xs.length) : cm (idn (xs.getD i default)) (idn (xs.getD j default)) < 0 := by
  rw [bP hj, bP (show i < xs.length by omega)]
  exact List.pairwise_iff_getElem.1 h.lt i j (by omega) hj hij
theorem kK {xs : List Cel} (h : Srt xs) {t : Cel} (ht : kL t.pol t.key) : aV xs t ≤ xs.length ∧ (∀ k, k < aV xs t → cm (idn (xs.getD k default)) (idn t) < 0) ∧ ∀ k, aV xs t ≤ k → k < xs.length → ¬ cm (idn (xs.getD k default)) (idn t) < 0 := by
  have hle : aV xs t ≤ xs.length := jZ xs t
  have hord : ∀ k, k < xs.length → lR (xs.getD k default) t = cm (idn (xs.getD k default)) (idn t) := fun k hk => hY (h.ok _ (c6 hk)) ht
  have := nO (lt := fun k => decide (lR (xs.getD k default) t < 0)) (n := xs.length) (fun i j hij hj hlt => by
    simp only [decide_eq_true_eq] at hlt ⊢
    rw [hord j hj] at hlt
    rw [hord i (by omega)]
    by_cases e : i = j
    · subst e; exact hlt
    · exact da (h.at (by omega) hj) hlt)
  refine ⟨hle, fun k hk => ?_, fun k hk hkn => ?_⟩
  · have := this.1 k hk
    simp only [decide_eq_true_eq] at this
    rw [hord k (by omega)] at this; exact this
  · have := this.2 k hk hkn
    simp only [decide_eq_false_iff_not] at this
    rw [hord k hkn] at this; exact this
def look (xs : List Cel) (i : List Int) : Option Cel := xs.find? fun c => decide (idn c = i)
theorem bi {xs : List Cel} {i : List Int} {c : Cel} (h : look xs i = some c) : c ∈ xs ∧ idn c = i := by
  unfold look at h
  exact ⟨List.mem_of_find?_eq_some h, by simpa using List.find?_some h⟩
theorem Srt.uniq {xs : List Cel} (h : Srt xs) {a b : Cel} (ha : a ∈ xs) (hb : b ∈ xs) (e : idn a = idn b) : a = b := by
  obtain ⟨i, hi, rfl⟩ := List.getElem_of_mem ha
  obtain ⟨j, hj, rfl⟩ := List.getElem_of_mem hb
  have hp := List.pairwise_iff_getElem.1 h.lt
  rcases Nat.lt_trichotomy i j with hlt | rfl | hlt
  · have := hp i j hi hj hlt; rw [e, aZ] at this; omega
  · rfl
  · have := hp j i hj hi hlt; rw [e, aZ] at this; omega
theorem Srt.look_of {xs : List Cel} (h : Srt xs) {c : Cel} (hc : c ∈ xs) : look xs (idn c) = some c := by
  cases hl : look xs (idn c) with
  | none => unfold look at hl; rw [List.find?_eq_none] at hl; exact absurd (by simp) (hl c hc)
  | some d => obtain ⟨h1, h2⟩ := bi hl; rw [h.uniq h1 hc h2]
theorem i4 {xs : List Cel} {i : List Int} : look xs i = none ↔ ∀ c ∈ xs, idn c ≠ i := by unfold look; rw [List.find?_eq_none]; simp
theorem ik {xs : List Cel} (h : Srt xs) {t : Cel} (ht : kL t.pol t.key) : (bG xs t = true → look xs (idn t) = some (xs.getD (aV xs t) default)) ∧ (bG xs t = false → look xs (idn t) = none) := by
  obtain ⟨h1, h2, h3⟩ := kK h ht
  constructor
  · intro hh
    obtain ⟨p1, p2⟩ := (eA _ _).1 hh
    rw [hY (h.ok _ (c6 p1)) ht] at p2
    rw [← ix p2]
    exact h.look_of (c6 p1)
  · intro hh
    rw [i4]
    intro c hc e
    obtain ⟨k, hk, rfl⟩ := List.getElem_of_mem hc
    rw [← bP hk] at e
    have h9 : ¬ k < aV xs t := fun hlt => by have := h2 k hlt; rw [e, aZ] at this; omega
    by_cases hkp : k = aV xs t
    · subst hkp
      have : bG xs t = true := (eA _ _).2 ⟨hk, by rw [hY (h.ok _ (c6 hk)) ht, e, aZ]⟩
      rw [this] at hh; cases hh
    · have := h3 (aV xs t) (Q4 _) (by omega)
      have h8 := h.at (show aV xs t < k by omega) hk
      rw [e] at h8
      exact this h8
theorem ng {xs : List Cel} (h : Srt xs) {t : Cel} (ht : kL t.pol t.key) : bG xs t = (look xs (idn t)).isSome := by
  obtain ⟨h1, h2⟩ := ik h ht
  cases hh : bG xs t with
  | true => rw [h1 hh]; rfl
  | false => rw [h2 hh]; rfl
theorem nv {xs : List Cel} (h : Srt xs) {pol : Int} {key : List Int} (ht : kL pol key) : bf xs pol key = (look xs (pol :: key)).getD (aw pol key) := by
  obtain ⟨h1, h2⟩ := ik h (t := aw pol key) ht
  unfold bf
  by_cases hh : bG xs (aw pol key) = true
  · rw [if_pos hh]; have := h1 hh; rw [show idn (aw pol key) = pol :: key from rfl] at this; rw [this]; rfl
  · rw [if_neg hh]; have := h2 (by simpa using hh); rw [show idn (aw pol key) = pol :: key from rfl] at this; rw [this]; rfl
theorem cu {xs : List Cel} (h : Srt xs) {i : List Int} {d : Cel} : look xs i = some d ↔ d ∈ xs ∧ idn d = i :=
  ⟨bi, fun ⟨h1, h2⟩ => by rw [← h2]; exact h.look_of h1⟩
theorem j6 {α : Type} {a b : Option α} (h : ∀ d, a = some d ↔ b = some d) : a = b := by
  cases a with
  | none => cases b with
    | none => rfl
    | some d => have := (h d).2 rfl; cases this
  | some d => exact ((h d).1 rfl).symm
theorem Srt.ids {xs : List Cel} (h : Srt xs) : (xs.map idn).Pairwise fun a b => cm a b < 0 := by rw [List.pairwise_map]; exact h.lt
theorem set_mem {xs : List Cel} (h : Srt xs) {p : Nat} {c : Cel} (hp : p < xs.length) (e : idn (xs.getD p default) = idn c) (d : Cel) : d ∈ xs.set p c ↔ d = c ∨ (d ∈ xs ∧ idn d ≠ idn c) := by
  rw [bP hp] at e
  constructor
  · intro hd
    obtain ⟨k, hk, rfl⟩ := List.getElem_of_mem hd
    rw [List.length_set] at hk
    rw [List.getElem_set]
    by_cases hkp : p = k
    · rw [if_pos hkp]; exact Or.inl rfl
    · rw [if_neg hkp]
      refine Or.inr ⟨Q14 hk, fun e2 => ?_⟩
      have hp2 := List.pairwise_iff_getElem.1 h.lt
      rw [← e] at e2
      rcases Nat.lt_or_gt_of_ne hkp with hlt | hlt
      · have := hp2 p k hp hk hlt; rw [e2, aZ] at this; omega
      · have := hp2 k p hk hp hlt; rw [e2, aZ] at this; omega
  · rintro (rfl | ⟨h1, h2⟩)
    · exact List.mem_set hp _
    · obtain ⟨k, hk, rfl⟩ := List.getElem_of_mem h1
      have hkp : ¬ p = k := fun e2 => by subst e2; exact h2 e
      have : (xs.set p c)[k]'(by rw [List.length_set]; exact hk) = xs[k] := by rw [List.getElem_set, if_neg hkp]
      rw [← this]; exact Q14 _
theorem gN {xs : List Cel} (h : Srt xs) {t c : Cel} (hc : kL c.pol c.key) (e : idn c = idn t) :
    Srt (cC xs (aV xs t) (bG xs t) c) ∧ (∀ d, d ∈ cC xs (aV xs t) (bG xs t) c ↔ d = c ∨ (d ∈ xs ∧ idn d ≠ idn c)) ∧ (cC xs (aV xs t) (bG xs t) c).length = if bG xs t = true then xs.length else xs.length + 1 := by
  have ht : kL t.pol t.key := by
    have e1 : c.pol = t.pol := by have := e; simp only [idn, List.cons.injEq] at this; exact this.1
    have e2 : c.key = t.key := by have := e; simp only [idn, List.cons.injEq] at this; exact this.2
    rw [← e1, ← e2]; exact hc
  obtain ⟨h1, h2, h3⟩ := kK h ht
  cases hh : bG xs t with
  | true =>
    obtain ⟨p1, p2⟩ := (eA _ _).1 hh
    rw [hY (h.ok _ (c6 p1)) ht] at p2
    have p3 : idn (xs.getD (aV xs t) default) = idn c := by rw [ix p2, e]
    have hm := set_mem h p1 p3
    simp only [cC, if_true]
    refine ⟨⟨fun d hd => ?_, ?_⟩, hm, List.length_set ..⟩
    · rcases (hm d).1 hd with rfl | ⟨hd, _⟩
      · exact hc
      · exact h.ok d hd
    · rw [← List.pairwise_map (f := idn) (R := fun a b => cm a b < 0), List.map_set, ← p3]
      have : (xs.map idn).set (aV xs t) (idn (xs.getD (aV xs t) default)) = xs.map idn := by
        rw [bP p1]
        have : idn xs[aV xs t] = (xs.map idn)[aV xs t]'(by simpa using p1) := by simp
        rw [this]; exact List.set_getElem_self _
      rw [this]; exact h.ids
  | false =>
    simp only [cC, Bool.false_eq_true, if_false]
    have hn := i4.1 ((ik h ht).2 hh)
    have hge : ∀ k, aV xs t ≤ k → k < xs.length → cm (idn c) (idn (xs.getD k default)) < 0 := fun k hk hkn => by
      have h9 := h3 k hk hkn
      have h8 := jB (idn (xs.getD k default)) (idn t)
      rw [e, h8]
      have h7 : cm (idn (xs.getD k default)) (idn t) ≠ 0 := fun h0 => hn _ (c6 hkn) (ix h0)
      omega
    have hm : ∀ d, d ∈ bF xs (aV xs t) c ↔ d = c ∨ (d ∈ xs ∧ idn d ≠ idn c) := fun d => by
      have hx : d ∈ bF xs (aV xs t) c ↔ d = c ∨ d ∈ xs := by
        unfold bF
        rw [List.mem_append, List.mem_append, List.mem_singleton]
        constructor
        · rintro ((h | h) | h)
          · exact Or.inr (List.mem_of_mem_take h)
          · exact Or.inl h
          · exact Or.inr (List.mem_of_mem_drop h)
        · rintro (h | h)
          · exact Or.inl (Or.inr h)
          · rw [← List.take_append_drop (aV xs t) xs] at h
            rcases List.mem_append.1 h with h | h
            · exact Or.inl (Or.inl h)
            · exact Or.inr h
      rw [hx]
      constructor
      · rintro (h | h)
        · exact Or.inl h
        · exact Or.inr ⟨h, by rw [e]; exact hn d h⟩
      · rintro (h | ⟨h, _⟩)
        · exact Or.inl h
        · exact Or.inr h
    refine ⟨⟨fun d hd => ?_, ?_⟩, hm, aJ _ _ _ h1⟩
    · rcases (hm d).1 hd with rfl | ⟨hd, _⟩
      · exact hc
      · exact h.ok d hd
    · unfold bF
      rw [List.append_assoc, List.pairwise_append]
      have hpt : (xs.take (aV xs t)).Pairwise fun a b => cm (idn a) (idn b) < 0 := h.lt.sublist (List.take_sublist _ _)
      have hpd : (xs.drop (aV xs t)).Pairwise fun a b => cm (idn a) (idn b) < 0 := h.lt.sublist (List.drop_sublist _ _)
      have htl : ∀ a ∈ xs.take (aV xs t), cm (idn a) (idn c) < 0 := fun a ha => by
        obtain ⟨k, hk, rfl⟩ := List.getElem_of_mem ha
        rw [Q10] at hk
        rw [List.getElem_take, ← bP (show k < xs.length by omega), e]
        exact h2 k (by omega)
      have hdl : ∀ b ∈ xs.drop (aV xs t), cm (idn c) (idn b) < 0 := fun b hb => by
        obtain ⟨k, hk, rfl⟩ := List.getElem_of_mem hb
        rw [List.length_drop] at hk
        rw [List.getElem_drop, ← bP (show aV xs t + k < xs.length by omega)]
        exact hge _ (by omega) (by omega)
      refine ⟨hpt, ?_, fun a ha b hb => ?_⟩
      · rw [List.singleton_append, List.pairwise_cons]; exact ⟨hdl, hpd⟩
      · rw [List.singleton_append] at hb
        rcases Q22 hb with rfl | hb
        · exact htl a ha
        · exact da (htl a ha) (hdl b hb)
theorem mi {xs : List Cel} (h : Srt xs) {t c : Cel} (hc : kL c.pol c.key) (e : idn c = idn t) (i : List Int) : look (cC xs (aV xs t) (bG xs t) c) i = if i = idn c then some c else look xs i := by
  obtain ⟨h1, h2, _⟩ := gN h hc e
  refine j6 fun d => ?_
  rw [cu h1, h2]
  by_cases hi : i = idn c
  · rw [if_pos hi]
    constructor
    · rintro ⟨rfl | ⟨_, h4⟩, h5⟩
      · rfl
      · exact absurd (h5.trans hi) h4
    · intro h; cases h; exact ⟨Or.inl rfl, hi.symm⟩
  · rw [if_neg hi, cu h]
    constructor
    · rintro ⟨rfl | ⟨h3, _⟩, h5⟩
      · exact absurd h5.symm hi
      · exact ⟨h3, h5⟩
    · rintro ⟨h3, h5⟩; exact ⟨Or.inr ⟨h3, fun e2 => hi (h5.symm.trans e2)⟩, h5⟩
theorem Srt.filter {xs : List Cel} (h : Srt xs) (q : Cel → Bool) : Srt (xs.filter q) := ⟨fun c hc => h.ok c (List.mem_filter.1 hc).1, h.lt.filter _⟩
theorem fH {xs : List Cel} (h : Srt xs) (q : Cel → Bool) (i : List Int) : look (xs.filter q) i = (look xs i).filter q := by
  refine j6 fun d => ?_
  rw [cu (h.filter q), List.mem_filter, Option.filter_eq_some_iff, cu h]
  exact ⟨fun ⟨⟨a, b⟩, c⟩ => ⟨⟨a, c⟩, b⟩, fun ⟨⟨a, c⟩, b⟩ => ⟨⟨a, b⟩, c⟩⟩
theorem Srt.tail {c : Cel} {xs : List Cel} (h : Srt (c :: xs)) : Srt xs := ⟨fun d hd => h.ok d (by simp [hd]), (List.pairwise_cons.1 h.lt).2⟩
theorem mC : ∀ {xs ys : List Cel}, Srt xs → Srt ys → (∀ i, look xs i = look ys i) → xs = ys
  | [], [], _, _, _ => rfl
  | [], b :: s, _, h', e => by have := e (idn b); rw [h'.look_of (by simp)] at this; simp [look] at this
  | a :: r, [], h, _, e => by have := e (idn a); rw [h.look_of (by simp)] at this; simp [look] at this
  | a :: r, b :: s, h, h', e => by
    have ha : a ∈ b :: s := by have := e (idn a); rw [h.look_of (by simp)] at this; exact (bi this.symm).1
    have hb : b ∈ a :: r := by have := e (idn b); rw [h'.look_of (by simp)] at this; exact (bi this).1
    have hab : a = b := by
      rcases Q22 ha with h1 | h1
      · exact h1
      · rcases Q22 hb with h2 | h2
        · exact h2.symm
        · have p1 := (List.pairwise_cons.1 h'.lt).1 a h1
          have p2 := (List.pairwise_cons.1 h.lt).1 b h2
          have := da p1 p2
          rw [aZ] at this; omega
    subst hab
    congr 1
    refine mC h.tail h'.tail fun i => j6 fun d => ?_
    have e1 := e i
    rw [cu h.tail, cu h'.tail]
    have key : ∀ {zs : List Cel} (hz : Srt (a :: zs)), (d ∈ zs ∧ idn d = i) ↔ (look (a :: zs) i = some d ∧ i ≠ idn a) := fun {zs} hz => by
      rw [cu hz]
      constructor
      · rintro ⟨h1, h2⟩
        refine ⟨⟨by simp [h1], h2⟩, fun e2 => ?_⟩
        have := (List.pairwise_cons.1 hz.lt).1 d h1
        rw [h2, e2, aZ] at this; omega
      · rintro ⟨⟨h1, h2⟩, h3⟩
        rcases Q22 h1 with rfl | h1
        · exact absurd h2.symm h3
        · exact ⟨h1, h2⟩
    rw [key h, key h', e1]
section
theorem jM.mem {ps : List Pol} {xs : List Cel} (h : jM ps xs) {c : Cel} (hc : c ∈ xs) : (∀ b ∈ c.key, 0 ≤ b ∧ b ≤ 255) ∧ c.key.length ≤ 255 ∧ c.held.length ≤ 64 ∧ 0 ≤ c.pol ∧ c.pol < ps.length := by
  obtain ⟨k, hk, rfl⟩ := List.getElem_of_mem hc
  have e := bP hk
  refine ⟨?_, ?_, ?_, ?_⟩
  · have := h.byt k; rw [e] at this; exact this
  · have := h.key k; rw [e] at this; exact this
  · have := h.held k; rw [e] at this; exact this
  · have := h.pol k hk; rw [e] at this; exact this
structure fR (ps : List Pol) (room : Int) (xs : List Cel) : Prop where
  srt : Srt xs
  ok : jM ps xs
  le : (xs.length : Int) ≤ room
  rm : room ≤ 4096
  pl : ps.length ≤ 32
theorem fR.nil {ps : List Pol} {room : Int} (h0 : 0 ≤ room) (h1 : room ≤ 4096) (h2 : ps.length ≤ 32) : fR ps room [] :=
  ⟨⟨fun c hc => by simp at hc, .nil⟩, ok_of ⟨by simp, fun c hc => by simp at hc⟩, by simpa using h0, h1, h2⟩
theorem fR.len {ps : List Pol} {room : Int} {xs : List Cel} (h : fR ps room xs) : xs.length ≤ 4096 := by have := h.le; have := h.rm; omega
section
variable {ps : List Pol} {room : Int} {xs : List Cel} {op pol : Int} {key : List Int} {n now serial : Int}
theorem pQ (hE : bJ ps op pol key n now serial = 0) (hop : op < 5) : kL pol key ∧ pol < ps.length := by
  obtain ⟨_, _, _, h1, h2, _⟩ := fP hE
  have := h2 hop
  have := du h1
  exact ⟨⟨by omega, by omega, by omega⟩, by omega⟩
theorem one_idn {p : Pol} {c : Cel} : idn (dj p c op n now serial).2 = idn c := by
  unfold dj
  split
  · rfl
  · split
    · unfold iE idn; split <;> rfl
    · unfold iI idn; split <;> rfl
theorem pG {p : Pol} {c : Cel} (h : c.held.length ≤ 64) : (dj p c op n now serial).2.held.length ≤ 64 := by
  unfold dj
  split
  · exact h
  · split
    · unfold iE
      split
      · have := kw (by assumption : aU p.permits c.held serial = 0); simp only; omega
      · exact h
    · unfold iI
      split
      · have := kZ (by assumption : cI p.permits c.held n = 0); simp only; omega
      · exact h
def bB (p : Pol) (o : Option Cel) (op pol : Int) (key : List Int) (n now serial : Int) : Rpl × Option Cel :=
  if op = 4 then (dV p (o.getD (aw pol key)) now, none)
  else if (dj p (o.getD (aw pol key)) op n now serial).1.g = false ∨ (op = 1 ∧ n = 0) then ((dj p (o.getD (aw pol key)) op n now serial).1, none)
  else ((dj p (o.getD (aw pol key)) op n now serial).1, some (dj p (o.getD (aw pol key)) op n now serial).2)
theorem iv (h : fR ps room xs) (hE : bJ ps op pol key n now serial = 0) (hop : op < 5) :
    doS ps room xs op pol key n now serial = match (bB (ps.getD pol.toNat default) (look xs (pol :: key)) op pol key n now serial).2 with
      | none => ((bB (ps.getD pol.toNat default) (look xs (pol :: key)) op pol key n now serial).1, xs)
      | some c => if look xs (pol :: key) = none ∧ (xs.length : Int) = room then (qF 10, xs) else ((bB (ps.getD pol.toNat default) (look xs (pol :: key)) op pol key n now serial).1, cC xs (aV xs (aw pol key)) (bG xs (aw pol key)) c) := by
  obtain ⟨hid, _⟩ := pQ hE hop
  unfold doS
  rw [if_neg (fun h => h hE), if_neg (by omega), if_neg (by omega), nv h.srt hid]
  unfold bB
  by_cases h4 : op = 4
  · rw [if_pos h4, if_pos h4]
  · rw [if_neg h4, if_neg h4]
    unfold mc
    have hdz : (decide (op = 1 ∧ n = 0) = true) ↔ (op = 1 ∧ n = 0) := by simp
    generalize dj (ps.getD pol.toNat default) ((look xs (pol :: key)).getD (aw pol key)) op n now serial = q
    by_cases h1 : q.1.g = false ∨ (op = 1 ∧ n = 0)
    · rw [if_pos (h1.imp (fun h => h) hdz.2), if_pos h1]
    · rw [if_neg (fun h => h1 (h.imp (fun h => h) hdz.1)), if_neg h1]
      have hh : bG xs (aw pol key) = false ↔ look xs (pol :: key) = none := by
        have := ng h.srt (t := aw pol key) hid
        rw [this, show idn (aw pol key) = pol :: key from rfl]
        cases look xs (pol :: key) <;> simp
      show _ = if look xs (pol :: key) = none ∧ (xs.length : Int) = room then _ else _
      by_cases h9 : look xs (pol :: key) = none ∧ (xs.length : Int) = room
      · rw [if_pos ⟨hh.2 h9.1, h9.2⟩, if_pos h9]
      · rw [if_neg (fun h => h9 ⟨hh.1 h.1, h.2⟩), if_neg h9]
theorem iy {p : Pol} {o : Option Cel} {c : Cel} (ho : ∀ d, o = some d → idn d = pol :: key) (h : (bB p o op pol key n now serial).2 = some c) : idn c = pol :: key := by
  have hb : idn (o.getD (aw pol key)) = pol :: key := by
    cases o with
    | none => rfl
    | some d => exact ho d rfl
  unfold bB at h
  split at h
  · cases h
  · split at h
    · cases h
    · simp only [Option.some.injEq] at h; rw [← h, one_idn]; exact hb
theorem nM {p : Pol} {o : Option Cel} {c : Cel} (ho : ∀ d, o = some d → d.held.length ≤ 64) (h : (bB p o op pol key n now serial).2 = some c) : c.held.length ≤ 64 := by
  have hb : (o.getD (aw pol key)).held.length ≤ 64 := by
    cases o with
    | none => exact Nat.zero_le _
    | some d => exact ho d rfl
  unfold bB at h
  split at h
  · cases h
  · split at h
    · cases h
    · simp only [Option.some.injEq] at h; rw [← h]; exact pG hb
theorem ok_put (h : fR ps room xs) (hk : IsB key) (hE : bJ ps op pol key n now serial = 0) (hop : op < 5) {c : Cel} (hc : (bB (ps.getD pol.toNat default) (look xs (pol :: key)) op pol key n now serial).2 = some c) (hfull : ¬ (look xs (pol :: key) = none ∧ (xs.length : Int) = room)) :
    fR ps room (cC xs (aV xs (aw pol key)) (bG xs (aw pol key)) c) := by
  obtain ⟨hid, hpl⟩ := pQ hE hop
  have hidn : idn c = pol :: key := iy (fun d hd => (bi hd).2) hc
  have e1 : c.pol = pol ∧ c.key = key := by simpa [idn] using hidn
  have hheld : c.held.length ≤ 64 := nM (fun d hd => (h.ok.mem (bi hd).1).2.2.1) hc
  have hcid : kL c.pol c.key := by rw [e1.1, e1.2]; exact hid
  obtain ⟨s1, s2, s3⟩ := gN h.srt (t := aw pol key) hcid hidn
  have hlen : ((cC xs (aV xs (aw pol key)) (bG xs (aw pol key)) c).length : Int) ≤ room := by
    have hr := h.le
    rw [s3]
    split
    · exact hr
    · rename_i hh
      have h9 : look xs (pol :: key) = none := by
        have := ng h.srt (t := aw pol key) hid
        rw [show idn (aw pol key) = pol :: key from rfl] at this
        cases hl : look xs (pol :: key) with
        | none => rfl
        | some d => rw [this, hl] at hh; simp at hh
      have : ¬ (xs.length : Int) = room := fun e => hfull ⟨h9, e⟩
      push_cast
      omega
  refine ⟨s1, ok_of ⟨?_, fun d hd => ?_⟩, hlen, h.rm, h.pl⟩
  · have := h.rm; omega
  · rcases (s2 d).1 hd with rfl | ⟨hd, _⟩
    · rw [e1.1, e1.2]
      exact ⟨hk, hid.2.2, hheld, hid.1, hpl⟩
    · exact h.ok.mem hd
theorem nF (h : fR ps room xs) (hk : IsB key) : fR ps room (doS ps room xs op pol key n now serial).2 := by
  by_cases hE : bJ ps op pol key n now serial = 0
  · by_cases hop : op < 5
    · rw [iv h hE hop]
      cases hc : (bB (ps.getD pol.toNat default) (look xs (pol :: key)) op pol key n now serial).2 with
      | none => exact h
      | some c =>
        simp only
        split
        · exact h
        · exact ok_put h hk hE hop hc (by assumption)
    · unfold doS
      rw [if_neg (fun h => h hE)]
      have hb := (fP hE).2.2.1
      by_cases h5 : op = 5
      · rw [if_pos h5]
        refine ⟨h.srt.filter _, ok_of ⟨?_, fun d hd => h.ok.mem (List.mem_filter.1 hd).1⟩, ?_, h.rm, h.pl⟩
        · have := List.length_filter_le (fun c => !aN ps c now) xs
          have := h.len
          simp only [stay]; omega
        · have := List.length_filter_le (fun c => !aN ps c now) xs
          have := h.le
          simp only [stay]; omega
      · rw [if_neg h5, if_pos (by omega)]; exact h
  · unfold doS; rw [if_pos hE]; exact h
def aF (ps : List Pol) (o : Option Cel) (op pol : Int) (key : List Int) (n now serial : Int) : Rpl × Option Cel :=
  if bJ ps op pol key n now serial ≠ 0 then (qF (bJ ps op pol key n now serial), none) else bB (ps.getD pol.toNat default) o op pol key n now serial
theorem ek (h : fR ps room xs) (hop : op < 5) (hroom : (xs.length : Int) < room) :
    (doS ps room xs op pol key n now serial).1 = (aF ps (look xs (pol :: key)) op pol key n now serial).1 ∧
    (∀ i, look (doS ps room xs op pol key n now serial).2 i = if i = pol :: key then ((aF ps (look xs (pol :: key)) op pol key n now serial).2.or (look xs i)) else look xs i) ∧
    (doS ps room xs op pol key n now serial).2.length ≤ xs.length + 1 := by
  unfold aF
  by_cases hE : bJ ps op pol key n now serial = 0
  · rw [if_neg (fun h => h hE), iv h hE hop]
    obtain ⟨hid, _⟩ := pQ hE hop
    cases hc : (bB (ps.getD pol.toNat default) (look xs (pol :: key)) op pol key n now serial).2 with
    | none => exact ⟨rfl, fun i => by simp, by simp⟩
    | some c =>
      simp only
      rw [if_neg (fun h => by omega)]
      have hidn : idn c = pol :: key := iy (fun d hd => (bi hd).2) hc
      have e1 : c.pol = pol ∧ c.key = key := by simpa [idn] using hidn
      have hcid : kL c.pol c.key := by rw [e1.1, e1.2]; exact hid
      refine ⟨rfl, fun i => ?_, ?_⟩
      · rw [mi h.srt (t := aw pol key) hcid hidn, hidn]
        split <;> simp
      · rw [(gN h.srt (t := aw pol key) hcid hidn).2.2]
        split <;> omega
  · rw [if_pos hE]
    unfold doS
    rw [if_pos hE]
    exact ⟨rfl, fun i => by simp, by simp⟩
theorem p6 (hE : bJ ps 5 pol key n now serial = 0) : doS ps room xs 5 pol key n now serial = (⟨0, false, (xs.length : Int) - (stay ps now xs).length, 0, 0, now⟩, stay ps now xs) := by
  unfold doS; rw [if_neg (fun h => h hE), if_pos rfl]
theorem iU (h : Srt xs) (i : List Int) : look (stay ps now xs) i = (look xs i).filter fun c => !aN ps c now := fH h _ i
end
end
section
section
variable {ps : List Pol} {room : Int} {xs : List Cel} {op pol : Int} {key : List Int} {n now serial : Int}
end
end
section
section
variable {ps : List Pol} {room : Int} {xs ys : List Cel}
def Only (id : List Int) (xs ys : List Cel) : Prop := ∀ i, look ys i = if i = id then look xs i else none
theorem pF {id : List Int} (hy : Srt ys) (h : Only id xs ys) : ys.length ≤ 1 := by
  match ys, hy, h with
  | [], _, _ => simp
  | [_], _, _ => simp
  | a :: b :: r, hy, h =>
    exfalso
    have key : ∀ c ∈ a :: b :: r, idn c = id := fun c hc => by
      have h1 := hy.look_of hc
      rw [h] at h1
      split at h1
      · assumption
      · cases h1
    have h1 := key a (by simp)
    have h2 := key b (by simp)
    have := (List.pairwise_cons.1 hy.lt).1 b (by simp)
    rw [h1, h2, aZ] at this
    omega
theorem qH (h : fR ps room xs) {op pol n now serial : Int} {key : List Int} : (doS ps room xs op pol key n now serial).2.length ≤ xs.length + 1 := by
  by_cases hE : bJ ps op pol key n now serial = 0
  · by_cases hop : op < 5
    · rw [iv h hE hop]
      obtain ⟨hid, _⟩ := pQ hE hop
      cases hc : (bB (ps.getD pol.toNat default) (look xs (pol :: key)) op pol key n now serial).2 with
      | none => simp
      | some c =>
        simp only
        split
        · simp
        · exact mj (jZ _ _)
    · have hb := (fP hE).2.2.1
      by_cases h5 : op = 5
      · subst h5
        rw [p6 hE]
        have := List.length_filter_le (fun c => !aN ps c now) xs
        simp only [stay]; omega
      · unfold doS; rw [if_neg (fun h => h hE), if_neg h5, if_pos (by omega)]; simp
  · unfold doS; rw [if_pos hE]; simp
end
end
structure HD where
  who : Int
  op : Int
  pol : Int
  key : List Int
  n : Int
  first : Int
  last : Int
  r : Rpl
  deriving Inhabited
@[reducible] def HD.D (d : HD) : List D := [.val (.int .i64 d.who), .val (.int .u8 d.op), .val (.int .i64 d.pol), ap 1 (aQ .u8) d.key, .val (.int .i64 d.n), .val (.int .i64 d.first), .val (.int .i64 d.last), .val (.int .i64 d.r.e), .val (.bool d.r.g), .val (.int .i64 d.r.left), .val (.int .i64 d.r.wait), .val (.int .i64 d.r.serial), .val (.int .i64 d.r.now)]
@[reducible] def HD.S (d : HD) : SV := .agg [.i .i64 d.who, .i .u8 d.op, .i .i64 d.pol, .d (ap 1 (aQ .u8) d.key), .i .i64 d.n, .i .i64 d.first, .i .i64 d.last, .i .i64 d.r.e, .b d.r.g, .i .i64 d.r.left, .i .i64 d.r.wait, .i .i64 d.r.serial, .i .i64 d.r.now]
namespace Hist
def fL (d : HD) : Bool := if d.op = 1 then d.r.e != 10 else if d.op = 2 then d.r.e != 10 && d.r.e != 5 else d.op == 3 || d.op == 4
def ser (spare : Int) (d : HD) : Int := if d.r.serial = 0 then spare else d.r.serial
def doH (ps : List Pol) (spare : Int) (xs : List Cel) (d : HD) : Rpl × List Cel := doS ps 4096 xs d.op d.pol d.key d.n d.r.now (ser spare d)
def play (ps : List Pol) (spare : Int) (l : List HD) : List Cel := l.foldl (fun xs d => (doH ps spare xs d).2) []
def eqR (a b : Rpl) : Bool := a.e == b.e && (a.g == b.g && (a.left == b.left && (a.wait == b.wait && (a.serial == b.serial && a.now == b.now))))
theorem nC {a b : Rpl} : eqR a b = true ↔ a = b := by
  obtain ⟨a1, a2, a3, a4, a5, a6⟩ := a
  obtain ⟨b1, b2, b3, b4, b5, b6⟩ := b
  simp [eqR, and_assoc]
def jN (ps : List Pol) (spare : Int) (done : List HD) (d : HD) : Bool := eqR (doH ps spare (play ps spare done) d).1 d.r
theorem dv (ps : List Pol) (spare : Int) (l : List HD) (d : HD) : play ps spare (l ++ [d]) = (doH ps spare (play ps spare l) d).2 := by
  unfold play; rw [List.foldl_append]; rfl
theorem mV {ps : List Pol} {spare : Int} : ∀ {l : List HD} {xs : List Cel}, fR ps 4096 xs → (∀ d ∈ l, IsB d.key) → fR ps 4096 (l.foldl (fun xs d => (doH ps spare xs d).2) xs)
  | [], _, h, _ => h
  | d :: l, _, h, hk => mV (l := l) (nF h (hk d (List.mem_cons_self ..))) fun e he => hk e (List.mem_cons_of_mem _ he)
theorem hU {ps : List Pol} (hp : ps.length ≤ 32) {spare : Int} {l : List HD} (h : ∀ d ∈ l, IsB d.key) : fR ps 4096 (play ps spare l) := mV (.nil (by decide) (by decide) hp) h
def lI (ps : List Pol) (l : List HD) (spare : Int) (left : Nat) (done : List HD) (i : Nat) : Bool := left.testBit i && ((List.range l.length).all fun j => !(left.testBit j && decide ((l.getD j default).last < (l.getD i default).first))) && jN ps spare done (l.getD i default)
def srch (ps : List Pol) (l : List HD) (spare : Int) : Nat → Nat → List HD → Bool
  | 0, left, _ => left == 0
  | f + 1, left, done => left == 0 || (List.range l.length).any fun i => lI ps l spare left done i && srch ps l spare f (left - 2 ^ i) (done ++ [l.getD i default])
def popc (left : Nat) : Nat := ((List.range 8).filter left.testBit).length
end Hist
section
open Hist
theorem ke (d : HD) : Pure TC 35 [d.S] (.b (fL d)) := by
  refine Pure.mk' Try.func35 rfl rfl (zzb rfl) ?_
  (repeat' (first
    | with_reducible refine Wp.seq ?_
    | with_reducible refine Wp.block ?_
    | ((with_reducible first | refine Wp.region ?_ | refine Wp.drawL ac ?_ | refine Wp.cond ?_ | refine Wp.ret ?_ | refine Wp.skip ?_ | refine Wp.exit ?_ | refine Go.mk ?_ | apply aA.of); conv => whnf)
    | with_reducible exact rfl
    | ((with_reducible refine Ov.ok zO ?_); conv => whnf)
    | (with_reducible refine Ov.sh1 (by with_unfolding_all exact rfl) ?_)
    | ((with_reducible refine Ov.quo (by omega) (by omega) (by omega) (fun _ _ => ?_)); conv => whnf)
    | ((with_reducible refine And.intro (show aj _ _ _ _ = true by kernel_rfl) ?_); conv => whnf)
    | ((with_reducible refine And.intro zC ?_); conv => whnf)
    | ((with_reducible refine And.intro ?hb ?_); (case hb => exact ae (zzb rfl) (by omega)); (conv => whnf))
    | ((refine af.a rfl rfl rfl rfl rfl rfl ?hb ?_); (case hb => exact zB); (conv => whnf))
    | ((refine af.b rfl rfl rfl rfl rfl rfl rfl rfl ?hb ?ho ?_); (case hb => exact zB); (case ho => omega); (conv => whnf))
    | ((refine af.c rfl rfl rfl rfl rfl ?hb ?_); (case hb => exact zB); (conv => whnf))
    | ((refine af.d rfl rfl rfl rfl rfl rfl ?hb ?ho ?_); (case hb => exact zB); (case ho => omega); (conv => whnf))
    | (with_reducible refine Or.inl ?_)
    | ((with_reducible refine nil_no (by omega) ?_); (conv => whnf))
    | ((with_reducible refine ag ?_ (fun hn0 => ?_)) <;> (conv => whnf))
    
    | ((refine aB (fun hc => ?_) (fun hc => ?_)) <;> (try simp only [decide_eq_true_eq, decide_eq_false_iff_not, Q5, Q20, Bool.and_eq_false_iff, Bool.or_eq_false_iff, Bool.not_eq_true', Bool.not_eq_false', beq_iff_eq, bne_iff_ne, ne_eq, beq_eq_false_iff_ne, bne_eq_false_iff_eq, Bool.not_eq_true, Bool.not_eq_false] at hc) <;> (try (exfalso; omega)) <;> (conv => whnf))))
  all_goals exact .b (by unfold fL; simp [*])
namespace Hist
def aR (l : List HD) (n : Int) : Bool := l.any fun d => d.r.serial == n || d.n == n
def spF (l : List HD) : Nat → Int → Int
  | 0, n => n
  | f + 1, n => if aR l n = true then spF l f (n - 1) else n
def mu (l : List HD) (n : Int) : Nat := ((l.map (·.r.serial) ++ l.map (·.n)).filter fun u => decide (u ≤ n)).length
theorem gB (p q : Int → Bool) (hpq : ∀ x, q x = true → p x = true) {e : Int} (hp : p e = true) (hq : q e = false) : ∀ (l : List Int), e ∈ l → (l.filter q).length < (l.filter p).length
  | x :: l, he => by
    have hle : (l.filter q).length ≤ (l.filter p).length := by
      clear he
      induction l with
      | nil => exact Q4 _
      | cons y l ih =>
        rw [List.filter_cons, List.filter_cons]
        by_cases h1 : q y = true
        · rw [if_pos h1, if_pos (hpq y h1)]; simpa using ih
        · rw [if_neg h1]; split
          · simp only [List.length_cons]; omega
          · exact ih
    rw [List.filter_cons, List.filter_cons]
    rcases Q22 he with rfl | h
    · rw [if_pos hp, if_neg (by rw [hq]; decide)]; simp only [List.length_cons]; omega
    · have := gB p q hpq hp hq l h
      by_cases h1 : q x = true
      · rw [if_pos h1, if_pos (hpq x h1)]; simp only [List.length_cons]; omega
      · rw [if_neg h1]; split
        · simp only [List.length_cons]; omega
        · exact this
theorem om {l : List HD} {n : Int} : aR l n = true ↔ n ∈ l.map (·.r.serial) ++ l.map (·.n) := by
  unfold aR
  rw [List.any_eq_true, List.mem_append, List.mem_map, List.mem_map]
  constructor
  · rintro ⟨d, hd, h⟩
    rw [Q20, beq_iff_eq, beq_iff_eq] at h
    rcases h with h | h
    · exact .inl ⟨d, hd, h⟩
    · exact .inr ⟨d, hd, h⟩
  · rintro (⟨d, hd, h⟩ | ⟨d, hd, h⟩)
    · exact ⟨d, hd, by simp [h]⟩
    · exact ⟨d, hd, by simp [h]⟩
theorem m3 {l : List HD} {n : Int} (h : aR l n = true) : mu l (n - 1) < mu l n :=
  gB _ _ (fun x hx => by simp at hx ⊢; omega) (by simp) (by simp; omega) _ (om.1 h)
theorem mF (l : List HD) : ∀ (f : Nat) (n : Int), mu l n ≤ f → spF l f n = spF l (mu l n) n
  | 0, n, h => by have : mu l n = 0 := by omega
                  rw [this]
  | f + 1, n, h => by
    cases hu : aR l n with
    | false =>
      have e : ∀ g, spF l g n = n := fun g => by cases g with
        | zero => rfl
        | succ g => unfold spF; rw [if_neg (by rw [hu]; decide)]
      rw [e, e]
    | true =>
      have h1 := m3 hu
      have h2 := mF l f (n - 1) (by omega)
      obtain ⟨g, hg⟩ : ∃ g, mu l n = g + 1 := ⟨mu l n - 1, by omega⟩
      rw [hg]
      show (if aR l n = true then spF l f (n - 1) else n) = if aR l n = true then spF l g (n - 1) else n
      rw [if_pos hu, if_pos hu, h2]
      exact (mF l g (n - 1) (by omega)).symm
theorem pv {l : List HD} {n : Int} (hu : aR l n = false) : ∀ g, spF l g n = n
  | 0 => rfl
  | g + 1 => by unfold spF; rw [if_neg (by rw [hu]; decide)]
theorem pw {l : List HD} {n : Int} (hu : aR l n = true) : spF l (mu l (n - 1)) (n - 1) = spF l (mu l n) n := by
  have h1 := m3 hu
  obtain ⟨g, hg⟩ : ∃ g, mu l n = g + 1 := ⟨mu l n - 1, by omega⟩
  rw [hg]
  show _ = if aR l n = true then spF l g (n - 1) else n
  rw [if_pos hu]
  exact (mF l g (n - 1) (by omega)).symm
def spI (l : List HD) : Int := spF l (mu l 4611686018427387903) 4611686018427387903
theorem mE (l : List HD) : ∀ (f : Nat) (n : Int), mu l n ≤ f → aR l (spF l f n) = false ∧ n - f ≤ spF l f n ∧ spF l f n ≤ n
  | 0, n, h => by
    refine ⟨?_, by show n - 0 ≤ n; omega, Int.le_refl _⟩
    cases hu : aR l n with
    | false => exact hu
    | true => have := m3 hu; omega
  | f + 1, n, h => by
    unfold spF
    cases hu : aR l n with
    | false => rw [if_neg (by decide)]; exact ⟨hu, by omega, Int.le_refl _⟩
    | true =>
      rw [if_pos rfl]
      have h1 := m3 hu
      obtain ⟨p1, p2, p3⟩ := mE l f (n - 1) (by omega)
      exact ⟨p1, by omega, by omega⟩
theorem mu_le (l : List HD) (n : Int) : mu l n ≤ 2 * l.length := by
  unfold mu
  refine Nat.le_trans (List.length_filter_le _ _) ?_
  rw [Q9, List.length_map, List.length_map]; omega
theorem mn {l : List HD} {i : Nat} (h : i < l.length) (n : Int) : aR (l.take (i + 1)) n = (aR (l.take i) n || ((l.getD (i : Int).toNat default).r.serial == n || (l.getD (i : Int).toNat default).n == n)) := by
  unfold aR
  rw [List.take_succ_eq_append_getElem h, List.any_append, Q13, Q1, Q0 h]
  simp
end Hist
theorem lT (l : List HD) (hl : l.length ≤ 4096) : Pure TC 16 [.d (ap 13 HD.D l)] (.i .i64 (spI l)) := by
  refine Pure.mk' Try.func16 rfl rfl (zzb rfl) ?_
  have h0 := mu_le l 4611686018427387903
  (repeat' (first
    | with_reducible refine Wp.seq ?_
    | with_reducible refine Wp.block ?_
    | ((with_reducible first | refine Wp.region ?_ | refine Wp.drawL ac ?_ | refine Wp.cond ?_ | refine Wp.ret ?_ | refine Wp.skip ?_ | refine Wp.exit ?_ | refine Go.mk ?_ | apply aA.of); conv => whnf)
    | with_reducible exact rfl
    | ((with_reducible refine Ov.ok zO ?_); conv => whnf)
    | (with_reducible refine Ov.sh1 (by with_unfolding_all exact rfl) ?_)
    | ((with_reducible refine Ov.quo (by omega) (by omega) (by omega) (fun _ _ => ?_)); conv => whnf)
    | ((with_reducible refine And.intro (show aj _ _ _ _ = true by kernel_rfl) ?_); conv => whnf)
    | ((with_reducible refine And.intro zC ?_); conv => whnf)
    | ((with_reducible refine And.intro ?hb ?_); (case hb => exact ae (zzb rfl) (by omega)); (conv => whnf))
    | ((refine af.a rfl rfl rfl rfl rfl rfl ?hb ?_); (case hb => exact zB); (conv => whnf))
    | ((refine af.b rfl rfl rfl rfl rfl rfl rfl rfl ?hb ?ho ?_); (case hb => exact zB); (case ho => omega); (conv => whnf))
    | ((refine af.c rfl rfl rfl rfl rfl ?hb ?_); (case hb => exact zB); (conv => whnf))
    | ((refine af.d rfl rfl rfl rfl rfl rfl ?hb ?ho ?_); (case hb => exact zB); (case ho => omega); (conv => whnf))
    | (with_reducible refine Or.inl ?_)
    | ((with_reducible refine nil_no (by omega) ?_); (conv => whnf))
    | ((with_reducible refine ag ?_ (fun hn0 => ?_)) <;> (conv => whnf))
    
    | ((refine aB (fun hc => ?_) (fun hc => ?_)) <;> (try simp only [decide_eq_true_eq, decide_eq_false_iff_not, Q5, Q20, Bool.and_eq_false_iff, Bool.or_eq_false_iff, Bool.not_eq_true', Bool.not_eq_false', beq_iff_eq, bne_iff_ne, ne_eq, beq_eq_false_iff_ne, bne_eq_false_iff_eq, Bool.not_eq_true, Bool.not_eq_false] at hc) <;> (try (exfalso; omega)) <;> (conv => whnf))))
  refine Wp.loopP (ι := Int) (fun n => mu l n ≤ 8192 ∧ 4611686018427387903 - 8192 + mu l n ≤ n ∧ n ≤ 4611686018427387903 ∧ spF l (mu l n) n = spI l) (fun n => ⟨⟨Try.f16.ntmps, 0⟩, 0, [(0, .d (ap 13 HD.D l)), (3, .i .i64 n)], []⟩) (fun n => mu l n) 4611686018427387903 ⟨by omega, by omega, Int.le_refl _, rfl⟩ ?_ ?_
  · (refine Le.by [] rfl rfl rfl rfl ?_ ?_ <;> (conv => whnf) <;> (repeat' (first | exact trivial | exact ab.rfl rfl | exact ab.ptr rfl | exact ab.sl rfl | ((with_reducible refine ab.fn ?_); (conv => whnf)) | ((refine ab.iref ?_); (conv => whnf)) | exact ⟨rfl, rfl, rfl⟩ | exact fun i hi => rfl | ((with_reducible refine And.intro ?_ ?_) <;> (conv => whnf)))))
  · rintro n ⟨a1, a2, a3, a4⟩
    (repeat' (first
    | with_reducible refine Wp.seq ?_
    | with_reducible refine Wp.block ?_
    | ((with_reducible first | refine Wp.region ?_ | refine Wp.drawL ac ?_ | refine Wp.cond ?_ | refine Wp.ret ?_ | refine Wp.skip ?_ | refine Wp.exit ?_ | refine Go.mk ?_ | apply aA.of); conv => whnf)
    | with_reducible exact rfl
    | ((with_reducible refine Ov.ok zO ?_); conv => whnf)
    | (with_reducible refine Ov.sh1 (by with_unfolding_all exact rfl) ?_)
    | ((with_reducible refine Ov.quo (by omega) (by omega) (by omega) (fun _ _ => ?_)); conv => whnf)
    | ((with_reducible refine And.intro (show aj _ _ _ _ = true by kernel_rfl) ?_); conv => whnf)
    | ((with_reducible refine And.intro zC ?_); conv => whnf)
    | ((with_reducible refine And.intro ?hb ?_); (case hb => exact ae (zzb rfl) (by omega)); (conv => whnf))
    | ((refine af.a rfl rfl rfl rfl rfl rfl ?hb ?_); (case hb => exact zB); (conv => whnf))
    | ((refine af.b rfl rfl rfl rfl rfl rfl rfl rfl ?hb ?ho ?_); (case hb => exact zB); (case ho => omega); (conv => whnf))
    | ((refine af.c rfl rfl rfl rfl rfl ?hb ?_); (case hb => exact zB); (conv => whnf))
    | ((refine af.d rfl rfl rfl rfl rfl rfl ?hb ?ho ?_); (case hb => exact zB); (case ho => omega); (conv => whnf))
    | (with_reducible refine Or.inl ?_)
    | ((with_reducible refine nil_no (by omega) ?_); (conv => whnf))
    | ((with_reducible refine ag ?_ (fun hn0 => ?_)) <;> (conv => whnf))
    
    | ((refine aB (fun hc => ?_) (fun hc => ?_)) <;> (try simp only [decide_eq_true_eq, decide_eq_false_iff_not, Q5, Q20, Bool.and_eq_false_iff, Bool.or_eq_false_iff, Bool.not_eq_true', Bool.not_eq_false', beq_iff_eq, bne_iff_ne, ne_eq, beq_eq_false_iff_ne, bne_eq_false_iff_eq, Bool.not_eq_true, Bool.not_eq_false] at hc) <;> (try (exfalso; omega)) <;> (conv => whnf))))
    refine Wp.loopP (ι := Nat) (fun i => i ≤ l.length) (fun i => ⟨⟨Try.f16.ntmps, 0⟩, 0, [(0, .d (ap 13 HD.D l)), (3, .i .i64 n), (4, .b (aR (l.take i) n)), (9, .d (ap 13 HD.D l)), (10, .i .i64 l.length), (11, .i .i64 i)], []⟩) (fun i => l.length - i) 0 (Nat.zero_le _) ?_ ?_
    · (refine Le.by [] rfl rfl rfl rfl ?_ ?_ <;> (conv => whnf) <;> (repeat' (first | exact trivial | exact ab.rfl rfl | exact ab.ptr rfl | exact ab.sl rfl | ((with_reducible refine ab.fn ?_); (conv => whnf)) | ((refine ab.iref ?_); (conv => whnf)) | exact ⟨rfl, rfl, rfl⟩ | exact fun i hi => rfl | ((with_reducible refine And.intro ?_ ?_) <;> (conv => whnf)))))
    · rintro i h1
      by_cases hi : i < l.length
      · have hu := mn hi n
        (repeat' (first
    | with_reducible refine Wp.seq ?_
    | with_reducible refine Wp.block ?_
    | ((with_reducible first | refine Wp.region ?_ | refine Wp.drawL ac ?_ | refine Wp.cond ?_ | refine Wp.ret ?_ | refine Wp.skip ?_ | refine Wp.exit ?_ | refine Go.mk ?_ | apply aA.of); conv => whnf)
    | with_reducible exact rfl
    | ((with_reducible refine Ov.ok zO ?_); conv => whnf)
    | (with_reducible refine Ov.sh1 (by with_unfolding_all exact rfl) ?_)
    | ((with_reducible refine Ov.quo (by omega) (by omega) (by omega) (fun _ _ => ?_)); conv => whnf)
    | ((with_reducible refine And.intro (show aj _ _ _ _ = true by kernel_rfl) ?_); conv => whnf)
    | ((with_reducible refine And.intro zC ?_); conv => whnf)
    | ((with_reducible refine And.intro ?hb ?_); (case hb => exact ae (zzb rfl) (by omega)); (conv => whnf))
    | ((refine af.a rfl rfl rfl rfl rfl rfl ?hb ?_); (case hb => exact zB); (conv => whnf))
    | ((refine af.b rfl rfl rfl rfl rfl rfl rfl rfl ?hb ?ho ?_); (case hb => exact zB); (case ho => omega); (conv => whnf))
    | ((refine af.c rfl rfl rfl rfl rfl ?hb ?_); (case hb => exact zB); (conv => whnf))
    | ((refine af.d rfl rfl rfl rfl rfl rfl ?hb ?ho ?_); (case hb => exact zB); (case ho => omega); (conv => whnf))
    | (with_reducible refine Or.inl ?_)
    | ((with_reducible refine nil_no (by omega) ?_); (conv => whnf))
    | ((with_reducible refine ag ?_ (fun hn0 => ?_)) <;> (conv => whnf))
    
    | ((refine aB (fun hc => ?_) (fun hc => ?_)) <;> (try simp only [decide_eq_true_eq, decide_eq_false_iff_not, Q5, Q20, Bool.and_eq_false_iff, Bool.or_eq_false_iff, Bool.not_eq_true', Bool.not_eq_false', beq_iff_eq, bne_iff_ne, ne_eq, beq_eq_false_iff_ne, bne_eq_false_iff_eq, Bool.not_eq_true, Bool.not_eq_false] at hc) <;> (try (exfalso; omega)) <;> (conv => whnf))))
        all_goals
          refine ⟨i + 1, by dsimp only; omega, by dsimp only; omega, ?_⟩
          dsimp only
          generalize l.getD (i : Int).toNat default = d at *
          rw [hu]
          (refine Le.by [] rfl rfl rfl rfl ?_ ?_ <;> (conv => whnf) <;> (repeat' (first | exact trivial | exact ab.rfl rfl | exact ab.ptr rfl | exact ab.sl rfl | ((with_reducible refine ab.fn ?_); (conv => whnf)) | ((refine ab.iref ?_); (conv => whnf)) | exact ⟨rfl, rfl, rfl⟩ | exact fun i hi => rfl | ((with_reducible refine And.intro ?_ ?_) <;> (conv => whnf)))))
          all_goals exact ab.free (.b (by simp [*])) rfl
      · obtain rfl : i = l.length := by omega
        rw [List.take_length]
        (repeat' (first
    | with_reducible refine Wp.seq ?_
    | with_reducible refine Wp.block ?_
    | ((with_reducible first | refine Wp.region ?_ | refine Wp.drawL ac ?_ | refine Wp.cond ?_ | refine Wp.ret ?_ | refine Wp.skip ?_ | refine Wp.exit ?_ | refine Go.mk ?_ | apply aA.of); conv => whnf)
    | with_reducible exact rfl
    | ((with_reducible refine Ov.ok zO ?_); conv => whnf)
    | (with_reducible refine Ov.sh1 (by with_unfolding_all exact rfl) ?_)
    | ((with_reducible refine Ov.quo (by omega) (by omega) (by omega) (fun _ _ => ?_)); conv => whnf)
    | ((with_reducible refine And.intro (show aj _ _ _ _ = true by kernel_rfl) ?_); conv => whnf)
    | ((with_reducible refine And.intro zC ?_); conv => whnf)
    | ((with_reducible refine And.intro ?hb ?_); (case hb => exact ae (zzb rfl) (by omega)); (conv => whnf))
    | ((refine af.a rfl rfl rfl rfl rfl rfl ?hb ?_); (case hb => exact zB); (conv => whnf))
    | ((refine af.b rfl rfl rfl rfl rfl rfl rfl rfl ?hb ?ho ?_); (case hb => exact zB); (case ho => omega); (conv => whnf))
    | ((refine af.c rfl rfl rfl rfl rfl ?hb ?_); (case hb => exact zB); (conv => whnf))
    | ((refine af.d rfl rfl rfl rfl rfl rfl ?hb ?ho ?_); (case hb => exact zB); (case ho => omega); (conv => whnf))
    | (with_reducible refine Or.inl ?_)
    | ((with_reducible refine nil_no (by omega) ?_); (conv => whnf))
    | ((with_reducible refine ag ?_ (fun hn0 => ?_)) <;> (conv => whnf))
    
    | ((refine aB (fun hc => ?_) (fun hc => ?_)) <;> (try simp only [decide_eq_true_eq, decide_eq_false_iff_not, Q5, Q20, Bool.and_eq_false_iff, Bool.or_eq_false_iff, Bool.not_eq_true', Bool.not_eq_false', beq_iff_eq, bne_iff_ne, ne_eq, beq_eq_false_iff_ne, bne_eq_false_iff_eq, Bool.not_eq_true, Bool.not_eq_false] at hc) <;> (try (exfalso; omega)) <;> (conv => whnf))))
        · exact .i (by rw [← a4, pv hc])
        · have h9 := m3 hc
          exact ⟨n - 1, ⟨by omega, by omega, by omega, (pw hc).trans a4⟩, h9, by (refine Le.by [] rfl rfl rfl rfl ?_ ?_ <;> (conv => whnf) <;> (repeat' (first | exact trivial | exact ab.rfl rfl | exact ab.ptr rfl | exact ab.sl rfl | ((with_reducible refine ab.fn ?_); (conv => whnf)) | ((refine ab.iref ?_); (conv => whnf)) | exact ⟨rfl, rfl, rfl⟩ | exact fun i hi => rfl | ((with_reducible refine And.intro ?_ ?_) <;> (conv => whnf)))))⟩
end
theorem bo {α : Type} [Inhabited α] (D : α → List D) (z : Nat) (zs : List α) (d : α) (c : Nat → List Go.Proofs.Ytpdhdnhkhidmpaa.D) (hc : c 0 = D d) : ∀ k, k < zs.length + 1 → cO zs.length (fun i => D (zs.getD i default)) c k = D ((zs ++ [d]).getD k default) := fun k hk => by
  simp only [cO]
  by_cases e : k < zs.length
  · rw [if_pos e, Q1, Q1, Q11 e]
  · rw [if_neg e]
    obtain rfl : k = zs.length := by omega
    have : (zs ++ [d]).getD zs.length default = d := by simp
    rw [Nat.sub_self, this, hc]
section
open Hist
@[reducible] def sesS (ps : List Pol) (l : List HD) (spare : Int) : SV := .agg [.d (ap 4 Pol.D ps), .d (ap 13 HD.D l), .i .i64 spare]
theorem cX {ps : List Pol} (h : bA ps = 0) : newE ps 4096 = 0 := by unfold newE; rw [if_neg (by omega)]; exact h
@[reducible] def rplZ : Rpl := ⟨0, false, 0, 0, 0, 0⟩
@[reducible] def rplB6 (r : Rpl) : Blk := .cells [.i .i64 r.e, .b r.g, .i .i64 r.left, .i .i64 r.wait, .i .i64 r.serial, .i .i64 r.now]
theorem ku {l : List HD} {i : Nat} (h : i < l.length) : l.take (i + 1) = l.take i ++ [l.getD (i : Int).toNat default] := by
  rw [List.take_succ_eq_append_getElem h, Q13, Q1, Q0 h]; rfl
theorem cg {l : List HD} {i : Nat} (h : i < l.length) : l.getD (i : Int).toNat default ∈ l := by
  rw [Q13, Q1, Q0 h]; exact Q14 h
theorem fd {z m n : Nat} {f g : Nat → List D} (h : m = n) (hf : ∀ i, i < m → f i = g i) : SV.Le (.d (.sl z m f)) (.d (.sl z n g)) := by subst h; exact SV.Le.sl hf
theorem jl {ps : List Pol} (hp : bA ps = 0) (l : List HD) (spare : Int) (done : List HD) (d : HD) (hk : ∀ e ∈ done, IsB e.key) (hd : IsB d.key) (hlen : done.length ≤ 100) :
    Pure TC 36 [sesS ps l spare, .d (ap 13 HD.D done), d.S] (.b (jN ps spare done d)) := by
  refine Pure.mk' Try.func36 rfl rfl (zzb rfl) ?_
  have hp32 := du hp
  have hkL : ∀ e ∈ done ++ [d], IsB e.key := fun e he => by
    rcases List.mem_append.1 he with he | he
    · exact hk e he
    · rw [List.mem_singleton.1 he]; exact hd
  (repeat' (first
    | ((refine SlxD.of rfl rfl rfl rfl rfl ?_); conv => whnf)
    | ((with_reducible refine Or.inr (And.intro rfl ?_)); conv => whnf)
    | ((refine Or.inr (DApx.of rfl rfl rfl rfl rfl rfl ?hb ?_)); (case hb => exact zB); (conv => whnf))
    | with_reducible refine Wp.seq ?_
    | with_reducible refine Wp.block ?_
    | ((with_reducible first | refine Wp.region ?_ | refine Wp.drawL ac ?_ | refine Wp.cond ?_ | refine Wp.ret ?_ | refine Wp.skip ?_ | refine Wp.exit ?_ | refine Go.mk ?_ | apply aA.of); conv => whnf)
    | with_reducible exact rfl
    | ((with_reducible refine Ov.ok zO ?_); conv => whnf)
    | (with_reducible refine Ov.sh1 (by with_unfolding_all exact rfl) ?_)
    | ((with_reducible refine Ov.quo (by omega) (by omega) (by omega) (fun _ _ => ?_)); conv => whnf)
    | ((with_reducible refine And.intro (show aj _ _ _ _ = true by kernel_rfl) ?_); conv => whnf)
    | ((with_reducible refine And.intro zC ?_); conv => whnf)
    | ((with_reducible refine And.intro ?hb ?_); (case hb => exact ae (zzb rfl) (by omega)); (conv => whnf))
    | ((refine af.a rfl rfl rfl rfl rfl rfl ?hb ?_); (case hb => exact zB); (conv => whnf))
    | ((refine af.b rfl rfl rfl rfl rfl rfl rfl rfl ?hb ?ho ?_); (case hb => exact zB); (case ho => omega); (conv => whnf))
    | ((refine af.c rfl rfl rfl rfl rfl ?hb ?_); (case hb => exact zB); (conv => whnf))
    | ((refine af.d rfl rfl rfl rfl rfl rfl ?hb ?ho ?_); (case hb => exact zB); (case ho => omega); (conv => whnf))
    | (with_reducible refine Or.inl ?_)
    | ((with_reducible refine nil_no (by omega) ?_); (conv => whnf))
    | ((with_reducible refine ag ?_ (fun hn0 => ?_)) <;> (conv => whnf))
    | ((refine aa.fn (db ps 4096 (cX hp)) [] rfl rfl rfl rfl rfl ?ha ?hh ?_); (case ha => exact zA); (case hh => exact zH); (conv => whnf))
    | ((refine ai.fn (db ps 4096 (cX hp)) [] [] rfl rfl rfl rfl rfl ?ha ?hh ?hs ?_); (case ha => exact zA); (case hh => exact zH); (case hs => exact zK); (conv => whnf)) | ((refine ai.new (db ps 4096 (cX hp)) [] [] rfl rfl rfl rfl rfl rfl ?ha ?hh ?hs ?_); (case ha => exact zA); (case hh => exact zH); (case hs => exact zK); (conv => whnf))
    | ((refine aB (fun hc => ?_) (fun hc => ?_)) <;> (try simp only [decide_eq_true_eq, decide_eq_false_iff_not, Q5, Q20, Bool.and_eq_false_iff, Bool.or_eq_false_iff, Bool.not_eq_true', Bool.not_eq_false', beq_iff_eq, bne_iff_ne, ne_eq, beq_eq_false_iff_ne, bne_eq_false_iff_eq, Bool.not_eq_true, Bool.not_eq_false] at hc) <;> (try (exfalso; omega)) <;> (conv => whnf))))
  refine Wp.loopP (ι := Nat × Rpl) (fun k => k.1 ≤ (done ++ [d]).length ∧ ∀ j, k.1 = j + 1 → k.2 = (doH ps spare (play ps spare ((done ++ [d]).take j)) ((done ++ [d]).getD (j : Int).toNat default)).1)
    (fun k => ⟨⟨Try.f36.ntmps, 0⟩, 5, [(3, .ptr 0 0), (5, .ptr 1 0), (7, .ptr 2 0), (9, .ptr 4 0), (28, .d (ap 13 HD.D (done ++ [d]))), (29, .i .i64 (done ++ [d]).length), (30, .i .i64 k.1)],
      [(0, some (.cells [.d (ap 4 Pol.D ps), .d (ap 13 HD.D l), .i .i64 spare])), (1, some (.cells [.i .i64 d.who, .i .u8 d.op, .i .i64 d.pol, .d (ap 1 (aQ .u8) d.key), .i .i64 d.n, .i .i64 d.first, .i .i64 d.last, .i .i64 d.r.e, .b d.r.g, .i .i64 d.r.left, .i .i64 d.r.wait, .i .i64 d.r.serial, .i .i64 d.r.now])),
       (2, some (.cells [.d (ap 4 Pol.D ps), .i .i64 4096, .sl 3 4 0 (play ps spare ((done ++ [d]).take k.1)).length])), (3, some (aI 78 4 Cel.D (play ps spare ((done ++ [d]).take k.1)))), (4, some (rplB6 k.2))]⟩) (fun k => (done ++ [d]).length - k.1) (0, rplZ) ⟨Nat.zero_le _, fun j h => by cases h⟩ ?_ ?_
  · (refine Le.by [0,1,2,3,4] rfl rfl rfl rfl ?_ ?_ <;> (conv => whnf) <;> (repeat' (first | exact trivial | exact ab.rfl rfl | exact ab.ptr rfl | exact ab.sl rfl | ((with_reducible refine ab.fn ?_); (conv => whnf)) | ((refine ab.iref ?_); (conv => whnf)) | exact ⟨rfl, rfl, rfl⟩ | exact fun i hi => rfl | ((with_reducible refine And.intro ?_ ?_) <;> (conv => whnf)))))
    · exact ab.free (fd (by simp) fun k hk => bo HD.D 13 done d _ rfl k hk) rfl
    · exact ab.free (.i (by simp)) rfl
  · rintro ⟨i, R⟩ ⟨h1, h2⟩
    dsimp only at h1 h2 ⊢
    have hL : (done ++ [d]).length = done.length + 1 := by simp
    by_cases hi : i < (done ++ [d]).length
    · have hm := cg hi
      have hpl := ku hi
      have hB := hU (spare := spare) hp32 (l := (done ++ [d]).take i) fun e he => hkL e (List.mem_of_mem_take he)
      have hDo := fun s => nR ps 4096 (play ps spare ((done ++ [d]).take i)) ((done ++ [d]).getD (i : Int).toNat default).op ((done ++ [d]).getD (i : Int).toNat default).pol ((done ++ [d]).getD (i : Int).toNat default).key ((done ++ [d]).getD (i : Int).toNat default).n ((done ++ [d]).getD (i : Int).toNat default).r.now s hB.ok (hkL _ hm)
      (repeat' (first
    | with_reducible refine Wp.seq ?_
    | with_reducible refine Wp.block ?_
    | ((with_reducible first | refine Wp.region ?_ | refine Wp.drawL ac ?_ | refine Wp.cond ?_ | refine Wp.ret ?_ | refine Wp.skip ?_ | refine Wp.exit ?_ | refine Go.mk ?_ | apply aA.of); conv => whnf)
    | with_reducible exact rfl
    | ((with_reducible refine Ov.ok zO ?_); conv => whnf)
    | (with_reducible refine Ov.sh1 (by with_unfolding_all exact rfl) ?_)
    | ((with_reducible refine Ov.quo (by omega) (by omega) (by omega) (fun _ _ => ?_)); conv => whnf)
    | ((with_reducible refine And.intro (show aj _ _ _ _ = true by kernel_rfl) ?_); conv => whnf)
    | ((with_reducible refine And.intro zC ?_); conv => whnf)
    | ((with_reducible refine And.intro ?hb ?_); (case hb => exact ae (zzb rfl) (by omega)); (conv => whnf))
    | ((refine af.a rfl rfl rfl rfl rfl rfl ?hb ?_); (case hb => exact zB); (conv => whnf))
    | ((refine af.b rfl rfl rfl rfl rfl rfl rfl rfl ?hb ?ho ?_); (case hb => exact zB); (case ho => omega); (conv => whnf))
    | ((refine af.c rfl rfl rfl rfl rfl ?hb ?_); (case hb => exact zB); (conv => whnf))
    | ((refine af.d rfl rfl rfl rfl rfl rfl ?hb ?ho ?_); (case hb => exact zB); (case ho => omega); (conv => whnf))
    | (with_reducible refine Or.inl ?_)
    | ((with_reducible refine nil_no (by omega) ?_); (conv => whnf))
    | ((with_reducible refine ag ?_ (fun hn0 => ?_)) <;> (conv => whnf))
    | ((refine aa.fn (hDo spare) [2,3] rfl rfl rfl rfl rfl ?ha ?hh ?_); (case ha => exact zA); (case hh => exact zH); (conv => whnf))
    | ((refine ai.fn (hDo spare) [2,3] [2,3] rfl rfl rfl rfl rfl ?ha ?hh ?hs ?_); (case ha => exact zA); (case hh => exact zH); (case hs => exact zK); (conv => whnf)) | ((refine ai.new (hDo spare) [2,3] [2,3] rfl rfl rfl rfl rfl rfl ?ha ?hh ?hs ?_); (case ha => exact zA); (case hh => exact zH); (case hs => exact zK); (conv => whnf))
    | ((refine ai.fn (hDo spare) [2,3] [] rfl rfl rfl rfl rfl ?ha ?hh ?hs ?_); (case ha => exact zA); (case hh => exact zH); (case hs => exact zK); (conv => whnf)) | ((refine ai.new (hDo spare) [2,3] [] rfl rfl rfl rfl rfl rfl ?ha ?hh ?hs ?_); (case ha => exact zA); (case hh => exact zH); (case hs => exact zK); (conv => whnf))
    | ((refine aa.fn (hDo ((done ++ [d]).getD (i : Int).toNat default).r.serial) [2,3] rfl rfl rfl rfl rfl ?ha ?hh ?_); (case ha => exact zA); (case hh => exact zH); (conv => whnf))
    | ((refine ai.fn (hDo ((done ++ [d]).getD (i : Int).toNat default).r.serial) [2,3] [2,3] rfl rfl rfl rfl rfl ?ha ?hh ?hs ?_); (case ha => exact zA); (case hh => exact zH); (case hs => exact zK); (conv => whnf)) | ((refine ai.new (hDo ((done ++ [d]).getD (i : Int).toNat default).r.serial) [2,3] [2,3] rfl rfl rfl rfl rfl rfl ?ha ?hh ?hs ?_); (case ha => exact zA); (case hh => exact zH); (case hs => exact zK); (conv => whnf))
    | ((refine ai.fn (hDo ((done ++ [d]).getD (i : Int).toNat default).r.serial) [2,3] [] rfl rfl rfl rfl rfl ?ha ?hh ?hs ?_); (case ha => exact zA); (case hh => exact zH); (case hs => exact zK); (conv => whnf)) | ((refine ai.new (hDo ((done ++ [d]).getD (i : Int).toNat default).r.serial) [2,3] [] rfl rfl rfl rfl rfl rfl ?ha ?hh ?hs ?_); (case ha => exact zA); (case hh => exact zH); (case hs => exact zK); (conv => whnf))
    | ((refine aB (fun hc => ?_) (fun hc => ?_)) <;> (try simp only [decide_eq_true_eq, decide_eq_false_iff_not, Q5, Q20, Bool.and_eq_false_iff, Bool.or_eq_false_iff, Bool.not_eq_true', Bool.not_eq_false', beq_iff_eq, bne_iff_ne, ne_eq, beq_eq_false_iff_ne, bne_eq_false_iff_eq, Bool.not_eq_true, Bool.not_eq_false] at hc) <;> (try (exfalso; omega)) <;> (conv => whnf))))
      all_goals
        have hser : ser spare ((done ++ [d]).getD (i : Int).toNat default) = if ((done ++ [d]).getD (i : Int).toNat default).r.serial = 0 then spare else ((done ++ [d]).getD (i : Int).toNat default).r.serial := rfl
        refine ⟨(i + 1, (doH ps spare (play ps spare ((done ++ [d]).take i)) ((done ++ [d]).getD (i : Int).toNat default)).1), ⟨by dsimp only; omega, fun j hj => ?_⟩, by dsimp only; omega, ?_⟩
        · have : j = i := by dsimp only at hj; omega
          rw [this]
      · rw [if_pos hc] at hser
        dsimp only
        rw [hpl, dv]
        unfold doH
        rw [hser]
        (refine Le.by [0,1,2,6,4] rfl rfl rfl rfl ?_ ?_ <;> (conv => whnf) <;> (repeat' (first | exact trivial | exact ab.rfl rfl | exact ab.ptr rfl | exact ab.sl rfl | ((with_reducible refine ab.fn ?_); (conv => whnf)) | ((refine ab.iref ?_); (conv => whnf)) | exact ⟨rfl, rfl, rfl⟩ | exact fun i hi => rfl | ((with_reducible refine And.intro ?_ ?_) <;> (conv => whnf)))))
      · rw [if_neg hc] at hser
        dsimp only
        rw [hpl, dv]
        unfold doH
        rw [hser]
        (refine Le.by [0,1,2,6,4] rfl rfl rfl rfl ?_ ?_ <;> (conv => whnf) <;> (repeat' (first | exact trivial | exact ab.rfl rfl | exact ab.ptr rfl | exact ab.sl rfl | ((with_reducible refine ab.fn ?_); (conv => whnf)) | ((refine ab.iref ?_); (conv => whnf)) | exact ⟨rfl, rfl, rfl⟩ | exact fun i hi => rfl | ((with_reducible refine And.intro ?_ ?_) <;> (conv => whnf)))))
    · obtain rfl : i = (done ++ [d]).length := by omega
      rw [List.take_length]
      (repeat' (first
    | with_reducible refine Wp.seq ?_
    | with_reducible refine Wp.block ?_
    | ((with_reducible first | refine Wp.region ?_ | refine Wp.drawL ac ?_ | refine Wp.cond ?_ | refine Wp.ret ?_ | refine Wp.skip ?_ | refine Wp.exit ?_ | refine Go.mk ?_ | apply aA.of); conv => whnf)
    | with_reducible exact rfl
    | ((with_reducible refine Ov.ok zO ?_); conv => whnf)
    | (with_reducible refine Ov.sh1 (by with_unfolding_all exact rfl) ?_)
    | ((with_reducible refine Ov.quo (by omega) (by omega) (by omega) (fun _ _ => ?_)); conv => whnf)
    | ((with_reducible refine And.intro (show aj _ _ _ _ = true by kernel_rfl) ?_); conv => whnf)
    | ((with_reducible refine And.intro zC ?_); conv => whnf)
    | ((with_reducible refine And.intro ?hb ?_); (case hb => exact ae (zzb rfl) (by omega)); (conv => whnf))
    | ((refine af.a rfl rfl rfl rfl rfl rfl ?hb ?_); (case hb => exact zB); (conv => whnf))
    | ((refine af.b rfl rfl rfl rfl rfl rfl rfl rfl ?hb ?ho ?_); (case hb => exact zB); (case ho => omega); (conv => whnf))
    | ((refine af.c rfl rfl rfl rfl rfl ?hb ?_); (case hb => exact zB); (conv => whnf))
    | ((refine af.d rfl rfl rfl rfl rfl rfl ?hb ?ho ?_); (case hb => exact zB); (case ho => omega); (conv => whnf))
    | (with_reducible refine Or.inl ?_)
    | ((with_reducible refine nil_no (by omega) ?_); (conv => whnf))
    | ((with_reducible refine ag ?_ (fun hn0 => ?_)) <;> (conv => whnf))
    
    | ((refine aB (fun hc => ?_) (fun hc => ?_)) <;> (try simp only [decide_eq_true_eq, decide_eq_false_iff_not, Q5, Q20, Bool.and_eq_false_iff, Bool.or_eq_false_iff, Bool.not_eq_true', Bool.not_eq_false', beq_iff_eq, bne_iff_ne, ne_eq, beq_eq_false_iff_ne, bne_eq_false_iff_eq, Bool.not_eq_true, Bool.not_eq_false] at hc) <;> (try (exfalso; omega)) <;> (conv => whnf))))
      have h3 := h2 done.length (by simp)
      rw [List.take_left, show (done ++ [d]).getD ((done.length : Nat) : Int).toNat default = d by simp] at h3
      exact .b (by unfold jN; rw [← h3]; rfl)
end
def jP (n : Int) : List Int := if n = 0 then [] else if n / 4294967296 = 0 then [n % 4294967296] else [n % 4294967296, n / 4294967296]
theorem lN {z m n : Nat} {f g : Nat → List D} (h : m = n) (hf : ∀ i, i < n → f i = g i) : SV.Le (.d (.sl z m f)) (.d (.sl z n g)) := by subst h; exact SV.Le.sl hf
theorem Pure.leX {C : Cx} {g : Nat} {args args' : List SV} {r : SV} (h : Pure C g args' r) (ha : Les args args') : Pure C g args r :=
  ⟨h.ent, fun E w vs hIm hsz hargs => h.out E w vs hIm (hsz.trans ha.len) fun j hj => (ha.out j (by rw [ha.len]; exact hj) hj).out _ _ _ _ (hargs j (by rw [ha.len]; exact hj))⟩
theorem mP (n : Int) (h0 : 0 ≤ n) (h1 : n < 18446744073709551616) : Pure TC 21 [.i .u64 n] (.d (ap 1 (aQ .u64) (jP n))) := by
  have hm : n.tmod 4294967296 = n % 4294967296 := Q6 h0
  have hd : n.tdiv 4294967296 = n / 4294967296 := Int.tdiv_eq_ediv_of_nonneg h0
  refine Pure.mk' Try.func21 rfl rfl (zzb rfl) ?_
  (repeat' (first
    | with_reducible refine Wp.seq ?_
    | with_reducible refine Wp.block ?_
    | ((with_reducible first | refine Wp.region ?_ | refine Wp.drawL ac ?_ | refine Wp.cond ?_ | refine Wp.ret ?_ | refine Wp.skip ?_ | refine Wp.exit ?_ | refine Go.mk ?_ | apply aA.of); conv => whnf)
    | with_reducible exact rfl
    | ((with_reducible refine Ov.ok zO ?_); conv => whnf)
    | (with_reducible refine Ov.sh1 (by with_unfolding_all exact rfl) ?_)
    | ((with_reducible refine Ov.quo (by omega) (by omega) (by omega) (fun _ _ => ?_)); conv => whnf)
    | ((with_reducible refine And.intro (show aj _ _ _ _ = true by kernel_rfl) ?_); conv => whnf)
    | ((with_reducible refine And.intro zC ?_); conv => whnf)
    | ((with_reducible refine And.intro ?hb ?_); (case hb => exact ae (zzb rfl) (by omega)); (conv => whnf))
    | ((refine af.a rfl rfl rfl rfl rfl rfl ?hb ?_); (case hb => exact zB); (conv => whnf))
    | ((refine af.b rfl rfl rfl rfl rfl rfl rfl rfl ?hb ?ho ?_); (case hb => exact zB); (case ho => omega); (conv => whnf))
    | ((refine af.c rfl rfl rfl rfl rfl ?hb ?_); (case hb => exact zB); (conv => whnf))
    | ((refine af.d rfl rfl rfl rfl rfl rfl ?hb ?ho ?_); (case hb => exact zB); (case ho => omega); (conv => whnf))
    | (with_reducible refine Or.inl ?_)
    | ((with_reducible refine nil_no (by omega) ?_); (conv => whnf))
    | ((with_reducible refine ag ?_ (fun hn0 => ?_)) <;> (conv => whnf))
    | (with_reducible refine aa.inline Try.func39 rfl rfl rfl (zzb rfl) ?_)
    | ((with_reducible refine Wp.loopN 4 ?_); conv => whnf)
    | ((refine aB (fun hc => ?_) (fun hc => ?_)) <;> (try simp only [decide_eq_true_eq, decide_eq_false_iff_not, Q5, Q20, Bool.and_eq_false_iff, Bool.or_eq_false_iff, Bool.not_eq_true', Bool.not_eq_false', beq_iff_eq, bne_iff_ne, ne_eq, beq_eq_false_iff_ne, bne_eq_false_iff_eq, Bool.not_eq_true, Bool.not_eq_false] at hc) <;> (try (exfalso; omega)) <;> (conv => whnf))))
  · rw [jP, if_pos (by omega)]; exact lN rfl fun i hi => absurd hi (Nat.not_lt_zero _)
  · rw [jP, if_neg (by omega), if_pos (by omega), hm]
    exact lN rfl fun i hi => by
      have : i = 0 := by simp at hi; omega
      subst this; rfl
  · rw [jP, if_neg (by omega), if_neg (by omega), hm, hd]
    exact lN rfl fun i hi => by
      have : i = 0 ∨ i = 1 := by simp at hi; omega
      rcases this with rfl | rfl <;> rfl
def f1 (a : Int) : Nat → List D := fun _ => [.val (.int .u64 a)]
def f2 (a b : Int) : Nat → List D
  | 0 => [.val (.int .u64 a)]
  | _ + 1 => [.val (.int .u64 b)]
theorem mR (n : Int) (h0 : 0 ≤ n) (h1 : n < 18446744073709551616) : Pure TC 38 [.d (ap 1 (aQ .u64) (jP n))] (.tup [.i .u64 n, .b true]) := by
  unfold jP
  split
  · refine Pure.leX (args' := [.d (.sl 1 0 (f1 0))]) ?_ (.cons (lN rfl fun i hi => absurd hi (Nat.not_lt_zero _)) .nil)
    refine Pure.mk' Try.func38 rfl rfl (zzb rfl) ?_
    (repeat' (first
    | with_reducible refine Wp.seq ?_
    | with_reducible refine Wp.block ?_
    | ((with_reducible first | refine Wp.region ?_ | refine Wp.drawL ac ?_ | refine Wp.cond ?_ | refine Wp.ret ?_ | refine Wp.skip ?_ | refine Wp.exit ?_ | refine Go.mk ?_ | apply aA.of); conv => whnf)
    | with_reducible exact rfl
    | ((with_reducible refine Ov.ok zO ?_); conv => whnf)
    | (with_reducible refine Ov.sh1 (by with_unfolding_all exact rfl) ?_)
    | ((with_reducible refine Ov.quo (by omega) (by omega) (by omega) (fun _ _ => ?_)); conv => whnf)
    | ((with_reducible refine And.intro (show aj _ _ _ _ = true by kernel_rfl) ?_); conv => whnf)
    | ((with_reducible refine And.intro zC ?_); conv => whnf)
    | ((with_reducible refine And.intro ?hb ?_); (case hb => exact ae (zzb rfl) (by omega)); (conv => whnf))
    | ((refine af.a rfl rfl rfl rfl rfl rfl ?hb ?_); (case hb => exact zB); (conv => whnf))
    | ((refine af.b rfl rfl rfl rfl rfl rfl rfl rfl ?hb ?ho ?_); (case hb => exact zB); (case ho => omega); (conv => whnf))
    | ((refine af.c rfl rfl rfl rfl rfl ?hb ?_); (case hb => exact zB); (conv => whnf))
    | ((refine af.d rfl rfl rfl rfl rfl rfl ?hb ?ho ?_); (case hb => exact zB); (case ho => omega); (conv => whnf))
    | (with_reducible refine Or.inl ?_)
    | ((with_reducible refine nil_no (by omega) ?_); (conv => whnf))
    | ((with_reducible refine ag ?_ (fun hn0 => ?_)) <;> (conv => whnf))
    | ((with_reducible refine Wp.loopN 4 ?_); conv => whnf)
    | ((refine aB (fun hc => ?_) (fun hc => ?_)) <;> (try simp only [decide_eq_true_eq, decide_eq_false_iff_not, Q5, Q20, Bool.and_eq_false_iff, Bool.or_eq_false_iff, Bool.not_eq_true', Bool.not_eq_false', beq_iff_eq, bne_iff_ne, ne_eq, beq_eq_false_iff_ne, bne_eq_false_iff_eq, Bool.not_eq_true, Bool.not_eq_false] at hc) <;> (try (exfalso; omega)) <;> (conv => whnf))))
    exact .tup (.cons (.i (by omega)) (.cons (.b rfl) .nil))
  · split
    · refine Pure.leX (args' := [.d (.sl 1 1 (f1 (n % 4294967296)))]) ?_ (.cons (lN rfl fun i hi => by
        have : i = 0 := by omega
        subst this; rfl) .nil)
      refine Pure.mk' Try.func38 rfl rfl (zzb rfl) ?_
      (repeat' (first
    | with_reducible refine Wp.seq ?_
    | with_reducible refine Wp.block ?_
    | ((with_reducible first | refine Wp.region ?_ | refine Wp.drawL ac ?_ | refine Wp.cond ?_ | refine Wp.ret ?_ | refine Wp.skip ?_ | refine Wp.exit ?_ | refine Go.mk ?_ | apply aA.of); conv => whnf)
    | with_reducible exact rfl
    | ((with_reducible refine Ov.ok zO ?_); conv => whnf)
    | (with_reducible refine Ov.sh1 (by with_unfolding_all exact rfl) ?_)
    | ((with_reducible refine Ov.quo (by omega) (by omega) (by omega) (fun _ _ => ?_)); conv => whnf)
    | ((with_reducible refine And.intro (show aj _ _ _ _ = true by kernel_rfl) ?_); conv => whnf)
    | ((with_reducible refine And.intro zC ?_); conv => whnf)
    | ((with_reducible refine And.intro ?hb ?_); (case hb => exact ae (zzb rfl) (by omega)); (conv => whnf))
    | ((refine af.a rfl rfl rfl rfl rfl rfl ?hb ?_); (case hb => exact zB); (conv => whnf))
    | ((refine af.b rfl rfl rfl rfl rfl rfl rfl rfl ?hb ?ho ?_); (case hb => exact zB); (case ho => omega); (conv => whnf))
    | ((refine af.c rfl rfl rfl rfl rfl ?hb ?_); (case hb => exact zB); (conv => whnf))
    | ((refine af.d rfl rfl rfl rfl rfl rfl ?hb ?ho ?_); (case hb => exact zB); (case ho => omega); (conv => whnf))
    | (with_reducible refine Or.inl ?_)
    | ((with_reducible refine nil_no (by omega) ?_); (conv => whnf))
    | ((with_reducible refine ag ?_ (fun hn0 => ?_)) <;> (conv => whnf))
    | ((with_reducible refine Wp.loopN 4 ?_); conv => whnf)
    | ((refine aB (fun hc => ?_) (fun hc => ?_)) <;> (try simp only [decide_eq_true_eq, decide_eq_false_iff_not, Q5, Q20, Bool.and_eq_false_iff, Bool.or_eq_false_iff, Bool.not_eq_true', Bool.not_eq_false', beq_iff_eq, bne_iff_ne, ne_eq, beq_eq_false_iff_ne, bne_eq_false_iff_eq, Bool.not_eq_true, Bool.not_eq_false] at hc) <;> (try (exfalso; omega)) <;> (conv => whnf))))
      exact .tup (.cons (.i (by omega)) (.cons (.b rfl) .nil))
    · refine Pure.leX (args' := [.d (.sl 1 2 (f2 (n % 4294967296) (n / 4294967296)))]) ?_ (.cons (lN rfl fun i hi => by
        have : i = 0 ∨ i = 1 := by omega
        rcases this with rfl | rfl <;> rfl) .nil)
      refine Pure.mk' Try.func38 rfl rfl (zzb rfl) ?_
      (repeat' (first
    | with_reducible refine Wp.seq ?_
    | with_reducible refine Wp.block ?_
    | ((with_reducible first | refine Wp.region ?_ | refine Wp.drawL ac ?_ | refine Wp.cond ?_ | refine Wp.ret ?_ | refine Wp.skip ?_ | refine Wp.exit ?_ | refine Go.mk ?_ | apply aA.of); conv => whnf)
    | with_reducible exact rfl
    | ((with_reducible refine Ov.ok zO ?_); conv => whnf)
    | (with_reducible refine Ov.sh1 (by with_unfolding_all exact rfl) ?_)
    | ((with_reducible refine Ov.quo (by omega) (by omega) (by omega) (fun _ _ => ?_)); conv => whnf)
    | ((with_reducible refine And.intro (show aj _ _ _ _ = true by kernel_rfl) ?_); conv => whnf)
    | ((with_reducible refine And.intro zC ?_); conv => whnf)
    | ((with_reducible refine And.intro ?hb ?_); (case hb => exact ae (zzb rfl) (by omega)); (conv => whnf))
    | ((refine af.a rfl rfl rfl rfl rfl rfl ?hb ?_); (case hb => exact zB); (conv => whnf))
    | ((refine af.b rfl rfl rfl rfl rfl rfl rfl rfl ?hb ?ho ?_); (case hb => exact zB); (case ho => omega); (conv => whnf))
    | ((refine af.c rfl rfl rfl rfl rfl ?hb ?_); (case hb => exact zB); (conv => whnf))
    | ((refine af.d rfl rfl rfl rfl rfl rfl ?hb ?ho ?_); (case hb => exact zB); (case ho => omega); (conv => whnf))
    | (with_reducible refine Or.inl ?_)
    | ((with_reducible refine nil_no (by omega) ?_); (conv => whnf))
    | ((with_reducible refine ag ?_ (fun hn0 => ?_)) <;> (conv => whnf))
    | ((with_reducible refine Wp.loopN 4 ?_); conv => whnf)
    | ((refine aB (fun hc => ?_) (fun hc => ?_)) <;> (try simp only [decide_eq_true_eq, decide_eq_false_iff_not, Q5, Q20, Bool.and_eq_false_iff, Bool.or_eq_false_iff, Bool.not_eq_true', Bool.not_eq_false', beq_iff_eq, bne_iff_ne, ne_eq, beq_eq_false_iff_ne, bne_eq_false_iff_eq, Bool.not_eq_true, Bool.not_eq_false] at hc) <;> (try (exfalso; omega)) <;> (conv => whnf))))
      exact .tup (.cons (.i (by omega)) (.cons (.b rfl) .nil))
theorem mQ (n : Int) (h0 : 0 ≤ n) (h1 : n < 18446744073709551616) : Pure TC 20 [.d (ap 1 (aQ .u64) (jP n))] (.i .i64 (min n 4611686018427387903)) := by
  refine Pure.mk' Try.func20 rfl rfl (zzb rfl) ?_
  (repeat' (first
    | with_reducible refine Wp.seq ?_
    | with_reducible refine Wp.block ?_
    | ((with_reducible first | refine Wp.region ?_ | refine Wp.drawL ac ?_ | refine Wp.cond ?_ | refine Wp.ret ?_ | refine Wp.skip ?_ | refine Wp.exit ?_ | refine Go.mk ?_ | apply aA.of); conv => whnf)
    | with_reducible exact rfl
    | ((with_reducible refine Ov.ok zO ?_); conv => whnf)
    | (with_reducible refine Ov.sh1 (by with_unfolding_all exact rfl) ?_)
    | ((with_reducible refine Ov.quo (by omega) (by omega) (by omega) (fun _ _ => ?_)); conv => whnf)
    | ((with_reducible refine And.intro (show aj _ _ _ _ = true by kernel_rfl) ?_); conv => whnf)
    | ((with_reducible refine And.intro zC ?_); conv => whnf)
    | ((with_reducible refine And.intro ?hb ?_); (case hb => exact ae (zzb rfl) (by omega)); (conv => whnf))
    | ((refine af.a rfl rfl rfl rfl rfl rfl ?hb ?_); (case hb => exact zB); (conv => whnf))
    | ((refine af.b rfl rfl rfl rfl rfl rfl rfl rfl ?hb ?ho ?_); (case hb => exact zB); (case ho => omega); (conv => whnf))
    | ((refine af.c rfl rfl rfl rfl rfl ?hb ?_); (case hb => exact zB); (conv => whnf))
    | ((refine af.d rfl rfl rfl rfl rfl rfl ?hb ?ho ?_); (case hb => exact zB); (case ho => omega); (conv => whnf))
    | (with_reducible refine Or.inl ?_)
    | ((with_reducible refine nil_no (by omega) ?_); (conv => whnf))
    | ((with_reducible refine ag ?_ (fun hn0 => ?_)) <;> (conv => whnf))
    | ((with_reducible refine aa.pure (mR n h0 h1) rfl rfl ?_); conv => whnf) | ((with_reducible refine ai.pure (mR n h0 h1) rfl rfl ?_); conv => whnf)
    | ((refine aB (fun hc => ?_) (fun hc => ?_)) <;> (try simp only [decide_eq_true_eq, decide_eq_false_iff_not, Q5, Q20, Bool.and_eq_false_iff, Bool.or_eq_false_iff, Bool.not_eq_true', Bool.not_eq_false', beq_iff_eq, bne_iff_ne, ne_eq, beq_eq_false_iff_ne, bne_eq_false_iff_eq, Bool.not_eq_true, Bool.not_eq_false] at hc) <;> (try (exfalso; omega)) <;> (conv => whnf))))
  · exact .i (by omega)
  · exact .i (by omega)
theorem cV (n : Int) (h : n ≤ 9223372036854775807) : Pure TC 13 [.i .i64 n] (.i .i64 (ar n)) := by
  refine Pure.mk' Try.func13 rfl rfl (zzb rfl) ?_
  (repeat' (first
    | with_reducible refine Wp.seq ?_
    | with_reducible refine Wp.block ?_
    | ((with_reducible first | refine Wp.region ?_ | refine Wp.drawL ac ?_ | refine Wp.cond ?_ | refine Wp.ret ?_ | refine Wp.skip ?_ | refine Wp.exit ?_ | refine Go.mk ?_ | apply aA.of); conv => whnf)
    | with_reducible exact rfl
    | ((with_reducible refine Ov.ok zO ?_); conv => whnf)
    | (with_reducible refine Ov.sh1 (by with_unfolding_all exact rfl) ?_)
    | ((with_reducible refine Ov.quo (by omega) (by omega) (by omega) (fun _ _ => ?_)); conv => whnf)
    | ((with_reducible refine And.intro (show aj _ _ _ _ = true by kernel_rfl) ?_); conv => whnf)
    | ((with_reducible refine And.intro zC ?_); conv => whnf)
    | ((with_reducible refine And.intro ?hb ?_); (case hb => exact ae (zzb rfl) (by omega)); (conv => whnf))
    | ((refine af.a rfl rfl rfl rfl rfl rfl ?hb ?_); (case hb => exact zB); (conv => whnf))
    | ((refine af.b rfl rfl rfl rfl rfl rfl rfl rfl ?hb ?ho ?_); (case hb => exact zB); (case ho => omega); (conv => whnf))
    | ((refine af.c rfl rfl rfl rfl rfl ?hb ?_); (case hb => exact zB); (conv => whnf))
    | ((refine af.d rfl rfl rfl rfl rfl rfl ?hb ?ho ?_); (case hb => exact zB); (case ho => omega); (conv => whnf))
    | (with_reducible refine Or.inl ?_)
    | ((with_reducible refine nil_no (by omega) ?_); (conv => whnf))
    | ((with_reducible refine ag ?_ (fun hn0 => ?_)) <;> (conv => whnf))
    | ((with_reducible refine aa.pure (mP n (by omega) (by omega)) rfl rfl ?_); conv => whnf) | ((with_reducible refine ai.pure (mP n (by omega) (by omega)) rfl rfl ?_); conv => whnf)
    | ((with_reducible refine aa.pure (mQ n (by omega) (by omega)) rfl rfl ?_); conv => whnf) | ((with_reducible refine ai.pure (mQ n (by omega) (by omega)) rfl rfl ?_); conv => whnf)
    | ((refine aB (fun hc => ?_) (fun hc => ?_)) <;> (try simp only [decide_eq_true_eq, decide_eq_false_iff_not, Q5, Q20, Bool.and_eq_false_iff, Bool.or_eq_false_iff, Bool.not_eq_true', Bool.not_eq_false', beq_iff_eq, bne_iff_ne, ne_eq, beq_eq_false_iff_ne, bne_eq_false_iff_eq, Bool.not_eq_true, Bool.not_eq_false] at hc) <;> (try (exfalso; omega)) <;> (conv => whnf))))
  · exact .i (by unfold ar; omega)
  · exact .i (by unfold ar; omega)
end Go.Proofs.Ytpdhdnhkhidmpaa
