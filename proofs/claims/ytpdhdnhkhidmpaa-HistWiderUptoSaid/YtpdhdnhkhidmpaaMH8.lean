/- Lemmas of Br2, Br3a, Pl1, Pl2, Pl3, Pl4, Hi1, Hi2, Sx23, Sx29, Sx31, Hi3, Rc1, Hi4, Hi5, Sx33. No condition. -/
import Derived.Test.YtpdhdnhkhidmpaaMH7
import Derived.JoinedCond
import Derived.WideWitness
import Derived.Test.YtpdhdnhkhidmpaaRows
import Derived.Scope
set_option linter.unusedVariables false
set_option linter.unusedSimpArgs false
set_option maxHeartbeats 80000000
set_option maxRecDepth 100000
namespace Go.Proofs.Ytpdhdnhkhidmpaa
open Go.RowKit
section
open Go.ChangeShapes Go.WideShapes Go.ChangeAt Go.RowKit
section
variable {H : Type} {enc : TypeId × Value → H} {P : Program}
theorem iD {w w' : World} {base : Nat} {sp : Nat → Bool} {hd : Bool} : ∀ {ts : List TypeId} {vs : List Value} {ds : List (DataW H)} {ps : List MemPlace}, DataW.TrodAll enc P w base sp hd ts vs ds ps → (∀ p ∈ ps, w.sameAt w' p) → DataW.TrodAll enc P w' base sp hd ts vs ds ps
  | [], [], [], _, h, _ => h
  | t :: ts, v :: vs, d :: ds, ps, ⟨p, q, ⟨n, h1⟩, h2, e⟩, hs => ⟨p, q, ⟨n, DataW.trod_carry n _ _ _ h1 fun x hx => hs x (by rw [e]; exact List.mem_append_left _ hx)⟩, iD h2 fun x hx => hs x (by rw [e]; exact List.mem_append_right _ hx), e⟩
theorem kept_of {w w' : World} (h : Kp w w') (may : MemPlace → Prop) : w.keptBut w' may := by
  refine ⟨h.os, h.output, fun i hi => ?_⟩
  have hb := h.block i hi
  rw [hb]
  rcases hq : w.heap[i]? with _ | o
  · simp
  · cases o <;> simp
theorem ny {T : TypeId → Prop} (K : Kids P T) (hz : ∀ t e, T t → P.underlying t = some (.slice e) → 0 < P.cellsOf e) {f : Func} {s : ChangeSpec} {W W' : World} {args : Array Value} {ds gs : List (DataW H)} {before : List MemPlace} {tb : TypeId}
    (hT : ∀ t ∈ f.params.toList, T t) (hvars : s.vars = []) (hr : f.resultTypes = #[tb]) (hb : P.underlying tb = some .bool)
    (hfn : gs = [] → (s.fn H (ds ++ gs)).results = [.lit (.bool true)] ∧ (s.fn H (ds ++ gs)).args = ds ∧ (s.fn H (ds ++ gs)).vars = [])
    (hW : DataW.Whole enc P f.params.toList s.vars false W args.toList ds gs before) (hk : Kp W W') : s.post enc P f false true false false W args (.bool true) W' := by
  have hW0 := hW
  obtain ⟨p, q, hA, hV, rfl, hfz, _⟩ := hW
  rw [hvars] at hV
  have hgs : gs = [] ∧ q = [] := by
    cases gs with
    | nil => exact ⟨rfl, hV⟩
    | cons x r => exact hV.elim
  obtain ⟨rfl, rfl⟩ := hgs
  obtain ⟨h1, h2, h3⟩ := hfn rfl
  have hlt := hW0.lt
  have hsame : ∀ x ∈ p, W.sameAt W' x := fun x hx => by
    have hb := hk.block x.block (hlt x (by simpa using hx))
    cases x with
    | cell b o => exact World.cell?_of_block hb
    | map b => exact hb
  have hA' := iD hA hsame
  refine ⟨ds, [], p ++ [], [], p, [], hW0, ?_, ?_, ?_, kept_of hk _, fun h => by cases h⟩
  · rw [h1, hr]
    exact ⟨[], [], shut_bool hb true, rfl, rfl⟩
  · rw [h2]
    exact DataW.TrodAll.respare K hz hT hA' fun x hx => by simpa using hlt x (by simpa using hx)
  · rw [h3, hvars]; rfl
end
end
section
open Go.ChangeShapes Go.WideShapes Go.ChangeAt Go.RowKit
theorem own : ownKnob Try.prog.godebug = none := by kernel_rfl
theorem kids : Kids Try.prog (· < Try.prog.types.size) := kids_rows (by kernel_rfl) (by kernel_rfl)
theorem full : ∀ t e, t < Try.prog.types.size → Try.prog.underlying t = some (.slice e) → 0 < Try.prog.cellsOf e := slices_full_of Try.prog (by kernel_rfl)
def shI (k : IntKind) (n : Int) : Prop := (Lit.int k n).wf = true
theorem aL {k : IntKind} {d : D} (h : jO (.int k) d) : ∃ n, d = .val (.int k n) ∧ shI k n := by cases h with | int h => exact ⟨_, rfl, h⟩
theorem oy {z : Nat} {es : List Sh} {d : D} (h : jO (.sl z es) d) : ∃ n f, d = .sl z n f ∧ n ≤ maxLen ∧ ∀ i, i < n → dz es (f i) := by cases h with | sl hn h => exact ⟨_, _, rfl, hn, h⟩
theorem av {s : Sh} {ss : List Sh} {ds : List D} (h : dz (s :: ss) ds) : ∃ d r, ds = d :: r ∧ jO s d ∧ dz ss r := by cases h with | cons h t => exact ⟨_, _, rfl, h, t⟩
theorem eH {ds : List D} (h : dz [] ds) : ds = [] := by cases h; rfl
theorem wf_u8 {n : Int} (h : shI .u8 n) : 0 ≤ n ∧ n ≤ 255 := by simpa [shI, Lit.wf, IntKind.min, IntKind.max, IntKind.signed, IntKind.bits] using h
structure TLe (d d' : D) : Prop where
  out : ∀ w Im v, RD w Im d v → RD w Im d' v
theorem TLe.rfl (d : D) : TLe d d := ⟨fun _ _ _ h => h⟩
theorem TLe.sv {d d' : D} (h : TLe d d') : SV.Le (.d d) (.d d') := ⟨fun E nx w v hv => by cases hv with | d _ _ hv => exact .d _ _ (h.out _ _ _ hv)⟩
structure kj (ds ds' : List D) : Prop where
  len : ds.length = ds'.length
  out : ∀ (j : Nat) (d d' : D), ds[j]? = some d → ds'[j]? = some d' → TLe d d'
theorem kj.nil : kj [] [] := ⟨_root_.rfl, fun j d d' h => by simp at h⟩
theorem kj.cons {d d' : D} {ds ds' : List D} (h : TLe d d') (t : kj ds ds') : kj (d :: ds) (d' :: ds') :=
  ⟨by simp [t.len], fun j x y hx hy => by
    cases j with
    | zero => simp at hx hy; subst hx hy; exact h
    | succ j => simp at hx hy; exact t.out j x y hx hy⟩
theorem TLe.sl {z n : Nat} {f g : Nat → List D} (h : ∀ i, i < n → kj (f i) (g i)) : TLe (.sl z n f) (.sl z n g) := by
  refine ⟨fun w Im v hv => ?_⟩
  cases hv with
  | sl _ _ _ a cap gv hc hm hl ha hg =>
    refine .sl z n g a cap gv hc hm (fun i hi => by rw [← (h i hi).len]; exact hl i hi) ha fun i j hi hj => ?_
    have hj' : j < (f i).length := by rw [(h i hi).len]; exact hj
    exact ((h i hi).out j _ _ (Q0 hj') (Q0 hj)).out _ _ _ (hg i j hi hj')
theorem k8 {α : Type} [Inhabited α] {enc : α → List D} {p : α → Prop} {n : Nat} {f : Nat → List D} (h : ∀ i, i < n → ∃ x, kj (f i) (enc x) ∧ p x) : ∃ xs : List α, xs.length = n ∧ (∀ i, i < n → kj (f i) (enc (xs.getD i default))) ∧ ∀ x ∈ xs, p x := by
  induction n with
  | zero => exact ⟨[], rfl, fun i hi => by omega, fun x hx => by simp at hx⟩
  | succ n ih =>
    obtain ⟨xs, h1, h2, h3⟩ := ih fun i hi => h i (by omega)
    obtain ⟨x, h4, h5⟩ := h n (by omega)
    refine ⟨xs ++ [x], by simp [h1], fun i hi => ?_, fun y hy => ?_⟩
    · by_cases hin : i < n
      · have := h2 i hin
        rw [show (xs ++ [x]).getD i default = xs.getD i default by simp [List.getD, Q11 (show i < xs.length by omega)]]
        exact this
      · obtain rfl : i = n := by omega
        rw [show (xs ++ [x]).getD i default = x by simp [List.getD, h1]]
        exact h4
    · rcases List.mem_append.1 hy with hy | hy
      · exact h3 y hy
      · simp at hy; subst hy; exact h5
theorem nF {α : Type} [Inhabited α] {enc : α → List D} {p : α → Prop} {z : Nat} {es : List Sh} {d : D} (h : jO (.sl z es) d) (hp : ∀ ds, dz es ds → ∃ x, kj ds (enc x) ∧ p x) :
    ∃ xs : List α, TLe d (ao z enc xs) ∧ xs.length ≤ maxLen ∧ ∀ x ∈ xs, p x := by
  obtain ⟨n, f, rfl, hn, hf⟩ := oy h
  obtain ⟨xs, h1, h2, h3⟩ := k8 (enc := enc) (p := p) fun i hi => hp _ (hf i hi)
  subst h1
  exact ⟨xs, TLe.sl fun i hi => h2 i hi, hn, h3⟩
theorem arg1 {H : Type} {enc : TypeId × Value → H} {W : World} {t : TypeId} {v : Value} {d : DataW H} {p : List MemPlace} {s : Sh} (h : DataW.Trod enc Try.prog W 0 (fun _ => true) true t v d p) (hs : shT Try.prog 8 t = some [s]) (hv : v.cells.toList = [v]) :
    ∃ x, jO s x ∧ RD W (fun b => b < W.heap.size) x v := by
  obtain ⟨n, h⟩ := h
  obtain ⟨ds, h1, h2⟩ := og 8 n t _ _ _ h hs
  obtain ⟨x, r, rfl, h3, h4⟩ := av h1
  obtain rfl := eH h4
  rw [hv] at h2
  exact ⟨x, h3, h2.out 0 x v rfl rfl⟩
end
theorem bq : ∀ a : List Int, bQ a a = 0
  | [] => rfl
  | x :: r => by simp only [bQ]; rw [if_neg (by omega), if_neg (by omega)]; exact bq r
theorem gp : ∀ {a b : List Int}, bQ a b = 0 → a = b
  | [], [], _ => rfl
  | [], _ :: _, h => by simp [bQ] at h
  | _ :: _, [], h => by simp [bQ] at h
  | x :: a, y :: b, h => by
    simp only [bQ] at h
    split at h
    · omega
    · split at h
      · omega
      · rw [gp h, show x = y by omega]
theorem it : ∀ a b : List Int, bQ b a = - bQ a b
  | [], [] => rfl
  | [], _ :: _ => rfl
  | _ :: _, [] => rfl
  | x :: a, y :: b => by
    simp only [bQ]
    by_cases h1 : x < y
    · rw [if_neg (by omega), if_pos h1, if_pos h1]; rfl
    · by_cases h2 : y < x
      · rw [if_pos h2, if_neg h1, if_pos h2]
      · rw [if_neg h2, if_neg h1, if_neg h1, if_neg h2]; exact it a b
theorem dr : ∀ {a b c : List Int}, bQ a b < 0 → bQ b c < 0 → bQ a c < 0
  | [], [], _, h, _ => by simp [bQ] at h
  | [], _ :: _, [], _, h => by simp [bQ] at h
  | [], _ :: _, _ :: _, _, _ => by simp [bQ]
  | _ :: _, [], _, h, _ => by simp [bQ] at h
  | _ :: _, _ :: _, [], _, h => by simp [bQ] at h
  | x :: a, y :: b, z :: c, h1, h2 => by
    simp only [bQ] at h1 h2 ⊢
    by_cases e1 : x < y
    · by_cases e2 : y < z
      · rw [if_pos (by omega)]; omega
      · by_cases e3 : z < y
        · rw [if_neg e2, if_pos e3] at h2; omega
        · rw [if_pos (by omega)]; omega
    · by_cases e2 : y < x
      · rw [if_neg e1, if_pos e2] at h1; omega
      · rw [if_neg e1, if_neg e2] at h1
        by_cases e3 : y < z
        · rw [if_pos (by omega)]; omega
        · by_cases e4 : z < y
          · rw [if_neg e3, if_pos e4] at h2; omega
          · rw [if_neg e3, if_neg e4] at h2
            rw [if_neg (by omega), if_neg (by omega)]
            exact dr h1 h2
def idn (c : Cel) : List Int := c.pol :: c.key
def kr (pol : Int) (key : List Int) : Prop := 0 ≤ pol ∧ pol < 32 ∧ key.length ≤ 255
theorem g9 {pol : Int} {key : List Int} (h : kr pol key) : bc pol key = pol :: key := by
  obtain ⟨h1, h2, h3⟩ := h
  rw [bc, if_pos (by rw [bz, if_neg (by omega), if_neg (by omega)])]
theorem fW {a b : Cel} (ha : kr a.pol a.key) (hb : kr b.pol b.key) : jX a b = bQ (idn a) (idn b) := by
  rw [jX, g9 ha, g9 hb]; rfl
theorem gq {lt : Nat → Bool} {n : Nat} (mono : ∀ i j, i ≤ j → j < n → lt j = true → lt i = true) : ∀ (q i j : Nat), i ≤ j → j ≤ n → j - i < q → (∀ k, k < i → lt k = true) → (∀ k, j ≤ k → k < n → lt k = false) →
    (∀ k, k < bsF lt q i j → lt k = true) ∧ ∀ k, bsF lt q i j ≤ k → k < n → lt k = false
  | 0, i, j, _, _, h, _, _ => by omega
  | q + 1, i, j, h1, h2, h3, h4, h5 => by
    unfold bsF
    by_cases hij : i < j
    · rw [if_pos hij]
      by_cases hl : lt ((i + j) / 2) = true
      · rw [if_pos hl]
        exact gq mono q _ _ (by omega) h2 (by omega) (fun k hk => mono k ((i + j) / 2) (by omega) (by omega) hl) h5
      · rw [if_neg hl]
        refine gq mono q _ _ (by omega) (by omega) (by omega) h4 (fun k hk hkn => ?_)
        cases hlk : lt k with
        | false => rfl
        | true => exact absurd (mono _ k hk hkn hlk) hl
    · rw [if_neg hij]
      exact ⟨h4, fun k hk hkn => h5 k (by omega) hkn⟩
theorem bs_spec {lt : Nat → Bool} {n : Nat} (mono : ∀ i j, i ≤ j → j < n → lt j = true → lt i = true) : (∀ k, k < bs lt n → lt k = true) ∧ ∀ k, bs lt n ≤ k → k < n → lt k = false :=
  gq mono (n + 1) 0 n (Nat.zero_le _) (Q4 _) (by omega) (fun k hk => by omega) (fun k hk hkn => by omega)
structure Srt (xs : List Cel) : Prop where
  ok : ∀ c ∈ xs, kr c.pol c.key
  lt : xs.Pairwise fun a b => bQ (idn a) (idn b) < 0
theorem cy {xs : List Cel} {k : Nat} (h : k < xs.length) : xs.getD k default ∈ xs := by
  rw [Q1, Q0 h]; exact Q14 h
theorem bA {xs : List Cel} {k : Nat} (h : k < xs.length) : xs.getD k default = xs[k] := by
  rw [Q1, Q0 h]; rfl
theorem Srt.at {xs : List Cel} (h : Srt xs) {i j : Nat} (hij : i < j) (hj : j < xs.length) : bQ (idn (xs.getD i default)) (idn (xs.getD j default)) < 0 := by
  rw [bA hj, bA (show i < xs.length by omega)]
  exact List.pairwise_iff_getElem.1 h.lt i j (by omega) hj hij
theorem ja {xs : List Cel} (h : Srt xs) {t : Cel} (ht : kr t.pol t.key) : aO xs t ≤ xs.length ∧ (∀ k, k < aO xs t → bQ (idn (xs.getD k default)) (idn t) < 0) ∧ ∀ k, aO xs t ≤ k → k < xs.length → ¬ bQ (idn (xs.getD k default)) (idn t) < 0 := by
  have hle : aO xs t ≤ xs.length := kQ xs t
  have hord : ∀ k, k < xs.length → jX (xs.getD k default) t = bQ (idn (xs.getD k default)) (idn t) := fun k hk => fW (h.ok _ (cy hk)) ht
  have := bs_spec (lt := fun k => decide (jX (xs.getD k default) t < 0)) (n := xs.length) (fun i j hij hj hlt => by
    simp only [decide_eq_true_eq] at hlt ⊢
    rw [hord j hj] at hlt
    rw [hord i (by omega)]
    by_cases e : i = j
    · subst e; exact hlt
    · exact dr (h.at (by omega) hj) hlt)
  refine ⟨hle, fun k hk => ?_, fun k hk hkn => ?_⟩
  · have := this.1 k hk
    simp only [decide_eq_true_eq] at this
    rw [hord k (by omega)] at this; exact this
  · have := this.2 k hk hkn
    simp only [decide_eq_false_iff_not] at this
    rw [hord k hkn] at this; exact this
def look (xs : List Cel) (i : List Int) : Option Cel := xs.find? fun c => decide (idn c = i)
theorem f0 {xs : List Cel} {i : List Int} {c : Cel} (h : look xs i = some c) : c ∈ xs ∧ idn c = i := by
  unfold look at h
  exact ⟨List.mem_of_find?_eq_some h, by simpa using List.find?_some h⟩
theorem Srt.uniq {xs : List Cel} (h : Srt xs) {a b : Cel} (ha : a ∈ xs) (hb : b ∈ xs) (e : idn a = idn b) : a = b := by
  obtain ⟨i, hi, rfl⟩ := List.getElem_of_mem ha
  obtain ⟨j, hj, rfl⟩ := List.getElem_of_mem hb
  have hp := List.pairwise_iff_getElem.1 h.lt
  rcases Nat.lt_trichotomy i j with hlt | rfl | hlt
  · have := hp i j hi hj hlt; rw [e, bq] at this; omega
  · rfl
  · have := hp j i hj hi hlt; rw [e, bq] at this; omega
theorem Srt.look_of {xs : List Cel} (h : Srt xs) {c : Cel} (hc : c ∈ xs) : look xs (idn c) = some c := by
  cases hl : look xs (idn c) with
  | none => unfold look at hl; rw [List.find?_eq_none] at hl; exact absurd (by simp) (hl c hc)
  | some d => obtain ⟨h1, h2⟩ := f0 hl; rw [h.uniq h1 hc h2]
theorem gR {xs : List Cel} {i : List Int} : look xs i = none ↔ ∀ c ∈ xs, idn c ≠ i := by unfold look; rw [List.find?_eq_none]; simp
theorem gf {xs : List Cel} (h : Srt xs) {t : Cel} (ht : kr t.pol t.key) : (bt xs t = true → look xs (idn t) = some (xs.getD (aO xs t) default)) ∧ (bt xs t = false → look xs (idn t) = none) := by
  obtain ⟨h1, h2, h3⟩ := ja h ht
  constructor
  · intro hh
    obtain ⟨p1, p2⟩ := (dE _ _).1 hh
    rw [fW (h.ok _ (cy p1)) ht] at p2
    rw [← gp p2]
    exact h.look_of (cy p1)
  · intro hh
    rw [gR]
    intro c hc e
    obtain ⟨k, hk, rfl⟩ := List.getElem_of_mem hc
    rw [← bA hk] at e
    have h9 : ¬ k < aO xs t := fun hlt => by have := h2 k hlt; rw [e, bq] at this; omega
    by_cases hkp : k = aO xs t
    · subst hkp
      have : bt xs t = true := (dE _ _).2 ⟨hk, by rw [fW (h.ok _ (cy hk)) ht, e, bq]⟩
      rw [this] at hh; cases hh
    · have := h3 (aO xs t) (Q4 _) (by omega)
      have h8 := h.at (show aO xs t < k by omega) hk
      rw [e] at h8
      exact this h8
theorem lj {xs : List Cel} (h : Srt xs) {t : Cel} (ht : kr t.pol t.key) : bt xs t = (look xs (idn t)).isSome := by
  obtain ⟨h1, h2⟩ := gf h ht
  cases hh : bt xs t with
  | true => rw [h1 hh]; rfl
  | false => rw [h2 hh]; rfl
theorem lu {xs : List Cel} (h : Srt xs) {pol : Int} {key : List Int} (ht : kr pol key) : aV xs pol key = (look xs (pol :: key)).getD (aC pol key) := by
  obtain ⟨h1, h2⟩ := gf h (t := aC pol key) ht
  unfold aV
  by_cases hh : bt xs (aC pol key) = true
  · rw [if_pos hh]; have := h1 hh; rw [show idn (aC pol key) = pol :: key from rfl] at this; rw [this]; rfl
  · rw [if_neg hh]; have := h2 (by simpa using hh); rw [show idn (aC pol key) = pol :: key from rfl] at this; rw [this]; rfl
theorem Srt.ids {xs : List Cel} (h : Srt xs) : (xs.map idn).Pairwise fun a b => bQ a b < 0 := by rw [List.pairwise_map]; exact h.lt
theorem set_mem {xs : List Cel} (h : Srt xs) {p : Nat} {c : Cel} (hp : p < xs.length) (e : idn (xs.getD p default) = idn c) (d : Cel) : d ∈ xs.set p c ↔ d = c ∨ (d ∈ xs ∧ idn d ≠ idn c) := by
  rw [bA hp] at e
  constructor
  · intro hd
    obtain ⟨k, hk, rfl⟩ := List.getElem_of_mem hd
    rw [List.length_set] at hk
    rw [List.getElem_set]
    by_cases hkp : p = k
    · rw [if_pos hkp]; exact Or.inl rfl
    · rw [if_neg hkp]
      refine Or.inr ⟨Q14 hk, fun e2 => ?_⟩
      have hp2 := List.pairwise_iff_getElem.1 h.lt
      rw [← e] at e2
      rcases Nat.lt_or_gt_of_ne hkp with hlt | hlt
      · have := hp2 p k hp hk hlt; rw [e2, bq] at this; omega
      · have := hp2 k p hk hp hlt; rw [e2, bq] at this; omega
  · rintro (rfl | ⟨h1, h2⟩)
    · exact List.mem_set hp _
    · obtain ⟨k, hk, rfl⟩ := List.getElem_of_mem h1
      have hkp : ¬ p = k := fun e2 => by subst e2; exact h2 e
      have : (xs.set p c)[k]'(by rw [List.length_set]; exact hk) = xs[k] := by rw [List.getElem_set, if_neg hkp]
      rw [← this]; exact Q14 _
theorem l7 {xs : List Cel} (h : Srt xs) {t c : Cel} (hc : kr c.pol c.key) (e : idn c = idn t) :
    Srt (cG xs (aO xs t) (bt xs t) c) ∧ (∀ d, d ∈ cG xs (aO xs t) (bt xs t) c ↔ d = c ∨ (d ∈ xs ∧ idn d ≠ idn c)) ∧ (cG xs (aO xs t) (bt xs t) c).length = if bt xs t = true then xs.length else xs.length + 1 := by
  have ht : kr t.pol t.key := by
    have e1 : c.pol = t.pol := by have := e; simp only [idn, List.cons.injEq] at this; exact this.1
    have e2 : c.key = t.key := by have := e; simp only [idn, List.cons.injEq] at this; exact this.2
    rw [← e1, ← e2]; exact hc
  obtain ⟨h1, h2, h3⟩ := ja h ht
  cases hh : bt xs t with
  | true =>
    obtain ⟨p1, p2⟩ := (dE _ _).1 hh
    rw [fW (h.ok _ (cy p1)) ht] at p2
    have p3 : idn (xs.getD (aO xs t) default) = idn c := by rw [gp p2, e]
    have hm := set_mem h p1 p3
    simp only [cG, if_true]
    refine ⟨⟨fun d hd => ?_, ?_⟩, hm, List.length_set ..⟩
    · rcases (hm d).1 hd with rfl | ⟨hd, _⟩
      · exact hc
      · exact h.ok d hd
    · rw [← List.pairwise_map (f := idn) (R := fun a b => bQ a b < 0), List.map_set, ← p3]
      have : (xs.map idn).set (aO xs t) (idn (xs.getD (aO xs t) default)) = xs.map idn := by
        rw [bA p1]
        have : idn xs[aO xs t] = (xs.map idn)[aO xs t]'(by simpa using p1) := by simp
        rw [this]; exact List.set_getElem_self _
      rw [this]; exact h.ids
  | false =>
    simp only [cG, Bool.false_eq_true, if_false]
    have hn := gR.1 ((gf h ht).2 hh)
    have hge : ∀ k, aO xs t ≤ k → k < xs.length → bQ (idn c) (idn (xs.getD k default)) < 0 := fun k hk hkn => by
      have h9 := h3 k hk hkn
      have h8 := it (idn (xs.getD k default)) (idn t)
      rw [e, h8]
      have h7 : bQ (idn (xs.getD k default)) (idn t) ≠ 0 := fun h0 => hn _ (cy hkn) (gp h0)
      omega
    have hm : ∀ d, d ∈ ce xs (aO xs t) c ↔ d = c ∨ (d ∈ xs ∧ idn d ≠ idn c) := fun d => by
      have hx : d ∈ ce xs (aO xs t) c ↔ d = c ∨ d ∈ xs := by
        unfold ce
        rw [List.mem_append, List.mem_append, List.mem_singleton]
        constructor
        · rintro ((h | h) | h)
          · exact Or.inr (List.mem_of_mem_take h)
          · exact Or.inl h
          · exact Or.inr (List.mem_of_mem_drop h)
        · rintro (h | h)
          · exact Or.inl (Or.inr h)
          · rw [← List.take_append_drop (aO xs t) xs] at h
            rcases List.mem_append.1 h with h | h
            · exact Or.inl (Or.inl h)
            · exact Or.inr h
      rw [hx]
      constructor
      · rintro (h | h)
        · exact Or.inl h
        · exact Or.inr ⟨h, by rw [e]; exact hn d h⟩
      · rintro (h | ⟨h, _⟩)
        · exact Or.inl h
        · exact Or.inr h
    refine ⟨⟨fun d hd => ?_, ?_⟩, hm, aG _ _ _ h1⟩
    · rcases (hm d).1 hd with rfl | ⟨hd, _⟩
      · exact hc
      · exact h.ok d hd
    · unfold ce
      rw [List.append_assoc, List.pairwise_append]
      have hpt : (xs.take (aO xs t)).Pairwise fun a b => bQ (idn a) (idn b) < 0 := h.lt.sublist (List.take_sublist _ _)
      have hpd : (xs.drop (aO xs t)).Pairwise fun a b => bQ (idn a) (idn b) < 0 := h.lt.sublist (List.drop_sublist _ _)
      have htl : ∀ a ∈ xs.take (aO xs t), bQ (idn a) (idn c) < 0 := fun a ha => by
        obtain ⟨k, hk, rfl⟩ := List.getElem_of_mem ha
        rw [Q10] at hk
        rw [List.getElem_take, ← bA (show k < xs.length by omega), e]
        exact h2 k (by omega)
      have hdl : ∀ b ∈ xs.drop (aO xs t), bQ (idn c) (idn b) < 0 := fun b hb => by
        obtain ⟨k, hk, rfl⟩ := List.getElem_of_mem hb
        rw [List.length_drop] at hk
        rw [List.getElem_drop, ← bA (show aO xs t + k < xs.length by omega)]
        exact hge _ (by omega) (by omega)
      refine ⟨hpt, ?_, fun a ha b hb => ?_⟩
      · rw [List.singleton_append, List.pairwise_cons]; exact ⟨hdl, hpd⟩
      · rw [List.singleton_append] at hb
        rcases Q22 hb with rfl | hb
        · exact htl a ha
        · exact dr (htl a ha) (hdl b hb)
theorem Srt.filter {xs : List Cel} (h : Srt xs) (q : Cel → Bool) : Srt (xs.filter q) := ⟨fun c hc => h.ok c (List.mem_filter.1 hc).1, h.lt.filter _⟩
section
theorem iE.mem {ps : List Pol} {xs : List Cel} (h : iE ps xs) {c : Cel} (hc : c ∈ xs) : (∀ b ∈ c.key, 0 ≤ b ∧ b ≤ 255) ∧ c.key.length ≤ 255 ∧ c.held.length ≤ 64 ∧ 0 ≤ c.pol ∧ c.pol < ps.length := by
  obtain ⟨k, hk, rfl⟩ := List.getElem_of_mem hc
  have e := bA hk
  refine ⟨?_, ?_, ?_, ?_⟩
  · have := h.byt k; rw [e] at this; exact this
  · have := h.key k; rw [e] at this; exact this
  · have := h.held k; rw [e] at this; exact this
  · have := h.pol k hk; rw [e] at this; exact this
structure kA (ps : List Pol) (room : Int) (xs : List Cel) : Prop where
  srt : Srt xs
  ok : iE ps xs
  le : (xs.length : Int) ≤ room
  rm : room ≤ 4096
  pl : ps.length ≤ 32
theorem kA.nil {ps : List Pol} {room : Int} (h0 : 0 ≤ room) (h1 : room ≤ 4096) (h2 : ps.length ≤ 32) : kA ps room [] :=
  ⟨⟨fun c hc => by simp at hc, .nil⟩, ok_of ⟨by simp, fun c hc => by simp at hc⟩, by simpa using h0, h1, h2⟩
theorem kA.len {ps : List Pol} {room : Int} {xs : List Cel} (h : kA ps room xs) : xs.length ≤ 4096 := by have := h.le; have := h.rm; omega
section
variable {ps : List Pol} {room : Int} {xs : List Cel} {op pol : Int} {key : List Int} {n now serial : Int}
theorem id_of (hE : dP ps op pol key n now serial = 0) (hop : op < 5) : kr pol key ∧ pol < ps.length := by
  obtain ⟨_, _, _, h1, h2, _⟩ := lO hE
  have := h2 hop
  have := cP h1
  exact ⟨⟨by omega, by omega, by omega⟩, by omega⟩
theorem one_idn {p : Pol} {c : Cel} : idn (gQ p c op n now serial).2 = idn c := by
  unfold gQ
  split
  · rfl
  · split
    · unfold jM idn; split <;> rfl
    · unfold i7 idn; split <;> rfl
theorem np {p : Pol} {c : Cel} (h : c.held.length ≤ 64) : (gQ p c op n now serial).2.held.length ≤ 64 := by
  unfold gQ
  split
  · exact h
  · split
    · unfold jM
      split
      · have := i1 (by assumption : bJ p.permits c.held serial = 0); simp only; omega
      · exact h
    · unfold i7
      split
      · have := jr (by assumption : cl p.permits c.held n = 0); simp only; omega
      · exact h
def fa (p : Pol) (o : Option Cel) (op pol : Int) (key : List Int) (n now serial : Int) : Rpl × Option Cel :=
  if op = 4 then (jW p (o.getD (aC pol key)) now, none)
  else if (gQ p (o.getD (aC pol key)) op n now serial).1.g = false ∨ (op = 1 ∧ n = 0) then ((gQ p (o.getD (aC pol key)) op n now serial).1, none)
  else ((gQ p (o.getD (aC pol key)) op n now serial).1, some (gQ p (o.getD (aC pol key)) op n now serial).2)
theorem nK (h : kA ps room xs) (hE : dP ps op pol key n now serial = 0) (hop : op < 5) :
    doS ps room xs op pol key n now serial = match (fa (ps.getD pol.toNat default) (look xs (pol :: key)) op pol key n now serial).2 with
      | none => ((fa (ps.getD pol.toNat default) (look xs (pol :: key)) op pol key n now serial).1, xs)
      | some c => if look xs (pol :: key) = none ∧ (xs.length : Int) = room then (errR 10, xs) else ((fa (ps.getD pol.toNat default) (look xs (pol :: key)) op pol key n now serial).1, cG xs (aO xs (aC pol key)) (bt xs (aC pol key)) c) := by
  obtain ⟨hid, _⟩ := id_of hE hop
  unfold doS
  rw [if_neg (fun h => h hE), if_neg (by omega), if_neg (by omega), lu h.srt hid]
  unfold fa
  by_cases h4 : op = 4
  · rw [if_pos h4, if_pos h4]
  · rw [if_neg h4, if_neg h4]
    unfold nj
    have hdz : (decide (op = 1 ∧ n = 0) = true) ↔ (op = 1 ∧ n = 0) := by simp
    generalize gQ (ps.getD pol.toNat default) ((look xs (pol :: key)).getD (aC pol key)) op n now serial = q
    by_cases h1 : q.1.g = false ∨ (op = 1 ∧ n = 0)
    · rw [if_pos (h1.imp (fun h => h) hdz.2), if_pos h1]
    · rw [if_neg (fun h => h1 (h.imp (fun h => h) hdz.1)), if_neg h1]
      have hh : bt xs (aC pol key) = false ↔ look xs (pol :: key) = none := by
        have := lj h.srt (t := aC pol key) hid
        rw [this, show idn (aC pol key) = pol :: key from rfl]
        cases look xs (pol :: key) <;> simp
      show _ = if look xs (pol :: key) = none ∧ (xs.length : Int) = room then _ else _
      by_cases h9 : look xs (pol :: key) = none ∧ (xs.length : Int) = room
      · rw [if_pos ⟨hh.2 h9.1, h9.2⟩, if_pos h9]
      · rw [if_neg (fun h => h9 ⟨hh.1 h.1, h.2⟩), if_neg h9]
theorem nP {p : Pol} {o : Option Cel} {c : Cel} (ho : ∀ d, o = some d → idn d = pol :: key) (h : (fa p o op pol key n now serial).2 = some c) : idn c = pol :: key := by
  have hb : idn (o.getD (aC pol key)) = pol :: key := by
    cases o with
    | none => rfl
    | some d => exact ho d rfl
  unfold fa at h
  split at h
  · cases h
  · split at h
    · cases h
    · simp only [Option.some.injEq] at h; rw [← h, one_idn]; exact hb
theorem lH {p : Pol} {o : Option Cel} {c : Cel} (ho : ∀ d, o = some d → d.held.length ≤ 64) (h : (fa p o op pol key n now serial).2 = some c) : c.held.length ≤ 64 := by
  have hb : (o.getD (aC pol key)).held.length ≤ 64 := by
    cases o with
    | none => exact Nat.zero_le _
    | some d => exact ho d rfl
  unfold fa at h
  split at h
  · cases h
  · split at h
    · cases h
    · simp only [Option.some.injEq] at h; rw [← h]; exact np hb
theorem ok_put (h : kA ps room xs) (hk : IsB key) (hE : dP ps op pol key n now serial = 0) (hop : op < 5) {c : Cel} (hc : (fa (ps.getD pol.toNat default) (look xs (pol :: key)) op pol key n now serial).2 = some c) (hfull : ¬ (look xs (pol :: key) = none ∧ (xs.length : Int) = room)) :
    kA ps room (cG xs (aO xs (aC pol key)) (bt xs (aC pol key)) c) := by
  obtain ⟨hid, hpl⟩ := id_of hE hop
  have hidn : idn c = pol :: key := nP (fun d hd => (f0 hd).2) hc
  have e1 : c.pol = pol ∧ c.key = key := by simpa [idn] using hidn
  have hheld : c.held.length ≤ 64 := lH (fun d hd => (h.ok.mem (f0 hd).1).2.2.1) hc
  have hcid : kr c.pol c.key := by rw [e1.1, e1.2]; exact hid
  obtain ⟨s1, s2, s3⟩ := l7 h.srt (t := aC pol key) hcid hidn
  have hlen : ((cG xs (aO xs (aC pol key)) (bt xs (aC pol key)) c).length : Int) ≤ room := by
    have hr := h.le
    rw [s3]
    split
    · exact hr
    · rename_i hh
      have h9 : look xs (pol :: key) = none := by
        have := lj h.srt (t := aC pol key) hid
        rw [show idn (aC pol key) = pol :: key from rfl] at this
        cases hl : look xs (pol :: key) with
        | none => rfl
        | some d => rw [this, hl] at hh; simp at hh
      have : ¬ (xs.length : Int) = room := fun e => hfull ⟨h9, e⟩
      push_cast
      omega
  refine ⟨s1, ok_of ⟨?_, fun d hd => ?_⟩, hlen, h.rm, h.pl⟩
  · have := h.rm; omega
  · rcases (s2 d).1 hd with rfl | ⟨hd, _⟩
    · rw [e1.1, e1.2]
      exact ⟨hk, hid.2.2, hheld, hid.1, hpl⟩
    · exact h.ok.mem hd
theorem do_inv (h : kA ps room xs) (hk : IsB key) : kA ps room (doS ps room xs op pol key n now serial).2 := by
  by_cases hE : dP ps op pol key n now serial = 0
  · by_cases hop : op < 5
    · rw [nK h hE hop]
      cases hc : (fa (ps.getD pol.toNat default) (look xs (pol :: key)) op pol key n now serial).2 with
      | none => exact h
      | some c =>
        simp only
        split
        · exact h
        · exact ok_put h hk hE hop hc (by assumption)
    · unfold doS
      rw [if_neg (fun h => h hE)]
      have hb := (lO hE).2.2.1
      by_cases h5 : op = 5
      · rw [if_pos h5]
        refine ⟨h.srt.filter _, ok_of ⟨?_, fun d hd => h.ok.mem (List.mem_filter.1 hd).1⟩, ?_, h.rm, h.pl⟩
        · have := List.length_filter_le (fun c => !bk ps c now) xs
          have := h.len
          simp only [fM]; omega
        · have := List.length_filter_le (fun c => !bk ps c now) xs
          have := h.le
          simp only [fM]; omega
      · rw [if_neg h5, if_pos (by omega)]; exact h
  · unfold doS; rw [if_pos hE]; exact h
end
end
section
section
variable {ps : List Pol} {room : Int} {xs : List Cel} {op pol : Int} {key : List Int} {n now serial : Int}
end
end
section
section
variable {ps : List Pol} {room : Int} {xs ys : List Cel}
end
end
structure HD where
  who : Int
  op : Int
  pol : Int
  key : List Int
  n : Int
  first : Int
  last : Int
  r : Rpl
  deriving Inhabited
@[reducible] def HD.D (d : HD) : List D := [.val (.int .i64 d.who), .val (.int .u8 d.op), .val (.int .i64 d.pol), ao 1 (aW .u8) d.key, .val (.int .i64 d.n), .val (.int .i64 d.first), .val (.int .i64 d.last), .val (.int .i64 d.r.e), .val (.bool d.r.g), .val (.int .i64 d.r.left), .val (.int .i64 d.r.wait), .val (.int .i64 d.r.serial), .val (.int .i64 d.r.now)]
@[reducible] def HD.S (d : HD) : SV := .agg [.i .i64 d.who, .i .u8 d.op, .i .i64 d.pol, .d (ao 1 (aW .u8) d.key), .i .i64 d.n, .i .i64 d.first, .i .i64 d.last, .i .i64 d.r.e, .b d.r.g, .i .i64 d.r.left, .i .i64 d.r.wait, .i .i64 d.r.serial, .i .i64 d.r.now]
namespace Hist
def cntB (d : HD) : Bool := if d.op = 1 then d.r.e != 10 else if d.op = 2 then d.r.e != 10 && d.r.e != 5 else d.op == 3 || d.op == 4
def ser (spare : Int) (d : HD) : Int := if d.r.serial = 0 then spare else d.r.serial
def doH (ps : List Pol) (spare : Int) (xs : List Cel) (d : HD) : Rpl × List Cel := doS ps 4096 xs d.op d.pol d.key d.n d.r.now (ser spare d)
def play (ps : List Pol) (spare : Int) (l : List HD) : List Cel := l.foldl (fun xs d => (doH ps spare xs d).2) []
def eqR (a b : Rpl) : Bool := a.e == b.e && (a.g == b.g && (a.left == b.left && (a.wait == b.wait && (a.serial == b.serial && a.now == b.now))))
def oc (ps : List Pol) (spare : Int) (done : List HD) (d : HD) : Bool := eqR (doH ps spare (play ps spare done) d).1 d.r
theorem gM (ps : List Pol) (spare : Int) (l : List HD) (d : HD) : play ps spare (l ++ [d]) = (doH ps spare (play ps spare l) d).2 := by
  unfold play; rw [List.foldl_append]; rfl
theorem kS {ps : List Pol} {spare : Int} : ∀ {l : List HD} {xs : List Cel}, kA ps 4096 xs → (∀ d ∈ l, IsB d.key) → kA ps 4096 (l.foldl (fun xs d => (doH ps spare xs d).2) xs)
  | [], _, h, _ => h
  | d :: l, _, h, hk => kS (l := l) (do_inv h (hk d (List.mem_cons_self ..))) fun e he => hk e (List.mem_cons_of_mem _ he)
theorem nm {ps : List Pol} (hp : ps.length ≤ 32) {spare : Int} {l : List HD} (h : ∀ d ∈ l, IsB d.key) : kA ps 4096 (play ps spare l) := kS (.nil (by decide) (by decide) hp) h
def kn (ps : List Pol) (l : List HD) (spare : Int) (left : Nat) (done : List HD) (i : Nat) : Bool := left.testBit i && ((List.range l.length).all fun j => !(left.testBit j && decide ((l.getD j default).last < (l.getD i default).first))) && oc ps spare done (l.getD i default)
def srch (ps : List Pol) (l : List HD) (spare : Int) : Nat → Nat → List HD → Bool
  | 0, left, _ => left == 0
  | f + 1, left, done => left == 0 || (List.range l.length).any fun i => kn ps l spare left done i && srch ps l spare f (left - 2 ^ i) (done ++ [l.getD i default])
def popc (left : Nat) : Nat := ((List.range 8).filter left.testBit).length
end Hist
section
open Hist
theorem iP (d : HD) : Pure TC 35 [d.S] (.b (cntB d)) := by
  refine Pure.mk' Try.func35 rfl rfl (zzb rfl) ?_
  (repeat' (first
    | with_reducible refine Wp.seq ?_
    | with_reducible refine Wp.block ?_
    | ((with_reducible first | refine Wp.region ?_ | refine Wp.drawL ac ?_ | refine Wp.cond ?_ | refine Wp.ret ?_ | refine Wp.skip ?_ | refine Wp.exit ?_ | refine Go.mk ?_ | apply ay.of); conv => whnf)
    | with_reducible exact rfl
    | ((with_reducible refine Ov.ok zO ?_); conv => whnf)
    | (with_reducible refine Ov.sh1 (by with_unfolding_all exact rfl) ?_)
    | ((with_reducible refine Ov.quo (by omega) (by omega) (by omega) (fun _ _ => ?_)); conv => whnf)
    | ((with_reducible refine And.intro (show aj _ _ _ _ = true by kernel_rfl) ?_); conv => whnf)
    | ((with_reducible refine And.intro zC ?_); conv => whnf)
    | ((with_reducible refine And.intro ?hb ?_); (case hb => exact ae (zzb rfl) (by omega)); (conv => whnf))
    | ((refine ag.a rfl rfl rfl rfl rfl rfl ?hb ?_); (case hb => exact zB); (conv => whnf))
    | ((refine ag.b rfl rfl rfl rfl rfl rfl rfl rfl ?hb ?ho ?_); (case hb => exact zB); (case ho => omega); (conv => whnf))
    | ((refine ag.c rfl rfl rfl rfl rfl ?hb ?_); (case hb => exact zB); (conv => whnf))
    | ((refine ag.d rfl rfl rfl rfl rfl rfl ?hb ?ho ?_); (case hb => exact zB); (case ho => omega); (conv => whnf))
    | (with_reducible refine Or.inl ?_)
    | ((with_reducible refine nil_no (by omega) ?_); (conv => whnf))
    | ((with_reducible refine ah ?_ (fun hn0 => ?_)) <;> (conv => whnf))
    
    | ((refine az (fun hc => ?_) (fun hc => ?_)) <;> (try simp only [decide_eq_true_eq, decide_eq_false_iff_not, Q5, Q20, Bool.and_eq_false_iff, Bool.or_eq_false_iff, Bool.not_eq_true', Bool.not_eq_false', beq_iff_eq, bne_iff_ne, ne_eq, beq_eq_false_iff_ne, bne_eq_false_iff_eq, Bool.not_eq_true, Bool.not_eq_false] at hc) <;> (try (exfalso; omega)) <;> (conv => whnf))))
  all_goals exact .b (by unfold cntB; simp [*])
namespace Hist
def bI (l : List HD) (n : Int) : Bool := l.any fun d => d.r.serial == n || d.n == n
def spF (l : List HD) : Nat → Int → Int
  | 0, n => n
  | f + 1, n => if bI l n = true then spF l f (n - 1) else n
def mu (l : List HD) (n : Int) : Nat := ((l.map (·.r.serial) ++ l.map (·.n)).filter fun u => decide (u ≤ n)).length
theorem fx (p q : Int → Bool) (hpq : ∀ x, q x = true → p x = true) {e : Int} (hp : p e = true) (hq : q e = false) : ∀ (l : List Int), e ∈ l → (l.filter q).length < (l.filter p).length
  | x :: l, he => by
    have hle : (l.filter q).length ≤ (l.filter p).length := by
      clear he
      induction l with
      | nil => exact Q4 _
      | cons y l ih =>
        rw [List.filter_cons, List.filter_cons]
        by_cases h1 : q y = true
        · rw [if_pos h1, if_pos (hpq y h1)]; simpa using ih
        · rw [if_neg h1]; split
          · simp only [List.length_cons]; omega
          · exact ih
    rw [List.filter_cons, List.filter_cons]
    rcases Q22 he with rfl | h
    · rw [if_pos hp, if_neg (by rw [hq]; decide)]; simp only [List.length_cons]; omega
    · have := fx p q hpq hp hq l h
      by_cases h1 : q x = true
      · rw [if_pos h1, if_pos (hpq x h1)]; simp only [List.length_cons]; omega
      · rw [if_neg h1]; split
        · simp only [List.length_cons]; omega
        · exact this
theorem l9 {l : List HD} {n : Int} : bI l n = true ↔ n ∈ l.map (·.r.serial) ++ l.map (·.n) := by
  unfold bI
  rw [List.any_eq_true, List.mem_append, List.mem_map, List.mem_map]
  constructor
  · rintro ⟨d, hd, h⟩
    rw [Q20, beq_iff_eq, beq_iff_eq] at h
    rcases h with h | h
    · exact .inl ⟨d, hd, h⟩
    · exact .inr ⟨d, hd, h⟩
  · rintro (⟨d, hd, h⟩ | ⟨d, hd, h⟩)
    · exact ⟨d, hd, by simp [h]⟩
    · exact ⟨d, hd, by simp [h]⟩
theorem mu_lt {l : List HD} {n : Int} (h : bI l n = true) : mu l (n - 1) < mu l n :=
  fx _ _ (fun x hx => by simp at hx ⊢; omega) (by simp) (by simp; omega) _ (l9.1 h)
theorem kI (l : List HD) : ∀ (f : Nat) (n : Int), mu l n ≤ f → spF l f n = spF l (mu l n) n
  | 0, n, h => by have : mu l n = 0 := by omega
                  rw [this]
  | f + 1, n, h => by
    cases hu : bI l n with
    | false =>
      have e : ∀ g, spF l g n = n := fun g => by cases g with
        | zero => rfl
        | succ g => unfold spF; rw [if_neg (by rw [hu]; decide)]
      rw [e, e]
    | true =>
      have h1 := mu_lt hu
      have h2 := kI l f (n - 1) (by omega)
      obtain ⟨g, hg⟩ : ∃ g, mu l n = g + 1 := ⟨mu l n - 1, by omega⟩
      rw [hg]
      show (if bI l n = true then spF l f (n - 1) else n) = if bI l n = true then spF l g (n - 1) else n
      rw [if_pos hu, if_pos hu, h2]
      exact (kI l g (n - 1) (by omega)).symm
theorem nc {l : List HD} {n : Int} (hu : bI l n = false) : ∀ g, spF l g n = n
  | 0 => rfl
  | g + 1 => by unfold spF; rw [if_neg (by rw [hu]; decide)]
theorem nd {l : List HD} {n : Int} (hu : bI l n = true) : spF l (mu l (n - 1)) (n - 1) = spF l (mu l n) n := by
  have h1 := mu_lt hu
  obtain ⟨g, hg⟩ : ∃ g, mu l n = g + 1 := ⟨mu l n - 1, by omega⟩
  rw [hg]
  show _ = if bI l n = true then spF l g (n - 1) else n
  rw [if_pos hu]
  exact (kI l g (n - 1) (by omega)).symm
def spI (l : List HD) : Int := spF l (mu l 4611686018427387903) 4611686018427387903
theorem mu_le (l : List HD) (n : Int) : mu l n ≤ 2 * l.length := by
  unfold mu
  refine Nat.le_trans (List.length_filter_le _ _) ?_
  rw [Q9, List.length_map, List.length_map]; omega
theorem kD {l : List HD} {i : Nat} (h : i < l.length) (n : Int) : bI (l.take (i + 1)) n = (bI (l.take i) n || ((l.getD (i : Int).toNat default).r.serial == n || (l.getD (i : Int).toNat default).n == n)) := by
  unfold bI
  rw [List.take_succ_eq_append_getElem h, List.any_append, Q13, Q1, Q0 h]
  simp
end Hist
theorem jZ (l : List HD) (hl : l.length ≤ 4096) : Pure TC 16 [.d (ao 13 HD.D l)] (.i .i64 (spI l)) := by
  refine Pure.mk' Try.func16 rfl rfl (zzb rfl) ?_
  have h0 := mu_le l 4611686018427387903
  (repeat' (first
    | with_reducible refine Wp.seq ?_
    | with_reducible refine Wp.block ?_
    | ((with_reducible first | refine Wp.region ?_ | refine Wp.drawL ac ?_ | refine Wp.cond ?_ | refine Wp.ret ?_ | refine Wp.skip ?_ | refine Wp.exit ?_ | refine Go.mk ?_ | apply ay.of); conv => whnf)
    | with_reducible exact rfl
    | ((with_reducible refine Ov.ok zO ?_); conv => whnf)
    | (with_reducible refine Ov.sh1 (by with_unfolding_all exact rfl) ?_)
    | ((with_reducible refine Ov.quo (by omega) (by omega) (by omega) (fun _ _ => ?_)); conv => whnf)
    | ((with_reducible refine And.intro (show aj _ _ _ _ = true by kernel_rfl) ?_); conv => whnf)
    | ((with_reducible refine And.intro zC ?_); conv => whnf)
    | ((with_reducible refine And.intro ?hb ?_); (case hb => exact ae (zzb rfl) (by omega)); (conv => whnf))
    | ((refine ag.a rfl rfl rfl rfl rfl rfl ?hb ?_); (case hb => exact zB); (conv => whnf))
    | ((refine ag.b rfl rfl rfl rfl rfl rfl rfl rfl ?hb ?ho ?_); (case hb => exact zB); (case ho => omega); (conv => whnf))
    | ((refine ag.c rfl rfl rfl rfl rfl ?hb ?_); (case hb => exact zB); (conv => whnf))
    | ((refine ag.d rfl rfl rfl rfl rfl rfl ?hb ?ho ?_); (case hb => exact zB); (case ho => omega); (conv => whnf))
    | (with_reducible refine Or.inl ?_)
    | ((with_reducible refine nil_no (by omega) ?_); (conv => whnf))
    | ((with_reducible refine ah ?_ (fun hn0 => ?_)) <;> (conv => whnf))
    
    | ((refine az (fun hc => ?_) (fun hc => ?_)) <;> (try simp only [decide_eq_true_eq, decide_eq_false_iff_not, Q5, Q20, Bool.and_eq_false_iff, Bool.or_eq_false_iff, Bool.not_eq_true', Bool.not_eq_false', beq_iff_eq, bne_iff_ne, ne_eq, beq_eq_false_iff_ne, bne_eq_false_iff_eq, Bool.not_eq_true, Bool.not_eq_false] at hc) <;> (try (exfalso; omega)) <;> (conv => whnf))))
  refine Wp.loopP (ι := Int) (fun n => mu l n ≤ 8192 ∧ 4611686018427387903 - 8192 + mu l n ≤ n ∧ n ≤ 4611686018427387903 ∧ spF l (mu l n) n = spI l) (fun n => ⟨⟨Try.f16.ntmps, 0⟩, 0, [(0, .d (ao 13 HD.D l)), (3, .i .i64 n)], []⟩) (fun n => mu l n) 4611686018427387903 ⟨by omega, by omega, Int.le_refl _, rfl⟩ ?_ ?_
  · (refine Le.by [] rfl rfl rfl rfl ?_ ?_ <;> (conv => whnf) <;> (repeat' (first | exact trivial | exact ab.rfl rfl | exact ab.ptr rfl | exact ab.sl rfl | ((with_reducible refine ab.fn ?_); (conv => whnf)) | ((refine ab.iref ?_); (conv => whnf)) | exact ⟨rfl, rfl, rfl⟩ | exact fun i hi => rfl | ((with_reducible refine And.intro ?_ ?_) <;> (conv => whnf)))))
  · rintro n ⟨a1, a2, a3, a4⟩
    (repeat' (first
    | with_reducible refine Wp.seq ?_
    | with_reducible refine Wp.block ?_
    | ((with_reducible first | refine Wp.region ?_ | refine Wp.drawL ac ?_ | refine Wp.cond ?_ | refine Wp.ret ?_ | refine Wp.skip ?_ | refine Wp.exit ?_ | refine Go.mk ?_ | apply ay.of); conv => whnf)
    | with_reducible exact rfl
    | ((with_reducible refine Ov.ok zO ?_); conv => whnf)
    | (with_reducible refine Ov.sh1 (by with_unfolding_all exact rfl) ?_)
    | ((with_reducible refine Ov.quo (by omega) (by omega) (by omega) (fun _ _ => ?_)); conv => whnf)
    | ((with_reducible refine And.intro (show aj _ _ _ _ = true by kernel_rfl) ?_); conv => whnf)
    | ((with_reducible refine And.intro zC ?_); conv => whnf)
    | ((with_reducible refine And.intro ?hb ?_); (case hb => exact ae (zzb rfl) (by omega)); (conv => whnf))
    | ((refine ag.a rfl rfl rfl rfl rfl rfl ?hb ?_); (case hb => exact zB); (conv => whnf))
    | ((refine ag.b rfl rfl rfl rfl rfl rfl rfl rfl ?hb ?ho ?_); (case hb => exact zB); (case ho => omega); (conv => whnf))
    | ((refine ag.c rfl rfl rfl rfl rfl ?hb ?_); (case hb => exact zB); (conv => whnf))
    | ((refine ag.d rfl rfl rfl rfl rfl rfl ?hb ?ho ?_); (case hb => exact zB); (case ho => omega); (conv => whnf))
    | (with_reducible refine Or.inl ?_)
    | ((with_reducible refine nil_no (by omega) ?_); (conv => whnf))
    | ((with_reducible refine ah ?_ (fun hn0 => ?_)) <;> (conv => whnf))
    
    | ((refine az (fun hc => ?_) (fun hc => ?_)) <;> (try simp only [decide_eq_true_eq, decide_eq_false_iff_not, Q5, Q20, Bool.and_eq_false_iff, Bool.or_eq_false_iff, Bool.not_eq_true', Bool.not_eq_false', beq_iff_eq, bne_iff_ne, ne_eq, beq_eq_false_iff_ne, bne_eq_false_iff_eq, Bool.not_eq_true, Bool.not_eq_false] at hc) <;> (try (exfalso; omega)) <;> (conv => whnf))))
    refine Wp.loopP (ι := Nat) (fun i => i ≤ l.length) (fun i => ⟨⟨Try.f16.ntmps, 0⟩, 0, [(0, .d (ao 13 HD.D l)), (3, .i .i64 n), (4, .b (bI (l.take i) n)), (9, .d (ao 13 HD.D l)), (10, .i .i64 l.length), (11, .i .i64 i)], []⟩) (fun i => l.length - i) 0 (Nat.zero_le _) ?_ ?_
    · (refine Le.by [] rfl rfl rfl rfl ?_ ?_ <;> (conv => whnf) <;> (repeat' (first | exact trivial | exact ab.rfl rfl | exact ab.ptr rfl | exact ab.sl rfl | ((with_reducible refine ab.fn ?_); (conv => whnf)) | ((refine ab.iref ?_); (conv => whnf)) | exact ⟨rfl, rfl, rfl⟩ | exact fun i hi => rfl | ((with_reducible refine And.intro ?_ ?_) <;> (conv => whnf)))))
    · rintro i h1
      by_cases hi : i < l.length
      · have hu := kD hi n
        (repeat' (first
    | with_reducible refine Wp.seq ?_
    | with_reducible refine Wp.block ?_
    | ((with_reducible first | refine Wp.region ?_ | refine Wp.drawL ac ?_ | refine Wp.cond ?_ | refine Wp.ret ?_ | refine Wp.skip ?_ | refine Wp.exit ?_ | refine Go.mk ?_ | apply ay.of); conv => whnf)
    | with_reducible exact rfl
    | ((with_reducible refine Ov.ok zO ?_); conv => whnf)
    | (with_reducible refine Ov.sh1 (by with_unfolding_all exact rfl) ?_)
    | ((with_reducible refine Ov.quo (by omega) (by omega) (by omega) (fun _ _ => ?_)); conv => whnf)
    | ((with_reducible refine And.intro (show aj _ _ _ _ = true by kernel_rfl) ?_); conv => whnf)
    | ((with_reducible refine And.intro zC ?_); conv => whnf)
    | ((with_reducible refine And.intro ?hb ?_); (case hb => exact ae (zzb rfl) (by omega)); (conv => whnf))
    | ((refine ag.a rfl rfl rfl rfl rfl rfl ?hb ?_); (case hb => exact zB); (conv => whnf))
    | ((refine ag.b rfl rfl rfl rfl rfl rfl rfl rfl ?hb ?ho ?_); (case hb => exact zB); (case ho => omega); (conv => whnf))
    | ((refine ag.c rfl rfl rfl rfl rfl ?hb ?_); (case hb => exact zB); (conv => whnf))
    | ((refine ag.d rfl rfl rfl rfl rfl rfl ?hb ?ho ?_); (case hb => exact zB); (case ho => omega); (conv => whnf))
    | (with_reducible refine Or.inl ?_)
    | ((with_reducible refine nil_no (by omega) ?_); (conv => whnf))
    | ((with_reducible refine ah ?_ (fun hn0 => ?_)) <;> (conv => whnf))
    
    | ((refine az (fun hc => ?_) (fun hc => ?_)) <;> (try simp only [decide_eq_true_eq, decide_eq_false_iff_not, Q5, Q20, Bool.and_eq_false_iff, Bool.or_eq_false_iff, Bool.not_eq_true', Bool.not_eq_false', beq_iff_eq, bne_iff_ne, ne_eq, beq_eq_false_iff_ne, bne_eq_false_iff_eq, Bool.not_eq_true, Bool.not_eq_false] at hc) <;> (try (exfalso; omega)) <;> (conv => whnf))))
        all_goals
          refine ⟨i + 1, by dsimp only; omega, by dsimp only; omega, ?_⟩
          dsimp only
          generalize l.getD (i : Int).toNat default = d at *
          rw [hu]
          (refine Le.by [] rfl rfl rfl rfl ?_ ?_ <;> (conv => whnf) <;> (repeat' (first | exact trivial | exact ab.rfl rfl | exact ab.ptr rfl | exact ab.sl rfl | ((with_reducible refine ab.fn ?_); (conv => whnf)) | ((refine ab.iref ?_); (conv => whnf)) | exact ⟨rfl, rfl, rfl⟩ | exact fun i hi => rfl | ((with_reducible refine And.intro ?_ ?_) <;> (conv => whnf)))))
          all_goals exact ab.free (.b (by simp [*])) rfl
      · obtain rfl : i = l.length := by omega
        rw [List.take_length]
        (repeat' (first
    | with_reducible refine Wp.seq ?_
    | with_reducible refine Wp.block ?_
    | ((with_reducible first | refine Wp.region ?_ | refine Wp.drawL ac ?_ | refine Wp.cond ?_ | refine Wp.ret ?_ | refine Wp.skip ?_ | refine Wp.exit ?_ | refine Go.mk ?_ | apply ay.of); conv => whnf)
    | with_reducible exact rfl
    | ((with_reducible refine Ov.ok zO ?_); conv => whnf)
    | (with_reducible refine Ov.sh1 (by with_unfolding_all exact rfl) ?_)
    | ((with_reducible refine Ov.quo (by omega) (by omega) (by omega) (fun _ _ => ?_)); conv => whnf)
    | ((with_reducible refine And.intro (show aj _ _ _ _ = true by kernel_rfl) ?_); conv => whnf)
    | ((with_reducible refine And.intro zC ?_); conv => whnf)
    | ((with_reducible refine And.intro ?hb ?_); (case hb => exact ae (zzb rfl) (by omega)); (conv => whnf))
    | ((refine ag.a rfl rfl rfl rfl rfl rfl ?hb ?_); (case hb => exact zB); (conv => whnf))
    | ((refine ag.b rfl rfl rfl rfl rfl rfl rfl rfl ?hb ?ho ?_); (case hb => exact zB); (case ho => omega); (conv => whnf))
    | ((refine ag.c rfl rfl rfl rfl rfl ?hb ?_); (case hb => exact zB); (conv => whnf))
    | ((refine ag.d rfl rfl rfl rfl rfl rfl ?hb ?ho ?_); (case hb => exact zB); (case ho => omega); (conv => whnf))
    | (with_reducible refine Or.inl ?_)
    | ((with_reducible refine nil_no (by omega) ?_); (conv => whnf))
    | ((with_reducible refine ah ?_ (fun hn0 => ?_)) <;> (conv => whnf))
    
    | ((refine az (fun hc => ?_) (fun hc => ?_)) <;> (try simp only [decide_eq_true_eq, decide_eq_false_iff_not, Q5, Q20, Bool.and_eq_false_iff, Bool.or_eq_false_iff, Bool.not_eq_true', Bool.not_eq_false', beq_iff_eq, bne_iff_ne, ne_eq, beq_eq_false_iff_ne, bne_eq_false_iff_eq, Bool.not_eq_true, Bool.not_eq_false] at hc) <;> (try (exfalso; omega)) <;> (conv => whnf))))
        · exact .i (by rw [← a4, nc hc])
        · have h9 := mu_lt hc
          exact ⟨n - 1, ⟨by omega, by omega, by omega, (nd hc).trans a4⟩, h9, by (refine Le.by [] rfl rfl rfl rfl ?_ ?_ <;> (conv => whnf) <;> (repeat' (first | exact trivial | exact ab.rfl rfl | exact ab.ptr rfl | exact ab.sl rfl | ((with_reducible refine ab.fn ?_); (conv => whnf)) | ((refine ab.iref ?_); (conv => whnf)) | exact ⟨rfl, rfl, rfl⟩ | exact fun i hi => rfl | ((with_reducible refine And.intro ?_ ?_) <;> (conv => whnf)))))⟩
end
theorem Wp.frz {C : Cx} {c : Code} {nt : NT} {nx : Nat} {fr : List (Nat × SV)} {hp : List (Nat × Option Blk)} {Q : Exit → St → Prop} (t : Nat) (ht : t < nt.n)
    (h : imK ⟨nt, nx, fr, hp⟩ [lk fr t] fun S' ys => S'.nt = nt ∧ S'.nx = nx ∧ Wp C c ⟨nt, nx, (t, ys.headD .any) :: S'.fr, S'.hp⟩ Q) : Wp C c ⟨nt, nx, fr, hp⟩ Q := by
  refine ⟨fun O E a w hs => ?_⟩
  obtain ⟨E', S', ys, ⟨e1, e2, g1⟩, g2, g3, g4, g5⟩ := ld [lk fr t] (us := [a.tmps.getD t undef]) hs rfl (fun j x v hx hv => by
    cases j with
    | zero =>
      obtain rfl : lk fr t = x := Option.some.inj hx
      obtain rfl : a.tmps.getD t undef = v := Option.some.inj hv
      exact hs.fr t
    | succ j => simp at hx) h
  obtain ⟨nt', nx', fr', hp'⟩ := S'
  dsimp only at e1 e2 g1
  subst e1 e2
  have hy : ys.length = 1 := g3
  match ys, hy with
  | [y], _ =>
    have hv : RS E' 0 w y (a.tmps.getD t undef) := g5 0 y _ rfl rfl
    refine g1.out O E' a w ⟨fun m => ?_, g2.nt, g2.df, g2.hp, g2.nx, g2.inj, g2.im, g2.own, g2.kq, g2.lab, g2.nl, g2.imo⟩
    rw [show (([y] : List SV).headD .any) = y from rfl, bp]
    by_cases e : t = m
    · subst e; rw [if_pos rfl]
      exact RS.mono (E := E') (fun _ _ => ⟨rfl, rfl⟩) (Nat.zero_le _) (fun _ h => h) (fun _ _ => rfl) hv
    · rw [if_neg e]; exact g2.fr m
theorem a7 {α : Type} [Inhabited α] (D : α → List D) (z : Nat) (zs : List α) (d : α) (c : Nat → List Go.Proofs.Ytpdhdnhkhidmpaa.D) (hc : c 0 = D d) : ∀ k, k < zs.length + 1 → cC zs.length (fun i => D (zs.getD i default)) c k = D ((zs ++ [d]).getD k default) := fun k hk => by
  simp only [cC]
  by_cases e : k < zs.length
  · rw [if_pos e, Q1, Q1, Q11 e]
  · rw [if_neg e]
    obtain rfl : k = zs.length := by omega
    have : (zs ++ [d]).getD zs.length default = d := by simp
    rw [Nat.sub_self, this, hc]
section
open Hist
@[reducible] def sesS (ps : List Pol) (l : List HD) (spare : Int) : SV := .agg [.d (ao 4 Pol.D ps), .d (ao 13 HD.D l), .i .i64 spare]
theorem fY {ps : List Pol} (h : bo ps = 0) : newE ps 4096 = 0 := by unfold newE; rw [if_neg (by omega)]; exact h
@[reducible] def rplZ : Rpl := ⟨0, false, 0, 0, 0, 0⟩
@[reducible] def rplB6 (r : Rpl) : Blk := .cells [.i .i64 r.e, .b r.g, .i .i64 r.left, .i .i64 r.wait, .i .i64 r.serial, .i .i64 r.now]
theorem iY {l : List HD} {i : Nat} (h : i < l.length) : l.take (i + 1) = l.take i ++ [l.getD (i : Int).toNat default] := by
  rw [List.take_succ_eq_append_getElem h, Q13, Q1, Q0 h]; rfl
theorem eC {l : List HD} {i : Nat} (h : i < l.length) : l.getD (i : Int).toNat default ∈ l := by
  rw [Q13, Q1, Q0 h]; exact Q14 h
theorem ff {z m n : Nat} {f g : Nat → List D} (h : m = n) (hf : ∀ i, i < m → f i = g i) : SV.Le (.d (.sl z m f)) (.d (.sl z n g)) := by subst h; exact SV.Le.sl hf
theorem hJ {ps : List Pol} (hp : bo ps = 0) (l : List HD) (spare : Int) (done : List HD) (d : HD) (hk : ∀ e ∈ done, IsB e.key) (hd : IsB d.key) (hlen : done.length ≤ 100) :
    Pure TC 36 [sesS ps l spare, .d (ao 13 HD.D done), d.S] (.b (oc ps spare done d)) := by
  refine Pure.mk' Try.func36 rfl rfl (zzb rfl) ?_
  have hp32 := cP hp
  have hkL : ∀ e ∈ done ++ [d], IsB e.key := fun e he => by
    rcases List.mem_append.1 he with he | he
    · exact hk e he
    · rw [List.mem_singleton.1 he]; exact hd
  (repeat' (first
    | ((refine SlxD.of rfl rfl rfl rfl rfl ?_); conv => whnf)
    | ((with_reducible refine Or.inr (And.intro rfl ?_)); conv => whnf)
    | ((refine Or.inr (DApx.of rfl rfl rfl rfl rfl rfl ?hb ?_)); (case hb => exact zB); (conv => whnf))
    | with_reducible refine Wp.seq ?_
    | with_reducible refine Wp.block ?_
    | ((with_reducible first | refine Wp.region ?_ | refine Wp.drawL ac ?_ | refine Wp.cond ?_ | refine Wp.ret ?_ | refine Wp.skip ?_ | refine Wp.exit ?_ | refine Go.mk ?_ | apply ay.of); conv => whnf)
    | with_reducible exact rfl
    | ((with_reducible refine Ov.ok zO ?_); conv => whnf)
    | (with_reducible refine Ov.sh1 (by with_unfolding_all exact rfl) ?_)
    | ((with_reducible refine Ov.quo (by omega) (by omega) (by omega) (fun _ _ => ?_)); conv => whnf)
    | ((with_reducible refine And.intro (show aj _ _ _ _ = true by kernel_rfl) ?_); conv => whnf)
    | ((with_reducible refine And.intro zC ?_); conv => whnf)
    | ((with_reducible refine And.intro ?hb ?_); (case hb => exact ae (zzb rfl) (by omega)); (conv => whnf))
    | ((refine ag.a rfl rfl rfl rfl rfl rfl ?hb ?_); (case hb => exact zB); (conv => whnf))
    | ((refine ag.b rfl rfl rfl rfl rfl rfl rfl rfl ?hb ?ho ?_); (case hb => exact zB); (case ho => omega); (conv => whnf))
    | ((refine ag.c rfl rfl rfl rfl rfl ?hb ?_); (case hb => exact zB); (conv => whnf))
    | ((refine ag.d rfl rfl rfl rfl rfl rfl ?hb ?ho ?_); (case hb => exact zB); (case ho => omega); (conv => whnf))
    | (with_reducible refine Or.inl ?_)
    | ((with_reducible refine nil_no (by omega) ?_); (conv => whnf))
    | ((with_reducible refine ah ?_ (fun hn0 => ?_)) <;> (conv => whnf))
    | ((refine aa.fn (gt ps 4096 (fY hp)) [] rfl rfl rfl rfl rfl ?ha ?hh ?_); (case ha => exact zA); (case hh => exact zH); (conv => whnf))
    | ((refine ai.fn (gt ps 4096 (fY hp)) [] [] rfl rfl rfl rfl rfl ?ha ?hh ?hs ?_); (case ha => exact zA); (case hh => exact zH); (case hs => exact zK); (conv => whnf)) | ((refine ai.new (gt ps 4096 (fY hp)) [] [] rfl rfl rfl rfl rfl rfl ?ha ?hh ?hs ?_); (case ha => exact zA); (case hh => exact zH); (case hs => exact zK); (conv => whnf))
    | ((refine az (fun hc => ?_) (fun hc => ?_)) <;> (try simp only [decide_eq_true_eq, decide_eq_false_iff_not, Q5, Q20, Bool.and_eq_false_iff, Bool.or_eq_false_iff, Bool.not_eq_true', Bool.not_eq_false', beq_iff_eq, bne_iff_ne, ne_eq, beq_eq_false_iff_ne, bne_eq_false_iff_eq, Bool.not_eq_true, Bool.not_eq_false] at hc) <;> (try (exfalso; omega)) <;> (conv => whnf))))
  refine Wp.loopP (ι := Nat × Rpl) (fun k => k.1 ≤ (done ++ [d]).length ∧ ∀ j, k.1 = j + 1 → k.2 = (doH ps spare (play ps spare ((done ++ [d]).take j)) ((done ++ [d]).getD (j : Int).toNat default)).1)
    (fun k => ⟨⟨Try.f36.ntmps, 0⟩, 5, [(3, .ptr 0 0), (5, .ptr 1 0), (7, .ptr 2 0), (9, .ptr 4 0), (28, .d (ao 13 HD.D (done ++ [d]))), (29, .i .i64 (done ++ [d]).length), (30, .i .i64 k.1)],
      [(0, some (.cells [.d (ao 4 Pol.D ps), .d (ao 13 HD.D l), .i .i64 spare])), (1, some (.cells [.i .i64 d.who, .i .u8 d.op, .i .i64 d.pol, .d (ao 1 (aW .u8) d.key), .i .i64 d.n, .i .i64 d.first, .i .i64 d.last, .i .i64 d.r.e, .b d.r.g, .i .i64 d.r.left, .i .i64 d.r.wait, .i .i64 d.r.serial, .i .i64 d.r.now])),
       (2, some (.cells [.d (ao 4 Pol.D ps), .i .i64 4096, .sl 3 4 0 (play ps spare ((done ++ [d]).take k.1)).length])), (3, some (aK 78 4 Cel.D (play ps spare ((done ++ [d]).take k.1)))), (4, some (rplB6 k.2))]⟩) (fun k => (done ++ [d]).length - k.1) (0, rplZ) ⟨Nat.zero_le _, fun j h => by cases h⟩ ?_ ?_
  · (refine Le.by [0,1,2,3,4] rfl rfl rfl rfl ?_ ?_ <;> (conv => whnf) <;> (repeat' (first | exact trivial | exact ab.rfl rfl | exact ab.ptr rfl | exact ab.sl rfl | ((with_reducible refine ab.fn ?_); (conv => whnf)) | ((refine ab.iref ?_); (conv => whnf)) | exact ⟨rfl, rfl, rfl⟩ | exact fun i hi => rfl | ((with_reducible refine And.intro ?_ ?_) <;> (conv => whnf)))))
    · exact ab.free (ff (by simp) fun k hk => a7 HD.D 13 done d _ rfl k hk) rfl
    · exact ab.free (.i (by simp)) rfl
  · rintro ⟨i, R⟩ ⟨h1, h2⟩
    dsimp only at h1 h2 ⊢
    have hL : (done ++ [d]).length = done.length + 1 := by simp
    by_cases hi : i < (done ++ [d]).length
    · have hm := eC hi
      have hpl := iY hi
      have hB := nm (spare := spare) hp32 (l := (done ++ [d]).take i) fun e he => hkL e (List.mem_of_mem_take he)
      have hDo := fun s => book_Do ps 4096 (play ps spare ((done ++ [d]).take i)) ((done ++ [d]).getD (i : Int).toNat default).op ((done ++ [d]).getD (i : Int).toNat default).pol ((done ++ [d]).getD (i : Int).toNat default).key ((done ++ [d]).getD (i : Int).toNat default).n ((done ++ [d]).getD (i : Int).toNat default).r.now s hB.ok (hkL _ hm)
      (repeat' (first
    | with_reducible refine Wp.seq ?_
    | with_reducible refine Wp.block ?_
    | ((with_reducible first | refine Wp.region ?_ | refine Wp.drawL ac ?_ | refine Wp.cond ?_ | refine Wp.ret ?_ | refine Wp.skip ?_ | refine Wp.exit ?_ | refine Go.mk ?_ | apply ay.of); conv => whnf)
    | with_reducible exact rfl
    | ((with_reducible refine Ov.ok zO ?_); conv => whnf)
    | (with_reducible refine Ov.sh1 (by with_unfolding_all exact rfl) ?_)
    | ((with_reducible refine Ov.quo (by omega) (by omega) (by omega) (fun _ _ => ?_)); conv => whnf)
    | ((with_reducible refine And.intro (show aj _ _ _ _ = true by kernel_rfl) ?_); conv => whnf)
    | ((with_reducible refine And.intro zC ?_); conv => whnf)
    | ((with_reducible refine And.intro ?hb ?_); (case hb => exact ae (zzb rfl) (by omega)); (conv => whnf))
    | ((refine ag.a rfl rfl rfl rfl rfl rfl ?hb ?_); (case hb => exact zB); (conv => whnf))
    | ((refine ag.b rfl rfl rfl rfl rfl rfl rfl rfl ?hb ?ho ?_); (case hb => exact zB); (case ho => omega); (conv => whnf))
    | ((refine ag.c rfl rfl rfl rfl rfl ?hb ?_); (case hb => exact zB); (conv => whnf))
    | ((refine ag.d rfl rfl rfl rfl rfl rfl ?hb ?ho ?_); (case hb => exact zB); (case ho => omega); (conv => whnf))
    | (with_reducible refine Or.inl ?_)
    | ((with_reducible refine nil_no (by omega) ?_); (conv => whnf))
    | ((with_reducible refine ah ?_ (fun hn0 => ?_)) <;> (conv => whnf))
    | ((refine aa.fn (hDo spare) [2,3] rfl rfl rfl rfl rfl ?ha ?hh ?_); (case ha => exact zA); (case hh => exact zH); (conv => whnf))
    | ((refine ai.fn (hDo spare) [2,3] [2,3] rfl rfl rfl rfl rfl ?ha ?hh ?hs ?_); (case ha => exact zA); (case hh => exact zH); (case hs => exact zK); (conv => whnf)) | ((refine ai.new (hDo spare) [2,3] [2,3] rfl rfl rfl rfl rfl rfl ?ha ?hh ?hs ?_); (case ha => exact zA); (case hh => exact zH); (case hs => exact zK); (conv => whnf))
    | ((refine ai.fn (hDo spare) [2,3] [] rfl rfl rfl rfl rfl ?ha ?hh ?hs ?_); (case ha => exact zA); (case hh => exact zH); (case hs => exact zK); (conv => whnf)) | ((refine ai.new (hDo spare) [2,3] [] rfl rfl rfl rfl rfl rfl ?ha ?hh ?hs ?_); (case ha => exact zA); (case hh => exact zH); (case hs => exact zK); (conv => whnf))
    | ((refine aa.fn (hDo ((done ++ [d]).getD (i : Int).toNat default).r.serial) [2,3] rfl rfl rfl rfl rfl ?ha ?hh ?_); (case ha => exact zA); (case hh => exact zH); (conv => whnf))
    | ((refine ai.fn (hDo ((done ++ [d]).getD (i : Int).toNat default).r.serial) [2,3] [2,3] rfl rfl rfl rfl rfl ?ha ?hh ?hs ?_); (case ha => exact zA); (case hh => exact zH); (case hs => exact zK); (conv => whnf)) | ((refine ai.new (hDo ((done ++ [d]).getD (i : Int).toNat default).r.serial) [2,3] [2,3] rfl rfl rfl rfl rfl rfl ?ha ?hh ?hs ?_); (case ha => exact zA); (case hh => exact zH); (case hs => exact zK); (conv => whnf))
    | ((refine ai.fn (hDo ((done ++ [d]).getD (i : Int).toNat default).r.serial) [2,3] [] rfl rfl rfl rfl rfl ?ha ?hh ?hs ?_); (case ha => exact zA); (case hh => exact zH); (case hs => exact zK); (conv => whnf)) | ((refine ai.new (hDo ((done ++ [d]).getD (i : Int).toNat default).r.serial) [2,3] [] rfl rfl rfl rfl rfl rfl ?ha ?hh ?hs ?_); (case ha => exact zA); (case hh => exact zH); (case hs => exact zK); (conv => whnf))
    | ((refine az (fun hc => ?_) (fun hc => ?_)) <;> (try simp only [decide_eq_true_eq, decide_eq_false_iff_not, Q5, Q20, Bool.and_eq_false_iff, Bool.or_eq_false_iff, Bool.not_eq_true', Bool.not_eq_false', beq_iff_eq, bne_iff_ne, ne_eq, beq_eq_false_iff_ne, bne_eq_false_iff_eq, Bool.not_eq_true, Bool.not_eq_false] at hc) <;> (try (exfalso; omega)) <;> (conv => whnf))))
      all_goals
        have hser : ser spare ((done ++ [d]).getD (i : Int).toNat default) = if ((done ++ [d]).getD (i : Int).toNat default).r.serial = 0 then spare else ((done ++ [d]).getD (i : Int).toNat default).r.serial := rfl
        refine ⟨(i + 1, (doH ps spare (play ps spare ((done ++ [d]).take i)) ((done ++ [d]).getD (i : Int).toNat default)).1), ⟨by dsimp only; omega, fun j hj => ?_⟩, by dsimp only; omega, ?_⟩
        · have : j = i := by dsimp only at hj; omega
          rw [this]
      · rw [if_pos hc] at hser
        dsimp only
        rw [hpl, gM]
        unfold doH
        rw [hser]
        (refine Le.by [0,1,2,6,4] rfl rfl rfl rfl ?_ ?_ <;> (conv => whnf) <;> (repeat' (first | exact trivial | exact ab.rfl rfl | exact ab.ptr rfl | exact ab.sl rfl | ((with_reducible refine ab.fn ?_); (conv => whnf)) | ((refine ab.iref ?_); (conv => whnf)) | exact ⟨rfl, rfl, rfl⟩ | exact fun i hi => rfl | ((with_reducible refine And.intro ?_ ?_) <;> (conv => whnf)))))
      · rw [if_neg hc] at hser
        dsimp only
        rw [hpl, gM]
        unfold doH
        rw [hser]
        (refine Le.by [0,1,2,6,4] rfl rfl rfl rfl ?_ ?_ <;> (conv => whnf) <;> (repeat' (first | exact trivial | exact ab.rfl rfl | exact ab.ptr rfl | exact ab.sl rfl | ((with_reducible refine ab.fn ?_); (conv => whnf)) | ((refine ab.iref ?_); (conv => whnf)) | exact ⟨rfl, rfl, rfl⟩ | exact fun i hi => rfl | ((with_reducible refine And.intro ?_ ?_) <;> (conv => whnf)))))
    · obtain rfl : i = (done ++ [d]).length := by omega
      rw [List.take_length]
      (repeat' (first
    | with_reducible refine Wp.seq ?_
    | with_reducible refine Wp.block ?_
    | ((with_reducible first | refine Wp.region ?_ | refine Wp.drawL ac ?_ | refine Wp.cond ?_ | refine Wp.ret ?_ | refine Wp.skip ?_ | refine Wp.exit ?_ | refine Go.mk ?_ | apply ay.of); conv => whnf)
    | with_reducible exact rfl
    | ((with_reducible refine Ov.ok zO ?_); conv => whnf)
    | (with_reducible refine Ov.sh1 (by with_unfolding_all exact rfl) ?_)
    | ((with_reducible refine Ov.quo (by omega) (by omega) (by omega) (fun _ _ => ?_)); conv => whnf)
    | ((with_reducible refine And.intro (show aj _ _ _ _ = true by kernel_rfl) ?_); conv => whnf)
    | ((with_reducible refine And.intro zC ?_); conv => whnf)
    | ((with_reducible refine And.intro ?hb ?_); (case hb => exact ae (zzb rfl) (by omega)); (conv => whnf))
    | ((refine ag.a rfl rfl rfl rfl rfl rfl ?hb ?_); (case hb => exact zB); (conv => whnf))
    | ((refine ag.b rfl rfl rfl rfl rfl rfl rfl rfl ?hb ?ho ?_); (case hb => exact zB); (case ho => omega); (conv => whnf))
    | ((refine ag.c rfl rfl rfl rfl rfl ?hb ?_); (case hb => exact zB); (conv => whnf))
    | ((refine ag.d rfl rfl rfl rfl rfl rfl ?hb ?ho ?_); (case hb => exact zB); (case ho => omega); (conv => whnf))
    | (with_reducible refine Or.inl ?_)
    | ((with_reducible refine nil_no (by omega) ?_); (conv => whnf))
    | ((with_reducible refine ah ?_ (fun hn0 => ?_)) <;> (conv => whnf))
    
    | ((refine az (fun hc => ?_) (fun hc => ?_)) <;> (try simp only [decide_eq_true_eq, decide_eq_false_iff_not, Q5, Q20, Bool.and_eq_false_iff, Bool.or_eq_false_iff, Bool.not_eq_true', Bool.not_eq_false', beq_iff_eq, bne_iff_ne, ne_eq, beq_eq_false_iff_ne, bne_eq_false_iff_eq, Bool.not_eq_true, Bool.not_eq_false] at hc) <;> (try (exfalso; omega)) <;> (conv => whnf))))
      have h3 := h2 done.length (by simp)
      rw [List.take_left, show (done ++ [d]).getD ((done.length : Nat) : Int).toNat default = d by simp] at h3
      exact .b (by unfold oc; rw [← h3]; rfl)
end
theorem Pure.leX {C : Cx} {g : Nat} {args args' : List SV} {r : SV} (h : Pure C g args' r) (ha : Les args args') : Pure C g args r :=
  ⟨h.ent, fun E w vs hIm hsz hargs => h.out E w vs hIm (hsz.trans ha.len) fun j hj => (ha.out j (by rw [ha.len]; exact hj) hj).out _ _ _ _ (hargs j (by rw [ha.len]; exact hj))⟩
def f1 (a : Int) : Nat → List D := fun _ => [.val (.int .u64 a)]
def f2 (a b : Int) : Nat → List D
  | 0 => [.val (.int .u64 a)]
  | _ + 1 => [.val (.int .u64 b)]
section
open Hist
theorem Wp.label {C : Cx} {l : Nat} {S : St} {Q : Exit → St → Prop} (h : Q .normal S) : Wp C (.label l) S Q := ⟨fun _ E _ _ hs => wp_label ⟨S, E, h, hs⟩⟩
def noGo (Q : Exit → St → Prop) : Exit → St → Prop
  | .goto _, _ => False
  | e, S => Q e S
theorem Wp.scope {C : Cx} {c : Code} {S : St} {Q : Exit → St → Prop} (h : Wp C c S (noGo Q)) : Wp C (.scope c) S Q :=
  ⟨fun O E a w hs => wp_scope_straight (wp_mono (h.out O E a w hs) fun e a' w' ⟨S', E', h1, h2⟩ => by
    cases e with
    | goto l => exact h1.elim
    | _ => exact ⟨S', E', h1, h2⟩)⟩
theorem oC : ∀ left : Nat, left < 256 → ∀ i : Nat, i < 8 → bits .and .i64 ((left : Int) / 2 ^ min (i : Int).toNat IntKind.i64.bits) 1 = if left.testBit i then 1 else 0 := by decide +kernel
theorem bit_out : ∀ left : Nat, left < 256 → ∀ i : Nat, i < 8 → left.testBit i = true → bits .andNot .i64 (left : Int) (IntKind.i64.wrap (1 * 2 ^ min (i : Int).toNat IntKind.i64.bits)) = ((left - 2 ^ i : Nat) : Int) := by decide +kernel
theorem nk : ∀ left : Nat, left < 256 → ∀ i : Nat, i < 8 → left.testBit i = true → popc (left - 2 ^ i) + 1 = popc left ∧ left - 2 ^ i < 256 := by decide +kernel
theorem popc_0 : ∀ left : Nat, left < 256 → popc left = 0 → left = 0 := by decide +kernel
theorem nb {ps : List Pol} {l : List HD} {spare : Int} {f left : Nat} {done : List HD} {i : Nat} (hi : i < l.length) (h1 : kn ps l spare left done i = true) (h2 : srch ps l spare f (left - 2 ^ i) (done ++ [l.getD i default]) = true) : srch ps l spare (f + 1) left done = true := by
  unfold srch
  rw [Q20]
  right
  rw [List.any_eq_true]
  exact ⟨i, List.mem_range.2 hi, by rw [h1, h2]; rfl⟩
theorem srch_no {ps : List Pol} {l : List HD} {spare : Int} {f left : Nat} {done : List HD} (h0 : ¬ left = 0) (h : ∀ i, i < l.length → (kn ps l spare left done i && srch ps l spare f (left - 2 ^ i) (done ++ [l.getD i default])) = false) : srch ps l spare (f + 1) left done = false := by
  unfold srch
  rw [Bool.or_eq_false_iff]
  refine ⟨by simpa using h0, ?_⟩
  rw [List.any_eq_false]
  intro i hi
  rw [h i (List.mem_range.1 hi)]; decide
theorem try_of {ps : List Pol} {l : List HD} {spare : Int} {left : Nat} {done : List HD} {i : Nat} (hb : left.testBit i = true) (hj : ∀ j, j < l.length → ¬ (left.testBit j = true ∧ (l.getD j default).last < (l.getD i default).first)) : kn ps l spare left done i = oc ps spare done (l.getD i default) := by
  unfold kn
  have : ((List.range l.length).all fun j => !(left.testBit j && decide ((l.getD j default).last < (l.getD i default).first))) = true := by
    rw [Q23]
    intro j hj'
    have := hj j (List.mem_range.1 hj')
    rw [Bool.not_eq_true', Bool.and_eq_false_iff]
    by_cases e : left.testBit j = true
    · right; simpa using fun h => this ⟨e, h⟩
    · left; simpa using e
  rw [hb, this]; rfl
theorem try_no {ps : List Pol} {l : List HD} {spare : Int} {left : Nat} {done : List HD} {i j : Nat} (hj : j < l.length) (h1 : left.testBit j = true) (h2 : (l.getD j default).last < (l.getD i default).first) : kn ps l spare left done i = false := by
  unfold kn
  have : ((List.range l.length).all fun j => !(left.testBit j && decide ((l.getD j default).last < (l.getD i default).first))) = false := by
    rw [List.all_eq_false]
    exact ⟨j, List.mem_range.2 hj, by rw [h1, decide_eq_true h2]; decide⟩
  rw [this, Bool.and_false, Bool.false_and]
theorem hU {ps : List Pol} (hp : bo ps = 0) (l : List HD) (spare : Int) (hl8 : l.length ≤ 8) (hkl : ∀ e ∈ l, IsB e.key) : ∀ (f left : Nat) (done : List HD), left < 256 → popc left ≤ f → done.length + f ≤ 8 → (∀ e ∈ done, IsB e.key) →
    Pure TC 17 [sesS ps l spare, .i .i64 left, .d (ao 13 HD.D done)] (.b (srch ps l spare f left done))
  | 0, left, done, h1, h2, _, _ => by
    obtain rfl := popc_0 left h1 (by omega)
    refine Pure.mk' Try.func17 rfl rfl (zzb rfl) ?_
    (repeat' (first
    | with_reducible refine Wp.seq ?_
    | with_reducible refine Wp.block ?_
    | ((with_reducible first | refine Wp.region ?_ | refine Wp.drawL ac ?_ | refine Wp.cond ?_ | refine Wp.ret ?_ | refine Wp.skip ?_ | refine Wp.exit ?_ | refine Go.mk ?_ | apply ay.of); conv => whnf)
    | with_reducible exact rfl
    | ((with_reducible refine Ov.ok zO ?_); conv => whnf)
    | (with_reducible refine Ov.sh1 (by with_unfolding_all exact rfl) ?_)
    | ((with_reducible refine Ov.quo (by omega) (by omega) (by omega) (fun _ _ => ?_)); conv => whnf)
    | ((with_reducible refine And.intro (show aj _ _ _ _ = true by kernel_rfl) ?_); conv => whnf)
    | ((with_reducible refine And.intro zC ?_); conv => whnf)
    | ((with_reducible refine And.intro ?hb ?_); (case hb => exact ae (zzb rfl) (by omega)); (conv => whnf))
    | ((refine ag.a rfl rfl rfl rfl rfl rfl ?hb ?_); (case hb => exact zB); (conv => whnf))
    | ((refine ag.b rfl rfl rfl rfl rfl rfl rfl rfl ?hb ?ho ?_); (case hb => exact zB); (case ho => omega); (conv => whnf))
    | ((refine ag.c rfl rfl rfl rfl rfl ?hb ?_); (case hb => exact zB); (conv => whnf))
    | ((refine ag.d rfl rfl rfl rfl rfl rfl ?hb ?ho ?_); (case hb => exact zB); (case ho => omega); (conv => whnf))
    | (with_reducible refine Or.inl ?_)
    | ((with_reducible refine nil_no (by omega) ?_); (conv => whnf))
    | ((with_reducible refine ah ?_ (fun hn0 => ?_)) <;> (conv => whnf))
    | ((with_reducible refine Wp.label ?_); conv => whnf)
    | ((with_reducible refine Wp.scope ?_))
    | ((refine az (fun hc => ?_) (fun hc => ?_)) <;> (try simp only [decide_eq_true_eq, decide_eq_false_iff_not, Q5, Q20, Bool.and_eq_false_iff, Bool.or_eq_false_iff, Bool.not_eq_true', Bool.not_eq_false', beq_iff_eq, bne_iff_ne, ne_eq, beq_eq_false_iff_ne, bne_eq_false_iff_eq, Bool.not_eq_true, Bool.not_eq_false] at hc) <;> (try (exfalso; omega)) <;> (conv => whnf))))
    all_goals first
      | exact .b (by simp [srch])
      | (exfalso; omega)
  | f + 1, left, done, h1, h2, h3, h4 => by
    have ih := hU hp l spare hl8 hkl f
    refine Pure.mk' Try.func17 rfl rfl (zzb rfl) ?_
    (repeat' (first
    | with_reducible refine Wp.seq ?_
    | with_reducible refine Wp.block ?_
    | ((with_reducible first | refine Wp.region ?_ | refine Wp.drawL ac ?_ | refine Wp.cond ?_ | refine Wp.ret ?_ | refine Wp.skip ?_ | refine Wp.exit ?_ | refine Go.mk ?_ | apply ay.of); conv => whnf)
    | with_reducible exact rfl
    | ((with_reducible refine Ov.ok zO ?_); conv => whnf)
    | (with_reducible refine Ov.sh1 (by with_unfolding_all exact rfl) ?_)
    | ((with_reducible refine Ov.quo (by omega) (by omega) (by omega) (fun _ _ => ?_)); conv => whnf)
    | ((with_reducible refine And.intro (show aj _ _ _ _ = true by kernel_rfl) ?_); conv => whnf)
    | ((with_reducible refine And.intro zC ?_); conv => whnf)
    | ((with_reducible refine And.intro ?hb ?_); (case hb => exact ae (zzb rfl) (by omega)); (conv => whnf))
    | ((refine ag.a rfl rfl rfl rfl rfl rfl ?hb ?_); (case hb => exact zB); (conv => whnf))
    | ((refine ag.b rfl rfl rfl rfl rfl rfl rfl rfl ?hb ?ho ?_); (case hb => exact zB); (case ho => omega); (conv => whnf))
    | ((refine ag.c rfl rfl rfl rfl rfl ?hb ?_); (case hb => exact zB); (conv => whnf))
    | ((refine ag.d rfl rfl rfl rfl rfl rfl ?hb ?ho ?_); (case hb => exact zB); (case ho => omega); (conv => whnf))
    | (with_reducible refine Or.inl ?_)
    | ((with_reducible refine nil_no (by omega) ?_); (conv => whnf))
    | ((with_reducible refine ah ?_ (fun hn0 => ?_)) <;> (conv => whnf))
    | ((with_reducible refine Wp.label ?_); conv => whnf)
    | ((with_reducible refine Wp.scope ?_))
    | ((refine az (fun hc => ?_) (fun hc => ?_)) <;> (try simp only [decide_eq_true_eq, decide_eq_false_iff_not, Q5, Q20, Bool.and_eq_false_iff, Bool.or_eq_false_iff, Bool.not_eq_true', Bool.not_eq_false', beq_iff_eq, bne_iff_ne, ne_eq, beq_eq_false_iff_ne, bne_eq_false_iff_eq, Bool.not_eq_true, Bool.not_eq_false] at hc) <;> (try (exfalso; omega)) <;> (conv => whnf))))
    · exact .b (by have : left = 0 := by omega
                   subst this; rfl)
    have hn0 : ¬ left = 0 := by omega
    refine Wp.loopP (ι := Nat) (fun i => i ≤ l.length ∧ ∀ i', i' < i → (kn ps l spare left done i' && srch ps l spare f (left - 2 ^ i') (done ++ [l.getD i' default])) = false)
      (fun i => ⟨⟨Try.f17.ntmps, 0⟩, 1, [(1, .i .i64 left), (2, .d (ao 13 HD.D done)), (3, .ptr 0 0), (14, .d (ao 13 HD.D l)), (15, .i .i64 l.length), (16, .i .i64 i)], [(0, some (.cells [.d (ao 4 Pol.D ps), .d (ao 13 HD.D l), .i .i64 spare]))]⟩) (fun i => l.length - i) 0 ⟨Nat.zero_le _, fun i h => absurd h (Nat.not_lt_zero i)⟩ ?_ ?_
    · (refine Le.by [0] rfl rfl rfl rfl ?_ ?_ <;> (conv => whnf) <;> (repeat' (first | exact trivial | exact ab.rfl rfl | exact ab.ptr rfl | exact ab.sl rfl | ((with_reducible refine ab.fn ?_); (conv => whnf)) | ((refine ab.iref ?_); (conv => whnf)) | exact ⟨rfl, rfl, rfl⟩ | exact fun i hi => rfl | ((with_reducible refine And.intro ?_ ?_) <;> (conv => whnf)))))
    · rintro i ⟨hi0, hno⟩
      by_cases hi : i < l.length
      · have hbit := oC left h1 i (by omega)
        have hD : l.getD (i : Int).toNat default = l.getD i default := by rw [Q13]
        cases hb : left.testBit i with
        | false =>
          rw [hb] at hbit
          rw [if_neg (by decide)] at hbit
          (repeat' (first
    | with_reducible refine Wp.seq ?_
    | with_reducible refine Wp.block ?_
    | ((with_reducible first | refine Wp.region ?_ | refine Wp.drawL ac ?_ | refine Wp.cond ?_ | refine Wp.ret ?_ | refine Wp.skip ?_ | refine Wp.exit ?_ | refine Go.mk ?_ | apply ay.of); conv => whnf)
    | with_reducible exact rfl
    | ((with_reducible refine Ov.ok zO ?_); conv => whnf)
    | (with_reducible refine Ov.sh1 (by with_unfolding_all exact rfl) ?_)
    | ((with_reducible refine Ov.quo (by omega) (by omega) (by omega) (fun _ _ => ?_)); conv => whnf)
    | ((with_reducible refine And.intro (show aj _ _ _ _ = true by kernel_rfl) ?_); conv => whnf)
    | ((with_reducible refine And.intro zC ?_); conv => whnf)
    | ((with_reducible refine And.intro ?hb ?_); (case hb => exact ae (zzb rfl) (by omega)); (conv => whnf))
    | ((refine ag.a rfl rfl rfl rfl rfl rfl ?hb ?_); (case hb => exact zB); (conv => whnf))
    | ((refine ag.b rfl rfl rfl rfl rfl rfl rfl rfl ?hb ?ho ?_); (case hb => exact zB); (case ho => omega); (conv => whnf))
    | ((refine ag.c rfl rfl rfl rfl rfl ?hb ?_); (case hb => exact zB); (conv => whnf))
    | ((refine ag.d rfl rfl rfl rfl rfl rfl ?hb ?ho ?_); (case hb => exact zB); (case ho => omega); (conv => whnf))
    | (with_reducible refine Or.inl ?_)
    | ((with_reducible refine nil_no (by omega) ?_); (conv => whnf))
    | ((with_reducible refine ah ?_ (fun hn0 => ?_)) <;> (conv => whnf))
    
    | ((refine az (fun hc => ?_) (fun hc => ?_)) <;> (try simp only [decide_eq_true_eq, decide_eq_false_iff_not, Q5, Q20, Bool.and_eq_false_iff, Bool.or_eq_false_iff, Bool.not_eq_true', Bool.not_eq_false', beq_iff_eq, bne_iff_ne, ne_eq, beq_eq_false_iff_ne, bne_eq_false_iff_eq, Bool.not_eq_true, Bool.not_eq_false] at hc) <;> (try (exfalso; omega)) <;> (conv => whnf))))
          all_goals first
            | (exfalso; omega)
            | (refine ⟨i + 1, ⟨by omega, fun i' h => ?_⟩, by dsimp only; omega, ?_⟩
               · by_cases e : i' = i
                 · subst e; unfold kn; rw [hb]; rfl
                 · exact hno i' (by omega)
               · (refine Le.by [0] rfl rfl rfl rfl ?_ ?_ <;> (conv => whnf) <;> (repeat' (first | exact trivial | exact ab.rfl rfl | exact ab.ptr rfl | exact ab.sl rfl | ((with_reducible refine ab.fn ?_); (conv => whnf)) | ((refine ab.iref ?_); (conv => whnf)) | exact ⟨rfl, rfl, rfl⟩ | exact fun i hi => rfl | ((with_reducible refine And.intro ?_ ?_) <;> (conv => whnf))))))
        | true =>
          rw [hb] at hbit
          rw [if_pos rfl] at hbit
          (repeat' (first
    | with_reducible refine Wp.seq ?_
    | with_reducible refine Wp.block ?_
    | ((with_reducible first | refine Wp.region ?_ | refine Wp.drawL ac ?_ | refine Wp.cond ?_ | refine Wp.ret ?_ | refine Wp.skip ?_ | refine Wp.exit ?_ | refine Go.mk ?_ | apply ay.of); conv => whnf)
    | with_reducible exact rfl
    | ((with_reducible refine Ov.ok zO ?_); conv => whnf)
    | (with_reducible refine Ov.sh1 (by with_unfolding_all exact rfl) ?_)
    | ((with_reducible refine Ov.quo (by omega) (by omega) (by omega) (fun _ _ => ?_)); conv => whnf)
    | ((with_reducible refine And.intro (show aj _ _ _ _ = true by kernel_rfl) ?_); conv => whnf)
    | ((with_reducible refine And.intro zC ?_); conv => whnf)
    | ((with_reducible refine And.intro ?hb ?_); (case hb => exact ae (zzb rfl) (by omega)); (conv => whnf))
    | ((refine ag.a rfl rfl rfl rfl rfl rfl ?hb ?_); (case hb => exact zB); (conv => whnf))
    | ((refine ag.b rfl rfl rfl rfl rfl rfl rfl rfl ?hb ?ho ?_); (case hb => exact zB); (case ho => omega); (conv => whnf))
    | ((refine ag.c rfl rfl rfl rfl rfl ?hb ?_); (case hb => exact zB); (conv => whnf))
    | ((refine ag.d rfl rfl rfl rfl rfl rfl ?hb ?ho ?_); (case hb => exact zB); (case ho => omega); (conv => whnf))
    | (with_reducible refine Or.inl ?_)
    | ((with_reducible refine nil_no (by omega) ?_); (conv => whnf))
    | ((with_reducible refine ah ?_ (fun hn0 => ?_)) <;> (conv => whnf))
    
    | ((refine az (fun hc => ?_) (fun hc => ?_)) <;> (try simp only [decide_eq_true_eq, decide_eq_false_iff_not, Q5, Q20, Bool.and_eq_false_iff, Bool.or_eq_false_iff, Bool.not_eq_true', Bool.not_eq_false', beq_iff_eq, bne_iff_ne, ne_eq, beq_eq_false_iff_ne, bne_eq_false_iff_eq, Bool.not_eq_true, Bool.not_eq_false] at hc) <;> (try (exfalso; omega)) <;> (conv => whnf))))
          refine Wp.loopP (ι := Nat) (fun j => j ≤ l.length ∧ ∀ j', j' < j → ¬ (left.testBit j' = true ∧ (l.getD j' default).last < (l.getD i default).first))
            (fun j => ⟨⟨Try.f17.ntmps, 0⟩, 2, [(1, .i .i64 left), (2, .d (ao 13 HD.D done)), (3, .ptr 0 0), (7, .i .i64 i), (8, .ptr 1 0), (14, .d (ao 13 HD.D l)), (15, .i .i64 l.length), (16, .i .i64 i), (27, .d (ao 13 HD.D l)), (28, .i .i64 l.length), (29, .i .i64 j)],
              [(0, some (.cells [.d (ao 4 Pol.D ps), .d (ao 13 HD.D l), .i .i64 spare])), (1, some (.cells ((l.getD i default).D.map .d)))]⟩) (fun j => l.length - j) 0 ⟨Nat.zero_le _, fun j h => absurd h (Nat.not_lt_zero j)⟩ ?_ ?_
          · rw [hD]
            (refine Le.by [0,1] rfl rfl rfl rfl ?_ ?_ <;> (conv => whnf) <;> (repeat' (first | exact trivial | exact ab.rfl rfl | exact ab.ptr rfl | exact ab.sl rfl | ((with_reducible refine ab.fn ?_); (conv => whnf)) | ((refine ab.iref ?_); (conv => whnf)) | exact ⟨rfl, rfl, rfl⟩ | exact fun i hi => rfl | ((with_reducible refine And.intro ?_ ?_) <;> (conv => whnf)))))
          · rintro j ⟨hj0, hjn⟩
            by_cases hj : j < l.length
            · have hbj := oC left h1 j (by omega)
              have hDj : l.getD (j : Int).toNat default = l.getD j default := by rw [Q13]
              cases hb2 : left.testBit j with
              | false =>
                rw [hb2] at hbj
                rw [if_neg (by decide)] at hbj
                (repeat' (first
    | with_reducible refine Wp.seq ?_
    | with_reducible refine Wp.block ?_
    | ((with_reducible first | refine Wp.region ?_ | refine Wp.drawL ac ?_ | refine Wp.cond ?_ | refine Wp.ret ?_ | refine Wp.skip ?_ | refine Wp.exit ?_ | refine Go.mk ?_ | apply ay.of); conv => whnf)
    | with_reducible exact rfl
    | ((with_reducible refine Ov.ok zO ?_); conv => whnf)
    | (with_reducible refine Ov.sh1 (by with_unfolding_all exact rfl) ?_)
    | ((with_reducible refine Ov.quo (by omega) (by omega) (by omega) (fun _ _ => ?_)); conv => whnf)
    | ((with_reducible refine And.intro (show aj _ _ _ _ = true by kernel_rfl) ?_); conv => whnf)
    | ((with_reducible refine And.intro zC ?_); conv => whnf)
    | ((with_reducible refine And.intro ?hb ?_); (case hb => exact ae (zzb rfl) (by omega)); (conv => whnf))
    | ((refine ag.a rfl rfl rfl rfl rfl rfl ?hb ?_); (case hb => exact zB); (conv => whnf))
    | ((refine ag.b rfl rfl rfl rfl rfl rfl rfl rfl ?hb ?ho ?_); (case hb => exact zB); (case ho => omega); (conv => whnf))
    | ((refine ag.c rfl rfl rfl rfl rfl ?hb ?_); (case hb => exact zB); (conv => whnf))
    | ((refine ag.d rfl rfl rfl rfl rfl rfl ?hb ?ho ?_); (case hb => exact zB); (case ho => omega); (conv => whnf))
    | (with_reducible refine Or.inl ?_)
    | ((with_reducible refine nil_no (by omega) ?_); (conv => whnf))
    | ((with_reducible refine ah ?_ (fun hn0 => ?_)) <;> (conv => whnf))
    
    | ((refine az (fun hc => ?_) (fun hc => ?_)) <;> (try simp only [decide_eq_true_eq, decide_eq_false_iff_not, Q5, Q20, Bool.and_eq_false_iff, Bool.or_eq_false_iff, Bool.not_eq_true', Bool.not_eq_false', beq_iff_eq, bne_iff_ne, ne_eq, beq_eq_false_iff_ne, bne_eq_false_iff_eq, Bool.not_eq_true, Bool.not_eq_false] at hc) <;> (try (exfalso; omega)) <;> (conv => whnf))))
                all_goals first
                  | (exfalso; omega)
                  | (refine ⟨j + 1, ⟨by omega, fun j' h => ?_⟩, by dsimp only; omega, ?_⟩
                     · by_cases e : j' = j
                       · subst e; intro h9; rw [hb2] at h9; cases h9.1
                       · exact hjn j' (by omega)
                     · (refine Le.by [0,1] rfl rfl rfl rfl ?_ ?_ <;> (conv => whnf) <;> (repeat' (first | exact trivial | exact ab.rfl rfl | exact ab.ptr rfl | exact ab.sl rfl | ((with_reducible refine ab.fn ?_); (conv => whnf)) | ((refine ab.iref ?_); (conv => whnf)) | exact ⟨rfl, rfl, rfl⟩ | exact fun i hi => rfl | ((with_reducible refine And.intro ?_ ?_) <;> (conv => whnf))))))
              | true =>
                rw [hb2] at hbj
                rw [if_pos rfl] at hbj
                (repeat' (first
    | with_reducible refine Wp.seq ?_
    | with_reducible refine Wp.block ?_
    | ((with_reducible first | refine Wp.region ?_ | refine Wp.drawL ac ?_ | refine Wp.cond ?_ | refine Wp.ret ?_ | refine Wp.skip ?_ | refine Wp.exit ?_ | refine Go.mk ?_ | apply ay.of); conv => whnf)
    | with_reducible exact rfl
    | ((with_reducible refine Ov.ok zO ?_); conv => whnf)
    | (with_reducible refine Ov.sh1 (by with_unfolding_all exact rfl) ?_)
    | ((with_reducible refine Ov.quo (by omega) (by omega) (by omega) (fun _ _ => ?_)); conv => whnf)
    | ((with_reducible refine And.intro (show aj _ _ _ _ = true by kernel_rfl) ?_); conv => whnf)
    | ((with_reducible refine And.intro zC ?_); conv => whnf)
    | ((with_reducible refine And.intro ?hb ?_); (case hb => exact ae (zzb rfl) (by omega)); (conv => whnf))
    | ((refine ag.a rfl rfl rfl rfl rfl rfl ?hb ?_); (case hb => exact zB); (conv => whnf))
    | ((refine ag.b rfl rfl rfl rfl rfl rfl rfl rfl ?hb ?ho ?_); (case hb => exact zB); (case ho => omega); (conv => whnf))
    | ((refine ag.c rfl rfl rfl rfl rfl ?hb ?_); (case hb => exact zB); (conv => whnf))
    | ((refine ag.d rfl rfl rfl rfl rfl rfl ?hb ?ho ?_); (case hb => exact zB); (case ho => omega); (conv => whnf))
    | (with_reducible refine Or.inl ?_)
    | ((with_reducible refine nil_no (by omega) ?_); (conv => whnf))
    | ((with_reducible refine ah ?_ (fun hn0 => ?_)) <;> (conv => whnf))
    
    | ((refine az (fun hc => ?_) (fun hc => ?_)) <;> (try simp only [decide_eq_true_eq, decide_eq_false_iff_not, Q5, Q20, Bool.and_eq_false_iff, Bool.or_eq_false_iff, Bool.not_eq_true', Bool.not_eq_false', beq_iff_eq, bne_iff_ne, ne_eq, beq_eq_false_iff_ne, bne_eq_false_iff_eq, Bool.not_eq_true, Bool.not_eq_false] at hc) <;> (try (exfalso; omega)) <;> (conv => whnf))))
                · rw [hDj] at hc
                  refine ⟨i + 1, ⟨by omega, fun i' h => ?_⟩, by dsimp only; omega, ?_⟩
                  · by_cases e : i' = i
                    · subst e; rw [try_no hj hb2 hc]; rfl
                    · exact hno i' (by omega)
                  · (refine Le.by [0] rfl rfl rfl rfl ?_ ?_ <;> (conv => whnf) <;> (repeat' (first | exact trivial | exact ab.rfl rfl | exact ab.ptr rfl | exact ab.sl rfl | ((with_reducible refine ab.fn ?_); (conv => whnf)) | ((refine ab.iref ?_); (conv => whnf)) | exact ⟨rfl, rfl, rfl⟩ | exact fun i hi => rfl | ((with_reducible refine And.intro ?_ ?_) <;> (conv => whnf)))))
                · rw [hDj] at hc
                  refine ⟨j + 1, ⟨by omega, fun j' h => ?_⟩, by dsimp only; omega, ?_⟩
                  · by_cases e : j' = j
                    · subst e; exact fun h9 => hc h9.2
                    · exact hjn j' (by omega)
                  · (refine Le.by [0,1] rfl rfl rfl rfl ?_ ?_ <;> (conv => whnf) <;> (repeat' (first | exact trivial | exact ab.rfl rfl | exact ab.ptr rfl | exact ab.sl rfl | ((with_reducible refine ab.fn ?_); (conv => whnf)) | ((refine ab.iref ?_); (conv => whnf)) | exact ⟨rfl, rfl, rfl⟩ | exact fun i hi => rfl | ((with_reducible refine And.intro ?_ ?_) <;> (conv => whnf)))))
            · obtain rfl : j = l.length := by omega
              have htry := try_of (ps := ps) (spare := spare) (done := done) hb hjn
              have hm : l.getD i default ∈ l := by rw [← hD]; exact eC hi
              have hR := hJ hp l spare done (l.getD i default) h4 (hkl _ hm) (by omega)
              obtain ⟨p1, p2⟩ := nk left h1 i (by omega) hb
              have hF := (ih (left - 2 ^ i) (done ++ [l.getD i default]) p2 (by omega) (by rw [Q9, List.length_singleton]; omega) fun e he => by
                rcases List.mem_append.1 he with he | he
                · exact h4 e he
                · rw [List.mem_singleton.1 he]; exact hkl _ hm).leX (args := [sesS ps l spare, .i .i64 (bits .andNot .i64 (left : Int) (IntKind.i64.wrap (1 * 2 ^ min (i : Int).toNat IntKind.i64.bits))), .d (.sl 13 (done.length + 1) (cC done.length (fun i => (done.getD i default).D) (cn (l.getD i default).D 13)))])
                (.cons (.rfl _) (.cons (.i (bit_out left h1 i (by omega) hb)) (.cons (ff (by simp) fun k hk => a7 HD.D 13 done (l.getD i default) _ rfl k hk) .nil)))
              (repeat' (first
    | ((refine ai.pure hR rfl rfl ?_); conv => whnf)
    | ((refine ai.pure hF rfl rfl ?_); conv => whnf)
    | ((refine SlxD.of rfl rfl rfl rfl rfl ?_); conv => whnf)
    | ((with_reducible refine Or.inr (And.intro rfl ?_)); conv => whnf)
    | ((refine Or.inr (DApx.of rfl rfl rfl rfl rfl rfl ?hb ?_)); (case hb => exact zB); (conv => whnf))
    | with_reducible refine Wp.seq ?_
    | with_reducible refine Wp.block ?_
    | ((with_reducible first | refine Wp.region ?_ | refine Wp.drawL ac ?_ | refine Wp.cond ?_ | refine Wp.ret ?_ | refine Wp.skip ?_ | refine Wp.exit ?_ | refine Go.mk ?_ | apply ay.of); conv => whnf)
    | with_reducible exact rfl
    | ((with_reducible refine Ov.ok zO ?_); conv => whnf)
    | (with_reducible refine Ov.sh1 (by with_unfolding_all exact rfl) ?_)
    | ((with_reducible refine Ov.quo (by omega) (by omega) (by omega) (fun _ _ => ?_)); conv => whnf)
    | ((with_reducible refine And.intro (show aj _ _ _ _ = true by kernel_rfl) ?_); conv => whnf)
    | ((with_reducible refine And.intro zC ?_); conv => whnf)
    | ((with_reducible refine And.intro ?hb ?_); (case hb => exact ae (zzb rfl) (by omega)); (conv => whnf))
    | ((refine ag.a rfl rfl rfl rfl rfl rfl ?hb ?_); (case hb => exact zB); (conv => whnf))
    | ((refine ag.b rfl rfl rfl rfl rfl rfl rfl rfl ?hb ?ho ?_); (case hb => exact zB); (case ho => omega); (conv => whnf))
    | ((refine ag.c rfl rfl rfl rfl rfl ?hb ?_); (case hb => exact zB); (conv => whnf))
    | ((refine ag.d rfl rfl rfl rfl rfl rfl ?hb ?ho ?_); (case hb => exact zB); (case ho => omega); (conv => whnf))
    | (with_reducible refine Or.inl ?_)
    | ((with_reducible refine nil_no (by omega) ?_); (conv => whnf))
    | ((with_reducible refine ah ?_ (fun hn0 => ?_)) <;> (conv => whnf))
    
    | ((refine az (fun hc => ?_) (fun hc => ?_)) <;> (try simp only [decide_eq_true_eq, decide_eq_false_iff_not, Q5, Q20, Bool.and_eq_false_iff, Bool.or_eq_false_iff, Bool.not_eq_true', Bool.not_eq_false', beq_iff_eq, bne_iff_ne, ne_eq, beq_eq_false_iff_ne, bne_eq_false_iff_eq, Bool.not_eq_true, Bool.not_eq_false] at hc) <;> (try (exfalso; omega)) <;> (conv => whnf))))
              · exact .b (nb hi (htry.trans ‹oc ps spare done (l.getD i default) = true›) hc).symm
              all_goals
                refine ⟨i + 1, ⟨by omega, fun i' h => ?_⟩, by dsimp only; omega, ?_⟩
                · by_cases e : i' = i
                  · subst e
                    rw [htry, hc]
                    first | exact Bool.and_false _ | exact Bool.false_and _
                  · exact hno i' (by omega)
                · (refine Le.by [0] rfl rfl rfl rfl ?_ ?_ <;> (conv => whnf) <;> (repeat' (first | exact trivial | exact ab.rfl rfl | exact ab.ptr rfl | exact ab.sl rfl | ((with_reducible refine ab.fn ?_); (conv => whnf)) | ((refine ab.iref ?_); (conv => whnf)) | exact ⟨rfl, rfl, rfl⟩ | exact fun i hi => rfl | ((with_reducible refine And.intro ?_ ?_) <;> (conv => whnf)))))
      · obtain rfl : i = l.length := by omega
        (repeat' (first
    | with_reducible refine Wp.seq ?_
    | with_reducible refine Wp.block ?_
    | ((with_reducible first | refine Wp.region ?_ | refine Wp.drawL ac ?_ | refine Wp.cond ?_ | refine Wp.ret ?_ | refine Wp.skip ?_ | refine Wp.exit ?_ | refine Go.mk ?_ | apply ay.of); conv => whnf)
    | with_reducible exact rfl
    | ((with_reducible refine Ov.ok zO ?_); conv => whnf)
    | (with_reducible refine Ov.sh1 (by with_unfolding_all exact rfl) ?_)
    | ((with_reducible refine Ov.quo (by omega) (by omega) (by omega) (fun _ _ => ?_)); conv => whnf)
    | ((with_reducible refine And.intro (show aj _ _ _ _ = true by kernel_rfl) ?_); conv => whnf)
    | ((with_reducible refine And.intro zC ?_); conv => whnf)
    | ((with_reducible refine And.intro ?hb ?_); (case hb => exact ae (zzb rfl) (by omega)); (conv => whnf))
    | ((refine ag.a rfl rfl rfl rfl rfl rfl ?hb ?_); (case hb => exact zB); (conv => whnf))
    | ((refine ag.b rfl rfl rfl rfl rfl rfl rfl rfl ?hb ?ho ?_); (case hb => exact zB); (case ho => omega); (conv => whnf))
    | ((refine ag.c rfl rfl rfl rfl rfl ?hb ?_); (case hb => exact zB); (conv => whnf))
    | ((refine ag.d rfl rfl rfl rfl rfl rfl ?hb ?ho ?_); (case hb => exact zB); (case ho => omega); (conv => whnf))
    | (with_reducible refine Or.inl ?_)
    | ((with_reducible refine nil_no (by omega) ?_); (conv => whnf))
    | ((with_reducible refine ah ?_ (fun hn0 => ?_)) <;> (conv => whnf))
    
    | ((refine az (fun hc => ?_) (fun hc => ?_)) <;> (try simp only [decide_eq_true_eq, decide_eq_false_iff_not, Q5, Q20, Bool.and_eq_false_iff, Bool.or_eq_false_iff, Bool.not_eq_true', Bool.not_eq_false', beq_iff_eq, bne_iff_ne, ne_eq, beq_eq_false_iff_ne, bne_eq_false_iff_eq, Bool.not_eq_true, Bool.not_eq_false] at hc) <;> (try (exfalso; omega)) <;> (conv => whnf))))
        exact .b (srch_no hn0 hno).symm
end
instance : LawfulBEq ByteArray where
  rfl := (MapKept.bytes_beq _ _).2 rfl
  eq_of_beq h := (MapKept.bytes_beq _ _).1 h
namespace Hist
def kb (d : HD) : ByteArray := ⟨((bc d.pol d.key).map fun x => UInt8.ofNat x.toNat).toArray⟩
def eQ (ps : List Pol) (d : HD) : Bool := decide (bo ps = 0) && decide (chkE ps d.op d.pol d.key d.n ≠ 0)
def bX (ps : List Pol) (d : HD) : Bool := !eQ ps d && (decide (bz d.pol d.key = 0) && cntB d)
def bv (e f : Int) : Int := if e = 0 ∨ f < e then f else e
def grp (ps : List Pol) (l : List HD) (k : ByteArray) : List HD := l.filter fun d => bX ps d && decide (kb d = k)
def iO (ps : List Pol) : List ByteArray → List HD → List ByteArray
  | ks, [] => ks
  | ks, d :: l => iO ps (if bX ps d = true ∧ ¬ kb d ∈ ks then ks ++ [kb d] else ks) l
def ids (ps : List Pol) (l : List HD) : List ByteArray := iO ps [] l
theorem jq (ps : List Pol) (d : HD) : ∀ (l : List HD) (ks : List ByteArray), iO ps ks (l ++ [d]) = if bX ps d = true ∧ ¬ kb d ∈ iO ps ks l then iO ps ks l ++ [kb d] else iO ps ks l
  | [], ks => rfl
  | e :: l, ks => jq ps d l _
theorem cx (ps : List Pol) (l : List HD) (d : HD) : ids ps (l ++ [d]) = if bX ps d = true ∧ ¬ kb d ∈ ids ps l then ids ps l ++ [kb d] else ids ps l := jq ps d l []
theorem fp (ps : List Pol) : ∀ (l : List HD) (ks : List ByteArray), ks.Nodup → (iO ps ks l).Nodup
  | [], ks, h => h
  | d :: l, ks, h => by
    refine fp ps l _ ?_
    split
    · rename_i h1
      rw [List.nodup_append]
      exact ⟨h, by simp, fun a ha b hb e => by rw [List.mem_singleton] at hb; subst hb; subst e; exact h1.2 ha⟩
    · exact h
theorem lg (ps : List Pol) (l : List HD) : (ids ps l).Nodup := fp ps l [] .nil
theorem jp (ps : List Pol) : ∀ (l : List HD) (ks : List ByteArray) (k : ByteArray), k ∈ iO ps ks l ↔ k ∈ ks ∨ ∃ d ∈ l, bX ps d = true ∧ kb d = k
  | [], ks, k => by simp [iO]
  | d :: l, ks, k => by
    unfold iO
    rw [jp ps l]
    split
    · rename_i h
      constructor
      · rintro (h1 | ⟨e, he, h2⟩)
        · rcases List.mem_append.1 h1 with h1 | h1
          · exact .inl h1
          · rw [List.mem_singleton] at h1; exact .inr ⟨d, List.mem_cons_self .., h.1, h1.symm⟩
        · exact .inr ⟨e, List.mem_cons_of_mem _ he, h2⟩
      · rintro (h1 | ⟨e, he, h2⟩)
        · exact .inl (List.mem_append_left _ h1)
        · rcases Q22 he with rfl | he
          · exact .inl (by rw [← h2.2]; simp)
          · exact .inr ⟨e, he, h2⟩
    · rename_i h
      constructor
      · rintro (h1 | ⟨e, he, h2⟩)
        · exact .inl h1
        · exact .inr ⟨e, List.mem_cons_of_mem _ he, h2⟩
      · rintro (h1 | ⟨e, he, h2⟩)
        · exact .inl h1
        · rcases Q22 he with rfl | he
          · left
            rw [← h2.2]
            by_cases hm : kb e ∈ ks
            · exact hm
            · exact absurd ⟨h2.1, hm⟩ h
          · exact .inr ⟨e, he, h2⟩
theorem ids_mem (ps : List Pol) (l : List HD) (k : ByteArray) : k ∈ ids ps l ↔ ∃ d ∈ l, bX ps d = true ∧ kb d = k := by
  unfold ids; rw [jp]; simp
theorem ge (ps : List Pol) : ∀ (l : List HD) (ks : List ByteArray), (iO ps ks l).length ≤ ks.length + l.length
  | [], ks => Q4 _
  | d :: l, ks => by
    have := ge ps l (if bX ps d = true ∧ ¬ kb d ∈ ks then ks ++ [kb d] else ks)
    unfold iO
    refine Nat.le_trans this ?_
    split
    · rw [Q9, List.length_singleton, List.length_cons]; omega
    · rw [List.length_cons]; omega
theorem aS (ps : List Pol) (l : List HD) (d : HD) (k : ByteArray) : grp ps (l ++ [d]) k = if bX ps d = true ∧ kb d = k then grp ps l k ++ [d] else grp ps l k := by
  unfold grp
  rw [List.filter_append]
  by_cases h : bX ps d = true ∧ kb d = k
  · rw [if_pos h, List.filter_cons, if_pos (by rw [h.1, decide_eq_true h.2]; rfl)]; rfl
  · rw [if_neg h, List.filter_cons, if_neg (by
      rw [Q5, decide_eq_true_iff]; exact h)]
    simp
theorem gh (ps : List Pol) (l : List HD) (k : ByteArray) (h : ¬ k ∈ ids ps l) : grp ps l k = [] := by
  unfold grp
  rw [List.filter_eq_nil_iff]
  intro d hd h1
  rw [Q5, decide_eq_true_iff] at h1
  exact h ((ids_mem ps l k).2 ⟨d, hd, h1⟩)
theorem ou (ps : List Pol) (l : List HD) (k : ByteArray) : (grp ps l k).length ≤ l.length := List.length_filter_le _ _
def bE (ps : List Pol) (e : Int) (pre : List HD) (d : HD) : Int :=
  let e1 := if d.last < d.first then bv e 1 else e
  if eQ ps d = true then bv e1 3 else if bX ps d = true then (if 8 < (grp ps (pre ++ [d]) (kb d)).length then bv e1 2 else e1) else e1
def jy (ps : List Pol) : Int → List HD → List HD → Int
  | e, _, [] => e
  | e, pre, d :: l => jy ps (bE ps e pre d) (pre ++ [d]) l
theorem jx (ps : List Pol) (d : HD) : ∀ (l pre : List HD) (e : Int), jy ps e pre (l ++ [d]) = bE ps (jy ps e pre l) (pre ++ l) d
  | [], pre, e => by simp [jy]
  | c :: l, pre, e => by
    show jy ps (bE ps e pre c) (pre ++ [c]) (l ++ [d]) = _
    rw [jx ps d l]
    show bE ps (jy ps (bE ps e pre c) (pre ++ [c]) l) (pre ++ [c] ++ l) d = bE ps (jy ps (bE ps e pre c) (pre ++ [c]) l) (pre ++ c :: l) d
    rw [List.append_assoc]; rfl
def err0 (ps : List Pol) (n : Nat) : Int := if 4096 < n then bv (bo ps) 2 else bo ps
def bu (ps : List Pol) (n : Nat) (l : List HD) : Int := jy ps (err0 ps n) [] l
theorem cV (ps : List Pol) (n : Nat) (l : List HD) (d : HD) : bu ps n (l ++ [d]) = bE ps (bu ps n l) l d := by
  unfold bu; rw [jx, List.nil_append]
end Hist
def Env.pi (E : Env) (π : Nat → Nat) : Env := ⟨fun i => E.ρ (π i), fun i => E.κ (π i), E.Im⟩
structure aD (π : Nat → Nat) (nx' : Nat) (x y : SV) : Prop where
  out : ∀ E nx w v, RS E nx w x v → RS (E.pi π) nx' w y v
theorem aD.free {π : Nat → Nat} {nx' : Nat} {x : SV} (h : x.free = true) : aD π nx' x x := ⟨fun E _ _ _ hv => RS.free (E := E) (E' := E.pi π) rfl h hv⟩
theorem aD.sl {π : Nat → Nat} {nx' l l' z o n : Nat} (h : π l' = l) (hl : l' < nx') : aD π nx' (.sl l z o n) (.sl l' z o n) := ⟨fun E nx w v hv => by
  subst h
  cases hv with
  | sl _ _ _ _ a cap hlx hc hm ha h0 => exact .sl _ _ _ _ a cap hl hc hm ha h0⟩
theorem aD.ptr {π : Nat → Nat} {nx' l l' o : Nat} (h : π l' = l) (hl : l' < nx') : aD π nx' (.ptr l o) (.ptr l' o) := ⟨fun E nx w v hv => by
  subst h
  cases hv with
  | ptr _ _ hlx => exact RS.ptr (E := E.pi π) l' o hl⟩
theorem aD.mono {π : Nat → Nat} {nx' : Nat} {x y z : SV} (h : SV.Le x y) (k : aD π nx' y z) : aD π nx' x z := ⟨fun E nx w v hv => k.out E nx w v (h.out E nx w v hv)⟩
structure bS (π : Nat → Nat) (nx nx' : Nat) (l k : Nat) (b b' : Blk) : Prop where
  real : ∀ κ, b'.real κ → b.real κ
  bs : ∀ E w, BS E nx w l b → BS (E.pi π) nx' w k b'
theorem bS.row {π : Nat → Nat} {nx nx' k e z n : Nat} {f : Nat → List D} : bS π nx nx' (π k) k (.row e z n f) (.row e z n f) :=
  ⟨fun _ h => h, fun E w hb => by
    obtain ⟨h1, h2, h3, h4, h5⟩ := hb
    exact ⟨h1, h2, h3, h4, h5⟩⟩
def gw (π : Nat → Nat) (nx' : Nat) : List SV → List SV → Prop
  | [], [] => True
  | x :: r, y :: s => aD π nx' x y ∧ gw π nx' r s
  | _, _ => False
theorem gw.out {π : Nat → Nat} {nx' : Nat} : ∀ {xs ys : List SV}, gw π nx' xs ys → xs.length = ys.length ∧ ∀ (j : Nat) (hx : j < xs.length) (hy : j < ys.length), aD π nx' xs[j] ys[j]
  | [], [], _ => ⟨rfl, fun j hx => by simp at hx⟩
  | x :: r, y :: s, ⟨h1, h2⟩ => by
    obtain ⟨g1, g2⟩ := gw.out h2
    refine ⟨by simp [g1], fun j hx hy => ?_⟩
    cases j with
    | zero => exact h1
    | succ j => exact g2 j (by simpa using hx) (by simpa using hy)
  | [], _ :: _, h => h.elim
  | _ :: _, [], h => h.elim
theorem bS.cells {π : Nat → Nat} {nx nx' k : Nat} {cs ds : List SV} (h : gw π nx' cs ds) : bS π nx nx' (π k) k (.cells cs) (.cells ds) :=
  ⟨fun _ h => h, fun E w hb => by
    obtain ⟨vs, T, h1, h2, h3⟩ := hb
    obtain ⟨g1, g2⟩ := h.out
    refine ⟨vs, T, h1, by omega, fun j hj => ?_⟩
    obtain ⟨h4, h5⟩ := h3 j (by omega)
    exact ⟨(g2 j (by omega) hj).out _ _ _ _ h4, h5⟩⟩
theorem Le.pi {nt : NT} {nx nx' : Nat} {fr fr' : List (Nat × SV)} {hp hp' : List (Nat × Option Blk)} (π : Nat → Nat) (hm : nt.m = 0)
    (hfr : ∀ p ∈ fr', aD π nx' (lk fr p.1) p.2) (hhp : ∀ k b', lkh hp' k = some b' → k < nx' ∧ ∃ b, lkh hp (π k) = some b ∧ bS π nx nx' (π k) k b b')
    (hinj : ∀ k k' b b', lkh hp' k = some b → lkh hp' k' = some b' → π k = π k' → k = k') : Le ⟨nt, nx, fr, hp⟩ ⟨nt, nx', fr', hp'⟩ := by
  refine ⟨fun O E a w hs => ⟨E.pi π, fun n => ?_, hs.nt, hs.df, fun l b hb => ?_, fun l b hb => (hhp l b hb).1, fun l l' b b' hb hb' hr hr' hne => ?_, fun b hb => ⟨(hs.im b hb).1, (hs.im b hb).2.1, fun l x hl hr => ?_⟩, fun l b hb hr => ?_, hs.kq, fun l hl => ?_, ?_, hs.imo⟩⟩
  · have key : ∀ l : List (Nat × SV), (∀ p ∈ l, aD π nx' (lk fr p.1) p.2) → RS (E.pi π) nx' w (lk l n) (a.tmps.getD n undef) := by
      intro l
      induction l with
      | nil => intro _; exact .any _
      | cons p l ih =>
        intro hl
        obtain ⟨m, v⟩ := p
        rw [bp]
        by_cases e : m = n
        · subst e; rw [if_pos rfl]; exact (hl (m, v) (by simp)).out _ _ _ _ (hs.fr m)
        · rw [if_neg e]; exact ih fun p hp => hl p (by simp [hp])
    exact key fr' hfr
  · obtain ⟨_, b0, h1, h2⟩ := hhp l b hb
    exact h2.bs E w (hs.hp _ _ h1)
  · obtain ⟨_, b0, h1, h2⟩ := hhp l b hb
    obtain ⟨_, b1, h3, h4⟩ := hhp l' b' hb'
    exact hs.inj (π l) (π l') b0 b1 h1 h3 (h2.real _ hr) (h4.real _ hr') fun e => hne (hinj l l' b b' hb hb' e)
  · obtain ⟨_, b0, h1, h2⟩ := hhp l x hl
    exact (hs.im b hb).2.2 (π l) b0 h1 (h2.real _ hr)
  · obtain ⟨_, b0, h1, h2⟩ := hhp l b hb
    exact hs.own (π l) b0 h1 (h2.real _ hr)
  · have h1 := hs.nt.2
    dsimp only at h1
    omega
  · have h1 := hs.nt.2
    dsimp only at h1 ⊢
    omega
end Go.Proofs.Ytpdhdnhkhidmpaa
