/- Parts of the proof, one behind the other: Sx14, Sx15, Sx16, Sx17, Sx18, Sx19, Sx21, Sx22, Sx24. Lemmas and contracts of functions; no condition of its own. -/
import Derived.Test.YtfjiegpnkmomoaaDoorMN3
import Derived.LoopN
import Derived.IntWalk
set_option linter.unusedVariables false
set_option linter.unusedSimpArgs false
namespace Go.Proofs.YtfjiegpnkmomoaaDoor
open Go.RowKit
theorem ev_congr {S S' : St} {x : Operand} (h : ∀ t, x = .tmp t → lk S.fr t = lk S'.fr t) : ev S x = ev S' x := by
  cases x with
  | tmp t => exact congrArg stripE (h t rfl)
  | _ => rfl
theorem evL_congr {S S' : St} : ∀ (xs : List Operand) (k : List SV → Prop), (∀ x ∈ xs, ev S x = ev S' x) → evL S xs k = evL S' xs k
  | [], k, h => rfl
  | x :: r, k, h => by
    simp only [evL]
    rw [h x (by simp)]
    congr 1
    funext v
    exact evL_congr r _ fun y hy => h y (by simp [hy])
theorem fillK_congr {C : Cx} {S S' : St} {fs : List (Nat × Nat)} : ∀ (ps : List (Nat × Operand)) (cs : List SV) (k : List SV → Prop), (∀ p ∈ ps, ev S p.2 = ev S' p.2) → fillK C S fs ps cs k = fillK C S' fs ps cs k
  | [], cs, k, h => rfl
  | (i, x) :: r, cs, k, h => by
    have ih : ∀ cs' k', fillK C S fs r cs' k' = fillK C S' fs r cs' k' := fun cs' k' => fillK_congr r cs' k' fun p hp => h p (by simp [hp])
    have hx : ev S x = ev S' x := h (i, x) (by simp)
    unfold fillK
    simp only [hx, ih]
theorem fillSK_congr {S S' : St} {z : Nat} : ∀ (ps : List (Nat × Operand)) (cs : List SV) (k : List SV → Prop), (∀ p ∈ ps, ev S p.2 = ev S' p.2) → fillSK S z ps cs k = fillSK S' z ps cs k
  | [], cs, k, h => rfl
  | (i, x) :: r, cs, k, h => by
    have ih : ∀ cs' k', fillSK S z r cs' k' = fillSK S' z r cs' k' := fun cs' k' => fillSK_congr r cs' k' fun p hp => h p (by simp [hp])
    have hx : ev S x = ev S' x := h (i, x) (by simp)
    unfold fillSK
    simp only [hx, ih]
def labOf : SV → List Nat
  | .ptr l _ => [l]
  | .rp l _ _ _ => [l]
  | _ => []
def labsOf (S : St) : Op → List Nat
  | .load _ a => labOf (ev S a)
  | .store _ a _ => labOf (ev S a)
  | _ => []
theorem loadK_congr {C : Cx} {S S' : St} {t : Nat} {x : SV} {k : SV → Prop} (h : ∀ l ∈ labOf x, lkh S.hp l = lkh S'.hp l) : loadK C S t x k = loadK C S' t x k := by
  cases x with
  | ptr l off => simp only [loadK]; rw [h _ (by simp [labOf])]
  | rp l z i off => simp only [loadK]; rw [h _ (by simp [labOf])]
  | d x => cases x <;> rfl
  | _ => rfl
theorem storeD_congr {C : Cx} {S S' : St} {t : Nat} {x y : SV} {k : Nat → Blk → Prop} (hnx : S.nx = S'.nx) (h : ∀ l ∈ labOf x, lkh S.hp l = lkh S'.hp l) : storeD C S t x y k = storeD C S' t x y k := by
  cases x with
  | ptr l off => simp only [storeD]; rw [h _ (by simp [labOf])]
  | rp l z i off => simp only [storeD]; rw [h _ (by simp [labOf]), hnx]
  | _ => rfl
theorem keys_post {π : Nat → Nat} : ∀ {H : List (Nat × Option Blk)} {i : Nat}, (∃ o, (i, o) ∈ H) → ∃ o, (π i, o) ∈ postH π [] H
  | [], i, ⟨o, h⟩ => by simp at h
  | (j, ob) :: r, i, ⟨o, h⟩ => by
    rcases List.mem_cons.1 h with h | h
    · cases h; exact ⟨ob.map (renB π), by simp [postH]⟩
    · obtain ⟨o', h'⟩ := keys_post (π := π) (H := r) ⟨o, h⟩
      exact ⟨o', by simp [postH, h']⟩
theorem sameK_congr {P hp hp' : List (Nat × Option Blk)} : ∀ {K : List Nat}, (∀ l ∈ K, lkh hp l = lkh hp' l) → sameK P hp K → sameK P hp' K
  | [], _, _ => trivial
  | k :: r, h, ⟨h1, h2⟩ => ⟨h1.trans (h k (by simp)), sameK_congr (fun l hl => h l (by simp [hl])) h2⟩
theorem keyH {S S' : St} {P : List (Nat × Option Blk)} (hk : ∀ l o, (l, o) ∈ P → lkh S.hp l = lkh S'.hp l) : ∀ (L : List Nat) (π : Nat → Nat) (H H' : List (Nat × Option Blk)), keysK H' L.length = true → (∀ i, i < L.length → π i = L.getD i 0) → postH π [] H' = P → HeapLe S.hp L H → HeapLe S'.hp L H := by
  intro L π H H' h4 hπ h8 h7
  have hag : ∀ i, i < L.length → lkh S.hp (L.getD i 0) = lkh S'.hp (L.getD i 0) := fun i hi => by
    unfold keysK at h4
    rw [List.all_eq_true] at h4
    have := h4 i (by simpa using hi)
    rw [List.any_eq_true] at this
    obtain ⟨⟨p1, p2⟩, hp1, hp2⟩ := this
    have hp3 := Nat.eq_of_beq_eq_true hp2
    simp only at hp3
    subst hp3
    obtain ⟨o, ho⟩ := keys_post (π := π) ⟨p2, hp1⟩
    rw [h8, hπ _ hi] at ho
    exact hk _ _ ho
  have key : ∀ (Hx : List (Nat × Option Blk)), HeapLe S.hp L Hx → HeapLe S'.hp L Hx := by
    intro Hx
    induction Hx with
    | nil => exact fun h => h
    | cons p r ih =>
      obtain ⟨i, ob⟩ := p
      cases ob with
      | none => exact fun h => ih h
      | some b =>
        intro h9
        unfold HeapLe at h9 ⊢
        cases hb : Nat.blt i L.length with
        | false => simp [hb] at h9
        | true =>
          simp only [hb, cond_true] at h9 ⊢
          exact ⟨by rw [← hag i (by simpa using hb)]; exact h9.1, ih h9.2⟩
  exact key H h7
theorem effD_congr {C : Cx} {S S' : St} {ln : Nat} {op : Op} {ef : Ef} (hnx : S.nx = S'.nx) (hx : ∀ x ∈ op.operands.toList, ev S x = ev S' x) (hl : ∀ l ∈ labsOf S op, lkh S.hp l = lkh S'.hp l) (hk : ∀ l o, (l, o) ∈ ef.ed → lkh S.hp l = lkh S'.hp l) (hr : ∀ l ∈ ef.rd, lkh S.hp l = lkh S'.hp l)
    (h : effD C S ln op (fun e => e = ef)) : effD C S' ln op (fun e => e = ef) := by
  cases op <;> simp only [effD] at h ⊢
  case move x => rw [← hx x (by simp [Op.operands])]; exact h
  case assign x => rw [← hx x (by simp [Op.operands])]; exact h
  case pick c x y => rw [← hx c (by simp [Op.operands]), ← hx x (by simp [Op.operands]), ← hx y (by simp [Op.operands])]; exact h
  case alloc t => exact h
  case box t x => rw [← hx x (by simp [Op.operands])]; exact h
  case load t a => rw [← hx a (by simp [Op.operands]), ← loadK_congr (S := S) (by simpa [labsOf] using hl)]; exact h
  case store t a x => rw [← hx a (by simp [Op.operands]), ← hx x (by simp [Op.operands]), ← storeD_congr (S := S) hnx (by simpa [labsOf] using hl)]; exact h
  case binOp op t x y _ => rw [← hx x (by simp [Op.operands]), ← hx y (by simp [Op.operands])]; exact h
  case unOp op _ x => rw [← hx x (by simp [Op.operands])]; exact h
  case convert s d x => rw [← hx x (by simp [Op.operands])]; exact h
  case fieldAddr t x f => rw [← hx x (by simp [Op.operands])]; exact h
  case field t x f => rw [← hx x (by simp [Op.operands])]; exact h
  case indexAddr t x i => rw [← hx x (by simp [Op.operands]), ← hx i (by simp [Op.operands])]; exact h
  case index t x i => rw [← hx x (by simp [Op.operands]), ← hx i (by simp [Op.operands])]; exact h
  case extract x i => rw [← hx x (by simp [Op.operands])]; exact h
  case nilCheck x => rw [← hx x (by simp [Op.operands])]; exact h
  case slice t x lo hi mx =>
    cases mx with
    | some m =>
      cases lo with
      | some a => simp at h
      | none =>
        cases hi with
        | none => simp at h
        | some a =>
          simp only at h ⊢
          rw [← hx x (by simp [Op.operands]), ← hx a (by simp [Op.operands]), ← hx m (by simp [Op.operands])]; exact h
    | none =>
      simp only at h ⊢
      rw [← hx x (by simp [Op.operands])]
      have h1 : lo.map (ev S) = lo.map (ev S') := by cases lo with
        | none => rfl
        | some a => simp [hx a (by simp [Op.operands])]
      have h2 : hi.map (ev S) = hi.map (ev S') := by cases hi with
        | none => rfl
        | some a => simp [hx a (by simp [Op.operands])]
      rw [← h1, ← h2]; exact h
  case build t ps =>
    unfold buildK at h ⊢
    have hc : ∀ fs cs k, fillK C S fs ps.toList cs k = fillK C S' fs ps.toList cs k := fun fs cs k => fillK_congr _ _ _ fun p hp => hx p.2 (by simp [Op.operands]; exact ⟨p.1, by simpa using hp⟩)
    simp only [hc] at h
    exact h
  case buildSlice t n ps =>
    unfold buildSliceF at h ⊢
    have hc : ∀ z cs k, fillSK S z ps.toList cs k = fillSK S' z ps.toList cs k := fun z cs k => fillSK_congr _ _ _ fun p hp => hx p.2 (by simp [Op.operands]; exact ⟨p.1, by simpa using hp⟩)
    simp only [hc] at h
    exact h
  case makeSlice t l c => rw [← hx l (by simp [Op.operands]), ← hx c (by simp [Op.operands])]; exact h
  case makeFunc fn first caps =>
    split at h
    · rw [← evL_congr _ _ fun x hx' => hx x (by simp [Op.operands]; exact Or.inr (by simpa using hx'))]
      exact h
    · exact h.elim
  case lookup t m i ok =>
    cases ok with
    | true => simp at h
    | false =>
      simp only at h ⊢
      rw [← hx m (by simp [Op.operands]), ← hx i (by simp [Op.operands])]
      obtain ⟨kt, et, b, l, mm, keys, g, s, v, h1, h2, h3, h4, h5, h6, h7, h8⟩ := h.out
      have e8 := fER_ok h8
      exact ⟨⟨kt, et, b, l, mm, keys, g, s, v, h1, h2, h3, h4, h5, by rw [← hr l (by rw [← e8]; exact List.mem_singleton.2 rfl)]; exact h6, h7, h8⟩⟩
  case call c =>
    split at h
    · rename_i f hc
      have hf : ev S f = ev S' f := hx f (by simp [Op.operands, Call.operands, hc])
      rw [← evL_congr _ _ fun x hx' => hx x (by simp [Op.operands, Call.operands, hc]; exact Or.inr (by simpa using hx'))]
      refine evL_imp S _ _ _ (fun args hargs => ?_) h
      rw [← hf]
      have go : ∀ (g : Nat) (args : List SV), DCall C S ln g args (fun r ed rd => fER r ed rd fun e => e = ef) → DCall C S' ln g args (fun r ed rd => fER r ed rd fun e => e = ef) := by
        intro g args hargs
        refine ⟨?_⟩
        rcases hargs.out with h1 | ⟨L, args0, H, H', r, K, h1, h2, h3, h4, h5, h6, h7, h9, h8⟩ | ⟨L, args0, H, H', r, K, h1, h2, h3, h4, h5, h6, h7, h9, h8⟩ | ⟨m, r, h1, h2, h3, h4⟩
        · exact Or.inl h1
        · have e8 := fER_ok h8
          have hkP : ∀ l o, (l, o) ∈ postH (πf L S.nx) [] H' → lkh S.hp l = lkh S'.hp l := fun l o hlo => by
            rcases dropK_keys (K := K) hlo with h | h
            · exact hr l (by rw [← e8]; exact h)
            · exact hk l o (by rw [← e8]; exact h)
          refine Or.inr (Or.inl ⟨L, args0, H, H', r, K, h1, h2, h3, h4, h5, h6, keyH hkP L (πf L S.nx) H H' h4 (fun i hi => ?_) rfl h7, ?_, by rw [← hnx]; exact h8⟩)
          rotate_left
          · rw [← hnx]
            have hrK : ∀ l ∈ K, lkh S.hp l = lkh S'.hp l := fun l hl => hr l (by rw [← e8]; exact hl)
            exact sameK_congr hrK h9
          have hb : Nat.blt i L.length = true := by simpa using hi
          unfold πf; rw [hb]; rfl
        · have e8 := fER_ok h8
          have hkP : ∀ l o, (l, o) ∈ postH (πn L ln) [] H' → lkh S.hp l = lkh S'.hp l := fun l o hlo => by
            rcases dropK_keys (K := K) hlo with h | h
            · exact hr l (by rw [← e8]; exact h)
            · exact hk l o (by rw [← e8]; exact h)
          refine Or.inr (Or.inr (Or.inl ⟨L, args0, H, H', r, K, h1, h2, h3, h4, h5, h6, keyH hkP L (πn L ln) H H' h4 (fun i hi => ?_) rfl h7, ?_, h8⟩))
          rotate_left
          · have hrK : ∀ l ∈ K, lkh S.hp l = lkh S'.hp l := fun l hl => hr l (by rw [← e8]; exact hl)
            exact sameK_congr hrK h9
          have hb : Nat.blt i L.length = true := by simpa using hi
          unfold πn; rw [hb]; rfl
        · exact Or.inr (Or.inr (Or.inr ⟨m, r, h1, by rw [← hnx]; exact h2, by rw [← hnx]; exact h3, h4⟩))
      unfold dcallK at hargs ⊢
      split at hargs
      · rename_i g e; exact go g args hargs
      · rename_i g caps e; exact go g _ hargs
      · exact hargs.elim
    · rename_i b hc
      rw [← evL_congr _ _ fun x hx' => hx x (by simp [Op.operands, Call.operands, hc]; simpa using hx')]
      refine evL_imp S _ _ _ (fun args hargs => ?_) h
      unfold dbuiltinK at hargs ⊢
      split at hargs
      · rename_i t t2 x y e1
        cases hb : Nat.beq t t2 with
        | false => simp [hb] at hargs
        | true =>
          simp only [hb, cond_true] at hargs ⊢
          rcases hargs with hargs | hargs
          rotate_left
          · exact Or.inr hargs
          left
          obtain ⟨L, x0, y0, H, H', r, h1, h2, h3, h4, h5, h6, h7, h8⟩ := hargs.out
          refine ⟨L, x0, y0, H, H', r, h1, h2, h3, h4, h5, h6, keyH hk L (πn L ln) H H' h4 (fun i hi => ?_) (by rw [← fE_ok h8]) h7, h8⟩
          have hb : Nat.blt i L.length = true := by simpa using hi
          unfold πn; rw [hb]; rfl
      · exact hargs
      · exact hargs
      · exact hargs
      · exact hargs.elim
    · exact h.elim
end Go.Proofs.YtfjiegpnkmomoaaDoor

namespace Go.Proofs.YtfjiegpnkmomoaaDoor
open Go.RowKit
def St.step : St → Option Nat → Ef → St
  | ⟨nt, nx, fr, hp⟩, some n, e => ⟨nt, nx, (n, e.val) :: fr, e.ed ++ hp⟩
  | ⟨nt, nx, fr, hp⟩, none, e => ⟨nt, nx, fr, e.ed ++ hp⟩
structure LkEq (S S' : St) : Prop where
  nt : S.nt = S'.nt
  nx : S.nx = S'.nx
  fr : ∀ n, lk S.fr n = lk S'.fr n
  hp : ∀ l, lkh S.hp l = lkh S'.hp l
theorem LkEq.refl (S : St) : LkEq S S := ⟨rfl, rfl, fun _ => rfl, fun _ => rfl⟩
theorem LkEq.symm {S S' : St} (h : LkEq S S') : LkEq S' S := ⟨h.nt.symm, h.nx.symm, fun n => (h.fr n).symm, fun l => (h.hp l).symm⟩
theorem LkEq.trans {S S' S'' : St} (h : LkEq S S') (k : LkEq S' S'') : LkEq S S'' := ⟨h.nt.trans k.nt, h.nx.trans k.nx, fun n => (h.fr n).trans (k.fr n), fun l => (h.hp l).trans (k.hp l)⟩
theorem Sat.congr {O : Org} {E : Env} {S S' : St} {a : Act} {w : World} (e : LkEq S S') (h : Sat O E S a w) : Sat O E S' a w := by
  obtain ⟨nt, nx, fr, hp⟩ := S
  obtain ⟨nt', nx', fr', hp'⟩ := S'
  obtain ⟨e1, e2, e3, e4⟩ := e
  simp only at e1 e2 e3 e4
  subst e1 e2
  refine ⟨fun n => ?_, h.nt, h.df, fun l b hb => h.hp l b ?_, fun l b hb => h.nx l b ?_, fun l l' b b' hb hb' => h.inj l l' b b' ?_ ?_, fun b hb => ⟨(h.im b hb).1, (h.im b hb).2.1, fun l x hl => (h.im b hb).2.2 l x ?_⟩, fun l b hb => h.own l b ?_, h.kq, h.lab, h.nl, h.imo⟩
  · have := h.fr n
    simp only at this ⊢
    rw [← e3]; exact this
  all_goals (simp only at *; rw [e4]; assumption)
open Classical in
theorem lkh_app : ∀ (e hp : List (Nat × Option Blk)) (l : Nat), lkh (e ++ hp) l = if (∃ o, (l, o) ∈ e) then lkh e l else lkh hp l
  | [], hp, l => by simp
  | (m, ob) :: r, hp, l => by
    rw [List.cons_append, lkh_cons, lkh_cons, lkh_app r hp l]
    by_cases h : m = l
    · subst h; rw [if_pos rfl, if_pos ⟨ob, by simp⟩, if_pos rfl]
    · rw [if_neg h, if_neg h]
      by_cases h2 : ∃ o, (l, o) ∈ r
      · rw [if_pos h2, if_pos (by obtain ⟨o, ho⟩ := h2; exact ⟨o, by simp [ho]⟩)]
      · rw [if_neg h2, if_neg (by
          rintro ⟨o, ho⟩
          rcases List.mem_cons.1 ho with ho | ho
          · cases ho; exact h rfl
          · exact h2 ⟨o, ho⟩)]
theorem step_nt (S : St) (d : Option Nat) (e : Ef) : (S.step d e).nt = S.nt ∧ (S.step d e).nx = S.nx := by cases S; cases d <;> exact ⟨rfl, rfl⟩
theorem step_fr (S : St) (d : Option Nat) (e : Ef) (n : Nat) : lk (S.step d e).fr n = if d = some n then e.val else lk S.fr n := by
  cases S
  cases d with
  | none => simp [St.step]
  | some m => simp only [St.step, lk_cons, Option.some.injEq]
open Classical in
theorem step_hp (S : St) (d : Option Nat) (e : Ef) (l : Nat) : lkh (S.step d e).hp l = if (∃ o, (l, o) ∈ e.ed) then lkh e.ed l else lkh S.hp l := by
  cases S
  cases d <;> exact lkh_app _ _ _
theorem LkEq.step {S S' : St} (h : LkEq S S') (d : Option Nat) (e : Ef) : LkEq (S.step d e) (S'.step d e) :=
  ⟨by rw [(step_nt S d e).1, (step_nt S' d e).1, h.nt], by rw [(step_nt S d e).2, (step_nt S' d e).2, h.nx], fun n => by rw [step_fr, step_fr, h.fr], fun l => by rw [step_hp, step_hp, h.hp]⟩
abbrev Pt := Oper × Ef
def foldSt : List Pt → St → St
  | [], S => S
  | p :: r, S => foldSt r (S.step p.1.dst p.2)
theorem fold_nt : ∀ (l : List Pt) (S : St), (foldSt l S).nt = S.nt ∧ (foldSt l S).nx = S.nx
  | [], S => ⟨rfl, rfl⟩
  | p :: r, S => by
    obtain ⟨h1, h2⟩ := fold_nt r (S.step p.1.dst p.2)
    obtain ⟨h3, h4⟩ := step_nt S p.1.dst p.2
    exact ⟨h1.trans h3, h2.trans h4⟩
theorem fold_fr0 : ∀ (l : List Pt) (S : St) (n : Nat), (∀ p ∈ l, p.1.dst ≠ some n) → lk (foldSt l S).fr n = lk S.fr n
  | [], S, n, h => rfl
  | p :: r, S, n, h => by
    rw [foldSt, fold_fr0 r _ n fun q hq => h q (by simp [hq]), step_fr, if_neg (h p (by simp))]
theorem fold_fr1 : ∀ (l : List Pt) (S : St) (n : Nat) (v : SV), (∃ p ∈ l, p.1.dst = some n) → (∀ p ∈ l, p.1.dst = some n → p.2.val = v) → lk (foldSt l S).fr n = v
  | [], S, n, v, ⟨p, hp, _⟩, h => by simp at hp
  | p :: r, S, n, v, hex, h => by
    by_cases h2 : ∃ q ∈ r, q.1.dst = some n
    · exact fold_fr1 r _ n v h2 fun q hq => h q (by simp [hq])
    · rw [foldSt, fold_fr0 r _ n fun q hq e => h2 ⟨q, hq, e⟩, step_fr]
      obtain ⟨q, hq, e⟩ := hex
      rcases List.mem_cons.1 hq with rfl | hq
      · rw [if_pos e]; exact h _ (by simp) e
      · exact absurd ⟨q, hq, e⟩ h2
theorem fold_hp0 : ∀ (l : List Pt) (S : St) (n : Nat), (∀ p ∈ l, ∀ o, (n, o) ∉ p.2.ed) → lkh (foldSt l S).hp n = lkh S.hp n
  | [], S, n, h => rfl
  | p :: r, S, n, h => by
    rw [foldSt, fold_hp0 r _ n fun q hq => h q (by simp [hq]), step_hp, if_neg (by rintro ⟨o, ho⟩; exact h p (by simp) o ho)]
theorem foldSt_app (l m : List Pt) (S : St) : foldSt (l ++ m) S = foldSt m (foldSt l S) := by
  induction l generalizing S with
  | nil => rfl
  | cons p r ih => exact ih _
def StepOK (C : Cx) (ops : List Oper) (ln : Nat) (S : St) (o : Oper) (ef : Ef) : Prop :=
  match o.guard with
  | none => effD C S ln o.op fun e => e = ef
  | some (j, want) => ∃ t, (ops[j]?).bind (·.dst) = some t ∧ ((∃ b, lk S.fr t = .b b ∧ (b = want → effD C S ln o.op fun e => e = ef) ∧ (b ≠ want → ef = ⟨.tup [], [], []⟩)) ∨ (lk S.fr t = .tup [] ∧ ef = ⟨.tup [], [], []⟩))
structure Go (p : Prop) : Prop where
  out : p
def edK : List (Nat × Option Blk) → List (Nat × Option Blk) → (List (Nat × Option Blk) → Prop) → Prop
  | [], hp, k => k hp
  | x :: r, hp, k => edK r hp fun h => k (x :: h)
theorem edK_ok : ∀ (e hp : List (Nat × Option Blk)) (k : List (Nat × Option Blk) → Prop), edK e hp k → k (e ++ hp)
  | [], hp, k, h => h
  | x :: r, hp, k, h => edK_ok r hp _ h
def stepK (S : St) (dst : Option Nat) (ef : Ef) (k : St → Prop) : Prop :=
  match S, dst, ef with
  | ⟨nt, nx, fr, hp⟩, some n, ⟨v, ed, _⟩ => edK ed hp fun hp' => k ⟨nt, nx, (n, v) :: fr, hp'⟩
  | ⟨nt, nx, fr, hp⟩, none, ⟨_, ed, _⟩ => edK ed hp fun hp' => k ⟨nt, nx, fr, hp'⟩
theorem stepK_ok {S : St} {dst : Option Nat} {ef : Ef} {k : St → Prop} (h : stepK S dst ef k) : k (S.step dst ef) := by
  obtain ⟨nt, nx, fr, hp⟩ := S
  obtain ⟨v, ed, rd⟩ := ef
  cases dst <;> exact edK_ok _ _ _ h
structure Eff1 (A B : Ef → Prop) : Prop where
  out : ∃ ef, A ef ∧ B ef
theorem Eff1.of {A B : Ef → Prop} (ef : Ef) (h1 : A ef) (h2 : Go (B ef)) : Eff1 A B := ⟨ef, h1, h2.out⟩
def runR (C : Cx) (S : St) (ln : Nat) (o : Oper) (k : Ef → St → Prop) : Prop := Eff1 (fun ef => effD C S ln o.op fun e => e = ef) fun ef => stepK S o.dst ef fun S' => k ef S'
def execR (C : Cx) (ops : List Oper) (n0 : Nat) : List Oper → Nat → St → (List Ef → St → Prop) → Prop
  | [], _, S, k => k [] S
  | o :: r, i, S, k => match o.guard with
    | none => runR C S (n0 + i) o fun ef S' => execR C ops n0 r (i + 1) S' fun efs => k (ef :: efs)
    | some (j, want) => match (ops[j]?).bind (·.dst) with
      | some t => match lk S.fr t with
        | .d (.val (.bool b)) => match want with
          | true => bif b then runR C (setSlot S t true) (n0 + i) o (fun ef S' => execR C ops n0 r (i + 1) S' fun efs => k (ef :: efs)) else stepK (setSlot S t false) o.dst ⟨.tup [], [], []⟩ fun S' => execR C ops n0 r (i + 1) S' fun efs => k (⟨.tup [], [], []⟩ :: efs)
          | false => bif b then stepK (setSlot S t true) o.dst ⟨.tup [], [], []⟩ (fun S' => execR C ops n0 r (i + 1) S' fun efs => k (⟨.tup [], [], []⟩ :: efs)) else runR C (setSlot S t false) (n0 + i) o fun ef S' => execR C ops n0 r (i + 1) S' fun efs => k (ef :: efs)
        | .tup [] => stepK S o.dst ⟨.tup [], [], []⟩ fun S' => execR C ops n0 r (i + 1) S' fun efs => k (⟨.tup [], [], []⟩ :: efs)
        | _ => False
      | none => False
theorem setSlot_eq {S : St} {t : Nat} {b : Bool} (h : lk S.fr t = .b b) : LkEq S (setSlot S t b) := by
  obtain ⟨nt, nx, fr, hp⟩ := S
  refine ⟨rfl, rfl, fun n => ?_, fun _ => rfl⟩
  simp only [setSlot, lk_cons]
  by_cases e : t = n
  · subst e; rw [if_pos rfl]; exact h
  · rw [if_neg e]
theorem effD_eq {C : Cx} {S S' : St} (e : LkEq S S') {ln : Nat} {op : Op} {ef : Ef} (h : effD C S ln op fun x => x = ef) : effD C S' ln op fun x => x = ef :=
  effD_congr e.nx (fun x _ => ev_congr fun t _ => e.fr t) (fun l _ => e.hp l) (fun l _ _ => e.hp l) (fun l _ => e.hp l) h
theorem StepOK.congr {C : Cx} {ops : List Oper} {ln : Nat} {S S' : St} {o : Oper} {ef : Ef} (e : LkEq S S') (h : StepOK C ops ln S o ef) : StepOK C ops ln S' o ef := by
  unfold StepOK at h ⊢
  split at h
  · exact effD_eq e h
  · obtain ⟨t, h1, ⟨b, h2, h3, h4⟩ | ⟨h2, h3⟩⟩ := h
    · exact ⟨t, h1, Or.inl ⟨b, by rw [← e.fr]; exact h2, fun hb => effD_eq e (h3 hb), h4⟩⟩
    · exact ⟨t, h1, Or.inr ⟨by rw [← e.fr]; exact h2, h3⟩⟩
theorem execR_ok {C : Cx} {ops : List Oper} {n0 : Nat} : ∀ (l : List Oper) (i : Nat) (S : St) (k : List Ef → St → Prop), execR C ops n0 l i S k →
    ∃ (efs : List Ef) (Sn : St), k efs Sn ∧ efs.length = l.length ∧ LkEq Sn (foldSt (l.zip efs) S) ∧ ∀ (j : Nat) (o : Oper) (ef : Ef), l[j]? = some o → efs[j]? = some ef → StepOK C ops (n0 + (i + j)) (foldSt ((l.zip efs).take j) S) o ef
  | [], i, S, k, h => ⟨[], S, h, rfl, .refl _, fun j o ef ho => by simp at ho⟩
  | o :: r, i, S, k, h => by
    have fin : ∀ (S1 : St) (ef : Ef), LkEq S S1 → StepOK C ops (n0 + i) S1 o ef → execR C ops n0 r (i + 1) (S1.step o.dst ef) (fun efs => k (ef :: efs)) →
        ∃ (efs : List Ef) (Sn : St), k efs Sn ∧ efs.length = (o :: r).length ∧ LkEq Sn (foldSt ((o :: r).zip efs) S) ∧ ∀ (j : Nat) (o' : Oper) (ef : Ef), (o :: r)[j]? = some o' → efs[j]? = some ef → StepOK C ops (n0 + (i + j)) (foldSt (((o :: r).zip efs).take j) S) o' ef := by
      intro S1 ef hS hst hx
      obtain ⟨efs, Sn, h1, h2, h3, h4⟩ := execR_ok r (i + 1) _ _ hx
      have cong : ∀ (l : List Pt) (S S' : St), LkEq S S' → LkEq (foldSt l S) (foldSt l S') := by
        intro l
        induction l with
        | nil => exact fun S S' h => h
        | cons p l ih => exact fun S S' h => ih _ _ (h.step _ _)
      refine ⟨ef :: efs, Sn, h1, by simp [h2], h3.trans (cong _ _ _ ((hS.step _ _).symm)), fun j o' ef' ho he => ?_⟩
      cases j with
      | zero => simp at ho he; subst ho he; exact hst.congr hS.symm
      | succ j =>
        simp at ho he
        have := h4 j o' ef' ho he
        rw [show i + (j + 1) = i + 1 + j by omega]
        have e := cong ((r.zip efs).take j) _ _ (hS.step o.dst ef).symm
        exact this.congr e
    unfold execR at h
    split at h
    · rename_i hg
      obtain ⟨ef, h1, h2⟩ := h.out
      exact fin S ef (.refl S) (by unfold StepOK; rw [hg]; exact h1) (stepK_ok (k := fun S' => execR C ops n0 r (i + 1) S' fun efs => k (ef :: efs)) h2)
    · rename_i j want hg
      split at h
      · rename_i t ht
        split at h
        · rename_i b hb
          have hS := setSlot_eq hb
          have hb' : ∀ c, b = c → lk (setSlot S t c).fr t = .b c := fun c hc => by subst hc; rw [← hS.fr]; exact hb
          have okr : ∀ c ef, b = c → c = want → effD C (setSlot S t c) (n0 + i) o.op (fun e => e = ef) → StepOK C ops (n0 + i) (setSlot S t c) o ef := fun c ef hc hw h1 => by
            unfold StepOK; rw [hg]; exact ⟨t, ht, Or.inl ⟨c, hb' c hc, fun _ => h1, fun hne => absurd hw hne⟩⟩
          have oks : ∀ c, b = c → c ≠ want → StepOK C ops (n0 + i) (setSlot S t c) o ⟨.tup [], [], []⟩ := fun c hc hw => by
            unfold StepOK; rw [hg]; exact ⟨t, ht, Or.inl ⟨c, hb' c hc, fun he => absurd he hw, fun _ => rfl⟩⟩
          cases want <;> cases b
          · obtain ⟨ef, h1, h2⟩ := h.out
            exact fin _ ef hS (okr _ _ rfl rfl h1) (stepK_ok (k := fun S' => execR C ops n0 r (i + 1) S' fun efs => k (ef :: efs)) h2)
          · exact fin _ _ hS (oks _ rfl (by simp)) (stepK_ok (S := setSlot S t true) (dst := o.dst) (ef := ⟨.tup [], [], []⟩) (k := fun S' => execR C ops n0 r (i + 1) S' fun efs => k (⟨.tup [], [], []⟩ :: efs)) h)
          · exact fin _ _ hS (oks _ rfl (by simp)) (stepK_ok (S := setSlot S t false) (dst := o.dst) (ef := ⟨.tup [], [], []⟩) (k := fun S' => execR C ops n0 r (i + 1) S' fun efs => k (⟨.tup [], [], []⟩ :: efs)) h)
          · obtain ⟨ef, h1, h2⟩ := h.out
            exact fin _ ef hS (okr _ _ rfl rfl h1) (stepK_ok (k := fun S' => execR C ops n0 r (i + 1) S' fun efs => k (ef :: efs)) h2)
        · rename_i hb
          exact fin S ⟨.tup [], [], []⟩ (.refl S) (by unfold StepOK; rw [hg]; exact ⟨t, ht, Or.inr ⟨hb, rfl⟩⟩) (stepK_ok (S := S) (dst := o.dst) (ef := ⟨.tup [], [], []⟩) (k := fun S' => execR C ops n0 r (i + 1) S' fun efs => k (⟨.tup [], [], []⟩ :: efs)) h)
        · exact h.elim
      · exact h.elim
end Go.Proofs.YtfjiegpnkmomoaaDoor

namespace Go.Proofs.YtfjiegpnkmomoaaDoor
open Go.RowKit
def dirP (o : Oper) (acc : List Nat) : Nat := o.after.toList.foldl (fun s e => bif Region.binds .any e then s ||| 2 ^ e.on ||| acc.getD e.on 0 else s) 0
def predsG : List Oper → List Nat → List Nat
  | [], acc => acc
  | o :: r, acc => predsG r (acc ++ [dirP o acc])
def ordB (pre : List Nat) (i j : Nat) : Bool := bif Nat.blt j i then (pre.getD i 0).testBit j else (pre.getD j 0).testBit i
mutual
def memB (l : Nat) : SV → Bool
  | .ptr m _ => Nat.beq m l
  | .rp m _ _ _ => Nat.beq m l
  | .sl m _ _ _ => Nat.beq m l
  | .d _ => false
  | .any => false
  | .agg vs => memBL l vs
  | .tup vs => memBL l vs
  | .fn _ vs => memBL l vs
  | .iref vs _ => memBL l vs
def memBL (l : Nat) : List SV → Bool
  | [] => false
  | x :: r => memB l x || memBL l r
end
theorem memBL_at {l : Nat} : ∀ {vs : List SV}, memBL l vs = false → ∀ j (hj : j < vs.length), memB l vs[j] = false
  | [], _, j, hj => by simp at hj
  | x :: r, h, j, hj => by
    simp only [memBL, Bool.or_eq_false_iff] at h
    cases j with
    | zero => exact h.1
    | succ j => exact memBL_at h.2 j (by simpa using hj)
abbrev mem1 (l : Nat) (x : SV) : Bool := memB l x
abbrev mem2 (l : Nat) (x : SV) : Bool := memB l x
def memO (l : Nat) : Option Blk → Bool
  | some (.cells cs) => cs.any (mem1 l)
  | some (.cf m _ _) => Nat.blt l m
  | some (.obj _ m _ _ _) => Nat.blt l m
  | _ => false
section
variable {E E' : Env} {nx : Nat} {w : World} {l : Nat}
theorem memB_ok (hρ : ∀ m, m ≠ l → E'.ρ m = E.ρ m ∧ E'.κ m = E.κ m) (hI : E'.Im = E.Im) {x : SV} {v : Value} (hm : memB l x = false) (h : RS E nx w x v) : RS E' nx w x v := by
  have ne : ∀ m, Nat.beq m l = false → m ≠ l := fun m hb e => by subst e; simp at hb
  induction h with
  | any => exact .any _
  | d x v h => exact .d _ _ (by rw [hI]; exact h)
  | ptr m o hl => unfold memB at hm; rw [← (hρ m (ne m hm)).1]; exact .ptr _ _ hl
  | rp m z q o hl => unfold memB at hm; rw [← (hρ m (ne m hm)).1]; exact .rp _ _ _ _ hl
  | sl m z o n ad cap hl hc hmx ha h0 => unfold memB at hm; exact .sl _ _ _ _ _ _ hl hc hmx (by rw [(hρ m (ne m hm)).1]; exact ha) (by rw [(hρ m (ne m hm)).1, (hρ m (ne m hm)).2]; exact h0)
  | agg vs us hs h1 hh ih => unfold memB at hm; exact .agg _ _ hs h1 fun j hj => ih j hj (memBL_at hm j hj)
  | tup vs us hs hh ih => unfold memB at hm; exact .tup _ _ hs fun j hj => ih j hj (memBL_at hm j hj)
  | fn f vs us hs hh ih => unfold memB at hm; exact .fn _ _ _ hs fun j hj => ih j hj (memBL_at hm j hj)
  | iref vs off b o g hb hcell h1 hh ih => unfold memB at hm; exact .iref _ _ b o g (by rw [hI]; exact hb) hcell h1 fun j hj => ih j hj (memBL_at hm j hj)
theorem mem1_ok (hρ : ∀ m, m ≠ l → E'.ρ m = E.ρ m ∧ E'.κ m = E.κ m) (hI : E'.Im = E.Im) {x : SV} {v : Value} (hm : mem1 l x = false) (h : RS E nx w x v) : RS E' nx w x v := memB_ok hρ hI hm h
theorem mem2_ok (hρ : ∀ m, m ≠ l → E'.ρ m = E.ρ m ∧ E'.κ m = E.κ m) (hI : E'.Im = E.Im) {x : SV} {v : Value} (hm : mem2 l x = false) (h : RS E nx w x v) : RS E' nx w x v := memB_ok hρ hI hm h
theorem memO_ok (hρ : ∀ m, m ≠ l → E'.ρ m = E.ρ m ∧ E'.κ m = E.κ m) (hI : E'.Im = E.Im) {m : Nat} {b : Blk} (hne : m ≠ l) (hm : memO l (some b) = false) (h : BS E nx w m b) : BS E' nx w m b := by
  cases b with
  | cells cs =>
    obtain ⟨vs, T, h1, h2, h3⟩ := h
    refine ⟨vs, T, by rw [(hρ m hne).1]; exact h1, h2, fun j hj => ⟨mem1_ok hρ hI ?_ (h3 j hj).1, (h3 j hj).2⟩⟩
    simp only [memO] at hm; rw [List.any_eq_false] at hm; simpa using hm _ (List.getElem_mem hj)
  | row e z n f =>
    obtain ⟨h1, h2, h3, h4, h5⟩ := h
    refine ⟨by rw [(hρ m hne).2]; exact h1, by rw [(hρ m hne).2]; exact h2, h3, h4, ?_⟩
    rw [(hρ m hne).1, (hρ m hne).2, hI]; exact h5
  | cf m' n g =>
    obtain ⟨h0, hh⟩ := h
    have hlm : m' ≤ l := by
      have hm : Nat.blt l m' = false := hm
      have : ¬ l < m' := fun h => by
        have h9 : Nat.blt l m' = true := by simpa using h
        rw [h9] at hm; exact absurd hm (by decide)
      omega
    refine ⟨h0, fun hp => ?_⟩
    obtain ⟨vs, T, h1, h2, h3⟩ := hh hp
    exact ⟨vs, T, by rw [(hρ m hne).1]; exact h1, h2, fun j hj => ⟨(h3 j hj).1, RS.congr (fun k hk => hρ k (by omega)) h0 (fun b hb => by rw [hI]; exact hb) (h3 j hj).1 (h3 j hj).2.1, (h3 j hj).2.2⟩⟩
  | obj c m' n p g =>
    obtain ⟨e0, h0, o, u, h1, h2, h3⟩ := h
    have hlm : m' ≤ l := by
      have hm : Nat.blt l m' = false := hm
      have : ¬ l < m' := fun h => by
        have h9 : Nat.blt l m' = true := by simpa using h
        rw [h9] at hm; exact absurd hm (by decide)
      omega
    exact ⟨by rw [(hρ m hne).1]; exact e0, h0, o, u, by rw [(hρ m hne).1]; exact h1, h2, fun j hj => ⟨(h3 j hj).1, RS.congr (fun k hk => hρ k (by omega)) h0 (fun b hb => by rw [hI]; exact hb) (h3 j hj).1 (h3 j hj).2.1, (h3 j hj).2.2⟩⟩
end
def looks (ops : List Oper) (o : Oper) : List Nat :=
  (o.op.operands.toList.filterMap fun | .tmp t => some t | _ => none) ++ (match o.guard with | some (j, _) => ((ops[j]?).bind (·.dst)).toList | none => [])
def chkPair (pre : List Nat) (ops : List Oper) (n0 i j : Nat) (labs : List Nat) (p q : Pt) : Bool :=
  (match p.1.dst, q.1.dst with | some a, some b => !Nat.beq a b | _, _ => true) &&
  (p.2.ed.all (fun x => q.2.ed.all fun y => !Nat.beq x.1 y.1) || ordB pre i j) &&
  ((match q.1.dst with | some d => (looks ops p.1).all fun t => !Nat.beq d t | none => true) || ordB pre i j) &&
  ((labs.all (fun l => q.2.ed.all fun y => !Nat.beq y.1 l) && p.2.rd.all (fun l => q.2.ed.all fun y => !Nat.beq y.1 l)) || ordB pre i j) &&
  (!isAlloc p.1.op || (!mem2 (n0 + i) q.2.val && q.2.ed.all (fun y => !Nat.beq y.1 (n0 + i) && !memO (n0 + i) y.2)) || (Nat.blt i j && ordB pre i j))
def chkRow (pre : List Nat) (ops : List Oper) (n0 i : Nat) (labs : List Nat) (p : Pt) : List Pt → Nat → Bool
  | [], _ => true
  | q :: r, j => (Nat.beq i j || chkPair pre ops n0 i j labs p q) && chkRow pre ops n0 i labs p r (j + 1)
def chkAll (pre : List Nat) (ops : List Oper) (n0 : Nat) (all : List Pt) (S0 : St) : List Pt → Nat → St → Bool
  | [], _, _ => true
  | p :: r, i, S => chkRow pre ops n0 i (labsOf S p.1.op) p all 0 && (!isAlloc p.1.op || (S0.fr.all (fun x => !mem2 (n0 + i) x.2) && S0.hp.all (fun x => !Nat.beq x.1 (n0 + i) && !memO (n0 + i) x.2))) &&
      (p.1.after.toList.all fun e => !Region.binds .any e || Nat.blt e.on i) && (match p.1.dst with | some n => Nat.blt n S0.nt.n | none => true) && chkAll pre ops n0 all S0 r (i + 1) (S.step p.1.dst p.2)
def drawOK (ops : List Oper) (efs : List Ef) (n0 : Nat) (S0 : St) : Bool := chkAll (predsG ops []) ops n0 (ops.zip efs) S0 (ops.zip efs) 0 S0
theorem chkRow_ok {pre : List Nat} {ops : List Oper} {n0 i : Nat} {labs : List Nat} {p : Pt} : ∀ (l : List Pt) (k : Nat), chkRow pre ops n0 i labs p l k = true → ∀ j q, l[j]? = some q → i ≠ k + j → chkPair pre ops n0 i (k + j) labs p q = true
  | [], k, h, j, q, hq, hne => by simp at hq
  | x :: r, k, h, j, q, hq, hne => by
    unfold chkRow at h
    rw [Bool.and_eq_true, Bool.or_eq_true] at h
    cases j with
    | zero =>
      simp at hq; subst hq
      rcases h.1 with h1 | h1
      · exact absurd (Nat.eq_of_beq_eq_true h1) hne
      · exact h1
    | succ j => simp at hq; have := chkRow_ok r (k + 1) h.2 j q hq (by omega); rw [show k + (j + 1) = k + 1 + j by omega]; exact this
theorem chkAll_ok {pre : List Nat} {ops : List Oper} {n0 : Nat} {all : List Pt} {S0 : St} : ∀ (l : List Pt) (k : Nat) (S : St), chkAll pre ops n0 all S0 l k S = true → ∀ i p, l[i]? = some p →
    (∀ j q, all[j]? = some q → k + i ≠ j → chkPair pre ops n0 (k + i) j (labsOf (foldSt (l.take i) S) p.1.op) p q = true) ∧
    (isAlloc p.1.op = true → (∀ x ∈ S0.fr, mem2 (n0 + (k + i)) x.2 = false) ∧ ∀ x ∈ S0.hp, x.1 ≠ n0 + (k + i) ∧ memO (n0 + (k + i)) x.2 = false) ∧
    (∀ e ∈ p.1.after.toList, Region.binds .any e = true → e.on < k + i) ∧ (∀ n, p.1.dst = some n → n < S0.nt.n)
  | [], k, S, h, i, p, hp => by simp at hp
  | x :: r, k, S, h, i, p, hp => by
    unfold chkAll at h
    simp only [Bool.and_eq_true] at h
    obtain ⟨⟨⟨⟨h1, h2⟩, h3⟩, h5⟩, h4⟩ := h
    cases i with
    | zero =>
      simp at hp; subst hp
      refine ⟨fun j q hq hne => by have := chkRow_ok all 0 h1 j q hq (by omega); simpa [foldSt] using this, fun hal => ?_, fun e he hb => ?_, fun n hn => by rw [hn] at h5; simpa using h5⟩
      · rw [hal] at h2
        simp only [Bool.not_true, Bool.false_or, Bool.and_eq_true, List.all_eq_true] at h2
        refine ⟨fun x hx => by simpa using h2.1 x hx, fun x hx => ?_⟩
        have := h2.2 x hx
        simp only [Bool.not_eq_true'] at this
        refine ⟨fun e => ?_, by simpa using this.2⟩
        have h9 := this.1
        rw [e] at h9
        simp at h9
      · rw [List.all_eq_true] at h3
        have := h3 e he
        rw [hb] at this
        simpa using this
    | succ i =>
      simp at hp
      have := chkAll_ok r (k + 1) _ h4 i p hp
      rw [show k + (i + 1) = k + 1 + i by omega]
      exact this
theorem preds_ok {G D : Nat → Prop} (hDG : ∀ i, D i → G i) : ∀ (l : List Oper) (acc : List Nat), (∀ i o, l[i]? = some o → G (acc.length + i) → ∀ e ∈ o.after.toList, Region.binds .any e = true → D e.on) →
    (∀ i j, (acc.getD i 0).testBit j = true → G i → D j) → ∀ i j, ((predsG l acc).getD i 0).testBit j = true → G i → D j
  | [], acc, h, ha, i, j, hij, hG => ha i j hij hG
  | o :: r, acc, h, ha, i, j, hij, hG => by
    refine preds_ok hDG r (acc ++ [dirP o acc]) (fun i o' ho hg => ?_) (fun i j hij hG => ?_) i j hij hG
    · have := h (i + 1) o' (by simpa using ho)
      refine this ?_
      rw [List.length_append] at hg
      simpa [Nat.add_assoc, Nat.add_comm 1 i] using hg
    · by_cases hlt : i < acc.length
      · have e : (acc ++ [dirP o acc]).getD i 0 = acc.getD i 0 := by simp [List.getD, List.getElem?_append_left hlt]
        rw [e] at hij
        exact ha i j hij hG
      · by_cases hi : i = acc.length
        · subst hi
          have e : (acc ++ [dirP o acc]).getD acc.length 0 = dirP o acc := by simp [List.getD]
          rw [e] at hij
          have hd := h 0 o rfl (by simpa using hG)
          have key : ∀ (es : List Edge) (s : Nat), (∀ e ∈ es, Region.binds .any e = true → D e.on) → (s.testBit j = true → D j) → ((es.foldl (fun s e => bif Region.binds .any e then s ||| 2 ^ e.on ||| acc.getD e.on 0 else s) s).testBit j = true → D j) := by
            intro es
            induction es with
            | nil => exact fun s _ hs => hs
            | cons e es ih =>
              intro s hes hs
              refine ih _ (fun e he => hes e (by simp [he])) ?_
              show ((bif Region.binds .any e then s ||| 2 ^ e.on ||| acc.getD e.on 0 else s) : Nat).testBit j = true → D j
              cases hb : Region.binds .any e with
              | false => exact hs
              | true =>
                simp only [cond_true]
                intro hbit
                rw [Nat.testBit_or, Nat.testBit_or, Bool.or_eq_true, Bool.or_eq_true] at hbit
                have hon := hes e (by simp) hb
                rcases hbit with (hbit | hbit) | hbit
                · exact hs hbit
                · rw [Nat.testBit_two_pow] at hbit
                  have := of_decide_eq_true hbit
                  rw [← this]; exact hon
                · exact ha _ _ hbit (hDG _ hon)
          exact key _ 0 hd (by simp) hij
        · have e : (acc ++ [dirP o acc]).getD i 0 = 0 := by
            simp only [List.getD]
            rw [List.getElem?_eq_none (by simp; omega)]; rfl
          rw [e] at hij
          simp at hij
theorem ordB_symm {pre : List Nat} {i j : Nat} (h : i ≠ j) : ordB pre i j = ordB pre j i := by
  unfold ordB
  by_cases hlt : j < i
  · have h1 : Nat.blt j i = true := by simpa using hlt
    have h2 : Nat.blt i j = false := by
      cases hq : Nat.blt i j with
      | true => have : i < j := by simpa using hq
                omega
      | false => rfl
    rw [h1, h2]; rfl
  · have h1 : Nat.blt i j = true := by simp; omega
    have h2 : Nat.blt j i = false := by
      cases hq : Nat.blt j i with
      | true => have : j < i := by simpa using hq
                omega
      | false => rfl
    rw [h1, h2]; rfl
theorem fold_last {l2 : List Pt} {R : Nat → Nat → Prop} {n : Nat} (hR : ∀ i j p q, l2[i]? = some p → l2[j]? = some q → (∃ o, (n, o) ∈ p.2.ed) → (∃ o, (n, o) ∈ q.2.ed) → i ≠ j → R i j) :
    ∀ (ms : List Nat) (S : St), ms.Pairwise (fun a b => R a b → a < b) → ∀ j p, j ∈ ms → l2[j]? = some p → (∃ o, (n, o) ∈ p.2.ed) → (∀ i q, i ∈ ms → l2[i]? = some q → (∃ o, (n, o) ∈ q.2.ed) → i ≤ j) → lkh (foldSt (ms.filterMap fun j => l2[j]?) S).hp n = lkh p.2.ed n
  | [], S, hp, j, p, hj, _, _, _ => by simp at hj
  | a :: r, S, hpw, j, p, hj, hjp, hw, hmax => by
    rw [List.pairwise_cons] at hpw
    by_cases hex : ∃ b q, b ∈ r ∧ l2[b]? = some q ∧ ∃ o, (n, o) ∈ q.2.ed
    · obtain ⟨b, q, hb, hbq, hbw⟩ := hex
      have hjr : j ∈ r := by
        rcases List.mem_cons.1 hj with rfl | h
        · by_cases hne : j = b
          · subst hne; exact hb
          · have h1 := hpw.1 b hb (hR j b p q hjp hbq hw hbw hne)
            have h2 := hmax b q (by simp [hb]) hbq hbw
            omega
        · exact h
      have ih := fun S => fold_last hR r S hpw.2 j p hjr hjp hw (fun i q hi => hmax i q (by simp [hi]))
      cases ha : l2[a]? with
      | none => simp only [List.filterMap_cons, ha]; exact ih S
      | some q => simp only [List.filterMap_cons, ha]; exact ih _
    · have hja : j = a := by
        rcases List.mem_cons.1 hj with h | h
        · exact h
        · exact absurd ⟨j, p, h, hjp, hw⟩ hex
      subst hja
      simp only [List.filterMap_cons, hjp]
      show lkh (foldSt _ (S.step p.1.dst p.2)).hp n = _
      rw [fold_hp0 _ _ n (fun q hq o ho => by
        obtain ⟨b, hb, hbq⟩ := List.mem_filterMap.1 hq
        exact hex ⟨b, q, hb, hbq, o, ho⟩), step_hp, if_pos hw]
theorem max_of {p : Nat → Prop} {N : Nat} (hN : ∀ j, p j → j < N) {j0 : Nat} (h0 : p j0) : ∃ j, p j ∧ ∀ i, p i → i ≤ j := by
  induction N generalizing j0 with
  | zero => exact absurd (hN j0 h0) (by omega)
  | succ N ih =>
    by_cases h : p N
    · exact ⟨N, h, fun i hi => by have := hN i hi; omega⟩
    · exact ih (fun j hj => by
        have := hN j hj
        by_cases e : j = N
        · subst e; exact absurd hj h
        · omega) h0
theorem Wp.drawAny {C : Cx} {l : List Oper} {nt : NT} {nx : Nat} {fr : List (Nat × SV)} {hp : List (Nat × Option Blk)} {Q : Exit → St → Prop}
    (h : execR C l nx l 0 ⟨nt, nx + l.length, fr, hp⟩ fun efs Sn => drawOK l efs nx ⟨nt, nx + l.length, fr, hp⟩ = true ∧ Q .normal Sn) {O : Org} {E : Env} {a : Act} {w : World} (hs : Sat O E ⟨nt, nx, fr, hp⟩ a w) :
    wpAny C.P .any l.toArray (fun e a' w' => ∃ S' E', Q e S' ∧ Sat O E' S' a' w') l.length (Array.replicate l.length false) a { w with drawn := w.drawn + 1 } := by
  obtain ⟨efs, Sn, ⟨hok, hQ⟩, hlen, hLk, hstep⟩ := execR_ok l 0 _ _ h
  generalize hS0 : (⟨nt, nx + l.length, fr, hp⟩ : St) = S0 at *
  have hnx0 : S0.nx = nx + l.length := by rw [← hS0]
  let l2 := l.zip efs
  have hl2 : l2.length = l.length := by simp [l2, hlen]
  have hget : ∀ (j : Nat) (p : Pt), l2[j]? = some p → l[j]? = some p.1 ∧ efs[j]? = some p.2 := fun j p hp => by
    obtain ⟨p1, p2⟩ := p
    have := List.getElem?_zip_eq_some.1 hp
    exact this
  have hchk := chkAll_ok (pre := predsG l []) (ops := l) (n0 := nx) (all := l2) (S0 := S0) l2 0 S0 (by unfold drawOK at hok; exact hok)
  simp only [Nat.zero_add] at hchk
  have uniqD : ∀ (i j : Nat) (p q : Pt) (n : Nat), l2[i]? = some p → l2[j]? = some q → p.1.dst = some n → q.1.dst = some n → i = j := fun i j p q n hi hj hpn hqn => Classical.byContradiction fun hne => by
    have := (hchk i p hi).1 j q hj (by omega)
    unfold chkPair at this
    simp only [Bool.and_eq_true] at this
    rw [hpn, hqn] at this
    simp at this
  have wOrd : ∀ (n i j : Nat) (p q : Pt), l2[i]? = some p → l2[j]? = some q → (∃ o, (n, o) ∈ p.2.ed) → (∃ o, (n, o) ∈ q.2.ed) → i ≠ j → ordB (predsG l []) i j = true := fun n i j p q hi hj ⟨o, ho⟩ ⟨o', ho'⟩ hne => by
    have := (hchk i p hi).1 j q hj (by omega)
    unfold chkPair at this
    simp only [Bool.and_eq_true, List.all_eq_true, Bool.or_eq_true] at this
    rcases this.1.1.1.2 with h9 | h9
    · have h9 := h9 _ ho _ ho'
      simp at h9
    · exact h9
  let Mem : List Pt → (Nat → Prop) → Prop := fun m D => ∀ (p : Pt), p ∈ m ↔ ∃ (j : Nat), l2[j]? = some p ∧ D j
  have agF : ∀ (m m' : List Pt) (D D' : Nat → Prop) (n : Nat), Mem m D → Mem m' D' → (∀ (j : Nat) (p : Pt), l2[j]? = some p → p.1.dst = some n → (D j ↔ D' j)) → lk (foldSt m S0).fr n = lk (foldSt m' S0).fr n := by
    intro m m' D D' n hm hm' hag
    by_cases hex : ∃ (j : Nat) (p : Pt), l2[j]? = some p ∧ D j ∧ p.1.dst = some n
    · obtain ⟨j, p, h1, h2, h3⟩ := hex
      rw [fold_fr1 m S0 n p.2.val ⟨p, (hm p).2 ⟨j, h1, h2⟩, h3⟩ (fun q hq hqn => by
          obtain ⟨i, hi, _⟩ := (hm q).1 hq
          obtain rfl := uniqD i j q p n hi h1 hqn h3
          rw [hi] at h1; cases h1; rfl),
        fold_fr1 m' S0 n p.2.val ⟨p, (hm' p).2 ⟨j, h1, (hag j p h1 h3).1 h2⟩, h3⟩ (fun q hq hqn => by
          obtain ⟨i, hi, _⟩ := (hm' q).1 hq
          obtain rfl := uniqD i j q p n hi h1 hqn h3
          rw [hi] at h1; cases h1; rfl)]
    · rw [fold_fr0 m S0 n (fun q hq hqn => by obtain ⟨i, hi, hd⟩ := (hm q).1 hq; exact hex ⟨i, q, hi, hd, hqn⟩),
        fold_fr0 m' S0 n (fun q hq hqn => by obtain ⟨i, hi, hd⟩ := (hm' q).1 hq; exact hex ⟨i, q, hi, (hag i q hi hqn).2 hd, hqn⟩)]
  let Ord : List Pt → (Nat → Prop) → Prop := fun m D => ∃ ms : List Nat, m = ms.filterMap (fun j => l2[j]?) ∧ (∀ j, j ∈ ms ↔ (j < l2.length ∧ D j)) ∧ ms.Pairwise (fun a b => ordB (predsG l []) a b = true → a < b)
  have ltN : ∀ (j : Nat) (p : Pt), l2[j]? = some p → j < l2.length := fun j p hj => (List.getElem?_eq_some_iff.1 hj).1
  have lastH : ∀ (m : List Pt) (D : Nat → Prop) (n : Nat), Ord m D → (∃ (j : Nat) (p : Pt), l2[j]? = some p ∧ D j ∧ (∃ o, (n, o) ∈ p.2.ed) ∧ (∀ (i : Nat) (q : Pt), l2[i]? = some q → D i → (∃ o, (n, o) ∈ q.2.ed) → i ≤ j) ∧ lkh (foldSt m S0).hp n = lkh p.2.ed n) ∨
      ((∀ (j : Nat) (p : Pt), l2[j]? = some p → D j → ¬ ∃ o, (n, o) ∈ p.2.ed) ∧ lkh (foldSt m S0).hp n = lkh S0.hp n) := by
    rintro m D n ⟨ms, rfl, h1, h2⟩
    by_cases hex : ∃ (j : Nat) (p : Pt), l2[j]? = some p ∧ D j ∧ ∃ o, (n, o) ∈ p.2.ed
    · obtain ⟨j0, p0, g1, g2, g3⟩ := hex
      obtain ⟨j, ⟨p, k1, k2, k3⟩, kmax⟩ := max_of (p := fun j => ∃ p, l2[j]? = some p ∧ D j ∧ ∃ o, (n, o) ∈ p.2.ed) (N := l2.length) (fun j ⟨p, hp, _⟩ => ltN j p hp) ⟨p0, g1, g2, g3⟩
      refine Or.inl ⟨j, p, k1, k2, k3, fun i q hi hd hw => kmax i ⟨q, hi, hd, hw⟩, ?_⟩
      exact fold_last (R := fun a b => ordB (predsG l []) a b = true) (wOrd n) ms S0 h2 j p ((h1 j).2 ⟨ltN j p k1, k2⟩) k1 k3 fun i q hi hq hw => kmax i ⟨q, hq, ((h1 i).1 hi).2, hw⟩
    · refine Or.inr ⟨fun j p hj hd hw => hex ⟨j, p, hj, hd, hw⟩, ?_⟩
      refine fold_hp0 _ S0 n fun q hq o ho => ?_
      obtain ⟨j, hj, hjq⟩ := List.mem_filterMap.1 hq
      exact hex ⟨j, q, hjq, ((h1 j).1 hj).2, o, ho⟩
  have agH : ∀ (m m' : List Pt) (D D' : Nat → Prop) (n : Nat), Ord m D → Ord m' D' → (∀ (j : Nat) (p : Pt), l2[j]? = some p → (∃ o, (n, o) ∈ p.2.ed) → (D j ↔ D' j)) → lkh (foldSt m S0).hp n = lkh (foldSt m' S0).hp n := by
    intro m m' D D' n hm hm' hag
    rcases lastH m D n hm with ⟨j, p, h1, h2, h3, h4, h5⟩ | ⟨h1, h2⟩ <;> rcases lastH m' D' n hm' with ⟨j', p', h1', h2', h3', h4', h5'⟩ | ⟨h1', h2'⟩
    · have e1 := h4' j p h1 ((hag j p h1 h3).1 h2) h3
      have e2 := h4 j' p' h1' ((hag j' p' h1' h3').2 h2') h3'
      obtain rfl : j = j' := by omega
      rw [h1] at h1'; cases h1'
      rw [h5, h5']
    · exact absurd h3 (h1' j p h1 ((hag j p h1 h3).1 h2))
    · exact absurd h3' (h1 j' p' h1' ((hag j' p' h1' h3').2 h2'))
    · rw [h2, h2']
  have oTake : ∀ i, i ≤ l2.length → Ord (l2.take i) (fun j => j < i) := fun i hi => by
    refine ⟨List.range i, ?_, fun j => by rw [List.mem_range]; omega, by
      have := List.pairwise_lt_range (n := i)
      exact this.imp (fun {a b} h => fun _ => h)⟩
    have : ∀ (L : List Pt) (k : Nat), k ≤ L.length → L.take k = (List.range k).filterMap (fun j => L[j]?) := by
      intro L k
      induction k with
      | zero => intro _; simp
      | succ k ih =>
        intro hk
        rw [List.range_succ, List.filterMap_append, ← ih (by omega), List.take_add_one]
        congr 1
    exact this l2 i hi
  have oAll : Ord l2 (fun _ => True) := by
    obtain ⟨ms, h1, h2, h3⟩ := oTake l2.length (Nat.le_refl _)
    rw [List.take_length] at h1
    exact ⟨ms, h1, fun j => by rw [h2]; simp, h3⟩
  have mTake : ∀ i, Mem (l2.take i) (fun j => j < i) := fun i p => by
    constructor
    · intro hp
      obtain ⟨j, hj, e⟩ := List.getElem_of_mem hp
      rw [List.length_take] at hj
      refine ⟨j, ?_, by omega⟩
      rw [← e, List.getElem_take, List.getElem?_eq_getElem]
    · rintro ⟨j, h1, h2⟩
      have : (l2.take i)[j]? = some p := by rw [List.getElem?_take, if_pos h2]; exact h1
      exact List.mem_of_getElem? this
  have mAll : Mem l2 (fun _ => True) := fun p => by
    constructor
    · intro hp
      obtain ⟨j, hj, e⟩ := List.getElem_of_mem hp
      exact ⟨j, by rw [← e, List.getElem?_eq_getElem], trivial⟩
    · rintro ⟨j, h1, _⟩; exact List.mem_of_getElem? h1
  have hOn : O.nl ≤ nx := hs.nl
  have main : ∀ (fuel : Nat) (listed : Array Bool) (m : List Pt) (E : Env) (a : Act) (w : World), listed.size = l.length → Mem m (fun j => listed.getD j false = true) → Ord m (fun j => listed.getD j false = true) →
      (∀ (i : Nat) (o : Oper), l[i]? = some o → listed.getD i false = true → ∀ e ∈ o.after.toList, Region.binds .any e = true → listed.getD e.on false = true) → (listed.toList.count false ≤ fuel) → Sat O E (foldSt m S0) a w →
      wpAny C.P .any l.toArray (fun e a' w' => ∃ S' E', Q e S' ∧ Sat O E' S' a' w') fuel listed a w := by
    have fin : ∀ (listed : Array Bool) (m : List Pt) (E : Env) (a : Act) (w : World), Mem m (fun j => listed.getD j false = true) → Ord m (fun j => listed.getD j false = true) → (∀ j, j < l.length → listed.getD j false = true) → Sat O E (foldSt m S0) a w → ∃ S' E', Q .normal S' ∧ Sat O E' S' a w := by
      intro listed m E a w hm ho hall hs
      refine ⟨Sn, E, hQ, hs.congr ?_⟩
      refine LkEq.trans ⟨by rw [(fold_nt m S0).1, (fold_nt l2 S0).1], by rw [(fold_nt m S0).2, (fold_nt l2 S0).2], fun n => ?_, fun n => ?_⟩ hLk.symm
      · exact agF m l2 _ _ n hm mAll fun j p hp _ => ⟨fun _ => trivial, fun _ => hall j (by have := (List.getElem?_eq_some_iff.1 hp).1; omega)⟩
      · exact agH m l2 _ _ n ho oAll fun j p hp _ => ⟨fun _ => trivial, fun _ => hall j (by have := (List.getElem?_eq_some_iff.1 hp).1; omega)⟩
    have hready : ∀ (listed : Array Bool) (i : Nat), listed.size = l.length → (i ∈ Region.ready .any l.toArray listed ↔ ∃ (o : Oper), l[i]? = some o ∧ listed.getD i false = false ∧ ∀ e ∈ o.after.toList, Region.binds .any e = true → listed.getD e.on false = true) := by
      intro listed i hls
      unfold Region.ready
      rw [List.mem_filter]
      constructor
      · rintro ⟨h1, h2⟩
        have hi : i < l.length := by simpa using h1
        have hli : i < listed.size := by omega
        rw [Bool.and_eq_true] at h2
        refine ⟨l[i], List.getElem?_eq_getElem hi, ?_, fun e he hb => ?_⟩
        · have := h2.1
          simp only [Array.getD, hli, dif_pos] at this ⊢
          simpa using this
        · have h3 := h2.2
          simp only [List.getElem?_toArray, List.getElem?_eq_getElem hi, Option.map_some, Option.getD_some] at h3
          rw [← Array.all_toList, List.all_eq_true] at h3
          have := h3 e he
          rw [hb] at this
          simpa using this
      · rintro ⟨o, h1, h2, h3⟩
        obtain ⟨hi, e1⟩ := List.getElem?_eq_some_iff.1 h1
        have hli : i < listed.size := by omega
        refine ⟨by simpa using hi, ?_⟩
        rw [Bool.and_eq_true]
        refine ⟨?_, ?_⟩
        · simp only [Array.getD, hli, dif_pos] at h2 ⊢
          simpa using h2
        · simp only [List.getElem?_toArray, h1, Option.map_some, Option.getD_some]
          rw [← Array.all_toList, List.all_eq_true]
          intro e he
          cases hb : Region.binds .any e with
          | false => rfl
          | true => simpa using h3 e he hb
    have allOf : ∀ (listed : Array Bool), listed.size = l.length → Region.ready .any l.toArray listed = [] → ∀ j, j < l.length → listed.getD j false = true := by
      intro listed hls hr j
      induction j using Nat.strongRecOn with
      | _ j ih =>
        intro hj
        cases hb : listed.getD j false with
        | true => rfl
        | false =>
          exfalso
          have hjl : l2[j]? = some (l[j], efs[j]'(by omega)) := by
            rw [List.getElem?_zip_eq_some]; exact ⟨List.getElem?_eq_getElem hj, List.getElem?_eq_getElem _⟩
          have : j ∈ Region.ready .any l.toArray listed := (hready listed j hls).2 ⟨l[j], List.getElem?_eq_getElem hj, hb, fun e he hb2 => by
            have := (hchk j _ hjl).2.2.1 e he hb2
            exact ih e.on this (by omega)⟩
          rw [hr] at this
          simp at this
    intro fuel
    induction fuel with
    | zero =>
      intro listed m E a w hls hm hord0 hdc hcnt hs
      have hall : ∀ j, j < l.length → listed.getD j false = true := fun j hj => by
        have : false ∉ listed.toList := List.count_eq_zero.1 (by omega)
        have h1 : j < listed.size := by omega
        cases hb : listed.getD j false with
        | true => rfl
        | false => exfalso; apply this; simp only [Array.getD, h1, dif_pos] at hb; rw [← hb]; simp
      refine ⟨?_, fin listed m E a w hm hord0 hall hs⟩
      refine List.eq_nil_iff_forall_not_mem.2 fun i hi => ?_
      obtain ⟨o, h1, h2, _⟩ := (hready listed i hls).1 hi
      rw [hall i (List.getElem?_eq_some_iff.1 h1).1] at h2
      simp at h2
    | succ fuel ih =>
      intro listed m E a w hls hm hord0 hdc hcnt hs
      refine ⟨fun hr => fin listed m E a w hm hord0 (allOf listed hls hr) hs, fun i hi => ?_⟩
      obtain ⟨o, ho, hun, hpre⟩ := (hready listed i hls).1 hi
      obtain ⟨hil, _⟩ := List.getElem?_eq_some_iff.1 ho
      obtain ⟨ef, hef⟩ : ∃ ef, efs[i]? = some ef := ⟨efs[i]'(by omega), List.getElem?_eq_getElem _⟩
      have hp : l2[i]? = some (o, ef) := List.getElem?_zip_eq_some.2 ⟨ho, hef⟩
      obtain ⟨c1, c2, c3, c4⟩ := hchk i (o, ef) hp
      have hst := hstep i o ef ho hef
      rw [Nat.zero_add] at hst
      have hnl : ¬ listed.getD i false = true := by rw [hun]; simp
      have hG := preds_ok (G := fun j => listed.getD j false = true ∨ j = i) (D := fun j => listed.getD j false = true) (fun j hj => Or.inl hj) l [] (fun j o' ho' hg e he hb => by
        simp only [List.length_nil, Nat.zero_add] at hg
        rcases hg with hg | rfl
        · exact hdc j o' ho' hg e he hb
        · rw [ho] at ho'; cases ho'; exact hpre e he hb) (fun j j' hb => by simp at hb)
      have hord : ∀ j, i ≠ j → ordB (predsG l []) i j = true → (j < i ↔ listed.getD j false = true) := by
        intro j hne hb
        unfold ordB at hb
        by_cases hlt : j < i
        · have h1 : Nat.blt j i = true := by simpa using hlt
          rw [h1] at hb
          exact ⟨fun _ => hG i j hb (Or.inr rfl), fun _ => hlt⟩
        · have h1 : Nat.blt j i = false := by
            cases hq : Nat.blt j i with
            | true => exact absurd (by simpa using hq) hlt
            | false => rfl
          rw [h1] at hb
          exact ⟨fun h => absurd h hlt, fun h => absurd (hG j i hb (Or.inl h)) hnl⟩
      have hfr : ∀ t ∈ looks l o, lk (foldSt (l2.take i) S0).fr t = lk (foldSt m S0).fr t := fun t ht => agF _ m _ _ t (mTake i) hm fun j q hq hqt => by
        by_cases hne : i = j
        · subst hne; exact ⟨fun h => absurd h (Nat.lt_irrefl _), fun h => absurd h hnl⟩
        · have := c1 j q hq hne
          unfold chkPair at this
          simp only [Bool.and_eq_true] at this
          have h9 := this.1.1.2
          rw [hqt] at h9
          simp only [Bool.or_eq_true, List.all_eq_true] at h9
          rcases h9 with h9 | h9
          · have := h9 t ht; simp at this
          · exact hord j hne h9
      have hil2 : i ≤ l2.length := by omega
      have hlab : ∀ t ∈ labsOf (foldSt (l2.take i) S0) o.op, lkh (foldSt (l2.take i) S0).hp t = lkh (foldSt m S0).hp t := fun t ht => agH _ m _ _ t (oTake i hil2) hord0 fun j q hq ⟨o', hqo⟩ => by
        by_cases hne : i = j
        · subst hne; exact ⟨fun h => absurd h (Nat.lt_irrefl _), fun h => absurd h hnl⟩
        · have := c1 j q hq hne
          unfold chkPair at this
          simp only [Bool.and_eq_true] at this
          have h9 := this.1.2
          simp only [Bool.or_eq_true, Bool.and_eq_true, List.all_eq_true] at h9
          rcases h9 with ⟨h9, _⟩ | h9
          · have := h9 t ht _ hqo; simp at this
          · exact hord j hne h9
      have hrd : ∀ t ∈ ef.rd, lkh (foldSt (l2.take i) S0).hp t = lkh (foldSt m S0).hp t := fun t ht => agH _ m _ _ t (oTake i hil2) hord0 fun j q hq ⟨o', hqo⟩ => by
        by_cases hne : i = j
        · subst hne; exact ⟨fun h => absurd h (Nat.lt_irrefl _), fun h => absurd h hnl⟩
        · have := c1 j q hq hne
          unfold chkPair at this
          simp only [Bool.and_eq_true] at this
          have h9 := this.1.2
          simp only [Bool.or_eq_true, Bool.and_eq_true, List.all_eq_true] at h9
          rcases h9 with ⟨_, h9⟩ | h9
          · have := h9 t ht _ hqo; simp at this
          · exact hord j hne h9
      have hkey : ∀ t o', (t, o') ∈ ef.ed → lkh (foldSt (l2.take i) S0).hp t = lkh (foldSt m S0).hp t := fun t o' ho' => agH _ m _ _ t (oTake i hil2) hord0 fun j q hq hqo => by
        by_cases hne : i = j
        · subst hne; exact ⟨fun h => absurd h (Nat.lt_irrefl _), fun h => absurd h hnl⟩
        · exact hord j hne (wOrd t i j (o, ef) q hp hq ⟨o', ho'⟩ hqo hne)
      have hnxm : (foldSt m S0).nx = nx + l.length := by rw [(fold_nt m S0).2, hnx0]
      have hmm : ∀ (q : Pt), q ∈ m → ∃ (j : Nat), l2[j]? = some q ∧ listed.getD j false = true ∧ i ≠ j := fun q hq => by
        obtain ⟨j, h1, h2⟩ := (hm q).1 hq
        exact ⟨j, h1, h2, fun e => hnl (by rw [e]; exact h2)⟩
      have hmem : isAlloc o.op = true → ∀ (q : Pt), q ∈ m → mem2 (nx + i) q.2.val = false ∧ ∀ y ∈ q.2.ed, y.1 ≠ nx + i ∧ memO (nx + i) y.2 = false := fun hal q hq => by
        obtain ⟨j, h1, h2, h3⟩ := hmm q hq
        have := c1 j q h1 h3
        unfold chkPair at this
        simp only [Bool.and_eq_true] at this
        have h9 := this.2
        rw [hal] at h9
        simp only [Bool.not_true, Bool.false_or, Bool.or_eq_true, Bool.and_eq_true, List.all_eq_true] at h9
        rcases h9 with ⟨h9, h8⟩ | ⟨h9, h8⟩
        · refine ⟨by simpa using h9, fun y hy => ?_⟩
          have := h8 y hy
          simp only [Bool.not_eq_true'] at this
          exact ⟨fun e => by have h7 := this.1; rw [e] at h7; simp at h7, this.2⟩
        · exfalso
          have := (hord j h3 h8).2 h2
          have h7 : i < j := by simpa using h9
          omega
      have hinv : isAlloc o.op = true → Inv (foldSt m S0) (nx + i) := by
        intro hal E1 E2 w1 hρ hI
        obtain ⟨d1, d2⟩ := c2 hal
        have hq := hmem hal
        refine ⟨fun n v hv => mem2_ok hρ hI ?_ hv, fun lb b hb => ?_⟩
        · by_cases hex : ∃ q ∈ m, q.1.dst = some n
          · obtain ⟨q, hqm, hqn⟩ := hex
            obtain ⟨j, h1, h2, h3⟩ := hmm q hqm
            rw [fold_fr1 m S0 n q.2.val ⟨q, hqm, hqn⟩ (fun q' hq' hqn' => by
              obtain ⟨j', h1', _⟩ := (hm q').1 hq'
              obtain rfl := uniqD j' j q' q n h1' h1 hqn' hqn
              rw [h1'] at h1; cases h1; rfl)]
            exact (hq q hqm).1
          · rw [fold_fr0 m S0 n (fun q hqm hqn => hex ⟨q, hqm, hqn⟩)]
            have : ∀ fr : List (Nat × SV), (∀ x ∈ fr, mem2 (nx + i) x.2 = false) → mem2 (nx + i) (lk fr n) = false := by
              intro fr
              induction fr with
              | nil => intro _; rfl
              | cons x r ihr =>
                intro hx
                obtain ⟨x1, x2⟩ := x
                rw [lk_cons]
                split
                · exact hx (x1, x2) (by simp)
                · exact ihr fun y hy => hx y (by simp [hy])
            exact this _ d1
        · have key : lb ≠ nx + i ∧ memO (nx + i) (some b) = false := by
            have look : ∀ (hp : List (Nat × Option Blk)), (∀ x ∈ hp, x.1 ≠ nx + i ∧ memO (nx + i) x.2 = false) → lkh hp lb = some b → lb ≠ nx + i ∧ memO (nx + i) (some b) = false := by
              intro hp
              induction hp with
              | nil => intro _ h; simp [lkh] at h
              | cons x r ihr =>
                intro hx h
                obtain ⟨x1, x2⟩ := x
                rw [lkh_cons] at h
                split at h
                · rename_i e
                  subst e
                  have := hx (x1, x2) (by simp)
                  simp only at this
                  rw [h] at this; exact this
                · exact ihr (fun y hy => hx y (by simp [hy])) h
            rcases lastH m _ lb hord0 with ⟨j, q, h1, h2, h3, h4, h5⟩ | ⟨h1, h2⟩
            · rw [h5] at hb
              exact look _ (hq q ((hm q).2 ⟨j, h1, h2⟩)).2 hb
            · rw [h2] at hb
              exact look _ d2 hb
          exact ⟨key.1, memO_ok hρ hI key.1 key.2⟩
      have next : ∀ (v : Value) (E' : Env) (w' : World), Sat O E' ((foldSt m S0).ed ef.ed) a w' → RS E' (foldSt m S0).nx w' ef.val v →
          wpAny C.P .any l.toArray (fun e a' w' => ∃ S' E', Q e S' ∧ Sat O E' S' a' w') fuel (listed.setIfInBounds i true) (a.put o.dst v) w' := by
        intro v E' w' hs' hv
        have hlg : ∀ j, (listed.setIfInBounds i true).getD j false = true ↔ (listed.getD j false = true ∨ j = i) := fun j => by
          simp only [Array.getD_eq_getD_getElem?, Array.getElem?_setIfInBounds]
          by_cases h : i = j
          · subst h
            have : i < listed.size := by omega
            simp [this]
          · simp [h]
            exact fun e => absurd e.symm h
        refine ih _ (m ++ [(o, ef)]) E' _ w' (by simpa using hls) (fun p => ?_) ?_ (fun j o' ho' hj e he hb => ?_) ?_ ?_
        · rw [List.mem_append, List.mem_singleton, hm p]
          constructor
          · rintro (⟨j, h1, h2⟩ | rfl)
            · exact ⟨j, h1, (hlg j).2 (Or.inl h2)⟩
            · exact ⟨i, hp, (hlg i).2 (Or.inr rfl)⟩
          · rintro ⟨j, h1, h2⟩
            rcases (hlg j).1 h2 with h2 | rfl
            · exact Or.inl ⟨j, h1, h2⟩
            · rw [hp] at h1; cases h1; exact Or.inr rfl
        · obtain ⟨ms, g1, g2, g3⟩ := hord0
          refine ⟨ms ++ [i], by rw [List.filterMap_append, ← g1]; simp [hp], fun j => ?_, ?_⟩
          · rw [List.mem_append, List.mem_singleton, g2]
            show _ ↔ j < l2.length ∧ (listed.setIfInBounds i true).getD j false = true
            rw [hlg]
            constructor
            · rintro (⟨k1, k2⟩ | rfl)
              · exact ⟨k1, Or.inl k2⟩
              · exact ⟨by omega, Or.inr rfl⟩
            · rintro ⟨k1, k2 | rfl⟩
              · exact Or.inl ⟨k1, k2⟩
              · exact Or.inr rfl
          · rw [List.pairwise_append]
            refine ⟨g3, by simp, fun a ha b hb hab => ?_⟩
            rw [List.mem_singleton] at hb
            subst hb
            have hla := ((g2 a).1 ha).2
            have hne : b ≠ a := fun e => hnl (by rw [e]; exact hla)
            rw [ordB_symm (fun e => hne e.symm)] at hab
            exact (hord a hne hab).2 hla
        · rw [hlg]
          rcases (hlg j).1 hj with hj | rfl
          · exact Or.inl (hdc j o' ho' hj e he hb)
          · rw [ho] at ho'; cases ho'; exact Or.inl (hpre e he hb)
        · have cnt : ∀ (L : List Bool) (q : Nat), L[q]? = some false → (L.set q true).count false + 1 = L.count false := by
            intro L
            induction L with
            | nil => intro q h; simp at h
            | cons x r ihr =>
              intro q h
              cases q with
              | zero => simp at h; subst h; simp
              | succ q =>
                simp at h
                have := ihr q h
                simp only [List.set_cons_succ, List.count_cons]
                omega
          have hq : listed.toList[i]? = some false := by
            have h1 : i < listed.size := by omega
            simp only [Array.getD, h1, dif_pos] at hun
            simp [h1]; simpa using hun
          have := cnt _ i hq
          rw [Array.toList_setIfInBounds]
          omega
        · rw [foldSt_app]
          show Sat O E' ((foldSt m S0).step o.dst ef) (a.put o.dst v) w'
          cases hd : o.dst with
          | none =>
            have : (foldSt m S0).step none ef = (foldSt m S0).ed ef.ed := by cases foldSt m S0; rfl
            rw [this]; exact hs'
          | some n =>
            have := hs'.put (n := n) (x := ef.val) (v := v) (by have := c4 n hd; show n < (foldSt m S0).nt.n; rw [(fold_nt m S0).1]; exact this) hv
            have e : ((foldSt m S0).ed ef.ed).set n ef.val = (foldSt m S0).step (some n) ef := by cases foldSt m S0; rfl
            rw [e] at this; exact this
      have run : effD C (foldSt (l2.take i) S0) (nx + i) o.op (fun e => e = ef) → o.wp C.P a w (wpAny C.P .any l.toArray (fun e a' w' => ∃ S' E', Q e S' ∧ Sat O E' S' a' w') fuel (listed.setIfInBounds i true)) (fun e a' w' => ∃ S' E', Q e S' ∧ Sat O E' S' a' w') := fun hef => by
        have h2 := effD_congr (S' := foldSt m S0) (by rw [(fold_nt (l2.take i) S0).2, (fold_nt m S0).2]) (fun x hx => ev_congr fun t ht => hfr t (by
          unfold looks
          rw [List.mem_append]
          exact Or.inl (List.mem_filterMap.2 ⟨x, hx, by rw [ht]⟩))) hlab hkey hrd hef
        exact effD_ok hs (by rw [hnxm]; omega) (by omega) hinv h2 _ _ fun v E' w' e he hs' hv => by subst he; exact next v E' w' hs' hv
      show wpOp C.P l.toArray _ i _ a w
      unfold wpOp
      have hoa : l.toArray[i]? = some o := by simpa using ho
      rw [hoa]
      simp only
      unfold StepOK at hst
      split at hst
      · rename_i hg
        rw [if_pos (by simp [Region.wanted, hg])]
        exact Or.inl (run hst)
      · rename_i j want hg
        obtain ⟨t, h1, hst⟩ := hst
        have hin : t ∈ looks l o := by unfold looks; rw [List.mem_append, hg]; simp only; rw [h1]; simp
        have h5 : (l.toArray[j]?).bind (·.dst) = some t := by simpa using h1
        have e0 : ∀ S : St, S.ed [] = S := fun S => by cases S; rfl
        rcases hst with ⟨b, h2, h3, h4⟩ | ⟨h2, h3⟩
        · have hlt : lk (foldSt m S0).fr t = .b b := by rw [← hfr t hin]; exact h2
          have hv := hs.fr t
          rw [hlt] at hv
          have hv := hv.val_inv
          have hy : yielded l.toArray a.tmps j = some b := by
            unfold yielded
            have h6 : a.tmps[t]? = some (.bool b) := by
              rw [Array.getD_eq_getD_getElem?] at hv
              cases hq : a.tmps[t]? with
              | none => rw [hq] at hv; simp [undef] at hv
              | some y => rw [hq] at hv; simp at hv; rw [hv]
            rw [h5]
            simp [h6]
          by_cases hbw : b = want
          · rw [if_pos (by simp [Region.wanted, hg, hy, hbw])]
            exact Or.inl (run (h3 hbw))
          · rw [if_neg (by simp [Region.wanted, hg, hy, hbw])]
            have he := h4 hbw
            subst he
            exact next undef E w (by
              show Sat O E ((foldSt m S0).ed []) a w
              rw [e0]; exact hs) (RS.skip _ _ _)
        · have hlt : lk (foldSt m S0).fr t = .tup [] := by rw [← hfr t hin]; exact h2
          have hv := hs.fr t
          rw [hlt] at hv
          have hv := hv.skip_inv
          have hy : yielded l.toArray a.tmps j = none := by
            unfold yielded
            rw [h5]
            rw [Array.getD_eq_getD_getElem?] at hv
            cases hq : a.tmps[t]? with
            | none => simp [hq]
            | some y => rw [hq] at hv; simp at hv; subst hv; simp [hq, undef]
          rw [if_neg (by simp [Region.wanted, hg, hy])]
          subst h3
          exact next undef E w (by
            show Sat O E ((foldSt m S0).ed []) a w
            rw [e0]; exact hs) (RS.skip _ _ _)
  have hs1 : Sat O E S0 a { w with drawn := w.drawn + 1 } := by
    rw [← hS0]
    have h := hs.drew (w.drawn + 1)
    refine ⟨fun n => (h.fr n).mono (fun _ _ => ⟨rfl, rfl⟩) (by simp) (fun _ hb => hb) (fun _ _ => rfl), h.nt, h.df, fun lb b hb => (h.hp lb b hb).mono (h.nx lb b hb) (fun _ _ => ⟨rfl, rfl⟩) (by simp) (fun _ hb => hb) (fun _ _ => rfl) (fun _ => rfl),
      fun lb b hb => Nat.lt_of_lt_of_le (h.nx lb b hb) (by simp), h.inj, h.im, h.own, h.kq, h.lab, Nat.le_trans h.nl (by simp), h.imo⟩
  have := main l.length (Array.replicate l.length false) [] E a { w with drawn := w.drawn + 1 } (by simp) (fun p => by
      constructor
      · intro h; simp at h
      · rintro ⟨j, _, h⟩; simp [Array.getD_eq_getD_getElem?, Array.getElem?_replicate] at h
        split at h <;> simp at h) ⟨[], rfl, fun j => by
      constructor
      · intro h; simp at h
      · rintro ⟨_, h⟩; simp [Array.getD_eq_getD_getElem?, Array.getElem?_replicate] at h
        split at h <;> simp at h, List.Pairwise.nil⟩ (fun i o _ h => by simp [Array.getD_eq_getD_getElem?, Array.getElem?_replicate] at h; split at h <;> simp at h) (by simp) hs1
  simpa using this
theorem Wp.draw {C : Cx} {id : Nat} {l : List Oper} {nt : NT} {nx : Nat} {fr : List (Nat × SV)} {hp : List (Nat × Option Blk)} {Q : Exit → St → Prop} (hm : C.P.follows .mixedOrders = true)
    (h : execR C l nx l 0 ⟨nt, nx + l.length, fr, hp⟩ fun efs Sn => drawOK l efs nx ⟨nt, nx + l.length, fr, hp⟩ = true ∧ Q .normal Sn) : Wp C (.region id l.toArray true) ⟨nt, nx, fr, hp⟩ Q :=
  ⟨fun _ _ _ _ hs => wp_region_any hm (by simpa using Wp.drawAny h hs)⟩
theorem bytes_bd {n b : Nat} (hb : b ≤ 4096) (h : n ≤ 34359738368) : n * b ≤ 140737488355328 := Nat.le_trans (Nat.mul_le_mul h hb) (by decide)
end Go.Proofs.YtfjiegpnkmomoaaDoor

namespace Go.Proofs.YtfjiegpnkmomoaaDoor
open Go.RowKit
def roundP {ι : Type} (p : ι → Prop) (I : ι → St) (μ : ι → Nat) (n : Nat) (Q : Exit → St → Prop) : Exit → St → Prop
  | .normal, S => ∃ i, p i ∧ μ i < n ∧ Le S (I i)
  | e, S => Q e S
theorem Wp.loopP {C : Cx} {ι : Type} {c : Code} {S : St} {Q : Exit → St → Prop} (p : ι → Prop) (I : ι → St) (μ : ι → Nat) (i0 : ι) (hp0 : p i0) (h0 : Le S (I i0)) (h : ∀ i, p i → Wp C c (I i) (roundP p I μ (μ i) Q)) : Wp C (.loop c) S Q := by
  refine Wp.loop (ι := {i // p i}) (fun i => I i.1) (fun i => μ i.1) ⟨i0, hp0⟩ h0 fun i => (h i.1 i.2).mono fun e S' hq => ?_
  cases e with
  | normal => obtain ⟨j, h1, h2, h3⟩ := hq; exact ⟨⟨j, h1⟩, h2, h3⟩
  | _ => exact hq
end Go.Proofs.YtfjiegpnkmomoaaDoor

namespace Go.Proofs.YtfjiegpnkmomoaaDoor
open Go.RowKit
def thenK (k : St → Prop) (Q : Exit → St → Prop) : Exit → St → Prop
  | .normal, S => k S
  | e, S => Q e S
def WpN (C : Cx) (c : Code) (Q : Exit → St → Prop) : Nat → St → Prop
  | 0, _ => False
  | n + 1, S => Wp C c S (thenK (WpN C c Q n) Q)
theorem CallStop.fn {C : Cx} {nt : NT} {nx : Nat} {fr : List (Nat × SV)} {hp : List (Nat × Option Blk)} {g : Nat} {args : List SV} {k : St → SV → Prop} {m m' : Nat} {args0 : List SV} {H H' : List (Nat × Option Blk)} {r : SV} (h : Fun C g m args0 H m' r H') (L : List Nat) (hlen : L.length = m) (hd : noDup L = true) (hlive : liveK H m = true) (hkeys : keysK H' m = true) (hlt : keysLt H' m' = true)
    (ha : ArgLes L args args0) (hh : HeapLe hp L H) (hk : k ⟨nt, nx + (m' - m), fr, postH (πf L nx) hp H'⟩ (ren2 (πf L nx) r)) : CallStop C ⟨nt, nx, fr, hp⟩ g args k :=
  .fun h L hlen hd hlive hkeys hlt ha hh hk
end Go.Proofs.YtfjiegpnkmomoaaDoor

namespace Go.Proofs.YtfjiegpnkmomoaaDoor
open Go.RowKit
theorem RD.sl_congr {w : World} {Im : Nat → Prop} {z n : Nat} {f g : Nat → List D} {v : Value} (h : ∀ i, i < n → f i = g i) (hv : RD w Im (.sl z n f) v) : RD w Im (.sl z n g) v := by
  cases hv with
  | sl _ _ _ a cap q hc hm hl ha hg =>
    refine .sl z n g a cap q hc hm (fun i hi => by rw [← h i hi]; exact hl i hi) ha fun i j hi hj => ?_
    have key : ∀ c : List D, c = f i → ∀ hj' : j < c.length, RD w Im c[j] (q i j) := by
      intro c hc hj'; subst hc; exact hg i j hi hj'
    exact key _ (h i hi).symm hj
theorem SV.Le.sl {z n : Nat} {f g : Nat → List D} (h : ∀ i, i < n → f i = g i) : SV.Le (.d (.sl z n f)) (.d (.sl z n g)) :=
  ⟨fun E nx w v hv => by cases hv with | d _ _ hv => exact .d _ _ (hv.sl_congr h)⟩
theorem SV.Le.nil {z : Nat} {f : Nat → List D} : SV.Le (.d (.val (.slice none 0 0))) (.d (.sl z 0 f)) :=
  ⟨fun E nx w v hv => by
    obtain rfl := hv.val_inv
    exact .d _ _ (.sl z 0 f none 0 (fun _ _ => undef) (Nat.le_refl _) (by unfold maxLen; omega) (fun i hi => by omega) (fun h => by omega) (fun i j hi => by omega))⟩
structure Les (xs ys : List SV) : Prop where
  len : xs.length = ys.length
  out : ∀ j (hx : j < xs.length) (hy : j < ys.length), SV.Le xs[j] ys[j]
theorem Les.nil : Les [] [] := ⟨rfl, fun j hx => by simp at hx⟩
theorem Les.cons {x y : SV} {xs ys : List SV} (h : SV.Le x y) (k : Les xs ys) : Les (x :: xs) (y :: ys) :=
  ⟨by simp [k.len], fun j hx hy => by cases j with | zero => exact h | succ j => exact k.out j (by simpa using hx) (by simpa using hy)⟩
theorem SV.Le.tup {xs ys : List SV} (h : Les xs ys) : SV.Le (.tup xs) (.tup ys) :=
  ⟨fun E nx w v hv => by cases hv with | tup _ us hs hh => exact .tup _ _ (hs.trans h.len) fun j hj => (h.out j (by rw [h.len]; exact hj) hj).out _ _ _ _ (hh j (by rw [h.len]; exact hj))⟩
theorem nil_virt {E : Env} {nx z : Nat} {w : World} {v : Value} (h : RS E nx w (.d (.val (.slice none 0 0))) v) : RS (E.newrow nx 0 0) (nx + 1) w (.sl nx z 0 0) v := by
  obtain rfl := h.val_inv
  exact .sl _ _ _ _ _ _ (by omega) (Nat.le_refl _) (by unfold maxLen; omega) (fun h => by omega) (fun _ => ⟨by simp [Env.newrow], fun h => by omega⟩)
theorem Le.virt {nt : NT} {nx : Nat} {fr : List (Nat × SV)} {hp : List (Nat × Option Blk)} (n : Nat) (e : TypeId) (z : Nat) (f : Nat → List D) (hz : 0 < z) (h : lk fr n = .d (.val (.slice none 0 0))) :
    Le ⟨nt, nx, fr, hp⟩ ⟨nt, nx + 1, (n, .sl nx z 0 0) :: fr, (nx, some (.row e z 0 f)) :: hp⟩ := by
  refine ⟨fun O E a w hs => ⟨E.newrow nx 0 0, ?_⟩⟩
  have h0 := hs.virt (e := e) (f := f) hz
  have h1 := hs.fr n
  rw [h] at h1
  refine ⟨fun m => ?_, h0.nt, h0.df, h0.hp, h0.nx, h0.inj, h0.im, h0.own, h0.kq, h0.lab, h0.nl, h0.imo⟩
  simp only [lk_cons]
  by_cases e1 : n = m
  · subst e1; rw [if_pos rfl]; exact nil_virt h1
  · rw [if_neg e1]; exact h0.fr m
def imK (S : St) : List SV → (St → List SV → Prop) → Prop
  | [], k => k S []
  | .sl l z off n :: r, k => match S with
    | ⟨nt, nx, fr, hp⟩ => match lkh hp l with
      | some (.row _ z' m f) => bif Nat.beq z' z then off + n ≤ m ∧ imK ⟨nt, nx, fr, (l, none) :: hp⟩ r fun S' xs => k S' (.d (.sl z n fun i => f (off + i)) :: xs) else False
      | _ => False
  | x :: r, k => bif x.free then imK S r fun S' xs => k S' (x :: xs) else False
theorem imK_ok {O : Org} {a : Act} {w : World} : ∀ (xs : List SV) {E : Env} {S : St} {us : List Value} {k : St → List SV → Prop}, Sat O E S a w → us.length = xs.length → (∀ (j : Nat) (x : SV) (v : Value), xs[j]? = some x → us[j]? = some v → RS E S.nx w x v) → imK S xs k →
    ∃ E' S' ys, k S' ys ∧ Sat O E' S' a w ∧ ys.length = xs.length ∧ (∀ b, E.Im b → E'.Im b) ∧ ∀ (j : Nat) (y : SV) (v : Value), ys[j]? = some y → us[j]? = some v → RS E' 0 w y v
  | [], E, S, us, k, hs, hl, hh, h => ⟨E, S, [], h, hs, rfl, fun _ h => h, fun j y v hy => by simp at hy⟩
  | x :: r, E, S, [], k, hs, hl, hh, h => by simp at hl
  | x :: r, E, S, u :: us, k, hs, hl, hh, h => by
    have hu := hh 0 x u rfl rfl
    have go : ∀ (E1 : Env) (S1 : St) (y : SV), Sat O E1 S1 a w → E1.ρ = E.ρ → E1.κ = E.κ → S1.nx = S.nx → (∀ b, E.Im b → E1.Im b) → RS E1 0 w y u → y.free = true → (imK S1 r fun S' xs => k S' (y :: xs)) →
        ∃ E' S' ys, k S' ys ∧ Sat O E' S' a w ∧ ys.length = (x :: r).length ∧ (∀ b, E.Im b → E'.Im b) ∧ ∀ (j : Nat) (y : SV) (v : Value), ys[j]? = some y → (u :: us)[j]? = some v → RS E' 0 w y v := by
      intro E1 S1 y hs1 e1 e2 e3 e4 hy hf h1
      obtain ⟨E', S', ys, g1, g2, g3, g4, g5⟩ := imK_ok r hs1 (by simpa using hl) (fun j x v hx hv => RS.mono (E := E) (fun _ _ => ⟨by rw [e1], by rw [e2]⟩) (by omega) e4 (fun _ _ => rfl) (hh (j + 1) x v (by simpa using hx) (by simpa using hv))) h1
      refine ⟨E', S', _, g1, g2, by simp [g3], fun b hb => g4 b (e4 b hb), fun j z v hz hv => ?_⟩
      cases j with
      | zero =>
        simp at hz hv; subst hz hv
        have h5 : RS ⟨E1.ρ, E1.κ, E'.Im⟩ 0 w y u := RS.mono (E := E1) (fun _ _ => ⟨rfl, rfl⟩) (Nat.le_refl _) g4 (fun _ _ => rfl) hy
        exact RS.free (E := ⟨E1.ρ, E1.κ, E'.Im⟩) (E' := E') rfl hf h5
      | succ j => simp at hz hv; exact g5 j z v hz hv
    have free : ∀ y : SV, y = x → y.free = true → (imK S r fun S' xs => k S' (y :: xs)) → _ := fun y hy hf h1 => go E S y hs rfl rfl rfl (fun _ h => h) (by subst hy; exact RS.free (E := E) rfl hf hu) hf h1
    cases x with
    | sl l z off n =>
      obtain ⟨nt, nx, fr, hp⟩ := S
      simp only [imK] at h
      split at h
      · rename_i e z' m f hl'
        cases hb : Nat.beq z' z with
        | false => simp [hb] at h
        | true =>
          simp only [hb, cond_true] at h
          obtain rfl := Nat.eq_of_beq_eq_true hb
          obtain ⟨h1, h2⟩ := h
          by_cases hκ : 0 < E.κ l
          · obtain ⟨s1, s2⟩ := hs.imm (w' := w) hl' hκ (fun _ _ _ => rfl) rfl ⟨rfl, rfl, rfl⟩ (fun vs hvs => ⟨_, hvs⟩)
            have h5 := s2 off n u h1 hu
            exact go _ _ _ s1 rfl rfl rfl (fun b hb => Or.inl hb) (RS.free (E := ⟨E.ρ, E.κ, fun b => E.Im b ∨ b = E.ρ l⟩) rfl rfl h5) rfl h2
          · have hm := (hs.hp l _ hl').1
            have hn : n = 0 := by omega
            subst hn
            refine go _ _ _ (hs.kill l) rfl rfl rfl (fun _ h => h) ?_ rfl h2
            cases hu with
            | sl _ _ _ _ a' cap hlx hc hmx ha h0 => exact .d _ _ (.sl _ 0 _ a' cap (fun _ _ => undef) hc hmx (fun i hi => by omega) (fun h => by omega) (fun i j hi => by omega))
      · exact h.elim
    | _ =>
      simp only [imK] at h
      generalize hx : SV.free _ = b at h
      cases b with
      | false => exact h.elim
      | true => exact free _ rfl hx h
theorem CallStop.pureI {C : Cx} {nt : NT} {nx : Nat} {fr : List (Nat × SV)} {hp : List (Nat × Option Blk)} {g : Nat} {args args0 : List SV} {r : SV} {k : St → SV → Prop} (h : Pure C g args0 r) (hr : r.free = true) (hk : imK ⟨nt, nx, fr, hp⟩ args fun S' ys => Les ys args0 ∧ k S' r) : CallStop C ⟨nt, nx, fr, hp⟩ g args k := by
  refine ⟨h.ent, fun O E a w vs hs hsz hargs => ?_⟩
  obtain ⟨E', S', ys, ⟨g1, gk⟩, g2, g3, g4, g5⟩ := imK_ok args (us := vs.toList) hs (by simpa using hsz) (fun j x v hx hv => by
    obtain ⟨q1, q2⟩ := List.getElem?_eq_some_iff.1 hx
    subst q2; rw [← arr_get hv]; exact hargs j q1) hk
  have hlen : vs.size = ys.length := by omega
  refine (h.out E' w vs (fun b hb => (g2.im b hb).1) (by rw [hlen, g1.len]) fun j hj => ?_).mono ?_
  · have hj2 : j < ys.length := by rw [g1.len]; exact hj
    have hj3 : j < vs.size := by omega
    exact (g1.out j hj2 hj).out _ _ _ _ (g5 j _ _ (List.getElem?_eq_getElem hj2) (by simp [Array.getD, hj3]))
  · rintro e w' ⟨v, rfl, hkp, hv⟩
    exact ⟨v, _, S', r, rfl, gk, g2.after hkp, hv.free rfl hr⟩
def cntK : List Oper → Nat → (Nat → Prop) → Prop
  | [], m, k => k m
  | _ :: r, m, k => cntK r (m + 1) k
theorem cntK_ok : ∀ (l : List Oper) (m : Nat) (k : Nat → Prop), cntK l m k → k (m + l.length)
  | [], m, k, h => h
  | _ :: r, m, k, h => by
    have := cntK_ok r (m + 1) k h
    rw [List.length_cons, show m + (r.length + 1) = m + 1 + r.length by omega]; exact this
theorem Wp.drawL {C : Cx} {id : Nat} {l : List Oper} {nt : NT} {nx : Nat} {fr : List (Nat × SV)} {hp : List (Nat × Option Blk)} {Q : Exit → St → Prop} (hm : C.P.follows .mixedOrders = true)
    (h : cntK l nx fun m => execR C l nx l 0 ⟨nt, m, fr, hp⟩ fun efs Sn => drawOK l efs nx ⟨nt, m, fr, hp⟩ = true ∧ Q .normal Sn) : Wp C (.region id l.toArray true) ⟨nt, nx, fr, hp⟩ Q :=
  .draw hm (cntK_ok l nx _ h)
end Go.Proofs.YtfjiegpnkmomoaaDoor

namespace Go.Proofs.YtfjiegpnkmomoaaDoor
open Go.RowKit
end Go.Proofs.YtfjiegpnkmomoaaDoor

namespace Go.Proofs.YtfjiegpnkmomoaaDoor
open Go.RowKit
theorem Sat.rehp {O : Org} {E : Env} {nt : NT} {nx : Nat} {fr : List (Nat × SV)} {hp hp' : List (Nat × Option Blk)} {a : Act} {w : World} (h : Sat O E ⟨nt, nx, fr, hp⟩ a w)
    (hx : ∀ k b', lkh hp' k = some b' → ∃ b, lkh hp k = some b ∧ (∀ κ, b'.real κ → b.real κ) ∧ (BS E nx w k b → BS E nx w k b')) : Sat O E ⟨nt, nx, fr, hp'⟩ a w := by
  refine ⟨h.fr, h.nt, h.df, fun l b hb => ?_, fun l b hb => ?_, fun l l' b b' hb hb' hr hr' hne => ?_, fun b hb => ⟨(h.im b hb).1, (h.im b hb).2.1, fun l x hl hr => ?_⟩, fun l b hb hr => ?_, h.kq, h.lab, h.nl, h.imo⟩
  · obtain ⟨b0, h1, _, h3⟩ := hx l b hb; exact h3 (h.hp l b0 h1)
  · obtain ⟨b0, h1, _, _⟩ := hx l b hb; exact h.nx l b0 h1
  · obtain ⟨b0, h1, h2, _⟩ := hx l b hb
    obtain ⟨b1, h3, h4, _⟩ := hx l' b' hb'
    exact h.inj l l' b0 b1 h1 h3 (h2 _ hr) (h4 _ hr') hne
  · obtain ⟨b0, h1, h2, _⟩ := hx l x hl; exact (h.im b hb).2.2 l b0 h1 (h2 _ hr)
  · obtain ⟨b0, h1, h2, _⟩ := hx l b hb; exact h.own l b0 h1 (h2 _ hr)
def pm (l nx k : Nat) : Nat := bif Nat.beq k l then nx else k
def mvH (l nx : Nat) : List (Nat × Option Blk) → List (Nat × Option Blk)
  | [] => []
  | (k, none) :: r => (k, none) :: mvH l nx r
  | (k, some b) :: r => (k, some (renB (pm l nx) b)) :: mvH l nx r
theorem mvH_look {l nx : Nat} : ∀ (hp : List (Nat × Option Blk)) (k : Nat), lkh (mvH l nx hp) k = (lkh hp k).map (renB (pm l nx))
  | [], k => rfl
  | (j, none) :: r, k => by
    simp only [mvH, lkh_cons, mvH_look r k]; split <;> rfl
  | (j, some b) :: r, k => by
    simp only [mvH, lkh_cons, mvH_look r k]; split <;> rfl
theorem Sat.mv {O : Org} {E : Env} {nt : NT} {nx : Nat} {fr : List (Nat × SV)} {hp : List (Nat × Option Blk)} {a : Act} {w : World} (h : Sat O E ⟨nt, nx, fr, hp⟩ a w) {l e z n : Nat} {f : Nat → List D} (hl : lkh hp l = some (.row e z n f)) :
    Sat O (E.newrow nx (E.ρ l) (E.κ l)) ⟨nt, nx + 1, fr, (nx, some (.row e z n f)) :: (l, none) :: mvH l nx hp⟩ a w := by
  have hlx : l < nx := h.nx l _ hl
  have h0 := h.hp l _ hl
  have h1 := h.rename (w' := w) (b' := .row e z n f) hl (fun h => h) (fun _ _ _ => rfl) rfl ⟨rfl, rfl, rfl⟩ (by
    have := renB_ok (E := E) (E' := E.newrow nx (E.ρ l) (E.κ l)) (nx := nx) (nx' := nx + 1) (w := w) (π := pm l nx) (fun j hj => ?_) (fun j hj => ?_) (fun _ h => h) (l := l) (b := .row e z n f) hlx h0
    · have e1 : pm l nx l = nx := by simp [pm]
      rw [e1] at this; exact this
    · unfold pm
      cases hb : Nat.beq j l with
      | true => obtain rfl := Nat.eq_of_beq_eq_true hb; simp [Env.newrow]
      | false => simp only [cond_false, Env.newrow]; rw [if_neg (by omega), if_neg (by omega)]; exact ⟨rfl, rfl⟩
    · unfold pm
      cases hb : Nat.beq j l with
      | true => simp
      | false => simp only [cond_false]; omega)
  refine h1.rehp fun k b' hb' => ?_
  rw [lkh_cons] at hb'
  by_cases e1 : nx = k
  · rw [if_pos e1] at hb'; cases hb'
    exact ⟨_, by rw [lkh_cons, if_pos e1], fun _ h => h, fun h => h⟩
  · rw [if_neg e1, lkh_cons] at hb'
    by_cases e2 : l = k
    · rw [if_pos e2] at hb'; cases hb'
    · rw [if_neg e2, mvH_look] at hb'
      cases hq : lkh hp k with
      | none => rw [hq] at hb'; cases hb'
      | some b =>
        rw [hq] at hb'; cases hb'
        have hkx : k < nx := h.nx k b hq
        refine ⟨b, by rw [lkh_cons, if_neg e1, lkh_cons, if_neg e2]; exact hq, fun κ hr => (renB_real _ _ _).1 hr, fun hb => ?_⟩
        have := renB_ok (E := E.newrow nx (E.ρ l) (E.κ l)) (E' := E.newrow nx (E.ρ l) (E.κ l)) (nx := nx + 1) (nx' := nx + 1) (w := w) (π := pm l nx) (fun j hj => ?_) (fun j hj => ?_) (fun _ h => h) (l := k) (b := b) (by omega) hb
        · have e3 : pm l nx k = k := by
            unfold pm
            cases hb : Nat.beq k l with
            | true => exact absurd (Nat.eq_of_beq_eq_true hb).symm e2
            | false => rfl
          rw [e3] at this; exact this
        · unfold pm
          cases hb : Nat.beq j l with
          | true =>
            obtain rfl := Nat.eq_of_beq_eq_true hb
            have e4 : ¬ j = nx := by omega
            simp [Env.newrow, e4]
          | false => exact ⟨rfl, rfl⟩
        · unfold pm
          cases hb : Nat.beq j l with
          | true => simp
          | false => simp only [cond_false]; omega
theorem Le.mv {nx : Nat} {nt : NT} {fr : List (Nat × SV)} {hp : List (Nat × Option Blk)} (l : Nat) {e z n : Nat} {f : Nat → List D} (hl : lkh hp l = some (.row e z n f)) : Le ⟨nt, nx, fr, hp⟩ ⟨nt, nx + 1, fr, (nx, some (.row e z n f)) :: (l, none) :: mvH l nx hp⟩ :=
  ⟨fun _ _ _ _ hs => ⟨_, hs.mv hl⟩⟩
theorem Sat.virtC {O : Org} {E : Env} {nt : NT} {nx : Nat} {fr : List (Nat × SV)} {hp : List (Nat × Option Blk)} {a : Act} {w : World} (h : Sat O E ⟨nt, nx, fr, hp⟩ a w) (k j : Nat) {cs : List SV} (e z : Nat) (f : Nat → List D) (hz : 0 < z) (hk : lkh hp k = some (.cells cs)) (hj : cs[j]? = some (.d (.val (.slice none 0 0)))) :
    Sat O (E.newrow nx 0 0) ⟨nt, nx + 1, fr, (k, some (.cells (cs.set j (.sl nx z 0 0)))) :: (nx, some (.row e z 0 f)) :: hp⟩ a w := by
  have hkx : k < nx := h.nx k _ hk
  have h1 := h.virt (e := e) (f := f) hz
  refine h1.rehp fun q b' hb' => ?_
  rw [lkh_cons] at hb'
  by_cases e1 : k = q
  · subst e1
    rw [if_pos rfl] at hb'; cases hb'
    refine ⟨.cells cs, by rw [lkh_cons, if_neg (show ¬ nx = k by omega)]; exact hk, fun _ h => h, fun hb => ?_⟩
    obtain ⟨vs, T, g1, g2, g3⟩ := hb
    refine ⟨vs, T, g1, by simpa using g2, fun i hi => ?_⟩
    have hi' : i < cs.length := by simpa using hi
    by_cases e2 : j = i
    · subst e2
      have := (g3 j hi').1
      have e3 : cs[j] = .d (.val (.slice none 0 0)) := by rw [List.getElem?_eq_getElem hi'] at hj; exact Option.some.inj hj
      rw [e3] at this
      have hv := this.val_inv
      refine ⟨?_, (g3 j hi').2⟩
      rw [List.getElem_set_self, hv]
      exact .sl _ _ _ _ _ _ (by show nx < nx + 1; omega) (Nat.le_refl _) (by unfold maxLen; omega) (fun h => by omega) (fun _ => ⟨by simp [Env.newrow], fun h => by omega⟩)
    · rw [List.getElem_set_ne e2]; exact g3 i hi'
  · rw [if_neg e1] at hb'
    exact ⟨b', hb', fun _ h => h, fun h => h⟩
theorem Le.virtC {nx : Nat} {nt : NT} {fr : List (Nat × SV)} {hp : List (Nat × Option Blk)} (k j e z : Nat) (f : Nat → List D) {cs : List SV} (hz : 0 < z) (hk : lkh hp k = some (.cells cs)) (hj : cs[j]? = some (.d (.val (.slice none 0 0)))) :
    Le ⟨nt, nx, fr, hp⟩ ⟨nt, nx + 1, fr, (k, some (.cells (cs.set j (.sl nx z 0 0)))) :: (nx, some (.row e z 0 f)) :: hp⟩ :=
  ⟨fun _ _ _ _ hs => ⟨_, hs.virtC k j e z f hz hk hj⟩⟩
end Go.Proofs.YtfjiegpnkmomoaaDoor

namespace Go.Proofs.YtfjiegpnkmomoaaDoor
open Go.RowKit
structure Seal (S : St) (L : List Nat) (x y : SV) : Prop where
  out : ∀ O E a w v, Sat O E S a w → RS E S.nx w x v → RS (E.end S L) L.length w y v
def Seals (S : St) (L : List Nat) : List SV → List SV → Prop
  | [], [] => True
  | x :: xs, y :: ys => Seal S L x y ∧ Seals S L xs ys
  | _, _ => False
theorem Seals.out {S : St} {L : List Nat} : ∀ {xs ys : List SV}, Seals S L xs ys → xs.length = ys.length ∧ ∀ (j : Nat) (y : SV), ys[j]? = some y → ∃ x, xs[j]? = some x ∧ Seal S L x y
  | [], [], _ => ⟨rfl, fun j y h => by simp at h⟩
  | x :: xs, y :: ys, ⟨h1, h2⟩ => by
    obtain ⟨g1, g2⟩ := Seals.out h2
    refine ⟨by simp [g1], fun j z hz => ?_⟩
    cases j with
    | zero => simp at hz; subst hz; exact ⟨x, rfl, h1⟩
    | succ j => simp at hz; exact g2 j z hz
  | [], _ :: _, h => h.elim
  | _ :: _, [], h => h.elim
theorem Seals.at {S : St} {L : List Nat} {xs ys : List SV} (h : Seals S L xs ys) {j : Nat} (hj : j < ys.length) : ∃ hj' : j < xs.length, Seal S L xs[j] ys[j] := by
  obtain ⟨h1, h2⟩ := h.out
  obtain ⟨x, g1, g2⟩ := h2 j _ (List.getElem?_eq_getElem hj)
  obtain ⟨q1, q2⟩ := List.getElem?_eq_some_iff.1 g1
  exact ⟨q1, by rw [q2]; exact g2⟩
variable {S : St} {L : List Nat}
theorem Seal.any {x : SV} : Seal S L x .any := ⟨fun _ _ _ _ _ _ _ => .any _⟩
theorem Seal.d {x : D} : Seal S L (.d x) (.d x) := ⟨fun O E a w v hs hv => by cases hv with | d _ _ hv => exact .d _ _ (hv.mono (fun _ hb => Or.inl hb) fun _ _ => rfl)⟩
theorem Seal.sl {l e z o n m : Nat} {f : Nat → List D} (hi : idxK L l = none) (hl : lkh S.hp l = some (.row e z m f)) (hn : o + n ≤ m) : Seal S L (.sl l z o n) (.d (.sl z n fun i => f (o + i))) := by
  refine ⟨fun O E a w v hs hv => ?_⟩
  have hI : ∀ b, E.Im b → (E.end S L).Im b := fun b hb => Or.inl hb
  obtain ⟨y, h1, h2⟩ := sealD_fine (ρ' := (E.end S L).ρ) (κ' := (E.end S L).κ) (m' := L.length) (k := fun y => y = .d (.sl z n fun i => f (o + i))) hs hI hv (fun l' b hl' hb hr => by
      have : SV.lab (.sl l z o n) = some l := rfl
      rw [this] at hl'; cases hl'; exact Or.inr ⟨l, b, hb, hr, rfl, idxK_none hi⟩) (by simp only [sealD, hl]; simp [hn])
  rw [h1] at h2; exact h2
theorem Seal.tup {cs ds : List SV} (h : Seals S L cs ds) : Seal S L (.tup cs) (.tup ds) := by
  refine ⟨fun O E a w v hs hv => ?_⟩
  cases hv with
  | tup _ us hsz hh => exact .tup _ us (by have := h.out.1; omega) fun j hj => by obtain ⟨q1, q2⟩ := h.at hj; exact q2.out O E a w _ hs (hh j q1)
structure DLe (x y : D) : Prop where
  out : ∀ w Im v, RD w Im x v → RD w Im y v
theorem DLe.refl (x : D) : DLe x x := ⟨fun _ _ _ h => h⟩
theorem DLe.nil {z : Nat} {f : Nat → List D} : DLe (.val (.slice none 0 0)) (.sl z 0 f) := ⟨fun w Im v h => by
  cases h with | val _ _ => exact .sl z 0 f none 0 (fun _ _ => undef) (Nat.le_refl _) (by unfold maxLen; omega) (fun i hi => by omega) (fun h => by omega) (fun i j hi => by omega)⟩
def DLes : List D → List D → Prop
  | [], [] => True
  | x :: xs, y :: ys => DLe x y ∧ DLes xs ys
  | _, _ => False
theorem DLes.refl : ∀ xs : List D, DLes xs xs
  | [] => trivial
  | x :: xs => ⟨.refl x, DLes.refl xs⟩
theorem DLes.of {xs ys : List D} (h : xs = ys) : DLes xs ys := by subst h; exact .refl _
theorem DLes.out : ∀ {xs ys : List D}, DLes xs ys → xs.length = ys.length ∧ ∀ (j : Nat) (hx : j < xs.length) (hy : j < ys.length), DLe xs[j] ys[j]
  | [], [], _ => ⟨rfl, fun j hx => by simp at hx⟩
  | x :: xs, y :: ys, ⟨h1, h2⟩ => by
    obtain ⟨g1, g2⟩ := DLes.out h2
    refine ⟨by simp [g1], fun j hx hy => ?_⟩
    cases j with
    | zero => exact h1
    | succ j => exact g2 j (by simpa using hx) (by simpa using hy)
  | [], _ :: _, h => h.elim
  | _ :: _, [], h => h.elim
theorem zA {p : Prop} (h : p := by first | ((((conv => whnf); repeat' (first | exact trivial | exact ArgLe.rfl rfl | exact ArgLe.ptr rfl | exact ArgLe.sl rfl | ((with_reducible refine ArgLe.fn ?_); (conv => whnf)) | ((refine ArgLe.iref ?_); (conv => whnf)) | exact ArgLe.free SV.Le.nil rfl | ((with_reducible refine And.intro ?_ ?_) <;> (conv => whnf)) | ((refine ArgLe.free ?_ rfl); (repeat' (first | exact SV.Le.rfl _ | exact SV.Le.nil | exact SV.Le.sl (fun i hi => by (rcases i with _ | _ | _ | _ | i) <;> first | rfl | (exfalso; omega)) | with_reducible refine SV.Le.agg ?_ | exact Les.nil | with_reducible refine Les.cons ?_ ?_)))))); done) | fail "no") : p := h
theorem zH {p : Prop} (h : p := by first | ((((conv => whnf); repeat' (first | exact trivial | exact ArgLe.rfl rfl | exact ArgLe.ptr rfl | exact ArgLe.sl rfl | ((with_reducible refine ArgLe.fn ?_); (conv => whnf)) | ((refine ArgLe.iref ?_); (conv => whnf)) | exact ArgLe.free SV.Le.nil rfl | exact ⟨rfl, rfl, rfl⟩ | exact fun i hi => rfl | exact (fun i hi => by (rcases i with _ | i) <;> first | rfl | (exfalso; omega)) | ((with_reducible refine And.intro ?_ ?_) <;> (conv => whnf))))); done) | fail "no") : p := h
theorem zD {p : Prop} (h : p := by first | ((((conv => whnf); repeat' (first | exact trivial | exact ArgLe.rfl rfl | exact ArgLe.ptr rfl | exact ArgLe.sl rfl | exact ⟨rfl, rfl, rfl⟩ | exact ⟨rfl, Nat.le_of_ble_eq_true rfl⟩ | exact dir_arg (by assumption) | exact dir_argR (by assumption) (fun l hl => by rcases l with _ | _ | _ | _ | _ | l <;> first | rfl | omega) | exact fun i hi => rfl | ((with_reducible refine And.intro ?_ ?_) <;> (conv => whnf))))); done) | fail "no") : p := h
theorem zG {p : Prop} (h : p := by first | ((((conv => whnf); repeat' (first | exact trivial | exact ArgLe.rfl rfl | exact ArgLe.ptr rfl | exact ArgLe.sl5 | exact ArgLe.sl rfl | exact ⟨rfl, rfl, rfl⟩ | exact ⟨rfl, Nat.le_of_ble_eq_true rfl⟩ | exact dir_arg4 | exact dir_argR4 (fun l hl => by rcases l with _ | _ | _ | _ | l <;> first | rfl | omega) | exact fun i hi => rfl | ((with_reducible refine And.intro ?_ ?_) <;> (conv => whnf))))); done) | fail "no") : p := h
theorem zK {p : Prop} (h : p := by first | (((conv => whnf); repeat' (first | exact trivial | ((refine And.intro rfl ?_); (conv => whnf)))); done) | fail "no") : p := h
theorem zB {p : Prop} (h : p := by first | ((first | exact bytes_bd (Nat.le_of_ble_eq_true rfl) (by omega) | omega); done) | fail "no") : p := h
theorem zO {p : Prop} (h : p := by first | ((first | exact IntWalk.i64_in _ (by omega) | exact IntWalk.u64_in _ (by omega) | exact IntWalk.u8_in _ (by omega) | exact IntWalk.u32_in _ (by omega) | exact IntWalk.i32_in _ (by omega) | exact IntWalk.u16_in _ (by omega)); done) | fail "no") : p := h
theorem zC {p : Prop} (h : p := by first | ((first | omega | exact Nat.le_of_ble_eq_true rfl); done) | fail "no") : p := h
theorem zF {p : Prop} (h : p := by first | ((first | exact trivial | exact Seal.any | exact Seal.d | exact Seal.ptrL rfl | exact Seal.slL rfl | exact Seal.lt0 (SV.Lt.of rfl) | exact Seal.same (by assumption) (Nat.le_of_ble_eq_true rfl) (fun i hi => id5 hi) | exact Seal.le Seal.d (SV.Le.i (by omega)) | exact ⟨rfl, rfl, rfl⟩ | exact ⟨rfl, Nat.le_of_ble_eq_true rfl⟩ | exact dir_seal (by assumption) | exact dir_sealR4 (fun l hl => by rcases l with _ | _ | _ | _ | l <;> first | rfl | omega) | exact dir_sealR (by assumption) (fun l hl => by rcases l with _ | _ | _ | _ | _ | l <;> first | rfl | omega) | exact fun i hi => DLes.refl _ | exact Seal.le Seal.d SV.Le.nil | exact Seal.le (Seal.sl rfl rfl (by omega)) (SV.Le.sl fun i hi => by simp only [Nat.zero_add])); done) | fail "no") : p := h
theorem zE {p : Prop} (h : p := by first | ((first | exact trivial | exact Seal.any | exact Seal.d | exact Seal.ptrL rfl | exact Seal.slL rfl | exact Seal.lt0 (SV.Lt.of rfl) | exact Seal.same (by assumption) (Nat.le_of_ble_eq_true rfl) (fun i hi => id5 hi) | exact Seal.le Seal.d (SV.Le.i (by omega)) | exact ⟨rfl, rfl, rfl⟩ | exact ⟨rfl, Nat.le_of_ble_eq_true rfl⟩ | exact dir_seal (by assumption) | exact dir_sealR (by assumption) (fun l hl => by rcases l with _ | _ | _ | _ | _ | l <;> first | rfl | omega) | exact fun i hi => DLes.refl _ | exact Seal.le Seal.d SV.Le.nil | exact Seal.le (Seal.sl rfl rfl (by omega)) (SV.Le.sl fun i hi => by simp only [Nat.zero_add])); done) | fail "no") : p := h
end Go.Proofs.YtfjiegpnkmomoaaDoor
