/- Parts of the proof, one behind the other: Sx13, Sx14, Sx15. Lemmas and contracts of functions; no condition of its own. -/
import Derived.Test.YteallmlkkcjblaaGreatDoorMR3
import Derived.Orders
set_option linter.unusedVariables false
set_option linter.unusedSimpArgs false
namespace Go.Proofs.YteallmlkkcjblaaGreatDoor
open Go.RowKit
structure Ef where
  val : SV
  ed : List (Nat × Option Blk)
  rd : List Nat
def storeD (C : Cx) (S : St) (t : Nat) : SV → SV → (Nat → Blk → Prop) → Prop
  | .ptr l off, x, k => match C.tt t, lkh S.hp l with
    | some i, some (.cells cs) => cellsK x fun vs => bif Nat.beq vs.length i.size then setK cs off vs fun cs' => k l (.cells cs') else False
    | some i, some (.cf m n g) => bif Nat.beq i.size 1 then cellsK x (fun vs => match vs with
      | [v] => (SV.Lt m v ∧ At off fun o => o < n ∧ k l (.cf m n fun j => bif Nat.beq j o then v else g j)) ∨ CfS off [v] m n g fun g' => k l (.cf m n g')
      | _ => False) else cellsK x (fun vs => bif Nat.beq vs.length i.size then CfS off vs m n g fun g' => k l (.cf m n g') else False)
    | _, _ => False
  | .rp l esz q off, x, k => match C.tt t, lkh S.hp l with
    | some i, some (.row e z n f) => bif Nat.beq esz z then q < n ∧ cellsK x (fun vs => bif Nat.beq vs.length i.size then allD vs (fun ds => setDK (f q) off ds fun cs' => k l (.row e z n fun j => if j = q then cs' else f j)) else False) else False
    | some i, some (.cf m n g) => cellsK x (fun vs => bif Nat.beq vs.length i.size then (CfS (q * esz + off) vs m n g fun g' => k l (.cf m n g')) ∨ (CfS (q * esz + off) vs S.nx n g fun g' => k l (.cf S.nx n g')) else False)
    | _, _ => False
  | _, _, _ => False
theorem cellsK_imp {x : SV} {k k' : List SV → Prop} (h : ∀ r, k r → k' r) (hk : cellsK x k) : cellsK x k' := by cases x <;> first | exact h _ hk | exact hk.elim
theorem setK_imp : ∀ (cs : List SV) (o : Nat) (vs : List SV) (k k' : List SV → Prop), (∀ r, k r → k' r) → setK cs o vs k → setK cs o vs k'
  | [], 0, [], k, k', h, hk => by simp only [setK] at hk ⊢; exact h _ hk
  | _ :: _, 0, [], k, k', h, hk => by simp only [setK] at hk ⊢; exact h _ hk
  | c :: cs, 0, v :: vs, k, k', h, hk => by simp only [setK] at hk ⊢; exact setK_imp cs 0 vs _ _ (fun r => h _) hk
  | c :: cs, n + 1, vs, k, k', h, hk => by cases vs <;> (simp only [setK] at hk ⊢; exact setK_imp cs n _ _ _ (fun r => h _) hk)
  | [], 0, v :: vs, k, k', h, hk => by simp [setK] at hk
  | [], n + 1, vs, k, k', h, hk => by cases vs <;> simp [setK] at hk
theorem setDK_imp : ∀ (cs : List D) (o : Nat) (vs : List D) (k k' : List D → Prop), (∀ r, k r → k' r) → setDK cs o vs k → setDK cs o vs k'
  | [], 0, [], k, k', h, hk => by simp only [setDK] at hk ⊢; exact h _ hk
  | _ :: _, 0, [], k, k', h, hk => by simp only [setDK] at hk ⊢; exact h _ hk
  | c :: cs, 0, v :: vs, k, k', h, hk => by simp only [setDK] at hk ⊢; exact setDK_imp cs 0 vs _ _ (fun r => h _) hk
  | c :: cs, n + 1, vs, k, k', h, hk => by cases vs <;> (simp only [setDK] at hk ⊢; exact setDK_imp cs n _ _ _ (fun r => h _) hk)
  | [], 0, v :: vs, k, k', h, hk => by simp [setDK] at hk
  | [], n + 1, vs, k, k', h, hk => by cases vs <;> simp [setDK] at hk
theorem allD_imp : ∀ (vs : List SV) (k k' : List D → Prop), (∀ r, k r → k' r) → allD vs k → allD vs k'
  | [], k, k', h, hk => by simp only [allD] at hk ⊢; exact h _ hk
  | .d x :: r, k, k', h, hk => by simp only [allD] at hk ⊢; exact allD_imp r _ _ (fun r => h _) hk
  | .any :: r, k, k', h, hk => by simp [allD] at hk
  | .ptr _ _ :: r, k, k', h, hk => by simp [allD] at hk
  | .rp _ _ _ _ :: r, k, k', h, hk => by simp [allD] at hk
  | .sl _ _ _ _ :: r, k, k', h, hk => by simp [allD] at hk
  | .agg _ :: r, k, k', h, hk => by simp [allD] at hk
  | .tup _ :: r, k, k', h, hk => by simp [allD] at hk
  | .fn _ _ :: r, k, k', h, hk => by simp [allD] at hk
  | .iref _ _ :: r, k, k', h, hk => by simp [allD] at hk
theorem storeD_K {C : Cx} {S : St} {t : Nat} {x y : SV} {k : Nat → Blk → Prop} {k' : St → Prop} (h : ∀ l b, k l b → k' (S.seth l (some b))) (hk : storeD C S t x y k) : storeK C S t x y k' := by
  cases x with
  | ptr l off =>
    simp only [storeD, storeK] at hk ⊢
    split at hk
    · rename_i i cs hi hl
      rw [hi, hl]
      refine cellsK_imp (fun r hr => ?_) hk
      cases hz : Nat.beq r.length i.size with
      | false => simp [hz] at hr
      | true => simp only [hz, cond_true] at hr ⊢; exact setK_imp _ _ _ _ _ (fun q => h _ _) hr
    · rename_i i m n g hi hl
      rw [hi, hl]
      cases hz : Nat.beq i.size 1 with
      | false =>
        simp only [hz, cond_false] at hk ⊢
        refine cellsK_imp (fun r hr => ?_) hk
        cases hz2 : Nat.beq r.length i.size with
        | false => simp [hz2] at hr
        | true => simp only [hz2, cond_true] at hr ⊢; exact hr.imp fun g hg => h _ _ hg
      | true =>
        simp only [hz, cond_true] at hk ⊢
        refine cellsK_imp (fun r hr => ?_) hk
        split at hr
        · rcases hr with hr | hr
          · exact .inl ⟨hr.1, ⟨hr.2.out.1, h _ _ hr.2.out.2⟩⟩
          · exact .inr (hr.imp fun g hg => h _ _ hg)
        · exact hr.elim
    · exact hk.elim
  | rp l esz q off =>
    simp only [storeD, storeK] at hk ⊢
    split at hk
    · rename_i i e z n f hi hl
      rw [hi, hl]
      cases hz : Nat.beq esz z with
      | false => simp [hz] at hk
      | true =>
        simp only [hz, cond_true] at hk ⊢
        refine ⟨hk.1, cellsK_imp (fun r hr => ?_) hk.2⟩
        cases hz2 : Nat.beq r.length i.size with
        | false => simp [hz2] at hr
        | true =>
          simp only [hz2, cond_true] at hr ⊢
          exact allD_imp _ _ _ (fun ds => setDK_imp _ _ _ _ _ (fun q => h _ _)) hr
    · rename_i i m n g hi hl
      rw [hi, hl]
      refine cellsK_imp (fun r hr => ?_) hk
      cases hz2 : Nat.beq r.length i.size with
      | false => simp [hz2] at hr
      | true => simp only [hz2, cond_true] at hr ⊢; exact hr.imp (fun hr => hr.imp fun g hg => h _ _ hg) (fun hr => hr.imp fun g hg => h _ _ hg)
    · exact hk.elim
  | _ => exact hk.elim
def Inv (S : St) (l : Nat) : Prop := ∀ (E E' : Env) (w : World), (∀ m, m ≠ l → E'.ρ m = E.ρ m ∧ E'.κ m = E.κ m) → E'.Im = E.Im →
  (∀ n v, RS E S.nx w (lk S.fr n) v → RS E' S.nx w (lk S.fr n) v) ∧ (∀ m b, lkh S.hp m = some b → m ≠ l ∧ (BS E S.nx w m b → BS E' S.nx w m b))
def πn (L : List Nat) (ln i : Nat) : Nat := bif Nat.blt i L.length then L.getD i 0 else ln
theorem CallStop.fresh {C : Cx} {S : St} {ln g : Nat} {args : List SV} {k : St → SV → Prop} {args0 : List SV} {H H' : List (Nat × Option Blk)} {r : SV} (L : List Nat) (h : Fun C g L.length args0 H (L.length + 1) r H') (hd : noDup L = true) (hlive : liveK H L.length = true) (hkeys : keysK H' L.length = true) (hlt : keysLt H' (L.length + 1) = true)
    (ha : ArgLes L args args0) (hh : HeapLe S.hp L H) (hinv : Inv S ln) (hm : S.nt.m ≤ ln) (hl : ln < S.nx) (hk : k ⟨S.nt, S.nx, S.fr, postH (πn L ln) S.hp H'⟩ (ren2 (πn L ln) r)) : CallStop C S g args k := by
  refine ⟨h.ent, fun O E a w vs hs hsz hargs => ?_⟩
  have hO := hs.nt.2
  have hLn : ∀ i, i < L.length → L.getD i 0 ≠ ln := fun i hi => by
    have := hlive
    unfold liveK at this
    rw [List.all_eq_true] at this
    obtain ⟨b, hb⟩ := Option.isSome_iff_exists.1 (this i (by simpa using hi))
    obtain ⟨g1, g2⟩ := hh.out i b hb
    cases hq : lkh S.hp (L.getD i 0) with
    | none => rw [hq] at g2; cases b <;> exact (show False from g2).elim
    | some b0 => exact ((hinv E E w (fun _ _ => ⟨rfl, rfl⟩) rfl).2 _ _ hq).1
  have hπ1 : ∀ i, i < L.length → πn L ln i = L.getD i 0 := fun i hi => by
    have hb : Nat.blt i L.length = true := by simpa using hi
    unfold πn; rw [hb]; rfl
  have hπ2 : ∀ i, L.length ≤ i → πn L ln i = ln := fun i hi => by
    unfold πn
    cases hb : Nat.blt i L.length with
    | true => have : i < L.length := by simpa using hb
              omega
    | false => rfl
  refine (Fun.callG hs L h hd hlive hkeys hlt ha hh (F := fun l => l = ln) (nx' := S.nx) ⟨Nat.le_refl _, fun E E' w hρ hI => (hinv E E' w hρ hI).1, fun m b hb => ⟨((hinv E E w (fun _ _ => ⟨rfl, rfl⟩) rfl).2 m b hb).1, fun E E' w hρ hI => ((hinv E E' w hρ hI).2 m b hb).2⟩⟩ (fun l hl => by subst hl; omega) (πn L ln) hπ1 (fun i h1 h2 => ⟨hπ2 i h1, by rw [hπ2 i h1]; exact hl⟩) (fun i j hi hj e => ?_) vs hsz hargs).mono ?_
  · by_cases h1 : i < L.length <;> by_cases h2 : j < L.length
    · rw [hπ1 i h1, hπ1 j h2] at e
      exact Classical.byContradiction fun hne => noDup_ne hd h1 h2 hne e
    · rw [hπ1 i h1, hπ2 j (by omega)] at e; exact absurd e (hLn i h1)
    · rw [hπ2 i (by omega), hπ1 j h2] at e; exact absurd e.symm (hLn j h2)
    · omega
  · rintro e w' ⟨v, E', rfl, h1, h2⟩
    exact ⟨v, E', _, _, rfl, hk, h1, h2⟩
def sameK (P hp : List (Nat × Option Blk)) : List Nat → Prop
  | [] => True
  | l :: r => lkh P l = lkh hp l ∧ sameK P hp r
theorem sameK_out {P hp : List (Nat × Option Blk)} : ∀ {K : List Nat}, sameK P hp K → ∀ l ∈ K, lkh P l = lkh hp l
  | [], _, l, hl => by simp at hl
  | k :: r, ⟨h1, h2⟩, l, hl => by
    rcases List.mem_cons.1 hl with rfl | hl
    · exact h1
    · exact sameK_out h2 l hl
def memN (l : Nat) : List Nat → Bool
  | [] => false
  | k :: r => bif Nat.beq k l then true else memN l r
theorem memN_iff {l : Nat} : ∀ {K : List Nat}, memN l K = true ↔ l ∈ K
  | [] => by simp [memN]
  | k :: r => by
    unfold memN
    cases h : Nat.beq k l with
    | true => obtain rfl := Nat.eq_of_beq_eq_true h; simp
    | false =>
      have hne : ¬ l = k := fun e => by subst e; simp at h
      simp only [cond_false, List.mem_cons, hne, false_or]; exact memN_iff
def dropK (K : List Nat) : List (Nat × Option Blk) → List (Nat × Option Blk)
  | [] => []
  | (l, ob) :: r => bif memN l K then dropK K r else (l, ob) :: dropK K r
theorem dropK_look {K : List Nat} {hp : List (Nat × Option Blk)} (l : Nat) : ∀ (P : List (Nat × Option Blk)), (l ∈ K → lkh (dropK K P ++ hp) l = lkh hp l) ∧ (¬ l ∈ K → lkh (dropK K P ++ hp) l = lkh (P ++ hp) l)
  | [] => ⟨fun _ => rfl, fun _ => rfl⟩
  | (m, ob) :: r => by
    obtain ⟨h1, h2⟩ := dropK_look (hp := hp) (K := K) l r
    unfold dropK
    cases hm : memN m K with
    | true =>
      simp only [cond_true]
      refine ⟨h1, fun hn => ?_⟩
      rw [h2 hn, List.cons_append, lkh_cons, if_neg (fun (e : m = l) => hn (e ▸ memN_iff.1 hm))]
    | false =>
      simp only [cond_false, List.cons_append, lkh_cons]
      refine ⟨fun hl => ?_, fun hn => by rw [h2 hn]⟩
      rw [if_neg (fun (e : m = l) => by rw [e, memN_iff.2 hl] at hm; cases hm)]; exact h1 hl
theorem dropK_keys {K : List Nat} {l : Nat} {o : Option Blk} : ∀ {P : List (Nat × Option Blk)}, (l, o) ∈ P → l ∈ K ∨ (l, o) ∈ dropK K P
  | (m, ob) :: r, h => by
    unfold dropK
    cases hm : memN m K with
    | true =>
      simp only [cond_true]
      rcases List.mem_cons.1 h with h | h
      · cases h; exact Or.inl (memN_iff.1 hm)
      · exact dropK_keys h
    | false =>
      simp only [cond_false]
      rcases List.mem_cons.1 h with h | h
      · exact Or.inr (by simp [h])
      · exact (dropK_keys (P := r) h).imp id fun h => by simp [h]
open Classical in
theorem lkh_app0 : ∀ (e hp : List (Nat × Option Blk)) (l : Nat), lkh (e ++ hp) l = if (∃ o, (l, o) ∈ e) then lkh e l else lkh hp l
  | [], hp, l => by simp
  | (m, ob) :: r, hp, l => by
    rw [List.cons_append, lkh_cons, lkh_cons, lkh_app0 r hp l]
    by_cases h : m = l
    · subst h; rw [if_pos rfl, if_pos ⟨ob, by simp⟩, if_pos rfl]
    · rw [if_neg h, if_neg h]
      by_cases h2 : ∃ o, (l, o) ∈ r
      · rw [if_pos h2, if_pos (by obtain ⟨o, ho⟩ := h2; exact ⟨o, by simp [ho]⟩)]
      · rw [if_neg h2, if_neg (by
          rintro ⟨o, ho⟩
          rcases List.mem_cons.1 ho with ho | ho
          · cases ho; exact h rfl
          · exact h2 ⟨o, ho⟩)]
theorem dropK_ok {K : List Nat} {P hp : List (Nat × Option Blk)} (h : sameK P hp K) (l : Nat) : lkh (P ++ hp) l = lkh (dropK K P ++ hp) l := by
  by_cases hl : l ∈ K
  · rw [(dropK_look l P).1 hl, lkh_app0]
    split
    · exact sameK_out h l hl
    · rfl
  · rw [(dropK_look l P).2 hl]
structure DCall (C : Cx) (S : St) (ln g : Nat) (args : List SV) (k : SV → List (Nat × Option Blk) → List Nat → Prop) : Prop where
  out : (∃ r, Pure C g args r ∧ args.all SV.free = true ∧ r.free = true ∧ k r [] []) ∨
    (∃ L args0 H H' r K, Fun C g L.length args0 H L.length r H' ∧ noDup L = true ∧ liveK H L.length = true ∧ keysK H' L.length = true ∧ keysLt H' L.length = true ∧ ArgLes L args args0 ∧ HeapLe S.hp L H ∧
      sameK (postH (πf L S.nx) [] H') S.hp K ∧ k (ren2 (πf L S.nx) r) (dropK K (postH (πf L S.nx) [] H')) K) ∨
    (∃ L args0 H H' r K, Fun C g L.length args0 H (L.length + 1) r H' ∧ noDup L = true ∧ liveK H L.length = true ∧ keysK H' L.length = true ∧ keysLt H' (L.length + 1) = true ∧ ArgLes L args args0 ∧ HeapLe S.hp L H ∧
      sameK (postH (πn L ln) [] H') S.hp K ∧ k (ren2 (πn L ln) r) (dropK K (postH (πn L ln) [] H')) K) ∨
    (∃ m r, Fun C g m args [] m r [] ∧ SV.ltB S.nx r = true ∧ Nat.ble S.nx m = true ∧ k r [] [])
theorem DCall.fun {C : Cx} {S : St} {ln g : Nat} {args : List SV} {k : SV → List (Nat × Option Blk) → List Nat → Prop} {m : Nat} {args0 : List SV} {H H' : List (Nat × Option Blk)} {r : SV} (h : Fun C g m args0 H m r H') (L K : List Nat) (hlen : L.length = m) (hd : noDup L = true) (hlive : liveK H m = true) (hkeys : keysK H' m = true) (hlt : keysLt H' m = true)
    (ha : ArgLes L args args0) (hh : HeapLe S.hp L H) (hs : sameK (postH (πf L S.nx) [] H') S.hp K) (hk : k (ren2 (πf L S.nx) r) (dropK K (postH (πf L S.nx) [] H')) K) : DCall C S ln g args k := by
  subst hlen
  exact ⟨Or.inr (Or.inl ⟨L, args0, H, H', r, K, h, hd, hlive, hkeys, hlt, ha, hh, hs, hk⟩)⟩
def isAlloc : Op → Bool
  | .alloc _ => true
  | .buildSlice .. => true
  | .makeSlice .. => true
  | .box .. => true
  | .call _ => true
  | _ => false
def fER (v : SV) (ed : List (Nat × Option Blk)) (rd : List Nat) (k : Ef → Prop) : Prop := forceK v fun v' => k ⟨v', ed, rd⟩
theorem fER_ok {v : SV} {ed : List (Nat × Option Blk)} {rd : List Nat} {k : Ef → Prop} (h : fER v ed rd k) : k ⟨v, ed, rd⟩ := forceK_ok (k := fun v' => k ⟨v', ed, rd⟩) h
def fE (v : SV) (ed : List (Nat × Option Blk)) (k : Ef → Prop) : Prop := forceK v fun v' => k ⟨v', ed, []⟩
theorem fE_ok {v : SV} {ed : List (Nat × Option Blk)} {k : Ef → Prop} (h : fE v ed k) : k ⟨v, ed, []⟩ := forceK_ok (k := fun v' => k ⟨v', ed, []⟩) h
def dcallK (C : Cx) (S : St) (ln : Nat) (f : SV) (args : List SV) (k : Ef → Prop) : Prop :=
  match f with
  | .d (.fn (.func g) []) => DCall C S ln g args fun r ed rd => fER r ed rd k
  | .fn (.func g) caps => DCall C S ln g (args ++ caps) fun r ed rd => fER r ed rd k
  | _ => False
structure DApp (C : Cx) (S : St) (ln t : Nat) (x y : SV) (k : SV → List (Nat × Option Blk) → Prop) : Prop where
  out : ∃ L x0 y0 H H' r, BApp C t (List.length L) x0 y0 H (L.length + 1) r H' ∧ noDup L = true ∧ liveK H L.length = true ∧ keysK H' L.length = true ∧ keysLt H' (L.length + 1) = true ∧ ArgLes L [x, y] [x0, y0] ∧ HeapLe S.hp L H ∧
    k (ren2 (πn L ln) r) (postH (πn L ln) [] H')
theorem Sat.app {C : Cx} {O : Org} {E : Env} {S : St} {a : Act} {w : World} (hs : Sat O E S a w) {ln t ty : Nat} {x y : SV} {u v : Value} {k : SV → List (Nat × Option Blk) → Prop} (hu : RS E S.nx w x u) (hv : RS E S.nx w y v) (h : DApp C S ln t x y k) (hinv : Inv S ln) (hm : S.nt.m ≤ ln) (hl : ln < S.nx) :
    ∃ z w' E' r ed, (Builtin.append_ #[t, t] ty #[u, v]).run C.P w = .ok z w' ∧ k r ed ∧ Sat O E' (⟨S.nt, S.nx, S.fr, ed ++ S.hp⟩) a w' ∧ RS E' S.nx w' r z := by
  obtain ⟨L, x0, y0, H, H', r, hb, hd, hlive, hkeys, hlt, ha, hh, hk⟩ := h.out
  have hO := hs.nt.2
  have hLn : ∀ i, i < L.length → L.getD i 0 ≠ ln := fun i hi => by
    have := hlive
    unfold liveK at this
    rw [List.all_eq_true] at this
    obtain ⟨b, hb⟩ := Option.isSome_iff_exists.1 (this i (by simpa using hi))
    obtain ⟨g1, g2⟩ := hh.out i b hb
    cases hq : lkh S.hp (L.getD i 0) with
    | none => rw [hq] at g2; cases b <;> exact (show False from g2).elim
    | some b0 => exact ((hinv E E w (fun _ _ => ⟨rfl, rfl⟩) rfl).2 _ _ hq).1
  have hπ1 : ∀ i, i < L.length → πn L ln i = L.getD i 0 := fun i hi => by
    have hb : Nat.blt i L.length = true := by simpa using hi
    unfold πn; rw [hb]; rfl
  have hπ2 : ∀ i, L.length ≤ i → πn L ln i = ln := fun i hi => by
    unfold πn
    cases hb : Nat.blt i L.length with
    | true => have : i < L.length := by simpa using hb
              omega
    | false => rfl
  have hargs : ∀ j (hj : j < [x, y].length), RS E S.nx w [x, y][j] ((#[u, v] : Array Value).getD j undef) := fun j hj => by
    have : j = 0 ∨ j = 1 := by simp at hj; omega
    rcases this with rfl | rfl
    · exact hu
    · exact hv
  obtain ⟨z, w', h1, E', h2, h3⟩ := callP hs L (Pm := fun p => ∃ z w', (Builtin.append_ #[t, t] ty #[u, v]).run C.P w = .ok z w' ∧ p z w') (m' := L.length + 1) (H := H) (H' := H') (r := r) (args := [x, y]) (args0 := [x0, y0]) (fun p q hpq ⟨z, w', h1, h2⟩ => ⟨z, w', h1, hpq z w' h2⟩) #[u, v] (by omega)
    (fun Ec hS hr => hb.out Ec w ty u v hS (hr 0 (by simp)) (hr 1 (by simp))) hd hlive hkeys hlt ha hh (F := fun l => l = ln) (nx' := S.nx) ⟨Nat.le_refl _, fun E E' w hρ hI => (hinv E E' w hρ hI).1, fun m b hb => ⟨((hinv E E w (fun _ _ => ⟨rfl, rfl⟩) rfl).2 m b hb).1, fun E E' w hρ hI => ((hinv E E' w hρ hI).2 m b hb).2⟩⟩ (fun l hl => by subst hl; omega) (πn L ln) hπ1 (fun i h1 h2 => ⟨hπ2 i h1, by rw [hπ2 i h1]; exact hl⟩) (fun i j hi hj e => by
      by_cases h1 : i < L.length <;> by_cases h2 : j < L.length
      · rw [hπ1 i h1, hπ1 j h2] at e
        exact Classical.byContradiction fun hne => noDup_ne hd h1 h2 hne e
      · rw [hπ1 i h1, hπ2 j (by omega)] at e; exact absurd e (hLn i h1)
      · rw [hπ2 i (by omega), hπ1 j h2] at e; exact absurd e.symm (hLn j h2)
      · omega) (by rfl) hargs
  refine ⟨z, w', E', _, _, h1, hk, ?_, h3⟩
  have e1 : ∀ H, postH (πn L ln) S.hp H = postH (πn L ln) [] H ++ S.hp := by
    intro H
    induction H with
    | nil => rfl
    | cons q r ih => obtain ⟨i, ob⟩ := q; simp [postH, ih]
  rw [e1] at h2
  exact h2
theorem idx0 (l : Nat) (L : List Nat) : idxK (l :: L) l = some 0 := by simp [idxK, idxG]
theorem idx1 {l l2 : Nat} (L : List Nat) (h : Nat.beq l l2 = false) : idxK (l :: l2 :: L) l2 = some 1 := by simp [idxK, idxG, h]
theorem DApp.a {C : Cx} {S : St} {ln t l z n m e : Nat} {f g : Nat → List D} {i j : TI} {k : SV → List (Nat × Option Blk) → Prop} (hi : C.tt t = some i) (hk : i.k = .slice e) (hj : C.tt e = some j) (hz : j.size = z) (hc : (Nat.blt 0 j.size && Nat.blt 0 j.bytes && Nat.beq j.zero.length j.size) = true)
    (hl : lkh S.hp l = some (.row e z n f)) (hb : (n + m) * j.bytes ≤ 140737488355328) (h : k (.sl ln z 0 (n + m)) [(l, none), (ln, some (.row e z (n + m) (catF n f g)))]) : DApp C S ln t (.sl l z 0 n) (.d (.sl z m g)) k :=
  ⟨⟨[l], _, _, _, _, _, BApp.a (f := f) hi hk hj hz hc hb, rfl, rfl, rfl, rfl, ⟨ArgLe.sl (idx0 l []), ArgLe.rfl rfl, trivial⟩, ⟨show BlkLe [l] (lkh S.hp l) _ from by rw [hl]; exact ⟨⟨rfl, rfl, rfl⟩, fun i hi => rfl⟩, trivial⟩, h⟩⟩
theorem DApp.b {C : Cx} {S : St} {ln t l l2 z n m e o m2 e2 : Nat} {f f2 : Nat → List D} {i j : TI} {k : SV → List (Nat × Option Blk) → Prop} (hi : C.tt t = some i) (hk : i.k = .slice e) (hj : C.tt e = some j) (hz : j.size = z) (hc : (Nat.blt 0 j.size && Nat.blt 0 j.bytes && Nat.beq j.zero.length j.size) = true)
    (hl : lkh S.hp l = some (.row e z n f)) (hl2 : lkh S.hp l2 = some (.row e2 z m2 f2)) (hne : Nat.beq l l2 = false) (hb : (n + m) * j.bytes ≤ 140737488355328) (ho : o + m ≤ m2) (h : k (.sl ln z 0 (n + m)) [(l, none), (l2, some (.row e2 z m2 f2)), (ln, some (.row e z (n + m) (catF n f fun i => f2 (o + i))))]) : DApp C S ln t (.sl l z 0 n) (.sl l2 z o m) k :=
  ⟨⟨[l, l2], _, _, _, _, _, BApp.b (f := f) (f2 := f2) (e2 := e2) (m2 := m2) hi hk hj hz hc hb ho, by simp [noDup, hne], rfl, rfl, rfl, ⟨ArgLe.sl (idx0 l [l2]), ArgLe.sl (idx1 [] hne), trivial⟩, ⟨show BlkLe [l, l2] (lkh S.hp l) _ from by rw [hl]; exact ⟨⟨rfl, rfl, rfl⟩, fun i hi => rfl⟩, show BlkLe [l, l2] (lkh S.hp l2) _ from by rw [hl2]; exact ⟨⟨rfl, rfl, rfl⟩, fun i hi => rfl⟩, trivial⟩, h⟩⟩
theorem DApp.c {C : Cx} {S : St} {ln t z m e : Nat} {g : Nat → List D} {i j : TI} {k : SV → List (Nat × Option Blk) → Prop} (hi : C.tt t = some i) (hk : i.k = .slice e) (hj : C.tt e = some j) (hz : j.size = z) (hc : (Nat.blt 0 j.size && Nat.blt 0 j.bytes && Nat.beq j.zero.length j.size) = true)
    (hb : (0 + m) * j.bytes ≤ 140737488355328) (h : k (.sl ln z 0 (0 + m)) [(ln, some (.row e z (0 + m) (catF 0 (fun _ => []) g)))]) : DApp C S ln t (.d (.val (.slice none 0 0))) (.d (.sl z m g)) k :=
  ⟨⟨[], _, _, _, _, _, BApp.c hi hk hj hz hc hb, rfl, rfl, rfl, rfl, ⟨ArgLe.rfl rfl, ArgLe.rfl rfl, trivial⟩, trivial, h⟩⟩
theorem DApp.d {C : Cx} {S : St} {ln t l2 z m e o m2 e2 : Nat} {f2 : Nat → List D} {i j : TI} {k : SV → List (Nat × Option Blk) → Prop} (hi : C.tt t = some i) (hk : i.k = .slice e) (hj : C.tt e = some j) (hz : j.size = z) (hc : (Nat.blt 0 j.size && Nat.blt 0 j.bytes && Nat.beq j.zero.length j.size) = true)
    (hl2 : lkh S.hp l2 = some (.row e2 z m2 f2)) (hb : (0 + m) * j.bytes ≤ 140737488355328) (ho : o + m ≤ m2) (h : k (.sl ln z 0 (0 + m)) [(l2, some (.row e2 z m2 f2)), (ln, some (.row e z (0 + m) (catF 0 (fun _ => []) fun i => f2 (o + i))))]) : DApp C S ln t (.d (.val (.slice none 0 0))) (.sl l2 z o m) k :=
  ⟨⟨[l2], _, _, _, _, _, BApp.d (f2 := f2) (e2 := e2) (m2 := m2) hi hk hj hz hc hb ho, rfl, rfl, rfl, rfl, ⟨ArgLe.rfl rfl, ArgLe.sl (idx0 l2 []), trivial⟩, ⟨show BlkLe [l2] (lkh S.hp l2) _ from by rw [hl2]; exact ⟨⟨rfl, rfl, rfl⟩, fun i hi => rfl⟩, trivial⟩, h⟩⟩
structure DApx (C : Cx) (S : St) (ln t : Nat) (x y : SV) (k : SV → List (Nat × Option Blk) → List Nat → Prop) : Prop where
  out : (∃ z n f m g i e j, x = .d (.slx z n f) ∧ y = .d (.sl z m g) ∧ C.tt t = some i ∧ i.k = .slice e ∧ C.tt e = some j ∧ j.size = z ∧ (Nat.blt 0 j.size && Nat.blt 0 j.bytes && Nat.beq j.zero.length j.size) = true ∧ 0 < m ∧ (n + m) * j.bytes ≤ 140737488355328 ∧ k (.d (.sl z (n + m) (catF n f g))) [] []) ∨
    (∃ l2 z m i e j, x = .d (.val (.slice none 0 0)) ∧ y = .sl l2 1 0 1 ∧ lkh S.hp l2 = some (.cells [z]) ∧ (SV.ltB m z && Nat.ble m S.nx) = true ∧ C.tt t = some i ∧ i.k = .slice e ∧ C.tt e = some j ∧ j.size = 1 ∧ (Nat.blt 0 j.bytes && Nat.beq j.zero.length 1) = true ∧ j.bytes ≤ 140737488355328 ∧
      k (.sl ln 1 0 1) [(ln, some (.cf m 1 fun _ => z))] [l2])
theorem DApx.of {C : Cx} {S : St} {ln t z n m e : Nat} {f g : Nat → List D} {i j : TI} {k : SV → List (Nat × Option Blk) → List Nat → Prop} (hi : C.tt t = some i) (hk : i.k = .slice e) (hj : C.tt e = some j) (hz : j.size = z) (hc : (Nat.blt 0 j.size && Nat.blt 0 j.bytes && Nat.beq j.zero.length j.size) = true) (hm : Nat.blt 0 m = true) (hb : (n + m) * j.bytes ≤ 140737488355328)
    (h : k (.d (.sl z (n + m) (catF n f g))) [] []) : DApx C S ln t (.d (.slx z n f)) (.d (.sl z m g)) k := ⟨.inl ⟨z, n, f, m, g, i, e, j, rfl, rfl, hi, hk, hj, hz, hc, by simpa using hm, hb, h⟩⟩
theorem DApx.one {C : Cx} {S : St} {ln t l2 e : Nat} {z : SV} {i j : TI} {k : SV → List (Nat × Option Blk) → List Nat → Prop} (m : Nat) (hl : lkh S.hp l2 = some (.cells [z])) (hm : (SV.ltB m z && Nat.ble m S.nx) = true) (hi : C.tt t = some i) (hk : i.k = .slice e) (hj : C.tt e = some j) (hz : j.size = 1) (hc : (Nat.blt 0 j.bytes && Nat.beq j.zero.length 1) = true) (hb : Nat.ble j.bytes 140737488355328 = true)
    (h : k (.sl ln 1 0 1) [(ln, some (.cf m 1 fun _ => z))] [l2]) : DApx C S ln t (.d (.val (.slice none 0 0))) (.sl l2 1 0 1) k := ⟨.inr ⟨l2, z, m, i, e, j, rfl, rfl, hl, hm, hi, hk, hj, hz, hc, Nat.le_of_ble_eq_true hb, h⟩⟩
def dbuiltinK (C : Cx) (S : St) (ln : Nat) (b : Builtin) (ts : List Nat) (args : List SV) (k : Ef → Prop) : Prop :=
  match b, ts, args with
  | .append, [t, t2], [x, y] => bif Nat.beq t t2 then (DApp C S ln t x y fun r ed => fE r ed k) ∨ (DApx C S ln t x y fun r ed rd => k ⟨r, ed, rd⟩) else False
  | .len, [t], [x] => lenK C t x fun v => fE v [] k
  | .min, _, [x, y] => minK x y fun v => fE v [] k
  | .max, _, [x, y] => maxK x y fun v => fE v [] k
  | _, _, _ => False
structure SlxD (C : Cx) (t : Nat) (x h m : SV) (k : SV → Prop) : Prop where
  out : ∃ z n f i e j k1 k2, x = .d (.sl z n f) ∧ h = .d (.val (.int k1 (n : Int))) ∧ m = .d (.val (.int k2 (n : Int))) ∧ C.tt t = some i ∧ i.k = .slice e ∧ C.tt e = some j ∧ j.size = z ∧ Nat.blt 0 j.size = true ∧ k (.d (.slx z n f))
theorem SlxD.of {C : Cx} {t z n e : Nat} {f : Nat → List D} {i j : TI} {k1 k2 : IntKind} {k : SV → Prop} (hi : C.tt t = some i) (hk : i.k = .slice e) (hj : C.tt e = some j) (hz : j.size = z) (hz0 : Nat.blt 0 j.size = true) (h : k (.d (.slx z n f))) : SlxD C t (.d (.sl z n f)) (.d (.val (.int k1 (n : Int)))) (.d (.val (.int k2 (n : Int)))) k :=
  ⟨⟨z, n, f, i, e, j, k1, k2, rfl, rfl, rfl, hi, hk, hj, hz, hz0, h⟩⟩
theorem slxD_ok {C : Cx} {E : Env} {nx : Nat} {w : World} {t : Nat} {x h m : SV} {u uh um : Value} {k : SV → Prop} (hx : RS E nx w x u) (hh : RS E nx w h uh) (hm : RS E nx w m um) (hd : SlxD C t x h m k) :
    ∃ z v, (Instr.sliceAt t u none (some uh) (some um)).run C.P w = .ok z w ∧ k v ∧ RS E nx w v z := by
  obtain ⟨z, n, f, i, e, j, k1, k2, rfl, rfl, rfl, hi, hk, hj, hz, hz0, hkk⟩ := hd.out
  subst hz
  have hz0 : 0 < j.size := by simpa using hz0
  obtain rfl := hh.val_inv
  obtain rfl := hm.val_inv
  have ht := (C.ok _ _ hi).slice hk
  have hsz := (C.ok _ _ hj).sizeOf w
  cases hx with
  | d _ _ hx => cases hx with
    | sl _ _ _ ad cap gv hc hmx hl ha hg =>
      have hr : RD w E.Im (.sl j.size n f) (.slice ad n n) := .sl _ _ _ _ _ gv (Nat.le_refl _) (by omega) hl ha hg
      have hrun : (Instr.sliceAt t (.slice ad n cap) none (some (.int k1 (n : Int))) (some (.int k2 (n : Int)))).run C.P w = .ok (.slice ad n n) w := by
        rcases Nat.eq_zero_or_pos n with h0 | h0
        · subst h0
          simp [Instr.sliceAt, run_underlying ht, Instr.slice, Instr.sliceBounds, Instr.sliceBound, asIntOf, hsz]
        · obtain ⟨b, o, rfl, _⟩ := ha (Nat.mul_pos h0 hz0)
          have h1 : (n : Int) ≤ (cap : Int) := by omega
          have h2 : n ≠ 0 := by omega
          simp [Instr.sliceAt, run_underlying ht, Instr.slice, Instr.sliceBounds, Instr.sliceBound, asIntOf, hsz, h1, hc, h2, Addr.add_mid]
      exact ⟨.slice ad n n, _, hrun, hkk, .d _ _ (.slx _ _ _ _ hr)⟩
structure DBs (C : Cx) (S : St) (t n : Nat) (ps : List (Nat × Operand)) (k : SV → Prop) : Prop where
  out : ∃ x0 z i e j, ps = [(0, x0)] ∧ n = 1 ∧ ev S x0 = z ∧ z.one = true ∧ C.tt t = some i ∧ i.k = .slice e ∧ C.tt e = some j ∧ j.size = 1 ∧ Nat.beq j.zero.length 1 = true ∧ k z
theorem DBs.of {C : Cx} {S : St} {t e : Nat} {x0 : Operand} {z : SV} {i j : TI} {k : SV → Prop} (hx : ev S x0 = z) (h1 : z.one = true) (hi : C.tt t = some i) (hk : i.k = .slice e) (hj : C.tt e = some j) (hz : j.size = 1) (hc : Nat.beq j.zero.length 1 = true) (h : k z) : DBs C S t 1 [(0, x0)] k :=
  ⟨⟨x0, z, i, e, j, rfl, rfl, hx, h1, hi, hk, hj, hz, hc, h⟩⟩
def effD (C : Cx) (S : St) (ln : Nat) (op : Op) (k : Ef → Prop) : Prop :=
  match op with
  | .move x => fE (ev S x) [] k
  | .assign x => fE (ev S x) [] k
  | .pick c x y => match ev S c with
    | .d (.val (.bool b)) => bif b then fE (ev S x) [] k else fE (ev S y) [] k
    | _ => False
  | .alloc t => match C.tt t with
    | some i => valsK i.zero fun cs => k ⟨.ptr ln 0, [(ln, some (.cells cs))], []⟩
    | none => False
  | .load t a => loadK C S t (ev S a) fun v => fE v [] k
  | .store t a x => storeD C S t (ev S a) (ev S x) fun l b => k ⟨.any, [(l, some b)], []⟩
  | .binOp op t x y _ => binX C op t (ev S x) (ev S y) fun v => fE v [] k
  | .unOp op _ x => unK op (ev S x) fun v => fE v [] k
  | .convert s d x => convK C s d (ev S x) fun v => fE v [] k
  | .fieldAddr t x f => fieldAddrK C t f (ev S x) fun v => fE v [] k
  | .field t x f => fieldK C t f (ev S x) fun v => fE v [] k
  | .indexAddr t x i => indexAddrK C t (ev S x) (ev S i) fun v => fE v [] k
  | .index t x i => indexK C t (ev S x) (ev S i) fun v => fE v [] k
  | .extract x i => extractK i (ev S x) fun v => fE v [] k
  | .slice t x lo hi none => sliceK C t (ev S x) (lo.map (ev S)) (hi.map (ev S)) fun v => fE v [] k
  | .build t parts => buildK C S t parts.toList fun v => fE v [] k
  | .buildSlice t n parts => (buildSliceF C S t n parts.toList fun e z f => k ⟨.sl ln z 0 n, [(ln, some (.row e z n f))], []⟩ ∨ (Nat.blt 0 n = true ∧ k ⟨.d (.sl z n f), [(ln, none)], []⟩)) ∨
    DBs C S t n parts.toList fun x => k ⟨.sl ln 1 0 1, [(ln, some (.cells [x]))], []⟩
  | .nilCheck x => nilCheckK (ev S x) fun v => fE v [] k
  | .makeFunc fn first caps => match first.toList with
    | [] => evL S caps.toList fun cs => fE (.fn fn cs) [] k
    | _ => False
  | .box _ x => cellsK (ev S x) fun cs => k ⟨.ptr ln 0, [(ln, some (.cells cs))], []⟩
  | .call c => match c.callee with
    | .value f => evL S c.args.toList fun args => dcallK C S ln (ev S f) args k
    | .builtin b => evL S c.args.toList fun args => dbuiltinK C S ln b c.argTypes.toList args k
    | _ => False
  | .lookup t m i false => LookD C t (ev S m) (ev S i) S.hp fun v l => fER v [] [l] k
  | .slice t x none (some h) (some m) => SlxD C t (ev S x) (ev S h) (ev S m) fun v => fE v [] k
  | .makeSlice t l c => makeSliceF C t (ev S l) (ev S c) fun e z n f => k ⟨.sl ln z 0 n, [(ln, some (.row e z n f))], []⟩
  | _ => False
theorem Sat.allocD {O : Org} {E : Env} {S : St} {a : Act} {w : World} (h : Sat O E S a w) {l : Nat} (hl : l < S.nx) (hO : O.nl ≤ l) (hinv : Inv S l) {cs : List SV} {vs : Array Value} (T : TypeId)
    (ht : Tells (E.new l w.heap.size) S.nx (w.alloc (.cells vs T)) cs vs.toList) :
    Sat O (E.new l w.heap.size) ⟨S.nt, S.nx, S.fr, (l, some (.cells cs)) :: S.hp⟩ a (w.alloc (.cells vs T)) ∧ RS (E.new l w.heap.size) S.nx (w.alloc (.cells vs T)) (.ptr l 0) (.pointer (some ⟨w.heap.size, 0, none⟩)) := by
  obtain ⟨h1, h2⟩ := hinv E (E.new l w.heap.size) w (fun m hm => ⟨by simp [Env.new, hm], rfl⟩) rfl
  have hr : (E.new l w.heap.size).ρ l = w.heap.size := by simp [Env.new]
  have hEm : ∀ m, m ≠ l → (E.new l w.heap.size).ρ m = E.ρ m := fun m hm => by simp [Env.new, hm]
  have hwk : ∀ k, k < w.heap.size → (w.alloc (.cells vs T)).heap[k]? = w.heap[k]? := fun k hk => Below.heap_alloc _ _ _ hk
  have hwi : ∀ b, E.Im b → (w.alloc (.cells vs T)).heap[b]? = w.heap[b]? := fun b hb => hwk b (h.im b hb).1
  have hlive : ∀ m x, lkh ((l, some (.cells cs)) :: S.hp) m = some x → (m = l ∧ x = .cells cs) ∨ (m ≠ l ∧ lkh S.hp m = some x) := by
    intro m x hm
    rw [lkh_cons] at hm
    by_cases e : l = m
    · rw [if_pos e] at hm; cases hm; exact Or.inl ⟨e.symm, rfl⟩
    · rw [if_neg e] at hm; exact Or.inr ⟨fun k => e k.symm, hm⟩
  have hmono : ∀ x v, RS (E.new l w.heap.size) S.nx w x v → RS (E.new l w.heap.size) S.nx (w.alloc (.cells vs T)) x v := fun x v hv => hv.mono (fun _ _ => ⟨rfl, rfl⟩) (Nat.le_refl _) (fun _ hb => hb) hwi
  refine ⟨⟨fun n => hmono _ _ (h1 n _ (h.fr n)), h.nt, h.df, ?_, ?_, ?_, ?_, ?_, ?_, ?_, h.nl, h.imo⟩, ?_⟩
  · intro m x hm
    rcases hlive m x hm with ⟨rfl, rfl⟩ | ⟨hn, hm'⟩
    · have := ht.to
      simp only [Array.toArray_toList] at this
      exact ⟨vs, T, by rw [hr]; exact heap_alloc_new w _, this.1, this.2⟩
    · exact ((h2 m x hm').2 (h.hp m x hm')).mono (h.nx m x hm') (fun _ _ => ⟨rfl, rfl⟩) (Nat.le_refl _) (fun _ hb => hb) hwi (fun hxr => hwk _ (by rw [hEm m hn]; exact (h.hp m x hm').lt hxr))
  · intro m x hm
    rcases hlive m x hm with ⟨rfl, rfl⟩ | ⟨hn, hm'⟩
    · exact hl
    · exact h.nx m x hm'
  · intro m m' x x' hm hm' hxr hxr' hne
    rcases hlive m x hm with ⟨rfl, rfl⟩ | ⟨hn, hm1⟩ <;> rcases hlive m' x' hm' with ⟨rfl, rfl⟩ | ⟨hn', hm1'⟩
    · exact absurd rfl hne
    · rw [hr, hEm m' hn']; have := (h.hp m' x' hm1').lt hxr'; omega
    · rw [hr, hEm m hn]; have := (h.hp m x hm1).lt hxr; omega
    · rw [hEm m hn, hEm m' hn']; exact h.inj m m' x x' hm1 hm1' hxr hxr' hne
  · intro k hk
    obtain ⟨k1, k2, k3⟩ := h.im k hk
    refine ⟨by simp only [World.size_alloc]; omega, k2, fun m x hm hxr => ?_⟩
    rcases hlive m x hm with ⟨rfl, rfl⟩ | ⟨hn, hm'⟩
    · rw [hr]; omega
    · rw [hEm m hn]; exact k3 m x hm' hxr
  · intro m x hm hxr
    rcases hlive m x hm with ⟨rfl, rfl⟩ | ⟨hn, hm'⟩
    · rw [hr]; exact Or.inr h.kq.size
    · rw [hEm m hn]; exact h.own m x hm' hxr
  · exact h.kq.trans ((Kp.refl w).alloc _ |>.kq _)
  · intro m hm
    have hne : m ≠ l := by omega
    rw [hEm m hne]; exact h.lab m hm
  · have := RS.ptr (E := E.new l w.heap.size) (w := w.alloc (.cells vs T)) (nx := S.nx) l 0 hl
    rwa [hr] at this
theorem Sat.allocDr {O : Org} {E : Env} {S : St} {a : Act} {w : World} (h : Sat O E S a w) {l c : Nat} {o : Obj} {b : Blk} (hl : l < S.nx) (hO : O.nl ≤ l) (hinv : Inv S l) (hb : BS (E.newrow l w.heap.size c) S.nx (w.alloc o) l b) :
    Sat O (E.newrow l w.heap.size c) ⟨S.nt, S.nx, S.fr, (l, some b) :: S.hp⟩ a (w.alloc o) := by
  have hEm : ∀ m, m ≠ l → (E.newrow l w.heap.size c).ρ m = E.ρ m ∧ (E.newrow l w.heap.size c).κ m = E.κ m := fun m hm => ⟨by simp [Env.newrow, hm], by simp [Env.newrow, hm]⟩
  obtain ⟨h1, h2⟩ := hinv E (E.newrow l w.heap.size c) w hEm rfl
  have hr : (E.newrow l w.heap.size c).ρ l = w.heap.size := by simp [Env.newrow]
  have hwk : ∀ k, k < w.heap.size → (w.alloc o).heap[k]? = w.heap[k]? := fun k hk => Below.heap_alloc _ _ _ hk
  have hwi : ∀ b, E.Im b → (w.alloc o).heap[b]? = w.heap[b]? := fun b hb => hwk b (h.im b hb).1
  have hlive : ∀ m x, lkh ((l, some b) :: S.hp) m = some x → (m = l ∧ x = b) ∨ (m ≠ l ∧ lkh S.hp m = some x) := by
    intro m x hm
    rw [lkh_cons] at hm
    by_cases e : l = m
    · rw [if_pos e] at hm; cases hm; exact Or.inl ⟨e.symm, rfl⟩
    · rw [if_neg e] at hm; exact Or.inr ⟨fun k => e k.symm, hm⟩
  refine ⟨fun n => RS.mono (E := E.newrow l w.heap.size c) (fun _ _ => ⟨rfl, rfl⟩) (Nat.le_refl _) (fun _ hb => hb) hwi (h1 n _ (h.fr n)), h.nt, h.df, ?_, ?_, ?_, ?_, ?_, ?_, ?_, h.nl, h.imo⟩
  · intro m x hm
    rcases hlive m x hm with ⟨rfl, rfl⟩ | ⟨hn, hm'⟩
    · exact hb
    · exact ((h2 m x hm').2 (h.hp m x hm')).mono (h.nx m x hm') (fun _ _ => ⟨rfl, rfl⟩) (Nat.le_refl _) (fun _ hb => hb) hwi (fun hxr => hwk _ (by rw [(hEm m hn).1]; rw [(hEm m hn).2] at hxr; exact (h.hp m x hm').lt hxr))
  · intro m x hm
    rcases hlive m x hm with ⟨rfl, rfl⟩ | ⟨hn, hm'⟩
    · exact hl
    · exact h.nx m x hm'
  · intro m m' x x' hm hm' hxr hxr' hne
    rcases hlive m x hm with ⟨rfl, rfl⟩ | ⟨hn, hm1⟩ <;> rcases hlive m' x' hm' with ⟨rfl, rfl⟩ | ⟨hn', hm1'⟩
    · exact absurd rfl hne
    · rw [hr, (hEm m' hn').1]; rw [(hEm m' hn').2] at hxr'; have := (h.hp m' x' hm1').lt hxr'; omega
    · rw [hr, (hEm m hn).1]; rw [(hEm m hn).2] at hxr; have := (h.hp m x hm1).lt hxr; omega
    · rw [(hEm m hn).1, (hEm m' hn').1]; rw [(hEm m hn).2] at hxr; rw [(hEm m' hn').2] at hxr'; exact h.inj m m' x x' hm1 hm1' hxr hxr' hne
  · intro k hk
    obtain ⟨k1, k2, k3⟩ := h.im k hk
    refine ⟨by simp only [World.size_alloc]; omega, k2, fun m x hm hxr => ?_⟩
    rcases hlive m x hm with ⟨rfl, rfl⟩ | ⟨hn, hm'⟩
    · rw [hr]; omega
    · rw [(hEm m hn).1]; rw [(hEm m hn).2] at hxr; exact k3 m x hm' hxr
  · intro m x hm hxr
    rcases hlive m x hm with ⟨rfl, rfl⟩ | ⟨hn, hm'⟩
    · rw [hr]; exact Or.inr h.kq.size
    · rw [(hEm m hn).1]; rw [(hEm m hn).2] at hxr; exact h.own m x hm' hxr
  · exact h.kq.trans ((Kp.refl w).alloc _ |>.kq _)
  · intro m hm
    have hne : m ≠ l := by omega
    rw [(hEm m hne).1, (hEm m hne).2]; exact h.lab m hm
def St.ed (S : St) (e : List (Nat × Option Blk)) : St := match S with | ⟨nt, nx, fr, hp⟩ => ⟨nt, nx, fr, e ++ hp⟩
theorem forceL_imp : ∀ (vs : List SV) (k k' : List SV → Prop), (∀ r, k r → k' r) → forceL vs k → forceL vs k'
  | [], k, k', h, hk => h _ hk
  | v :: r, k, k', h, hk => by
    have : ∀ (x : SV) (q q' : SV → Prop), (∀ y, q y → q' y) → force1 x q → force1 x q' := fun x q q' hq hx => by cases x <;> exact hq _ hx
    exact this v _ _ (fun y hy => forceL_imp r _ _ (fun z => h _) hy) hk
theorem forceK_imp {x : SV} {k k' : SV → Prop} (h : ∀ r, k r → k' r) (hk : forceK x k) : forceK x k' := by
  cases x with
  | agg vs => exact forceL_imp vs _ _ (fun r => h _) hk
  | tup vs => exact forceL_imp vs _ _ (fun r => h _) hk
  | _ => exact h _ hk
theorem evL_imp (S : St) : ∀ (xs : List Operand) (k k' : List SV → Prop), (∀ r, k r → k' r) → evL S xs k → evL S xs k'
  | [], k, k', h, hk => h _ hk
  | x :: r, k, k', h, hk => forceK_imp (fun v hv => evL_imp S r _ _ (fun z => h _) hv) hk
theorem force1_mk {x : SV} {k : SV → Prop} (h : k x) : force1 x k := by cases x <;> exact h
theorem forceL_mk : ∀ (vs : List SV) (k : List SV → Prop), k vs → forceL vs k
  | [], k, h => h
  | v :: r, k, h => force1_mk (forceL_mk r _ h)
theorem forceK_mk {x : SV} {k : SV → Prop} (h : k x) : forceK x k := by
  cases x with
  | agg vs => exact forceL_mk vs _ h
  | tup vs => exact forceL_mk vs _ h
  | _ => exact h
theorem evL_at (S : St) : ∀ (xs : List Operand) (k : List SV → Prop), evL S xs k → ∃ vs, k vs ∧ ∀ k2 : List SV → Prop, k2 vs → evL S xs k2
  | [], k, h => ⟨[], h, fun _ h => h⟩
  | x :: r, k, h => by
    obtain ⟨vs, h1, h2⟩ := evL_at S r _ (forceK_ok h)
    exact ⟨_, h1, fun k2 hk => forceK_mk (h2 _ hk)⟩
def ComesD (C : Cx) (O : Org) (S : St) (o : Oper) (a : Act) (w : World) (k : Ef → Prop) : Prop :=
  ∀ (next : Act → World → Prop) (Q : Exit → Act → World → Prop), (∀ v E' w' e, k e → Sat O E' (S.ed e.ed) a w' → RS E' S.nx w' e.val v → next (a.put o.dst v) w') → o.wp C.P a w next Q
theorem ComesD.of {C : Cx} {O : Org} {S : St} {o : Oper} {a : Act} {w : World} {k : Ef → Prop} (h : Comes1 C O o a w fun S' x => S' = S ∧ fE x [] k) : ComesD C O S o a w k := by
  intro next Q hk
  refine h next Q fun v E' S' w' x ⟨e, hx⟩ hs hv => ?_
  subst e
  exact hk v E' w' _ (fE_ok hx) hs hv
theorem valsK_tells : ∀ (vs : List Value) (k : List SV → Prop), valsK vs k → ∃ cs : List SV, k cs ∧ ∀ E nx w, Tells E nx w cs vs
  | [], k, h => ⟨[], by simpa [valsK] using h, fun _ _ _ => ⟨rfl, fun j x hj => by simp at hj⟩⟩
  | v :: r, k, h => by
    unfold valsK at h
    cases hv : v.oneCell' with
    | false => simp [hv] at h
    | true =>
      simp only [hv, cond_true] at h
      obtain ⟨cs, h1, h2⟩ := valsK_tells r _ h
      refine ⟨_, h1, fun E nx w => ⟨by simp [(h2 E nx w).1], fun j x hj => ?_⟩⟩
      cases j with
      | zero => simp at hj; subst hj; exact ⟨v, by simp, .d _ _ (.val _ hv), hv⟩
      | succ j => simp at hj; obtain ⟨u, g1, g2⟩ := (h2 E nx w).2 j x hj; exact ⟨u, by simpa using g1, g2⟩
theorem postH_app (π : Nat → Nat) (hp : List (Nat × Option Blk)) : ∀ H, postH π hp H = postH π [] H ++ hp
  | [] => rfl
  | (i, ob) :: r => by simp [postH, postH_app π hp r]
theorem Sat.apx {C : Cx} {O : Org} {E : Env} {S : St} {a : Act} {w : World} (hs : Sat O E S a w) {ln t ty : Nat} {x y : SV} {u v : Value} {k : SV → List (Nat × Option Blk) → List Nat → Prop} (hu : RS E S.nx w x u) (hv : RS E S.nx w y v) (h : DApx C S ln t x y k) (hinv : Inv S ln) (hO : O.nl ≤ ln) (hln : ln < S.nx) :
    ∃ z w' E' r ed rd, (Builtin.append_ #[t, t] ty #[u, v]).run C.P w = .ok z w' ∧ k r ed rd ∧ Sat O E' ⟨S.nt, S.nx, S.fr, ed ++ S.hp⟩ a w' ∧ RS E' S.nx w' r z := by
  rcases h.out with ⟨z, n, f, m, g, i, e, j, rfl, rfl, hi, hk, hj, hz, hc, hm0, hb, hk'⟩ | ⟨l2, z, m, i, e, j, rfl, rfl, hl2, hm, hi, hk, hj, hz, hc, hb, hk'⟩
  rotate_left
  · have ht := (C.ok _ _ hi).slice hk
    obtain ⟨jj, zz, q1, q2, q3, q4, q5⟩ := (C.ok _ _ hj).info
    simp only [Bool.and_eq_true] at hc hm
    obtain ⟨c1, c2⟩ := hc
    have hzs : zz.cells.size = 1 := by rw [← Nat.eq_of_beq_eq_true c2, ← q3]; simp
    have hm2 : m ≤ S.nx := Nat.le_of_ble_eq_true hm.2
    obtain rfl := hu.val_inv
    obtain ⟨vs, T, g1, g2, g3⟩ := hs.hp l2 _ hl2
    have g2 : vs.size = 1 := g2
    obtain ⟨g4, g5⟩ := g3 0 (by simp)
    cases hv with
    | sl _ _ _ _ ad cap hl hcap hmx ha h0 =>
      obtain rfl : ad = some ⟨E.ρ l2, 0, none⟩ := by rw [ha (by omega)]
      have hcell : w.cell? ⟨E.ρ l2, 0, none⟩ = some (vs.getD 0 undef) := by
        have : 0 < vs.size := by omega
        simp [World.cell?, g1, Array.getD, this]
      have hbd := grownCap_bd w 1 0 e (by omega)
      have hrun := run_append_nil (P := C.P) w t ty e jj zz ht q1 q2 ⟨E.ρ l2, 0, none⟩ 1 cap [vs.getD 0 undef] (by rw [q4, hz]; rfl) (fun q v hq => by
        cases q with
        | zero => obtain rfl := Option.some.inj (show some (vs.getD 0 undef) = some v from hq); exact hcell
        | succ q => simp at hq) (by omega) (by omega) (by rw [q5]; omega)
      have hsd := hs.drew (w.drawn + 1)
      have hold : ∀ q, q < w.heap.size → (w.drew.alloc (.cells ([vs.getD 0 undef].toArray ++ Builtin.zeroCells zz.cells (grownCap w 1 0 e - 1)) e)).heap[q]? = w.heap[q]? := fun q hq => Below.heap_alloc w.drew _ _ hq
      have hI : ∀ b, E.Im b → (w.drew.alloc (.cells ([vs.getD 0 undef].toArray ++ Builtin.zeroCells zz.cells (grownCap w 1 0 e - 1)) e)).heap[b]? = w.heap[b]? := fun b hb => hold b (hs.im b hb).1
      have hr : (E.newrow ln w.heap.size (grownCap w 1 0 e)).ρ ln = w.heap.size := by simp [Env.newrow]
      have hκ : (E.newrow ln w.heap.size (grownCap w 1 0 e)).κ ln = grownCap w 1 0 e := by simp [Env.newrow]
      have hz2 : RS (E.newrow ln w.heap.size (grownCap w 1 0 e)) S.nx w z (vs.getD 0 undef) := by
        have := ((hinv E (E.newrow ln w.heap.size (grownCap w 1 0 e)) w (fun m hm => ⟨by simp [Env.newrow, hm], by simp [Env.newrow, hm]⟩) rfl).2 l2 _ hl2).2 (hs.hp l2 _ hl2)
        obtain ⟨vs', T', p1, p2, p3⟩ := this
        have hne : l2 ≠ ln := ((hinv E E w (fun _ _ => ⟨rfl, rfl⟩) rfl).2 l2 _ hl2).1
        have e9 : (E.newrow ln w.heap.size (grownCap w 1 0 e)).ρ l2 = E.ρ l2 := by simp [Env.newrow, hne]
        rw [e9, g1] at p1
        cases p1
        exact (p3 0 (by simp)).1
      have e1 := hsd.allocDr (c := grownCap w 1 0 e) (o := .cells ([vs.getD 0 undef].toArray ++ Builtin.zeroCells zz.cells (grownCap w 1 0 e - 1)) e) (b := .cf m 1 fun _ => z) hln hO hinv
        ⟨hm2, fun _ => ⟨_, e, by rw [show (E.newrow ln ({ w with drawn := w.drawn + 1 } : World).heap.size (grownCap w 1 0 e)).ρ ln = w.heap.size from hr]; exact heap_alloc_new w.drew _, by simp [Builtin.zeroCells], fun j hj => by
          obtain rfl : j = 0 := by omega
          refine ⟨SV.Lt.of hm.1, ?_, ?_⟩
          · have : (([vs.getD 0 undef].toArray ++ Builtin.zeroCells zz.cells (grownCap w 1 0 e - 1)) : Array Value).getD 0 undef = vs.getD 0 undef := by
              rw [Array.getD_eq_getD_getElem?, Array.getElem?_append_left (by simp)]; rfl
            rw [this]
            exact hz2.mono (fun _ _ => ⟨rfl, rfl⟩) (Nat.le_refl _) (fun _ hb => hb) hI
          · have : (([vs.getD 0 undef].toArray ++ Builtin.zeroCells zz.cells (grownCap w 1 0 e - 1)) : Array Value).getD 0 undef = vs.getD 0 undef := by
              rw [Array.getD_eq_getD_getElem?, Array.getElem?_append_left (by simp)]; rfl
            rw [this]; exact g5⟩⟩
      exact ⟨_, _, _, _, _, _, hrun, hk', e1, .sl _ _ _ _ _ _ hln hbd.1 hbd.2 (fun _ => by rw [show (E.newrow ln ({ w with drawn := w.drawn + 1 } : World).heap.size (grownCap w 1 0 e)).ρ ln = w.heap.size from hr]) (fun _ => ⟨hκ.symm, fun _ => by rw [show (E.newrow ln ({ w with drawn := w.drawn + 1 } : World).heap.size (grownCap w 1 0 e)).ρ ln = w.heap.size from hr]⟩)⟩
  subst hz
  have ht := (C.ok _ _ hi).slice hk
  obtain ⟨jj, zz, q1, q2, q3, q4, q5⟩ := (C.ok _ _ hj).info
  simp only [Bool.and_eq_true] at hc
  obtain ⟨⟨a3, a5⟩, a4⟩ := hc
  have a3 : 0 < j.size := by simpa using a3
  have a5 : 0 < j.bytes := by simpa using a5
  have a4 : j.zero.length = j.size := Nat.eq_of_beq_eq_true a4
  have hzs : zz.cells.size = j.size := by rw [← a4, ← q3]; simp
  have hzc : ∀ p, (Builtin.zeroCells zz.cells p).size = p * j.size := fun p => by simp [Builtin.zeroCells, hzs]
  cases hu with
  | d _ _ hu => cases hu with
    | slx _ _ _ ad hx =>
      obtain ⟨n', f', ad', c', xs, e1, ⟨rfl, rfl⟩, hxs, hxc⟩ := viewK_ok (k := fun m' g' => m' = n ∧ g' = f) hs a3 (y := .d (.sl j.size n f)) (RS.d _ _ hx) (by simp [viewK])
      injection e1 with e1 _ e2
      subst e1 e2
      obtain ⟨m', g', bd, c, ys, e3, ⟨rfl, rfl⟩, hys, hcell⟩ := viewK_ok (k := fun m' g' => m' = m ∧ g' = g) hs a3 hv (by simp [viewK])
      subst e3
      obtain ⟨b, o, rfl, hcl⟩ := hcell hm0
      have hnm : n' + m' ≤ 140737488355328 := Nat.le_trans (Nat.le_mul_of_pos_right _ a5) hb
      have hcat := hxs.cat hys
      have hcl' : ∀ (q : Nat) (v : Value), ys[q]? = some v → w.cell? ((⟨b, o, none⟩ : Addr).add q) = some v := fun q v hq => by rw [Addr.add_mid]; exact hcl q v hq
      have hbd := grownCap_bd w (n' + m') n' e hnm
      have hfit := growslice_fits (bytes := jj.bytes) (show n' < n' + m' by omega) (by rw [q5]; exact hb)
      have fin : ∀ w', w' = w.drew.alloc (.cells ((xs ++ ys).toArray ++ Builtin.zeroCells zz.cells (grownCap w (n' + m') n' e - (n' + m'))) e) → (Builtin.append_ #[t, t] ty #[.slice ad n' n', .slice (some ⟨b, o, none⟩) m' c]).run C.P w = .ok (.slice (some ⟨w.heap.size, 0, none⟩) (n' + m') (grownCap w (n' + m') n' e)) w' →
          ∃ z w' E' r ed rd, (Builtin.append_ #[t, t] ty #[.slice ad n' n', .slice (some ⟨b, o, none⟩) m' c]).run C.P w = .ok z w' ∧ k r ed rd ∧ Sat O E' ⟨S.nt, S.nx, S.fr, ed ++ S.hp⟩ a w' ∧ RS E' S.nx w' r z := by
        intro w' hw' hrun
        have hsz : w'.heap.size = w.heap.size + 1 := by rw [hw']; simp [World.size_alloc]
        have hold : ∀ q, q < w.heap.size → w'.heap[q]? = w.heap[q]? := fun q hq => by rw [hw']; exact Below.heap_alloc w.drew _ _ hq
        have hnew : w'.heap[w.heap.size]? = some (.cells ((xs ++ ys).toArray ++ Builtin.zeroCells zz.cells (grownCap w (n' + m') n' e - (n' + m'))) e (0, 0)) := by rw [hw']; exact heap_alloc_new w.drew _
        have hs' := hs.newim (w' := w') hold (by omega) (by rw [hw']; exact ⟨rfl, rfl, rfl⟩)
        refine ⟨_, w', _, _, _, _, hrun, hk', (by cases S; exact hs'), .d _ _ (.sl _ _ _ _ _ (fun i q => ((xs ++ ys)[i * j.size + q]?).getD undef) hbd.1 hbd.2 hcat.ln (fun _ => ⟨w.heap.size, 0, rfl, Or.inr rfl, fun i q hi hq => ?_⟩) fun i q hi hq => ?_)⟩
        · have h5 : (i + 1) * j.size ≤ (n' + m') * j.size := Nat.mul_le_mul_right _ hi
          rw [Nat.add_mul] at h5
          have h6 : i * j.size + q < (xs ++ ys).length := by rw [hcat.len]; omega
          have h7 : i * j.size + q < (xs ++ ys).toArray.size := by simpa using h6
          simp only [World.cell?, hnew, Nat.zero_add]
          rw [Array.getElem?_append_left h7]
          rw [List.getElem?_eq_getElem h6]
          simp [h6]
        · exact (hcat.rd i q hi hq).mono (fun b hb => Or.inl hb) fun b hb => hold b (hs.im b hb).1
      cases ad with
      | none =>
        have hn0 : n' = 0 := by
          rcases Nat.eq_zero_or_pos n' with h0 | h0
          · exact h0
          · obtain ⟨b', o', e9, _⟩ := hxc h0; cases e9
        subst hn0
        have hx0 : xs = [] := by have := hxs.len; simp at this; exact this
        subst hx0
        have hrun := run_append_nil (P := C.P) w t ty e jj zz ht q1 q2 ⟨b, o, none⟩ m' c ys (by rw [hys.len, q4]) hcl' (by omega) (by omega) (by rw [q5]; simp at hb; omega)
        simp only [Nat.zero_add, List.nil_append] at fin
        exact fin _ rfl hrun
      | some ad2 =>
        have hrun := run_append_grow (P := C.P) w t ty e jj zz ht q1 q2 ad2 n' n' xs (by rw [hxs.len, q4]) (fun q v hq => by
          have hn0 : 0 < n' := by
            rcases Nat.eq_zero_or_pos n' with h0 | h0
            · have := (List.getElem?_eq_some_iff.1 hq).1; rw [hxs.len, h0] at this; omega
            · exact h0
          obtain ⟨b', o', e9, hc9⟩ := hxc hn0
          cases e9
          rw [Addr.add_mid]; exact hc9 q v hq) ⟨b, o, none⟩ m' c ys (by rw [hys.len, q4]) hcl' (by omega) (by omega) hfit
        refine fin _ ?_ hrun
        simp
theorem effD_ok {C : Cx} {O : Org} {E : Env} {S : St} {a : Act} {w : World} (hs : Sat O E S a w) {ln : Nat} (hl : ln < S.nx) (hO : O.nl ≤ ln) {o : Oper} (hinv : isAlloc o.op = true → Inv S ln) {k : Ef → Prop} (h : effD C S ln o.op k) : ComesD C O S o a w k := by
  have via : val1 C S o.op (fun S' x => S' = S ∧ fE x [] k) → ComesD C O S o a w k := fun h => .of (val1_ok hs h)
  unfold effD at h
  split at h
  · rename_i x ho; exact via (by rw [ho]; exact ⟨rfl, h⟩)
  · rename_i x ho; exact via (by rw [ho]; exact ⟨rfl, h⟩)
  · rename_i c x y ho
    refine via ?_
    rw [ho]
    simp only [val1, true_and]
    exact h
  · rename_i t ho
    split at h
    · rename_i i hi
      obtain ⟨j, z, h1, h2, h3, h4, _⟩ := (C.ok _ _ hi).info
      obtain ⟨cs, g1, g2⟩ := valsK_tells _ _ h
      rw [← h3] at g2
      obtain ⟨e1, e2⟩ := hs.allocD hl hO (hinv (by rw [ho]; rfl)) t (g2 _ S.nx _)
      intro next Q hk
      unfold Oper.wp
      rw [show (execOp a.eval o).run C.P w = .ok (.value (.pointer (some ⟨w.heap.size, 0, none⟩))) (w.alloc (.cells z.cells t)) by simp [execOp, ho, Instr.alloc, zeroValue, typeInfo, h1, h2, newVar, newRow]]
      exact hk _ _ _ _ g1 e1 e2
    · exact h.elim
  · rename_i t x ho; exact via (by rw [ho]; simp only [val1, true_and]; exact h)
  · rename_i t x y ho
    obtain ⟨w', S', h1, ⟨l, b, h2, rfl⟩, h3⟩ := storeK_ok (C := C) (t := t) (k := fun S' => ∃ l b, k ⟨.any, [(l, some b)], []⟩ ∧ S' = S.seth l (some b)) hs (ev_ok hs x) (ev_ok hs y) (storeD_K (fun l b hb => ⟨l, b, hb, rfl⟩) h)
    intro next Q hk
    unfold Oper.wp
    rw [show (execOp a.eval o).run C.P w = .ok .skip w' by simp [execOp, ho, h1]]
    exact hk undef E w' _ h2 h3 (.any _)
  · rename_i op t x y _ ho; exact via (by rw [ho]; simp only [val1, true_and]; exact h)
  · rename_i op _ x ho; exact via (by rw [ho]; simp only [val1, true_and]; exact h)
  · rename_i ho; exact via (by rw [ho]; simp only [val1, true_and]; first | exact h | exact cvK_of (by simp only [true_and]; exact h))
  · rename_i ho; exact via (by rw [ho]; simp only [val1, true_and]; first | exact h | exact cvK_of (by simp only [true_and]; exact h))
  · rename_i ho; exact via (by rw [ho]; simp only [val1, true_and]; first | exact h | exact cvK_of (by simp only [true_and]; exact h))
  · rename_i ho; exact via (by rw [ho]; simp only [val1, true_and]; first | exact h | exact cvK_of (by simp only [true_and]; exact h))
  · rename_i ho; exact via (by rw [ho]; simp only [val1, true_and]; first | exact h | exact cvK_of (by simp only [true_and]; exact h))
  · rename_i ho; exact via (by rw [ho]; simp only [val1, true_and]; first | exact h | exact cvK_of (by simp only [true_and]; exact h))
  · rename_i ho; exact via (by rw [ho]; simp only [val1, true_and]; first | exact h | exact cvK_of (by simp only [true_and]; exact h))
  · rename_i ho; exact via (by rw [ho]; simp only [val1, true_and]; first | exact h | exact cvK_of (by simp only [true_and]; exact h))
  · rename_i t n ps ho
    rcases h with h | h
    rotate_left
    · obtain ⟨x0, z, i, e, j, h1, rfl, h3, h4, hi, hk, hj, hz, hc, hk'⟩ := h.out
      have hps := listToArray h1
      subst hps
      have ht := (C.ok _ _ hi).slice hk
      obtain ⟨jj, zz, q1, q2, q3, q4, q5⟩ := (C.ok _ _ hj).info
      have hzs : zz.cells.size = 1 := by rw [← Nat.eq_of_beq_eq_true hc, ← q3]; simp
      have hsz := (C.ok _ _ hj).sizeOf w
      have hv := ev_ok hs x0
      rw [h3] at hv
      have h1c : (a.eval x0).oneCell' = true := RS.one hv h4
      have hr : (E.newrow ln w.heap.size 1).ρ ln = w.heap.size := by simp [Env.newrow]
      have hκ : (E.newrow ln w.heap.size 1).κ ln = 1 := by simp [Env.newrow]
      have hI : ∀ b, E.Im b → (w.alloc (.cells #[a.eval x0] e)).heap[b]? = w.heap[b]? := fun b hb => Below.heap_alloc _ _ _ (hs.im b hb).1
      have hz2 : RS (E.newrow ln w.heap.size 1) S.nx w z (a.eval x0) := by
        have h8 := (hinv (by rw [ho]; rfl)) E (E.newrow ln w.heap.size 1) w (fun m hm => ⟨by simp [Env.newrow, hm], by simp [Env.newrow, hm]⟩) rfl
        subst h3
        cases x0 with
        | tmp t => exact stripE_ok (h8.1 t _ (hs.fr t))
        | const v => exact svOf_ok _ _ _ v
        | global g => exact .any _
        | func f => exact .d _ _ (.fn _ _ _ (by simp) (fun j hj => by simp at hj))
      have e1 := hs.allocDr (c := 1) (o := .cells #[a.eval x0] e) (b := .cells [z]) hl hO (hinv (by rw [ho]; rfl)) ⟨_, e, by rw [hr]; exact heap_alloc_new w _, rfl, fun j hj => by
        obtain rfl : j = 0 := by simp at hj; omega
        exact ⟨hz2.mono (fun _ _ => ⟨rfl, rfl⟩) (Nat.le_refl _) (fun _ hb => hb) hI, h1c⟩⟩
      intro next Q hkk
      unfold Oper.wp
      rw [show (execOp a.eval o).run C.P w = .ok (.value (.slice (some ⟨w.heap.size, 0, none⟩) 1 1)) (w.alloc (.cells #[a.eval x0] e)) from ?_]
      · exact hkk _ _ _ _ hk' e1 (.sl _ _ _ _ _ _ hl (Nat.le_refl _) (by unfold maxLen; omega) (fun _ => by rw [hr]) (fun _ => ⟨hκ.symm, fun _ => by rw [hr]⟩))
      · have hcl : (a.eval x0).cells = #[a.eval x0] := by cases hq : a.eval x0 <;> first | rfl | (rw [hq] at h1c; simp [Value.oneCell'] at h1c)
        have hf : Instr.fill (fun i => some (i * 1, 1)) ((Array.range (1 * 1)).map (zz.cells[· % zz.cells.size]!)) [(0, a.eval x0)] = some #[a.eval x0] := by
          have hg : ∀ arr : Array Value, arr.size = 1 → Instr.fill (fun i => some (i * 1, 1)) arr [(0, a.eval x0)] = some #[a.eval x0] := fun arr ha => by
            have : arr.setIfInBounds 0 (a.eval x0) = #[a.eval x0] := by
              apply Array.ext (by simpa using ha)
              intro i h1 h2
              have : i = 0 := by simp at h2; omega
              subst this
              simp
            simp [Instr.fill, hcl, ha, this]
          exact hg _ (by simp)
        have hrun : (Instr.buildSlice t 1 #[(0, a.eval x0)]).run C.P w = .ok (.slice (some ⟨w.heap.size, 0, none⟩) 1 1) (w.alloc (.cells #[a.eval x0] e)) := by
          simp only [Instr.buildSlice]
          simp [run_underlying ht, hsz, hz, zeroValue, typeInfo, q1, q2]
          simp at hf
          simp [hf, newRow]
        simp [execOp, ho, hrun]
    obtain ⟨e, z, f, us', g5, hrun, h1, h2, h3, h4, h5, h6⟩ := buildSliceF_ok hs h
    have hr : (E.newrow ln w.heap.size n).ρ ln = w.heap.size := by simp [Env.newrow]
    have hκ : (E.newrow ln w.heap.size n).κ ln = n := by simp [Env.newrow]
    have e1 := hs.allocDr (c := n) (o := .cells us' e) (b := .row e z n f) hl hO (hinv (by rw [ho]; rfl)) ⟨by rw [hκ]; exact Nat.le_refl _, by rw [hκ]; exact h1, h2, h3, fun _ => ⟨us', by rw [hr]; exact heap_alloc_new w _, by rw [hκ]; exact h4, h5, fun i j hi hj => (h6 i j hi hj).mono (fun _ hb => hb) fun b hb => Below.heap_alloc _ _ _ (hs.im b hb).1⟩⟩
    intro next Q hk
    unfold Oper.wp
    rw [show (execOp a.eval o).run C.P w = .ok (.value (.slice (some ⟨w.heap.size, 0, none⟩) n n)) (w.alloc (.cells us' e)) by simp [execOp, ho, hrun]]
    have hv : RS (E.newrow ln w.heap.size n) S.nx (w.alloc (.cells us' e)) (.sl ln z 0 n) (.slice (some ⟨w.heap.size, 0, none⟩) n n) :=
      .sl _ _ _ _ _ _ hl (Nat.le_refl _) h1 (fun _ => by rw [hr, Nat.zero_mul]) (fun _ => ⟨hκ.symm, fun _ => by rw [hr]⟩)
    rcases g5 with g5 | ⟨hn, g5⟩
    · exact hk _ _ _ _ g5 e1 hv
    · have hn : 0 < n := by simpa using hn
      obtain ⟨s1, s2⟩ := e1.imm (w' := w.alloc (.cells us' e)) (l := ln) (e := e) (esz := z) (n := n) (f := f) (by rw [lkh_cons, if_pos rfl]) (by rw [hκ]; exact hn) (fun _ _ _ => rfl) rfl ⟨rfl, rfl, rfl⟩ (fun vs hvs => ⟨_, hvs⟩)
      have h7 := s2 0 n _ (by omega) hv
      rw [show (fun i => f (0 + i)) = f from funext fun i => by rw [Nat.zero_add]] at h7
      refine hk _ _ _ _ g5 (s1.congr' fun l => ?_) h7
      show lkh ((ln, none) :: (ln, some (.row e z n f)) :: S.hp) l = lkh ((ln, none) :: S.hp) l
      rw [lkh_cons, lkh_cons, lkh_cons]
      split <;> rfl
  · rename_i ho; exact via (by rw [ho]; simp only [val1, true_and]; first | exact h | exact cvK_of (by simp only [true_and]; exact h))
  · rename_i fn first caps ho; exact via (by rw [ho]; simp only [val1, true_and]; exact h)
  · rename_i t x ho
    have h1 := ((hinv (by rw [ho]; rfl)) E (E.new ln w.heap.size) w (fun m hm => ⟨by simp [Env.new, hm], rfl⟩) rfl).1
    have hv : RS (E.new ln w.heap.size) S.nx w (ev S x) (a.eval x) := by
      cases x with
      | tmp t => exact stripE_ok (h1 t _ (hs.fr t))
      | const v => exact svOf_ok _ _ _ v
      | global g => exact .any _
      | func f => exact .d _ _ (.fn _ _ _ (by simp) (fun j hj => by simp at hj))
    have hv2 : RS (E.new ln w.heap.size) S.nx (w.alloc (.cells (a.eval x).cells t)) (ev S x) (a.eval x) := hv.mono (fun _ _ => ⟨rfl, rfl⟩) (Nat.le_refl _) (fun _ hb => hb) (fun b hb => Below.heap_alloc _ _ _ (hs.im b hb).1)
    obtain ⟨cs, g1, g2⟩ := cellsK_tells h hv2
    obtain ⟨e1, e2⟩ := hs.allocD hl hO (hinv (by rw [ho]; rfl)) t g2
    intro next Q hk
    unfold Oper.wp
    rw [show (execOp a.eval o).run C.P w = .ok (.value (.pointer (some ⟨w.heap.size, 0, none⟩))) (w.alloc (.cells (a.eval x).cells t)) by simp [execOp, ho, Instr.box, newVar, newRow]]
    exact hk _ _ _ _ g1 e1 e2
  · rename_i c ho
    split at h
    · rename_i f hc
      refine (fun (hcall : Comes1 C O o a w fun S' x => ∃ ef : Ef, k ef ∧ (S'.nt = S.nt ∧ S'.nx = S.nx ∧ S'.fr = S.fr ∧ ∀ l, lkh S'.hp l = lkh (S.ed ef.ed).hp l) ∧ x = ef.val) => ?_) (val1_ok hs ?_)
      · intro next Q hk
        refine hcall next Q fun v E' S' w' x ⟨ef, h1, h2, h3⟩ hs' hv => ?_
        subst h3
        obtain ⟨nt, nx, fr, hp⟩ := S'
        obtain ⟨nt0, nx0, fr0, hp0⟩ := S
        obtain ⟨rfl, rfl, rfl, h2⟩ := h2
        exact hk v E' w' ef h1 (hs'.congr' h2) hv
      · rw [ho]
        simp only [val1, hc]
        refine evL_imp S _ _ _ (fun args hargs => ?_) h
        have go : ∀ (g : Nat) (args : List SV), DCall C S ln g args (fun r ed rd => fER r ed rd k) → CallStop C S g args fun S' x => ∃ ef : Ef, k ef ∧ (S'.nt = S.nt ∧ S'.nx = S.nx ∧ S'.fr = S.fr ∧ ∀ l, lkh S'.hp l = lkh (S.ed ef.ed).hp l) ∧ x = ef.val := by
          intro g args hargs
          rcases hargs.out with ⟨r, h1, h2, h3, h4⟩ | ⟨L, args0, H, H', r, K, h1, h2, h3, h4, h5, h6, h7, h9, h8⟩ | ⟨L, args0, H, H', r, K, h1, h2, h3, h4, h5, h6, h7, h9, h8⟩ | ⟨m, r, h1, h2, h3, h4⟩
          · exact .pure h1 h2 h3 ⟨_, fER_ok h4, by cases S; exact ⟨rfl, rfl, rfl, fun _ => rfl⟩, rfl⟩
          · refine .fun h1 L rfl h2 h3 h4 h5 h6 h7 ⟨_, fER_ok h8, ?_, rfl⟩
            rw [postH_app, Nat.sub_self]
            exact ⟨rfl, rfl, rfl, fun l => dropK_ok h9 l⟩
          · refine .fresh L h1 h2 h3 h4 h5 h6 h7 (hinv (by rw [ho]; rfl)) (show S.nt.m ≤ ln by have := hs.nt.2; omega) hl ⟨_, fER_ok h8, ?_, rfl⟩
            rw [postH_app]
            exact ⟨rfl, rfl, rfl, fun l => dropK_ok h9 l⟩
          · exact .funM h1 h2 h3 ⟨_, fER_ok h4, by cases S; exact ⟨rfl, rfl, rfl, fun _ => rfl⟩, rfl⟩
        unfold dcallK at hargs
        split at hargs
        · rename_i g e
          rw [e]
          simp only [callK]
          exact go g args hargs
        · rename_i g caps e
          rw [e]
          simp only [callK]
          have h9 := go g (args ++ caps) hargs
          cases S; exact h9
        · exact hargs.elim
    · rename_i b hc
      obtain ⟨vs0, hk0, hall⟩ := evL_at S _ _ h
      obtain ⟨args, ⟨hargs, hall2⟩, h2, h3⟩ := evL_ok hs _ (fun args => dbuiltinK C S ln b c.argTypes.toList args k ∧ ∀ k2 : List SV → Prop, k2 args → evL S c.args.toList k2) (hall _ ⟨hk0, hall⟩)
      by_cases hax : ∃ t x y, b = .append ∧ c.argTypes.toList = [t, t] ∧ args = [x, y] ∧ DApx C S ln t x y fun r ed rd => k ⟨r, ed, rd⟩
      · obtain ⟨t, x, y, rfl, e1, rfl, happ⟩ := hax
        have ht := listToArray e1
        match hca : c.args.toList, h2, h3 with
        | [p, q], h2, h3 =>
          have hca' := listToArray hca
          obtain ⟨z, w', E', r, ed, rd, g1, g2, g3, g4⟩ := hs.apx (ty := o.type) (h3 0 p x rfl rfl) (h3 1 q y rfl rfl) happ (hinv (by rw [ho]; rfl)) hO hl
          intro next Q hk
          unfold Oper.wp
          rw [show (execOp a.eval o).run C.P w = .ok (.value z) w' by simp [execOp, ho, resolve, hc, invoke, builtin, ht, hca', g1]]
          exact hk z E' w' _ g2 (by cases S; exact g3) g4
        | [], h2, h3 => simp at h2
        | [_], h2, h3 => simp at h2
        | _ :: _ :: _ :: _, h2, h3 => simp at h2
      by_cases hap : ∃ t x y, b = .append ∧ c.argTypes.toList = [t, t] ∧ args = [x, y] ∧ DApp C S ln t x y fun r ed => fE r ed k
      · obtain ⟨t, x, y, rfl, e1, rfl, happ⟩ := hap
        have ht := listToArray e1
        match hca : c.args.toList, h2, h3 with
        | [p, q], h2, h3 =>
          have hca' := listToArray hca
          obtain ⟨z, w', E', r, ed, g1, g2, g3, g4⟩ := hs.app (ty := o.type) (h3 0 p x rfl rfl) (h3 1 q y rfl rfl) happ (hinv (by rw [ho]; rfl)) (show S.nt.m ≤ ln by have := hs.nt.2; omega) hl
          intro next Q hk
          unfold Oper.wp
          rw [show (execOp a.eval o).run C.P w = .ok (.value z) w' by simp [execOp, ho, resolve, hc, invoke, builtin, ht, hca', g1]]
          exact hk z E' w' _ (fE_ok g2) g3 g4
        | [], h2, h3 => simp at h2
        | [_], h2, h3 => simp at h2
        | _ :: _ :: _ :: _, h2, h3 => simp at h2
      · refine via ?_
        rw [ho]
        simp only [val1, hc]
        refine hall2 _ ?_
        unfold dbuiltinK at hargs
        split at hargs
        · rename_i t t2 x y e1
          exfalso
          cases hb : Nat.beq t t2 with
          | false => simp [hb] at hargs
          | true =>
            simp only [hb, cond_true] at hargs
            obtain rfl := Nat.eq_of_beq_eq_true hb
            rcases hargs with hargs | hargs
            · exact hap ⟨t, x, y, rfl, e1, rfl, hargs⟩
            · exact hax ⟨t, x, y, rfl, e1, rfl, hargs⟩
        · rename_i t x e1
          rw [e1]; simp only [builtinK, true_and]; exact hargs
        · simp only [builtinK, true_and]; exact hargs
        · simp only [builtinK, true_and]; exact hargs
        · exact hargs.elim
    · exact h.elim
  · rename_i t m i ho
    obtain ⟨z, v, l, h1, h2, h3⟩ := lookD_ok hs (ev_ok hs m) (ev_ok hs i) h
    intro next Q hk
    unfold Oper.wp
    rw [show (execOp a.eval o).run C.P w = .ok (.value z) w by simp [execOp, ho, h1]]
    exact hk z E w _ (fER_ok h2) (by cases S; exact hs) h3
  · rename_i t x hh m ho
    obtain ⟨z, v, h1, h2, h3⟩ := slxD_ok (ev_ok hs x) (ev_ok hs hh) (ev_ok hs m) h
    intro next Q hk
    unfold Oper.wp
    rw [show (execOp a.eval o).run C.P w = .ok (.value z) w by simp [execOp, ho, h1]]
    exact hk z E w _ (fE_ok h2) (by cases S; exact hs) h3
  · rename_i t lx cx ho
    obtain ⟨e, z, n, f, us', g5, hrun, h1, h2, h3, h4, h5, h6⟩ := makeSliceF_ok (ev_ok hs lx) (ev_ok hs cx) h
    have hr : (E.newrow ln w.heap.size n).ρ ln = w.heap.size := by simp [Env.newrow]
    have hκ : (E.newrow ln w.heap.size n).κ ln = n := by simp [Env.newrow]
    have e1 := hs.allocDr (c := n) (o := .cells us' e) (b := .row e z n f) hl hO (hinv (by rw [ho]; rfl)) ⟨by rw [hκ]; exact Nat.le_refl _, by rw [hκ]; exact h1, h2, h3, fun _ => ⟨us', by rw [hr]; exact heap_alloc_new w _, by rw [hκ]; exact h4, h5, fun i j hi hj => (h6 i j hi hj).mono (fun _ hb => hb) fun b hb => Below.heap_alloc _ _ _ (hs.im b hb).1⟩⟩
    intro next Q hk
    unfold Oper.wp
    rw [show (execOp a.eval o).run C.P w = .ok (.value (.slice (some ⟨w.heap.size, 0, none⟩) n n)) (w.alloc (.cells us' e)) by simp [execOp, ho, hrun]]
    have hv : RS (E.newrow ln w.heap.size n) S.nx (w.alloc (.cells us' e)) (.sl ln z 0 n) (.slice (some ⟨w.heap.size, 0, none⟩) n n) :=
      .sl _ _ _ _ _ _ hl (Nat.le_refl _) h1 (fun _ => by rw [hr, Nat.zero_mul]) (fun _ => ⟨hκ.symm, fun _ => by rw [hr]⟩)
    exact hk _ _ _ _ g5 e1 hv
  · exact h.elim
end Go.Proofs.YteallmlkkcjblaaGreatDoor

namespace Go.Proofs.YteallmlkkcjblaaGreatDoor
open Go.RowKit
theorem ev_congr {S S' : St} {x : Operand} (h : ∀ t, x = .tmp t → lk S.fr t = lk S'.fr t) : ev S x = ev S' x := by
  cases x with
  | tmp t => exact congrArg stripE (h t rfl)
  | _ => rfl
theorem evL_congr {S S' : St} : ∀ (xs : List Operand) (k : List SV → Prop), (∀ x ∈ xs, ev S x = ev S' x) → evL S xs k = evL S' xs k
  | [], k, h => rfl
  | x :: r, k, h => by
    simp only [evL]
    rw [h x (by simp)]
    congr 1
    funext v
    exact evL_congr r _ fun y hy => h y (by simp [hy])
theorem fillK_congr {C : Cx} {S S' : St} {fs : List (Nat × Nat)} : ∀ (ps : List (Nat × Operand)) (cs : List SV) (k : List SV → Prop), (∀ p ∈ ps, ev S p.2 = ev S' p.2) → fillK C S fs ps cs k = fillK C S' fs ps cs k
  | [], cs, k, h => rfl
  | (i, x) :: r, cs, k, h => by
    have ih : ∀ cs' k', fillK C S fs r cs' k' = fillK C S' fs r cs' k' := fun cs' k' => fillK_congr r cs' k' fun p hp => h p (by simp [hp])
    have hx : ev S x = ev S' x := h (i, x) (by simp)
    unfold fillK
    simp only [hx, ih]
theorem fillSK_congr {S S' : St} {z : Nat} : ∀ (ps : List (Nat × Operand)) (cs : List SV) (k : List SV → Prop), (∀ p ∈ ps, ev S p.2 = ev S' p.2) → fillSK S z ps cs k = fillSK S' z ps cs k
  | [], cs, k, h => rfl
  | (i, x) :: r, cs, k, h => by
    have ih : ∀ cs' k', fillSK S z r cs' k' = fillSK S' z r cs' k' := fun cs' k' => fillSK_congr r cs' k' fun p hp => h p (by simp [hp])
    have hx : ev S x = ev S' x := h (i, x) (by simp)
    unfold fillSK
    simp only [hx, ih]
def labOf : SV → List Nat
  | .ptr l _ => [l]
  | .rp l _ _ _ => [l]
  | _ => []
def labsOf (S : St) : Op → List Nat
  | .load _ a => labOf (ev S a)
  | .store _ a _ => labOf (ev S a)
  | _ => []
theorem loadK_congr {C : Cx} {S S' : St} {t : Nat} {x : SV} {k : SV → Prop} (h : ∀ l ∈ labOf x, lkh S.hp l = lkh S'.hp l) : loadK C S t x k = loadK C S' t x k := by
  cases x with
  | ptr l off => simp only [loadK]; rw [h _ (by simp [labOf])]
  | rp l z i off => simp only [loadK]; rw [h _ (by simp [labOf])]
  | d x => cases x <;> rfl
  | _ => rfl
theorem storeD_congr {C : Cx} {S S' : St} {t : Nat} {x y : SV} {k : Nat → Blk → Prop} (hnx : S.nx = S'.nx) (h : ∀ l ∈ labOf x, lkh S.hp l = lkh S'.hp l) : storeD C S t x y k = storeD C S' t x y k := by
  cases x with
  | ptr l off => simp only [storeD]; rw [h _ (by simp [labOf])]
  | rp l z i off => simp only [storeD]; rw [h _ (by simp [labOf]), hnx]
  | _ => rfl
theorem keys_post {π : Nat → Nat} : ∀ {H : List (Nat × Option Blk)} {i : Nat}, (∃ o, (i, o) ∈ H) → ∃ o, (π i, o) ∈ postH π [] H
  | [], i, ⟨o, h⟩ => by simp at h
  | (j, ob) :: r, i, ⟨o, h⟩ => by
    rcases List.mem_cons.1 h with h | h
    · cases h; exact ⟨ob.map (renB π), by simp [postH]⟩
    · obtain ⟨o', h'⟩ := keys_post (π := π) (H := r) ⟨o, h⟩
      exact ⟨o', by simp [postH, h']⟩
theorem sameK_congr {P hp hp' : List (Nat × Option Blk)} : ∀ {K : List Nat}, (∀ l ∈ K, lkh hp l = lkh hp' l) → sameK P hp K → sameK P hp' K
  | [], _, _ => trivial
  | k :: r, h, ⟨h1, h2⟩ => ⟨h1.trans (h k (by simp)), sameK_congr (fun l hl => h l (by simp [hl])) h2⟩
theorem keyH {S S' : St} {P : List (Nat × Option Blk)} (hk : ∀ l o, (l, o) ∈ P → lkh S.hp l = lkh S'.hp l) : ∀ (L : List Nat) (π : Nat → Nat) (H H' : List (Nat × Option Blk)), keysK H' L.length = true → (∀ i, i < L.length → π i = L.getD i 0) → postH π [] H' = P → HeapLe S.hp L H → HeapLe S'.hp L H := by
  intro L π H H' h4 hπ h8 h7
  have hag : ∀ i, i < L.length → lkh S.hp (L.getD i 0) = lkh S'.hp (L.getD i 0) := fun i hi => by
    unfold keysK at h4
    rw [List.all_eq_true] at h4
    have := h4 i (by simpa using hi)
    rw [List.any_eq_true] at this
    obtain ⟨⟨p1, p2⟩, hp1, hp2⟩ := this
    have hp3 := Nat.eq_of_beq_eq_true hp2
    simp only at hp3
    subst hp3
    obtain ⟨o, ho⟩ := keys_post (π := π) ⟨p2, hp1⟩
    rw [h8, hπ _ hi] at ho
    exact hk _ _ ho
  have key : ∀ (Hx : List (Nat × Option Blk)), HeapLe S.hp L Hx → HeapLe S'.hp L Hx := by
    intro Hx
    induction Hx with
    | nil => exact fun h => h
    | cons p r ih =>
      obtain ⟨i, ob⟩ := p
      cases ob with
      | none => exact fun h => ih h
      | some b =>
        intro h9
        unfold HeapLe at h9 ⊢
        cases hb : Nat.blt i L.length with
        | false => simp [hb] at h9
        | true =>
          simp only [hb, cond_true] at h9 ⊢
          exact ⟨by rw [← hag i (by simpa using hb)]; exact h9.1, ih h9.2⟩
  exact key H h7
theorem effD_congr {C : Cx} {S S' : St} {ln : Nat} {op : Op} {ef : Ef} (hnx : S.nx = S'.nx) (hx : ∀ x ∈ op.operands.toList, ev S x = ev S' x) (hl : ∀ l ∈ labsOf S op, lkh S.hp l = lkh S'.hp l) (hk : ∀ l o, (l, o) ∈ ef.ed → lkh S.hp l = lkh S'.hp l) (hr : ∀ l ∈ ef.rd, lkh S.hp l = lkh S'.hp l)
    (h : effD C S ln op (fun e => e = ef)) : effD C S' ln op (fun e => e = ef) := by
  cases op <;> simp only [effD] at h ⊢
  case move x => rw [← hx x (by simp [Op.operands])]; exact h
  case assign x => rw [← hx x (by simp [Op.operands])]; exact h
  case pick c x y => rw [← hx c (by simp [Op.operands]), ← hx x (by simp [Op.operands]), ← hx y (by simp [Op.operands])]; exact h
  case alloc t => exact h
  case box t x => rw [← hx x (by simp [Op.operands])]; exact h
  case load t a => rw [← hx a (by simp [Op.operands]), ← loadK_congr (S := S) (by simpa [labsOf] using hl)]; exact h
  case store t a x => rw [← hx a (by simp [Op.operands]), ← hx x (by simp [Op.operands]), ← storeD_congr (S := S) hnx (by simpa [labsOf] using hl)]; exact h
  case binOp op t x y _ => rw [← hx x (by simp [Op.operands]), ← hx y (by simp [Op.operands])]; exact h
  case unOp op _ x => rw [← hx x (by simp [Op.operands])]; exact h
  case convert s d x => rw [← hx x (by simp [Op.operands])]; exact h
  case fieldAddr t x f => rw [← hx x (by simp [Op.operands])]; exact h
  case field t x f => rw [← hx x (by simp [Op.operands])]; exact h
  case indexAddr t x i => rw [← hx x (by simp [Op.operands]), ← hx i (by simp [Op.operands])]; exact h
  case index t x i => rw [← hx x (by simp [Op.operands]), ← hx i (by simp [Op.operands])]; exact h
  case extract x i => rw [← hx x (by simp [Op.operands])]; exact h
  case nilCheck x => rw [← hx x (by simp [Op.operands])]; exact h
  case slice t x lo hi mx =>
    cases mx with
    | some m =>
      cases lo with
      | some a => simp at h
      | none =>
        cases hi with
        | none => simp at h
        | some a =>
          simp only at h ⊢
          rw [← hx x (by simp [Op.operands]), ← hx a (by simp [Op.operands]), ← hx m (by simp [Op.operands])]; exact h
    | none =>
      simp only at h ⊢
      rw [← hx x (by simp [Op.operands])]
      have h1 : lo.map (ev S) = lo.map (ev S') := by cases lo with
        | none => rfl
        | some a => simp [hx a (by simp [Op.operands])]
      have h2 : hi.map (ev S) = hi.map (ev S') := by cases hi with
        | none => rfl
        | some a => simp [hx a (by simp [Op.operands])]
      rw [← h1, ← h2]; exact h
  case build t ps =>
    unfold buildK at h ⊢
    have hc : ∀ fs cs k, fillK C S fs ps.toList cs k = fillK C S' fs ps.toList cs k := fun fs cs k => fillK_congr _ _ _ fun p hp => hx p.2 (by simp [Op.operands]; exact ⟨p.1, by simpa using hp⟩)
    simp only [hc] at h
    exact h
  case buildSlice t n ps =>
    unfold buildSliceF at h ⊢
    have hc : ∀ z cs k, fillSK S z ps.toList cs k = fillSK S' z ps.toList cs k := fun z cs k => fillSK_congr _ _ _ fun p hp => hx p.2 (by simp [Op.operands]; exact ⟨p.1, by simpa using hp⟩)
    simp only [hc] at h
    rcases h with h | h
    · exact Or.inl h
    · right
      refine ⟨?_⟩
      obtain ⟨x0, z, i, e, j, h1, h2, h3, h4⟩ := h.out
      exact ⟨x0, z, i, e, j, h1, h2, by rw [← hx x0 (by have hps := listToArray h1; subst hps; simp [Op.operands])]; exact h3, h4⟩
  case makeSlice t l c => rw [← hx l (by simp [Op.operands]), ← hx c (by simp [Op.operands])]; exact h
  case makeFunc fn first caps =>
    split at h
    · rw [← evL_congr _ _ fun x hx' => hx x (by simp [Op.operands]; exact Or.inr (by simpa using hx'))]
      exact h
    · exact h.elim
  case lookup t m i ok =>
    cases ok with
    | true => simp at h
    | false =>
      simp only at h ⊢
      rw [← hx m (by simp [Op.operands]), ← hx i (by simp [Op.operands])]
      obtain ⟨kt, et, b, l, mm, keys, g, s, v, h1, h2, h3, h4, h5, h6, h7, h8⟩ := h.out
      have e8 := fER_ok h8
      exact ⟨⟨kt, et, b, l, mm, keys, g, s, v, h1, h2, h3, h4, h5, by rw [← hr l (by rw [← e8]; exact List.mem_singleton.2 rfl)]; exact h6, h7, h8⟩⟩
  case call c =>
    split at h
    · rename_i f hc
      have hf : ev S f = ev S' f := hx f (by simp [Op.operands, Call.operands, hc])
      rw [← evL_congr _ _ fun x hx' => hx x (by simp [Op.operands, Call.operands, hc]; exact Or.inr (by simpa using hx'))]
      refine evL_imp S _ _ _ (fun args hargs => ?_) h
      rw [← hf]
      have go : ∀ (g : Nat) (args : List SV), DCall C S ln g args (fun r ed rd => fER r ed rd fun e => e = ef) → DCall C S' ln g args (fun r ed rd => fER r ed rd fun e => e = ef) := by
        intro g args hargs
        refine ⟨?_⟩
        rcases hargs.out with h1 | ⟨L, args0, H, H', r, K, h1, h2, h3, h4, h5, h6, h7, h9, h8⟩ | ⟨L, args0, H, H', r, K, h1, h2, h3, h4, h5, h6, h7, h9, h8⟩ | ⟨m, r, h1, h2, h3, h4⟩
        · exact Or.inl h1
        · have e8 := fER_ok h8
          have hkP : ∀ l o, (l, o) ∈ postH (πf L S.nx) [] H' → lkh S.hp l = lkh S'.hp l := fun l o hlo => by
            rcases dropK_keys (K := K) hlo with h | h
            · exact hr l (by rw [← e8]; exact h)
            · exact hk l o (by rw [← e8]; exact h)
          refine Or.inr (Or.inl ⟨L, args0, H, H', r, K, h1, h2, h3, h4, h5, h6, keyH hkP L (πf L S.nx) H H' h4 (fun i hi => ?_) rfl h7, ?_, by rw [← hnx]; exact h8⟩)
          rotate_left
          · rw [← hnx]
            have hrK : ∀ l ∈ K, lkh S.hp l = lkh S'.hp l := fun l hl => hr l (by rw [← e8]; exact hl)
            exact sameK_congr hrK h9
          have hb : Nat.blt i L.length = true := by simpa using hi
          unfold πf; rw [hb]; rfl
        · have e8 := fER_ok h8
          have hkP : ∀ l o, (l, o) ∈ postH (πn L ln) [] H' → lkh S.hp l = lkh S'.hp l := fun l o hlo => by
            rcases dropK_keys (K := K) hlo with h | h
            · exact hr l (by rw [← e8]; exact h)
            · exact hk l o (by rw [← e8]; exact h)
          refine Or.inr (Or.inr (Or.inl ⟨L, args0, H, H', r, K, h1, h2, h3, h4, h5, h6, keyH hkP L (πn L ln) H H' h4 (fun i hi => ?_) rfl h7, ?_, h8⟩))
          rotate_left
          · have hrK : ∀ l ∈ K, lkh S.hp l = lkh S'.hp l := fun l hl => hr l (by rw [← e8]; exact hl)
            exact sameK_congr hrK h9
          have hb : Nat.blt i L.length = true := by simpa using hi
          unfold πn; rw [hb]; rfl
        · exact Or.inr (Or.inr (Or.inr ⟨m, r, h1, by rw [← hnx]; exact h2, by rw [← hnx]; exact h3, h4⟩))
      unfold dcallK at hargs ⊢
      split at hargs
      · rename_i g e; exact go g args hargs
      · rename_i g caps e; exact go g _ hargs
      · exact hargs.elim
    · rename_i b hc
      rw [← evL_congr _ _ fun x hx' => hx x (by simp [Op.operands, Call.operands, hc]; simpa using hx')]
      refine evL_imp S _ _ _ (fun args hargs => ?_) h
      unfold dbuiltinK at hargs ⊢
      split at hargs
      · rename_i t t2 x y e1
        cases hb : Nat.beq t t2 with
        | false => simp [hb] at hargs
        | true =>
          simp only [hb, cond_true] at hargs ⊢
          rcases hargs with hargs | hargs
          rotate_left
          · right
            refine ⟨?_⟩
            rcases hargs.out with h1 | ⟨l2, z, m, i, e, j, h1, h2, h3, h4, h5, h6, h7, h8, h9, h10, h11⟩
            · exact Or.inl h1
            · exact Or.inr ⟨l2, z, m, i, e, j, h1, h2, by rw [← hr l2 (by rw [← h11]; exact List.mem_singleton.2 rfl)]; exact h3, by rw [← hnx]; exact h4, h5, h6, h7, h8, h9, h10, h11⟩
          left
          obtain ⟨L, x0, y0, H, H', r, h1, h2, h3, h4, h5, h6, h7, h8⟩ := hargs.out
          refine ⟨L, x0, y0, H, H', r, h1, h2, h3, h4, h5, h6, keyH hk L (πn L ln) H H' h4 (fun i hi => ?_) (by rw [← fE_ok h8]) h7, h8⟩
          have hb : Nat.blt i L.length = true := by simpa using hi
          unfold πn; rw [hb]; rfl
      · exact hargs
      · exact hargs
      · exact hargs
      · exact hargs.elim
    · exact h.elim
end Go.Proofs.YteallmlkkcjblaaGreatDoor

namespace Go.Proofs.YteallmlkkcjblaaGreatDoor
open Go.RowKit
def St.step : St → Option Nat → Ef → St
  | ⟨nt, nx, fr, hp⟩, some n, e => ⟨nt, nx, (n, e.val) :: fr, e.ed ++ hp⟩
  | ⟨nt, nx, fr, hp⟩, none, e => ⟨nt, nx, fr, e.ed ++ hp⟩
structure LkEq (S S' : St) : Prop where
  nt : S.nt = S'.nt
  nx : S.nx = S'.nx
  fr : ∀ n, lk S.fr n = lk S'.fr n
  hp : ∀ l, lkh S.hp l = lkh S'.hp l
theorem LkEq.refl (S : St) : LkEq S S := ⟨rfl, rfl, fun _ => rfl, fun _ => rfl⟩
theorem LkEq.symm {S S' : St} (h : LkEq S S') : LkEq S' S := ⟨h.nt.symm, h.nx.symm, fun n => (h.fr n).symm, fun l => (h.hp l).symm⟩
theorem LkEq.trans {S S' S'' : St} (h : LkEq S S') (k : LkEq S' S'') : LkEq S S'' := ⟨h.nt.trans k.nt, h.nx.trans k.nx, fun n => (h.fr n).trans (k.fr n), fun l => (h.hp l).trans (k.hp l)⟩
theorem Sat.congr {O : Org} {E : Env} {S S' : St} {a : Act} {w : World} (e : LkEq S S') (h : Sat O E S a w) : Sat O E S' a w := by
  obtain ⟨nt, nx, fr, hp⟩ := S
  obtain ⟨nt', nx', fr', hp'⟩ := S'
  obtain ⟨e1, e2, e3, e4⟩ := e
  simp only at e1 e2 e3 e4
  subst e1 e2
  refine ⟨fun n => ?_, h.nt, h.df, fun l b hb => h.hp l b ?_, fun l b hb => h.nx l b ?_, fun l l' b b' hb hb' => h.inj l l' b b' ?_ ?_, fun b hb => ⟨(h.im b hb).1, (h.im b hb).2.1, fun l x hl => (h.im b hb).2.2 l x ?_⟩, fun l b hb => h.own l b ?_, h.kq, h.lab, h.nl, h.imo⟩
  · have := h.fr n
    simp only at this ⊢
    rw [← e3]; exact this
  all_goals (simp only at *; rw [e4]; assumption)
open Classical in
theorem lkh_app : ∀ (e hp : List (Nat × Option Blk)) (l : Nat), lkh (e ++ hp) l = if (∃ o, (l, o) ∈ e) then lkh e l else lkh hp l
  | [], hp, l => by simp
  | (m, ob) :: r, hp, l => by
    rw [List.cons_append, lkh_cons, lkh_cons, lkh_app r hp l]
    by_cases h : m = l
    · subst h; rw [if_pos rfl, if_pos ⟨ob, by simp⟩, if_pos rfl]
    · rw [if_neg h, if_neg h]
      by_cases h2 : ∃ o, (l, o) ∈ r
      · rw [if_pos h2, if_pos (by obtain ⟨o, ho⟩ := h2; exact ⟨o, by simp [ho]⟩)]
      · rw [if_neg h2, if_neg (by
          rintro ⟨o, ho⟩
          rcases List.mem_cons.1 ho with ho | ho
          · cases ho; exact h rfl
          · exact h2 ⟨o, ho⟩)]
theorem step_nt (S : St) (d : Option Nat) (e : Ef) : (S.step d e).nt = S.nt ∧ (S.step d e).nx = S.nx := by cases S; cases d <;> exact ⟨rfl, rfl⟩
theorem step_fr (S : St) (d : Option Nat) (e : Ef) (n : Nat) : lk (S.step d e).fr n = if d = some n then e.val else lk S.fr n := by
  cases S
  cases d with
  | none => simp [St.step]
  | some m => simp only [St.step, lk_cons, Option.some.injEq]
open Classical in
theorem step_hp (S : St) (d : Option Nat) (e : Ef) (l : Nat) : lkh (S.step d e).hp l = if (∃ o, (l, o) ∈ e.ed) then lkh e.ed l else lkh S.hp l := by
  cases S
  cases d <;> exact lkh_app _ _ _
theorem LkEq.step {S S' : St} (h : LkEq S S') (d : Option Nat) (e : Ef) : LkEq (S.step d e) (S'.step d e) :=
  ⟨by rw [(step_nt S d e).1, (step_nt S' d e).1, h.nt], by rw [(step_nt S d e).2, (step_nt S' d e).2, h.nx], fun n => by rw [step_fr, step_fr, h.fr], fun l => by rw [step_hp, step_hp, h.hp]⟩
abbrev Pt := Oper × Ef
def foldSt : List Pt → St → St
  | [], S => S
  | p :: r, S => foldSt r (S.step p.1.dst p.2)
theorem fold_nt : ∀ (l : List Pt) (S : St), (foldSt l S).nt = S.nt ∧ (foldSt l S).nx = S.nx
  | [], S => ⟨rfl, rfl⟩
  | p :: r, S => by
    obtain ⟨h1, h2⟩ := fold_nt r (S.step p.1.dst p.2)
    obtain ⟨h3, h4⟩ := step_nt S p.1.dst p.2
    exact ⟨h1.trans h3, h2.trans h4⟩
theorem fold_fr0 : ∀ (l : List Pt) (S : St) (n : Nat), (∀ p ∈ l, p.1.dst ≠ some n) → lk (foldSt l S).fr n = lk S.fr n
  | [], S, n, h => rfl
  | p :: r, S, n, h => by
    rw [foldSt, fold_fr0 r _ n fun q hq => h q (by simp [hq]), step_fr, if_neg (h p (by simp))]
theorem fold_fr1 : ∀ (l : List Pt) (S : St) (n : Nat) (v : SV), (∃ p ∈ l, p.1.dst = some n) → (∀ p ∈ l, p.1.dst = some n → p.2.val = v) → lk (foldSt l S).fr n = v
  | [], S, n, v, ⟨p, hp, _⟩, h => by simp at hp
  | p :: r, S, n, v, hex, h => by
    by_cases h2 : ∃ q ∈ r, q.1.dst = some n
    · exact fold_fr1 r _ n v h2 fun q hq => h q (by simp [hq])
    · rw [foldSt, fold_fr0 r _ n fun q hq e => h2 ⟨q, hq, e⟩, step_fr]
      obtain ⟨q, hq, e⟩ := hex
      rcases List.mem_cons.1 hq with rfl | hq
      · rw [if_pos e]; exact h _ (by simp) e
      · exact absurd ⟨q, hq, e⟩ h2
theorem fold_hp0 : ∀ (l : List Pt) (S : St) (n : Nat), (∀ p ∈ l, ∀ o, (n, o) ∉ p.2.ed) → lkh (foldSt l S).hp n = lkh S.hp n
  | [], S, n, h => rfl
  | p :: r, S, n, h => by
    rw [foldSt, fold_hp0 r _ n fun q hq => h q (by simp [hq]), step_hp, if_neg (by rintro ⟨o, ho⟩; exact h p (by simp) o ho)]
theorem foldSt_app (l m : List Pt) (S : St) : foldSt (l ++ m) S = foldSt m (foldSt l S) := by
  induction l generalizing S with
  | nil => rfl
  | cons p r ih => exact ih _
def StepOK (C : Cx) (ops : List Oper) (ln : Nat) (S : St) (o : Oper) (ef : Ef) : Prop :=
  match o.guard with
  | none => effD C S ln o.op fun e => e = ef
  | some (j, want) => ∃ t, (ops[j]?).bind (·.dst) = some t ∧ ((∃ b, lk S.fr t = .b b ∧ (b = want → effD C S ln o.op fun e => e = ef) ∧ (b ≠ want → ef = ⟨.tup [], [], []⟩)) ∨ (lk S.fr t = .tup [] ∧ ef = ⟨.tup [], [], []⟩))
structure Go (p : Prop) : Prop where
  out : p
def edK : List (Nat × Option Blk) → List (Nat × Option Blk) → (List (Nat × Option Blk) → Prop) → Prop
  | [], hp, k => k hp
  | x :: r, hp, k => edK r hp fun h => k (x :: h)
theorem edK_ok : ∀ (e hp : List (Nat × Option Blk)) (k : List (Nat × Option Blk) → Prop), edK e hp k → k (e ++ hp)
  | [], hp, k, h => h
  | x :: r, hp, k, h => edK_ok r hp _ h
def stepK (S : St) (dst : Option Nat) (ef : Ef) (k : St → Prop) : Prop :=
  match S, dst, ef with
  | ⟨nt, nx, fr, hp⟩, some n, ⟨v, ed, _⟩ => edK ed hp fun hp' => k ⟨nt, nx, (n, v) :: fr, hp'⟩
  | ⟨nt, nx, fr, hp⟩, none, ⟨_, ed, _⟩ => edK ed hp fun hp' => k ⟨nt, nx, fr, hp'⟩
theorem stepK_ok {S : St} {dst : Option Nat} {ef : Ef} {k : St → Prop} (h : stepK S dst ef k) : k (S.step dst ef) := by
  obtain ⟨nt, nx, fr, hp⟩ := S
  obtain ⟨v, ed, rd⟩ := ef
  cases dst <;> exact edK_ok _ _ _ h
structure Eff1 (A B : Ef → Prop) : Prop where
  out : ∃ ef, A ef ∧ B ef
theorem Eff1.of {A B : Ef → Prop} (ef : Ef) (h1 : A ef) (h2 : Go (B ef)) : Eff1 A B := ⟨ef, h1, h2.out⟩
def runR (C : Cx) (S : St) (ln : Nat) (o : Oper) (k : Ef → St → Prop) : Prop := Eff1 (fun ef => effD C S ln o.op fun e => e = ef) fun ef => stepK S o.dst ef fun S' => k ef S'
def execR (C : Cx) (ops : List Oper) (n0 : Nat) : List Oper → Nat → St → (List Ef → St → Prop) → Prop
  | [], _, S, k => k [] S
  | o :: r, i, S, k => match o.guard with
    | none => runR C S (n0 + i) o fun ef S' => execR C ops n0 r (i + 1) S' fun efs => k (ef :: efs)
    | some (j, want) => match (ops[j]?).bind (·.dst) with
      | some t => match lk S.fr t with
        | .d (.val (.bool b)) => match want with
          | true => bif b then runR C (setSlot S t true) (n0 + i) o (fun ef S' => execR C ops n0 r (i + 1) S' fun efs => k (ef :: efs)) else stepK (setSlot S t false) o.dst ⟨.tup [], [], []⟩ fun S' => execR C ops n0 r (i + 1) S' fun efs => k (⟨.tup [], [], []⟩ :: efs)
          | false => bif b then stepK (setSlot S t true) o.dst ⟨.tup [], [], []⟩ (fun S' => execR C ops n0 r (i + 1) S' fun efs => k (⟨.tup [], [], []⟩ :: efs)) else runR C (setSlot S t false) (n0 + i) o fun ef S' => execR C ops n0 r (i + 1) S' fun efs => k (ef :: efs)
        | .tup [] => stepK S o.dst ⟨.tup [], [], []⟩ fun S' => execR C ops n0 r (i + 1) S' fun efs => k (⟨.tup [], [], []⟩ :: efs)
        | _ => False
      | none => False
theorem setSlot_eq {S : St} {t : Nat} {b : Bool} (h : lk S.fr t = .b b) : LkEq S (setSlot S t b) := by
  obtain ⟨nt, nx, fr, hp⟩ := S
  refine ⟨rfl, rfl, fun n => ?_, fun _ => rfl⟩
  simp only [setSlot, lk_cons]
  by_cases e : t = n
  · subst e; rw [if_pos rfl]; exact h
  · rw [if_neg e]
theorem effD_eq {C : Cx} {S S' : St} (e : LkEq S S') {ln : Nat} {op : Op} {ef : Ef} (h : effD C S ln op fun x => x = ef) : effD C S' ln op fun x => x = ef :=
  effD_congr e.nx (fun x _ => ev_congr fun t _ => e.fr t) (fun l _ => e.hp l) (fun l _ _ => e.hp l) (fun l _ => e.hp l) h
theorem StepOK.congr {C : Cx} {ops : List Oper} {ln : Nat} {S S' : St} {o : Oper} {ef : Ef} (e : LkEq S S') (h : StepOK C ops ln S o ef) : StepOK C ops ln S' o ef := by
  unfold StepOK at h ⊢
  split at h
  · exact effD_eq e h
  · obtain ⟨t, h1, ⟨b, h2, h3, h4⟩ | ⟨h2, h3⟩⟩ := h
    · exact ⟨t, h1, Or.inl ⟨b, by rw [← e.fr]; exact h2, fun hb => effD_eq e (h3 hb), h4⟩⟩
    · exact ⟨t, h1, Or.inr ⟨by rw [← e.fr]; exact h2, h3⟩⟩
theorem execR_ok {C : Cx} {ops : List Oper} {n0 : Nat} : ∀ (l : List Oper) (i : Nat) (S : St) (k : List Ef → St → Prop), execR C ops n0 l i S k →
    ∃ (efs : List Ef) (Sn : St), k efs Sn ∧ efs.length = l.length ∧ LkEq Sn (foldSt (l.zip efs) S) ∧ ∀ (j : Nat) (o : Oper) (ef : Ef), l[j]? = some o → efs[j]? = some ef → StepOK C ops (n0 + (i + j)) (foldSt ((l.zip efs).take j) S) o ef
  | [], i, S, k, h => ⟨[], S, h, rfl, .refl _, fun j o ef ho => by simp at ho⟩
  | o :: r, i, S, k, h => by
    have fin : ∀ (S1 : St) (ef : Ef), LkEq S S1 → StepOK C ops (n0 + i) S1 o ef → execR C ops n0 r (i + 1) (S1.step o.dst ef) (fun efs => k (ef :: efs)) →
        ∃ (efs : List Ef) (Sn : St), k efs Sn ∧ efs.length = (o :: r).length ∧ LkEq Sn (foldSt ((o :: r).zip efs) S) ∧ ∀ (j : Nat) (o' : Oper) (ef : Ef), (o :: r)[j]? = some o' → efs[j]? = some ef → StepOK C ops (n0 + (i + j)) (foldSt (((o :: r).zip efs).take j) S) o' ef := by
      intro S1 ef hS hst hx
      obtain ⟨efs, Sn, h1, h2, h3, h4⟩ := execR_ok r (i + 1) _ _ hx
      have cong : ∀ (l : List Pt) (S S' : St), LkEq S S' → LkEq (foldSt l S) (foldSt l S') := by
        intro l
        induction l with
        | nil => exact fun S S' h => h
        | cons p l ih => exact fun S S' h => ih _ _ (h.step _ _)
      refine ⟨ef :: efs, Sn, h1, by simp [h2], h3.trans (cong _ _ _ ((hS.step _ _).symm)), fun j o' ef' ho he => ?_⟩
      cases j with
      | zero => simp at ho he; subst ho he; exact hst.congr hS.symm
      | succ j =>
        simp at ho he
        have := h4 j o' ef' ho he
        rw [show i + (j + 1) = i + 1 + j by omega]
        have e := cong ((r.zip efs).take j) _ _ (hS.step o.dst ef).symm
        exact this.congr e
    unfold execR at h
    split at h
    · rename_i hg
      obtain ⟨ef, h1, h2⟩ := h.out
      exact fin S ef (.refl S) (by unfold StepOK; rw [hg]; exact h1) (stepK_ok (k := fun S' => execR C ops n0 r (i + 1) S' fun efs => k (ef :: efs)) h2)
    · rename_i j want hg
      split at h
      · rename_i t ht
        split at h
        · rename_i b hb
          have hS := setSlot_eq hb
          have hb' : ∀ c, b = c → lk (setSlot S t c).fr t = .b c := fun c hc => by subst hc; rw [← hS.fr]; exact hb
          have okr : ∀ c ef, b = c → c = want → effD C (setSlot S t c) (n0 + i) o.op (fun e => e = ef) → StepOK C ops (n0 + i) (setSlot S t c) o ef := fun c ef hc hw h1 => by
            unfold StepOK; rw [hg]; exact ⟨t, ht, Or.inl ⟨c, hb' c hc, fun _ => h1, fun hne => absurd hw hne⟩⟩
          have oks : ∀ c, b = c → c ≠ want → StepOK C ops (n0 + i) (setSlot S t c) o ⟨.tup [], [], []⟩ := fun c hc hw => by
            unfold StepOK; rw [hg]; exact ⟨t, ht, Or.inl ⟨c, hb' c hc, fun he => absurd he hw, fun _ => rfl⟩⟩
          cases want <;> cases b
          · obtain ⟨ef, h1, h2⟩ := h.out
            exact fin _ ef hS (okr _ _ rfl rfl h1) (stepK_ok (k := fun S' => execR C ops n0 r (i + 1) S' fun efs => k (ef :: efs)) h2)
          · exact fin _ _ hS (oks _ rfl (by simp)) (stepK_ok (S := setSlot S t true) (dst := o.dst) (ef := ⟨.tup [], [], []⟩) (k := fun S' => execR C ops n0 r (i + 1) S' fun efs => k (⟨.tup [], [], []⟩ :: efs)) h)
          · exact fin _ _ hS (oks _ rfl (by simp)) (stepK_ok (S := setSlot S t false) (dst := o.dst) (ef := ⟨.tup [], [], []⟩) (k := fun S' => execR C ops n0 r (i + 1) S' fun efs => k (⟨.tup [], [], []⟩ :: efs)) h)
          · obtain ⟨ef, h1, h2⟩ := h.out
            exact fin _ ef hS (okr _ _ rfl rfl h1) (stepK_ok (k := fun S' => execR C ops n0 r (i + 1) S' fun efs => k (ef :: efs)) h2)
        · rename_i hb
          exact fin S ⟨.tup [], [], []⟩ (.refl S) (by unfold StepOK; rw [hg]; exact ⟨t, ht, Or.inr ⟨hb, rfl⟩⟩) (stepK_ok (S := S) (dst := o.dst) (ef := ⟨.tup [], [], []⟩) (k := fun S' => execR C ops n0 r (i + 1) S' fun efs => k (⟨.tup [], [], []⟩ :: efs)) h)
        · exact h.elim
      · exact h.elim
end Go.Proofs.YteallmlkkcjblaaGreatDoor
