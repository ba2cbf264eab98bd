/- Lemmas of Sx13, Sx14, Sx15. No condition. -/
import Derived.Test.YtlplngmpggkloaaGreatMJ3
import Derived.Orders
set_option linter.unusedVariables false
set_option linter.unusedSimpArgs false
set_option maxHeartbeats 80000000
set_option maxRecDepth 100000
namespace Go.Proofs.YtlplngmpggkloaaGreat
open Go.RowKit
section
structure Ef where
  val : SV
  ed : List (Nat × Option Blk)
  rd : List Nat
def fh (C : Cx) (S : St) (t : Nat) : SV → SV → (Nat → Blk → Prop) → Prop
  | .ptr l off, x, k => match C.tt t, lkh S.hp l with
    | some i, some (.cells cs) => bx x fun vs => bif Nat.beq vs.length i.size then gV cs off vs fun cs' => k l (.cells cs') else False
    | some i, some (.cf m n g) => bif Nat.beq i.size 1 then bx x (fun vs => match vs with
      | [v] => (SV.Lt m v ∧ At off fun o => o < n ∧ k l (.cf m n fun j => bif Nat.beq j o then v else g j)) ∨ CfS off [v] m n g fun g' => k l (.cf m n g')
      | _ => False) else bx x (fun vs => bif Nat.beq vs.length i.size then CfS off vs m n g fun g' => k l (.cf m n g') else False)
    | _, _ => False
  | .rp l esz q off, x, k => match C.tt t, lkh S.hp l with
    | some i, some (.row e z n f) => bif Nat.beq esz z then q < n ∧ bx x (fun vs => bif Nat.beq vs.length i.size then eC vs (fun ds => cL (f q) off ds fun cs' => k l (.row e z n fun j => if j = q then cs' else f j)) else False) else False
    | some i, some (.cf m n g) => bx x (fun vs => bif Nat.beq vs.length i.size then CfS (q * esz + off) vs m n g fun g' => k l (.cf m n g') else False)
    | _, _ => False
  | _, _, _ => False
theorem cF {x : SV} {k k' : List SV → Prop} (h : ∀ r, k r → k' r) (hk : bx x k) : bx x k' := by cases x <;> first | exact h _ hk | exact hk.elim
theorem iT : ∀ (cs : List SV) (o : Nat) (vs : List SV) (k k' : List SV → Prop), (∀ r, k r → k' r) → gV cs o vs k → gV cs o vs k'
  | [], 0, [], k, k', h, hk => by simp only [gV] at hk ⊢; exact h _ hk
  | _ :: _, 0, [], k, k', h, hk => by simp only [gV] at hk ⊢; exact h _ hk
  | c :: cs, 0, v :: vs, k, k', h, hk => by simp only [gV] at hk ⊢; exact iT cs 0 vs _ _ (fun r => h _) hk
  | c :: cs, n + 1, vs, k, k', h, hk => by cases vs <;> (simp only [gV] at hk ⊢; exact iT cs n _ _ _ (fun r => h _) hk)
  | [], 0, v :: vs, k, k', h, hk => by simp [gV] at hk
  | [], n + 1, vs, k, k', h, hk => by cases vs <;> simp [gV] at hk
theorem fY : ∀ (cs : List D) (o : Nat) (vs : List D) (k k' : List D → Prop), (∀ r, k r → k' r) → cL cs o vs k → cL cs o vs k'
  | [], 0, [], k, k', h, hk => by simp only [cL] at hk ⊢; exact h _ hk
  | _ :: _, 0, [], k, k', h, hk => by simp only [cL] at hk ⊢; exact h _ hk
  | c :: cs, 0, v :: vs, k, k', h, hk => by simp only [cL] at hk ⊢; exact fY cs 0 vs _ _ (fun r => h _) hk
  | c :: cs, n + 1, vs, k, k', h, hk => by cases vs <;> (simp only [cL] at hk ⊢; exact fY cs n _ _ _ (fun r => h _) hk)
  | [], 0, v :: vs, k, k', h, hk => by simp [cL] at hk
  | [], n + 1, vs, k, k', h, hk => by cases vs <;> simp [cL] at hk
theorem mT : ∀ (vs : List SV) (k k' : List D → Prop), (∀ r, k r → k' r) → eC vs k → eC vs k'
  | [], k, k', h, hk => by simp only [eC] at hk ⊢; exact h _ hk
  | .d x :: r, k, k', h, hk => by simp only [eC] at hk ⊢; exact mT r _ _ (fun r => h _) hk
  | .any :: r, k, k', h, hk => by simp [eC] at hk
  | .ptr _ _ :: r, k, k', h, hk => by simp [eC] at hk
  | .rp _ _ _ _ :: r, k, k', h, hk => by simp [eC] at hk
  | .sl _ _ _ _ :: r, k, k', h, hk => by simp [eC] at hk
  | .agg _ :: r, k, k', h, hk => by simp [eC] at hk
  | .tup _ :: r, k, k', h, hk => by simp [eC] at hk
  | .fn _ _ :: r, k, k', h, hk => by simp [eC] at hk
  | .iref _ _ :: r, k, k', h, hk => by simp [eC] at hk
theorem rg {C : Cx} {S : St} {t : Nat} {x y : SV} {k : Nat → Blk → Prop} {k' : St → Prop} (h : ∀ l b, k l b → k' (S.seth l (some b))) (hk : fh C S t x y k) : ic C S t x y k' := by
  cases x with
  | ptr l off =>
    simp only [fh, ic] at hk ⊢
    split at hk
    · rename_i i cs hi hl
      rw [hi, hl]
      refine cF (fun r hr => ?_) hk
      cases hz : Nat.beq r.length i.size with
      | false => simp [hz] at hr
      | true => simp only [hz, cond_true] at hr ⊢; exact iT _ _ _ _ _ (fun q => h _ _) hr
    · rename_i i m n g hi hl
      rw [hi, hl]
      cases hz : Nat.beq i.size 1 with
      | false =>
        simp only [hz, cond_false] at hk ⊢
        refine cF (fun r hr => ?_) hk
        cases hz2 : Nat.beq r.length i.size with
        | false => simp [hz2] at hr
        | true => simp only [hz2, cond_true] at hr ⊢; exact hr.imp fun g hg => h _ _ hg
      | true =>
        simp only [hz, cond_true] at hk ⊢
        refine cF (fun r hr => ?_) hk
        split at hr
        · rcases hr with hr | hr
          · exact .inl ⟨hr.1, ⟨hr.2.out.1, h _ _ hr.2.out.2⟩⟩
          · exact .inr (hr.imp fun g hg => h _ _ hg)
        · exact hr.elim
    · exact hk.elim
  | rp l esz q off =>
    simp only [fh, ic] at hk ⊢
    split at hk
    · rename_i i e z n f hi hl
      rw [hi, hl]
      cases hz : Nat.beq esz z with
      | false => simp [hz] at hk
      | true =>
        simp only [hz, cond_true] at hk ⊢
        refine ⟨hk.1, cF (fun r hr => ?_) hk.2⟩
        cases hz2 : Nat.beq r.length i.size with
        | false => simp [hz2] at hr
        | true =>
          simp only [hz2, cond_true] at hr ⊢
          exact mT _ _ _ (fun ds => fY _ _ _ _ _ (fun q => h _ _)) hr
    · rename_i i m n g hi hl
      rw [hi, hl]
      refine cF (fun r hr => ?_) hk
      cases hz2 : Nat.beq r.length i.size with
      | false => simp [hz2] at hr
      | true => simp only [hz2, cond_true] at hr ⊢; exact hr.imp fun g hg => h _ _ hg
    · exact hk.elim
  | _ => exact hk.elim
def Inv (S : St) (l : Nat) : Prop := ∀ (E E' : Env) (w : World), (∀ m, m ≠ l → E'.ρ m = E.ρ m ∧ E'.κ m = E.κ m) → E'.Im = E.Im →
  (∀ n v, RS E S.nx w (lk S.fr n) v → RS E' S.nx w (lk S.fr n) v) ∧ (∀ m b, lkh S.hp m = some b → m ≠ l ∧ (BS E S.nx w m b → BS E' S.nx w m b))
def πn (L : List Nat) (ln i : Nat) : Nat := bif Nat.blt i L.length then L.getD i 0 else ln
theorem ab.fresh {C : Cx} {S : St} {ln g : Nat} {args : List SV} {k : St → SV → Prop} {args0 : List SV} {H H' : List (Nat × Option Blk)} {r : SV} (L : List Nat) (h : Fun C g L.length args0 H (L.length + 1) r H') (hd : cP L = true) (hlive : dM H L.length = true) (hkeys : dN H' L.length = true) (hlt : cX H' (L.length + 1) = true)
    (ha : bB L args args0) (hh : aO S.hp L H) (hinv : Inv S ln) (hm : S.nt.m ≤ ln) (hl : ln < S.nx) (hk : k ⟨S.nt, S.nx, S.fr, aX (πn L ln) S.hp H'⟩ (nd (πn L ln) r)) : ab C S g args k := by
  refine ⟨h.ent, fun O E a w vs hs hsz hargs => ?_⟩
  have hO := hs.nt.2
  have hLn : ∀ i, i < L.length → L.getD i 0 ≠ ln := fun i hi => by
    have := hlive
    unfold dM at this
    rw [Q23] at this
    obtain ⟨b, hb⟩ := Option.isSome_iff_exists.1 (this i (by simpa using hi))
    obtain ⟨g1, g2⟩ := hh.out i b hb
    cases hq : lkh S.hp (L.getD i 0) with
    | none => rw [hq] at g2; cases b <;> exact (show False from g2).elim
    | some b0 => exact ((hinv E E w (fun _ _ => ⟨rfl, rfl⟩) rfl).2 _ _ hq).1
  have hπ1 : ∀ i, i < L.length → πn L ln i = L.getD i 0 := fun i hi => by
    have hb : Nat.blt i L.length = true := by simpa using hi
    unfold πn; rw [hb]; rfl
  have hπ2 : ∀ i, L.length ≤ i → πn L ln i = ln := fun i hi => by
    unfold πn
    cases hb : Nat.blt i L.length with
    | true => have : i < L.length := by simpa using hb
              omega
    | false => rfl
  refine (Fun.callG hs L h hd hlive hkeys hlt ha hh (F := fun l => l = ln) (nx' := S.nx) ⟨Q4 _, fun E E' w hρ hI => (hinv E E' w hρ hI).1, fun m b hb => ⟨((hinv E E w (fun _ _ => ⟨rfl, rfl⟩) rfl).2 m b hb).1, fun E E' w hρ hI => ((hinv E E' w hρ hI).2 m b hb).2⟩⟩ (fun l hl => by subst hl; omega) (πn L ln) hπ1 (fun i h1 h2 => ⟨hπ2 i h1, by rw [hπ2 i h1]; exact hl⟩) (fun i j hi hj e => ?_) vs hsz hargs).mono ?_
  · by_cases h1 : i < L.length <;> by_cases h2 : j < L.length
    · rw [hπ1 i h1, hπ1 j h2] at e
      exact Classical.byContradiction fun hne => b9 hd h1 h2 hne e
    · rw [hπ1 i h1, hπ2 j (by omega)] at e; exact absurd e (hLn i h1)
    · rw [hπ2 i (by omega), hπ1 j h2] at e; exact absurd e.symm (hLn j h2)
    · omega
  · rintro e w' ⟨v, E', rfl, h1, h2⟩
    exact ⟨v, E', _, _, rfl, hk, h1, h2⟩
def gW (P hp : List (Nat × Option Blk)) : List Nat → Prop
  | [] => True
  | l :: r => lkh P l = lkh hp l ∧ gW P hp r
theorem jT {P hp : List (Nat × Option Blk)} : ∀ {K : List Nat}, gW P hp K → ∀ l ∈ K, lkh P l = lkh hp l
  | [], _, l, hl => by simp at hl
  | k :: r, ⟨h1, h2⟩, l, hl => by
    rcases Q22 hl with rfl | hl
    · exact h1
    · exact jT h2 l hl
def memN (l : Nat) : List Nat → Bool
  | [] => false
  | k :: r => bif Nat.beq k l then true else memN l r
theorem fI {l : Nat} : ∀ {K : List Nat}, memN l K = true ↔ l ∈ K
  | [] => by simp [memN]
  | k :: r => by
    unfold memN
    cases h : Nat.beq k l with
    | true => obtain rfl := Q2 h; simp
    | false =>
      have hne : ¬ l = k := fun e => by subst e; simp at h
      simp only [cond_false, List.mem_cons, hne, false_or]; exact fI
def eZ (K : List Nat) : List (Nat × Option Blk) → List (Nat × Option Blk)
  | [] => []
  | (l, ob) :: r => bif memN l K then eZ K r else (l, ob) :: eZ K r
theorem eY {K : List Nat} {hp : List (Nat × Option Blk)} (l : Nat) : ∀ (P : List (Nat × Option Blk)), (l ∈ K → lkh (eZ K P ++ hp) l = lkh hp l) ∧ (¬ l ∈ K → lkh (eZ K P ++ hp) l = lkh (P ++ hp) l)
  | [] => ⟨fun _ => rfl, fun _ => rfl⟩
  | (m, ob) :: r => by
    obtain ⟨h1, h2⟩ := eY (hp := hp) (K := K) l r
    unfold eZ
    cases hm : memN m K with
    | true =>
      simp only [cond_true]
      refine ⟨h1, fun hn => ?_⟩
      rw [h2 hn, List.cons_append, aj, if_neg (fun (e : m = l) => hn (e ▸ fI.1 hm))]
    | false =>
      simp only [cond_false, List.cons_append, aj]
      refine ⟨fun hl => ?_, fun hn => by rw [h2 hn]⟩
      rw [if_neg (fun (e : m = l) => by rw [e, fI.2 hl] at hm; cases hm)]; exact h1 hl
theorem dA {K : List Nat} {l : Nat} {o : Option Blk} : ∀ {P : List (Nat × Option Blk)}, (l, o) ∈ P → l ∈ K ∨ (l, o) ∈ eZ K P
  | (m, ob) :: r, h => by
    unfold eZ
    cases hm : memN m K with
    | true =>
      simp only [cond_true]
      rcases Q22 h with h | h
      · cases h; exact Or.inl (fI.1 hm)
      · exact dA h
    | false =>
      simp only [cond_false]
      rcases Q22 h with h | h
      · exact Or.inr (by simp [h])
      · exact (dA (P := r) h).imp id fun h => by simp [h]
open Classical in
theorem mi : ∀ (e hp : List (Nat × Option Blk)) (l : Nat), lkh (e ++ hp) l = if (∃ o, (l, o) ∈ e) then lkh e l else lkh hp l
  | [], hp, l => by simp
  | (m, ob) :: r, hp, l => by
    rw [List.cons_append, aj, aj, mi r hp l]
    by_cases h : m = l
    · subst h; rw [if_pos rfl, if_pos ⟨ob, by simp⟩, if_pos rfl]
    · rw [if_neg h, if_neg h]
      by_cases h2 : ∃ o, (l, o) ∈ r
      · rw [if_pos h2, if_pos (by obtain ⟨o, ho⟩ := h2; exact ⟨o, by simp [ho]⟩)]
      · rw [if_neg h2, if_neg (by
          rintro ⟨o, ho⟩
          rcases Q22 ho with ho | ho
          · cases ho; exact h rfl
          · exact h2 ⟨o, ho⟩)]
theorem mH {K : List Nat} {P hp : List (Nat × Option Blk)} (h : gW P hp K) (l : Nat) : lkh (P ++ hp) l = lkh (eZ K P ++ hp) l := by
  by_cases hl : l ∈ K
  · rw [(eY l P).1 hl, mi]
    split
    · exact jT h l hl
    · rfl
  · rw [(eY l P).2 hl]
structure ai (C : Cx) (S : St) (ln g : Nat) (args : List SV) (k : SV → List (Nat × Option Blk) → List Nat → Prop) : Prop where
  out : (∃ r, Pure C g args r ∧ args.all SV.free = true ∧ r.free = true ∧ k r [] []) ∨
    (∃ L args0 H H' r K, Fun C g L.length args0 H L.length r H' ∧ cP L = true ∧ dM H L.length = true ∧ dN H' L.length = true ∧ cX H' L.length = true ∧ bB L args args0 ∧ aO S.hp L H ∧
      gW (aX (πf L S.nx) [] H') S.hp K ∧ k (nd (πf L S.nx) r) (eZ K (aX (πf L S.nx) [] H')) K) ∨
    (∃ L args0 H H' r K, Fun C g L.length args0 H (L.length + 1) r H' ∧ cP L = true ∧ dM H L.length = true ∧ dN H' L.length = true ∧ cX H' (L.length + 1) = true ∧ bB L args args0 ∧ aO S.hp L H ∧
      gW (aX (πn L ln) [] H') S.hp K ∧ k (nd (πn L ln) r) (eZ K (aX (πn L ln) [] H')) K) ∨
    (∃ m r, Fun C g m args [] m r [] ∧ SV.ltB S.nx r = true ∧ Nat.ble S.nx m = true ∧ k r [] [])
theorem ai.pure {C : Cx} {S : St} {ln g : Nat} {args : List SV} {k : SV → List (Nat × Option Blk) → List Nat → Prop} {r : SV} (h : Pure C g args r) (hf : args.all SV.free = true) (hr : r.free = true) (hk : k r [] []) : ai C S ln g args k := ⟨Or.inl ⟨r, h, hf, hr, hk⟩⟩
theorem ai.fun {C : Cx} {S : St} {ln g : Nat} {args : List SV} {k : SV → List (Nat × Option Blk) → List Nat → Prop} {m : Nat} {args0 : List SV} {H H' : List (Nat × Option Blk)} {r : SV} (h : Fun C g m args0 H m r H') (L K : List Nat) (hlen : L.length = m) (hd : cP L = true) (hlive : dM H m = true) (hkeys : dN H' m = true) (hlt : cX H' m = true)
    (ha : bB L args args0) (hh : aO S.hp L H) (hs : gW (aX (πf L S.nx) [] H') S.hp K) (hk : k (nd (πf L S.nx) r) (eZ K (aX (πf L S.nx) [] H')) K) : ai C S ln g args k := by
  subst hlen
  exact ⟨Or.inr (Or.inl ⟨L, args0, H, H', r, K, h, hd, hlive, hkeys, hlt, ha, hh, hs, hk⟩)⟩
theorem ai.new {C : Cx} {S : St} {ln g : Nat} {args : List SV} {k : SV → List (Nat × Option Blk) → List Nat → Prop} {m m' : Nat} {args0 : List SV} {H H' : List (Nat × Option Blk)} {r : SV} (h : Fun C g m args0 H m' r H') (L K : List Nat) (hlen : L.length = m) (hm' : m' = m + 1) (hd : cP L = true) (hlive : dM H m = true) (hkeys : dN H' m = true) (hlt : cX H' m' = true)
    (ha : bB L args args0) (hh : aO S.hp L H) (hs : gW (aX (πn L ln) [] H') S.hp K) (hk : k (nd (πn L ln) r) (eZ K (aX (πn L ln) [] H')) K) : ai C S ln g args k := by
  subst hlen hm'
  exact ⟨Or.inr (Or.inr (Or.inl ⟨L, args0, H, H', r, K, h, hd, hlive, hkeys, hlt, ha, hh, hs, hk⟩))⟩
def eS : Op → Bool
  | .alloc _ => true
  | .buildSlice .. => true
  | .makeSlice .. => true
  | .box .. => true
  | .call _ => true
  | _ => false
def fER (v : SV) (ed : List (Nat × Option Blk)) (rd : List Nat) (k : Ef → Prop) : Prop := cY v fun v' => k ⟨v', ed, rd⟩
theorem fq {v : SV} {ed : List (Nat × Option Blk)} {rd : List Nat} {k : Ef → Prop} (h : fER v ed rd k) : k ⟨v, ed, rd⟩ := bw (k := fun v' => k ⟨v', ed, rd⟩) h
def fE (v : SV) (ed : List (Nat × Option Blk)) (k : Ef → Prop) : Prop := cY v fun v' => k ⟨v', ed, []⟩
theorem rV {v : SV} {ed : List (Nat × Option Blk)} {k : Ef → Prop} (h : fE v ed k) : k ⟨v, ed, []⟩ := bw (k := fun v' => k ⟨v', ed, []⟩) h
def pd (C : Cx) (S : St) (ln : Nat) (f : SV) (args : List SV) (k : Ef → Prop) : Prop :=
  match f with
  | .d (.fn (.func g) []) => ai C S ln g args fun r ed rd => fER r ed rd k
  | .fn (.func g) caps => ai C S ln g (args ++ caps) fun r ed rd => fER r ed rd k
  | _ => False
structure af (C : Cx) (S : St) (ln t : Nat) (x y : SV) (k : SV → List (Nat × Option Blk) → Prop) : Prop where
  out : ∃ L x0 y0 H H' r, lF C t (List.length L) x0 y0 H (L.length + 1) r H' ∧ cP L = true ∧ dM H L.length = true ∧ dN H' L.length = true ∧ cX H' (L.length + 1) = true ∧ bB L [x, y] [x0, y0] ∧ aO S.hp L H ∧
    k (nd (πn L ln) r) (aX (πn L ln) [] H')
theorem Sat.app {C : Cx} {O : Org} {E : Env} {S : St} {a : Act} {w : World} (hs : Sat O E S a w) {ln t ty : Nat} {x y : SV} {u v : Value} {k : SV → List (Nat × Option Blk) → Prop} (hu : RS E S.nx w x u) (hv : RS E S.nx w y v) (h : af C S ln t x y k) (hinv : Inv S ln) (hm : S.nt.m ≤ ln) (hl : ln < S.nx) :
    ∃ z w' E' r ed, (Builtin.append_ #[t, t] ty #[u, v]).run C.P w = .ok z w' ∧ k r ed ∧ Sat O E' (⟨S.nt, S.nx, S.fr, ed ++ S.hp⟩) a w' ∧ RS E' S.nx w' r z := by
  obtain ⟨L, x0, y0, H, H', r, hb, hd, hlive, hkeys, hlt, ha, hh, hk⟩ := h.out
  have hO := hs.nt.2
  have hLn : ∀ i, i < L.length → L.getD i 0 ≠ ln := fun i hi => by
    have := hlive
    unfold dM at this
    rw [Q23] at this
    obtain ⟨b, hb⟩ := Option.isSome_iff_exists.1 (this i (by simpa using hi))
    obtain ⟨g1, g2⟩ := hh.out i b hb
    cases hq : lkh S.hp (L.getD i 0) with
    | none => rw [hq] at g2; cases b <;> exact (show False from g2).elim
    | some b0 => exact ((hinv E E w (fun _ _ => ⟨rfl, rfl⟩) rfl).2 _ _ hq).1
  have hπ1 : ∀ i, i < L.length → πn L ln i = L.getD i 0 := fun i hi => by
    have hb : Nat.blt i L.length = true := by simpa using hi
    unfold πn; rw [hb]; rfl
  have hπ2 : ∀ i, L.length ≤ i → πn L ln i = ln := fun i hi => by
    unfold πn
    cases hb : Nat.blt i L.length with
    | true => have : i < L.length := by simpa using hb
              omega
    | false => rfl
  have hargs : ∀ j (hj : j < [x, y].length), RS E S.nx w [x, y][j] ((#[u, v] : Array Value).getD j undef) := fun j hj => by
    have : j = 0 ∨ j = 1 := by simp at hj; omega
    rcases this with rfl | rfl
    · exact hu
    · exact hv
  obtain ⟨z, w', h1, E', h2, h3⟩ := callP hs L (Pm := fun p => ∃ z w', (Builtin.append_ #[t, t] ty #[u, v]).run C.P w = .ok z w' ∧ p z w') (m' := L.length + 1) (H := H) (H' := H') (r := r) (args := [x, y]) (args0 := [x0, y0]) (fun p q hpq ⟨z, w', h1, h2⟩ => ⟨z, w', h1, hpq z w' h2⟩) #[u, v] (by omega)
    (fun Ec hS hr => hb.out Ec w ty u v hS (hr 0 (by simp)) (hr 1 (by simp))) hd hlive hkeys hlt ha hh (F := fun l => l = ln) (nx' := S.nx) ⟨Q4 _, fun E E' w hρ hI => (hinv E E' w hρ hI).1, fun m b hb => ⟨((hinv E E w (fun _ _ => ⟨rfl, rfl⟩) rfl).2 m b hb).1, fun E E' w hρ hI => ((hinv E E' w hρ hI).2 m b hb).2⟩⟩ (fun l hl => by subst hl; omega) (πn L ln) hπ1 (fun i h1 h2 => ⟨hπ2 i h1, by rw [hπ2 i h1]; exact hl⟩) (fun i j hi hj e => by
      by_cases h1 : i < L.length <;> by_cases h2 : j < L.length
      · rw [hπ1 i h1, hπ1 j h2] at e
        exact Classical.byContradiction fun hne => b9 hd h1 h2 hne e
      · rw [hπ1 i h1, hπ2 j (by omega)] at e; exact absurd e (hLn i h1)
      · rw [hπ2 i (by omega), hπ1 j h2] at e; exact absurd e.symm (hLn j h2)
      · omega) (by rfl) hargs
  refine ⟨z, w', E', _, _, h1, hk, ?_, h3⟩
  have e1 : ∀ H, aX (πn L ln) S.hp H = aX (πn L ln) [] H ++ S.hp := by
    intro H
    induction H with
    | nil => rfl
    | cons q r ih => obtain ⟨i, ob⟩ := q; simp [aX, ih]
  rw [e1] at h2
  exact h2
theorem idx0 (l : Nat) (L : List Nat) : nh (l :: L) l = some 0 := by simp [nh, rL]
theorem idx1 {l l2 : Nat} (L : List Nat) (h : Nat.beq l l2 = false) : nh (l :: l2 :: L) l2 = some 1 := by simp [nh, rL, h]
theorem af.a {C : Cx} {S : St} {ln t l z n m e : Nat} {f g : Nat → List D} {i j : TI} {k : SV → List (Nat × Option Blk) → Prop} (hi : C.tt t = some i) (hk : i.k = .slice e) (hj : C.tt e = some j) (hz : j.size = z) (hc : (Nat.blt 0 j.size && Nat.blt 0 j.bytes && Nat.beq j.zero.length j.size) = true)
    (hl : lkh S.hp l = some (.row e z n f)) (hb : (n + m) * j.bytes ≤ 140737488355328) (h : k (.sl ln z 0 (n + m)) [(l, none), (ln, some (.row e z (n + m) (cq n f g)))]) : af C S ln t (.sl l z 0 n) (.d (.sl z m g)) k :=
  ⟨⟨[l], _, _, _, _, _, lF.a (f := f) hi hk hj hz hc hb, rfl, rfl, rfl, rfl, ⟨aa.sl (idx0 l []), aa.rfl rfl, trivial⟩, ⟨show jE [l] (lkh S.hp l) _ from by rw [hl]; exact ⟨⟨rfl, rfl, rfl⟩, fun i hi => rfl⟩, trivial⟩, h⟩⟩
theorem af.b {C : Cx} {S : St} {ln t l l2 z n m e o m2 e2 : Nat} {f f2 : Nat → List D} {i j : TI} {k : SV → List (Nat × Option Blk) → Prop} (hi : C.tt t = some i) (hk : i.k = .slice e) (hj : C.tt e = some j) (hz : j.size = z) (hc : (Nat.blt 0 j.size && Nat.blt 0 j.bytes && Nat.beq j.zero.length j.size) = true)
    (hl : lkh S.hp l = some (.row e z n f)) (hl2 : lkh S.hp l2 = some (.row e2 z m2 f2)) (hne : Nat.beq l l2 = false) (hb : (n + m) * j.bytes ≤ 140737488355328) (ho : o + m ≤ m2) (h : k (.sl ln z 0 (n + m)) [(l, none), (l2, some (.row e2 z m2 f2)), (ln, some (.row e z (n + m) (cq n f fun i => f2 (o + i))))]) : af C S ln t (.sl l z 0 n) (.sl l2 z o m) k :=
  ⟨⟨[l, l2], _, _, _, _, _, lF.b (f := f) (f2 := f2) (e2 := e2) (m2 := m2) hi hk hj hz hc hb ho, by simp [cP, hne], rfl, rfl, rfl, ⟨aa.sl (idx0 l [l2]), aa.sl (idx1 [] hne), trivial⟩, ⟨show jE [l, l2] (lkh S.hp l) _ from by rw [hl]; exact ⟨⟨rfl, rfl, rfl⟩, fun i hi => rfl⟩, show jE [l, l2] (lkh S.hp l2) _ from by rw [hl2]; exact ⟨⟨rfl, rfl, rfl⟩, fun i hi => rfl⟩, trivial⟩, h⟩⟩
theorem af.c {C : Cx} {S : St} {ln t z m e : Nat} {g : Nat → List D} {i j : TI} {k : SV → List (Nat × Option Blk) → Prop} (hi : C.tt t = some i) (hk : i.k = .slice e) (hj : C.tt e = some j) (hz : j.size = z) (hc : (Nat.blt 0 j.size && Nat.blt 0 j.bytes && Nat.beq j.zero.length j.size) = true)
    (hb : (0 + m) * j.bytes ≤ 140737488355328) (h : k (.sl ln z 0 (0 + m)) [(ln, some (.row e z (0 + m) (cq 0 (fun _ => []) g)))]) : af C S ln t (.d (.val (.slice none 0 0))) (.d (.sl z m g)) k :=
  ⟨⟨[], _, _, _, _, _, lF.c hi hk hj hz hc hb, rfl, rfl, rfl, rfl, ⟨aa.rfl rfl, aa.rfl rfl, trivial⟩, trivial, h⟩⟩
theorem af.d {C : Cx} {S : St} {ln t l2 z m e o m2 e2 : Nat} {f2 : Nat → List D} {i j : TI} {k : SV → List (Nat × Option Blk) → Prop} (hi : C.tt t = some i) (hk : i.k = .slice e) (hj : C.tt e = some j) (hz : j.size = z) (hc : (Nat.blt 0 j.size && Nat.blt 0 j.bytes && Nat.beq j.zero.length j.size) = true)
    (hl2 : lkh S.hp l2 = some (.row e2 z m2 f2)) (hb : (0 + m) * j.bytes ≤ 140737488355328) (ho : o + m ≤ m2) (h : k (.sl ln z 0 (0 + m)) [(l2, some (.row e2 z m2 f2)), (ln, some (.row e z (0 + m) (cq 0 (fun _ => []) fun i => f2 (o + i))))]) : af C S ln t (.d (.val (.slice none 0 0))) (.sl l2 z o m) k :=
  ⟨⟨[l2], _, _, _, _, _, lF.d (f2 := f2) (e2 := e2) (m2 := m2) hi hk hj hz hc hb ho, rfl, rfl, rfl, rfl, ⟨aa.rfl rfl, aa.sl (idx0 l2 []), trivial⟩, ⟨show jE [l2] (lkh S.hp l2) _ from by rw [hl2]; exact ⟨⟨rfl, rfl, rfl⟩, fun i hi => rfl⟩, trivial⟩, h⟩⟩
structure DApx (C : Cx) (t : Nat) (x y : SV) (k : SV → Prop) : Prop where
  out : ∃ z n f m g i e j, x = .d (.slx z n f) ∧ y = .d (.sl z m g) ∧ C.tt t = some i ∧ i.k = .slice e ∧ C.tt e = some j ∧ j.size = z ∧ (Nat.blt 0 j.size && Nat.blt 0 j.bytes && Nat.beq j.zero.length j.size) = true ∧ 0 < m ∧ (n + m) * j.bytes ≤ 140737488355328 ∧ k (.d (.sl z (n + m) (cq n f g)))
theorem DApx.of {C : Cx} {t z n m e : Nat} {f g : Nat → List D} {i j : TI} {k : SV → Prop} (hi : C.tt t = some i) (hk : i.k = .slice e) (hj : C.tt e = some j) (hz : j.size = z) (hc : (Nat.blt 0 j.size && Nat.blt 0 j.bytes && Nat.beq j.zero.length j.size) = true) (hm : Nat.blt 0 m = true) (hb : (n + m) * j.bytes ≤ 140737488355328)
    (h : k (.d (.sl z (n + m) (cq n f g)))) : DApx C t (.d (.slx z n f)) (.d (.sl z m g)) k := ⟨⟨z, n, f, m, g, i, e, j, rfl, rfl, hi, hk, hj, hz, hc, by simpa using hm, hb, h⟩⟩
theorem Sat.apx {C : Cx} {O : Org} {E : Env} {S : St} {a : Act} {w : World} (hs : Sat O E S a w) {t ty : Nat} {x y : SV} {u v : Value} {k : SV → Prop} (hu : RS E S.nx w x u) (hv : RS E S.nx w y v) (h : DApx C t x y k) :
    ∃ z w' E' r, (Builtin.append_ #[t, t] ty #[u, v]).run C.P w = .ok z w' ∧ k r ∧ Sat O E' S a w' ∧ RS E' S.nx w' r z := by
  obtain ⟨z, n, f, m, g, i, e, j, rfl, rfl, hi, hk, hj, hz, hc, hm0, hb, hk'⟩ := h.out
  subst hz
  have ht := (C.ok _ _ hi).slice hk
  obtain ⟨jj, zz, q1, q2, q3, q4, q5⟩ := (C.ok _ _ hj).info
  simp only [Q5] at hc
  obtain ⟨⟨a3, a5⟩, a4⟩ := hc
  have a3 : 0 < j.size := by simpa using a3
  have a5 : 0 < j.bytes := by simpa using a5
  have a4 : j.zero.length = j.size := Q2 a4
  have hzs : zz.cells.size = j.size := by rw [← a4, ← q3]; simp
  have hzc : ∀ p, (Builtin.zeroCells zz.cells p).size = p * j.size := fun p => by simp [Builtin.zeroCells, hzs]
  cases hu with
  | d _ _ hu => cases hu with
    | slx _ _ _ ad hx =>
      obtain ⟨n', f', ad', c', xs, e1, ⟨rfl, rfl⟩, hxs, hxc⟩ := iL (k := fun m' g' => m' = n ∧ g' = f) hs a3 (y := .d (.sl j.size n f)) (RS.d _ _ hx) (by simp [gQ])
      injection e1 with e1 _ e2
      subst e1 e2
      obtain ⟨m', g', bd, c, ys, e3, ⟨rfl, rfl⟩, hys, hcell⟩ := iL (k := fun m' g' => m' = m ∧ g' = g) hs a3 hv (by simp [gQ])
      subst e3
      obtain ⟨b, o, rfl, hcl⟩ := hcell hm0
      have hnm : n' + m' ≤ 140737488355328 := Nat.le_trans (Nat.le_mul_of_pos_right _ a5) hb
      have hcat := hxs.cat hys
      have hcl' : ∀ (q : Nat) (v : Value), ys[q]? = some v → w.cell? ((⟨b, o, none⟩ : Addr).add q) = some v := fun q v hq => by rw [Addr.add_mid]; exact hcl q v hq
      have hbd := dO w (n' + m') n' e hnm
      have hfit := growslice_fits (bytes := jj.bytes) (show n' < n' + m' by omega) (by rw [q5]; exact hb)
      have fin : ∀ w', w' = w.drew.alloc (.cells ((xs ++ ys).toArray ++ Builtin.zeroCells zz.cells (grownCap w (n' + m') n' e - (n' + m'))) e) → (Builtin.append_ #[t, t] ty #[.slice ad n' n', .slice (some ⟨b, o, none⟩) m' c]).run C.P w = .ok (.slice (some ⟨w.heap.size, 0, none⟩) (n' + m') (grownCap w (n' + m') n' e)) w' →
          ∃ z w' E' r, (Builtin.append_ #[t, t] ty #[.slice ad n' n', .slice (some ⟨b, o, none⟩) m' c]).run C.P w = .ok z w' ∧ k r ∧ Sat O E' S a w' ∧ RS E' S.nx w' r z := by
        intro w' hw' hrun
        have hsz : w'.heap.size = w.heap.size + 1 := by rw [hw']; simp [World.size_alloc]
        have hold : ∀ q, q < w.heap.size → w'.heap[q]? = w.heap[q]? := fun q hq => by rw [hw']; exact Below.heap_alloc w.drew _ _ hq
        have hnew : w'.heap[w.heap.size]? = some (.cells ((xs ++ ys).toArray ++ Builtin.zeroCells zz.cells (grownCap w (n' + m') n' e - (n' + m'))) e (0, 0)) := by rw [hw']; exact au w.drew _
        have hs' := hs.newim (w' := w') hold (by omega) (by rw [hw']; exact ⟨rfl, rfl, rfl⟩)
        refine ⟨_, w', _, _, hrun, hk', hs', .d _ _ (.sl _ _ _ _ _ (fun i q => ((xs ++ ys)[i * j.size + q]?).getD undef) hbd.1 hbd.2 hcat.ln (fun _ => ⟨w.heap.size, 0, rfl, Or.inr rfl, fun i q hi hq => ?_⟩) fun i q hi hq => ?_)⟩
        · have h5 : (i + 1) * j.size ≤ (n' + m') * j.size := Q8 _ hi
          rw [Q18] at h5
          have h6 : i * j.size + q < (xs ++ ys).length := by rw [hcat.len]; omega
          have h7 : i * j.size + q < (xs ++ ys).toArray.size := by simpa using h6
          simp only [World.cell?, hnew, Q19]
          rw [Array.getElem?_append_left h7]
          rw [Q0 h6]
          simp [h6]
        · exact (hcat.rd i q hi hq).mono (fun b hb => Or.inl hb) fun b hb => hold b (hs.im b hb).1
      cases ad with
      | none =>
        have hn0 : n' = 0 := by
          rcases Nat.eq_zero_or_pos n' with h0 | h0
          · exact h0
          · obtain ⟨b', o', e9, _⟩ := hxc h0; cases e9
        subst hn0
        have hx0 : xs = [] := by have := hxs.len; simp at this; exact this
        subst hx0
        have hrun := run_append_nil (P := C.P) w t ty e jj zz ht q1 q2 ⟨b, o, none⟩ m' c ys (by rw [hys.len, q4]) hcl' (by omega) (by omega) (by rw [q5]; simp at hb; omega)
        simp only [Q19, List.nil_append] at fin
        exact fin _ rfl hrun
      | some ad2 =>
        have hrun := run_append_grow (P := C.P) w t ty e jj zz ht q1 q2 ad2 n' n' xs (by rw [hxs.len, q4]) (fun q v hq => by
          have hn0 : 0 < n' := by
            rcases Nat.eq_zero_or_pos n' with h0 | h0
            · have := (Q3 hq).1; rw [hxs.len, h0] at this; omega
            · exact h0
          obtain ⟨b', o', e9, hc9⟩ := hxc hn0
          cases e9
          rw [Addr.add_mid]; exact hc9 q v hq) ⟨b, o, none⟩ m' c ys (by rw [hys.len, q4]) hcl' (by omega) (by omega) hfit
        refine fin _ ?_ hrun
        simp
def er (C : Cx) (S : St) (ln : Nat) (b : Builtin) (ts : List Nat) (args : List SV) (k : Ef → Prop) : Prop :=
  match b, ts, args with
  | .append, [t, t2], [x, y] => bif Nat.beq t t2 then (af C S ln t x y fun r ed => fE r ed k) ∨ (DApx C t x y fun r => k ⟨r, [], []⟩) else False
  | .len, [t], [x] => lenK C t x fun v => fE v [] k
  | .min, _, [x, y] => minK x y fun v => fE v [] k
  | .max, _, [x, y] => maxK x y fun v => fE v [] k
  | _, _, _ => False
structure SlxD (C : Cx) (t : Nat) (x h m : SV) (k : SV → Prop) : Prop where
  out : ∃ z n f i e j k1 k2, x = .d (.sl z n f) ∧ h = .d (.val (.int k1 (n : Int))) ∧ m = .d (.val (.int k2 (n : Int))) ∧ C.tt t = some i ∧ i.k = .slice e ∧ C.tt e = some j ∧ j.size = z ∧ Nat.blt 0 j.size = true ∧ k (.d (.slx z n f))
theorem SlxD.of {C : Cx} {t z n e : Nat} {f : Nat → List D} {i j : TI} {k1 k2 : IntKind} {k : SV → Prop} (hi : C.tt t = some i) (hk : i.k = .slice e) (hj : C.tt e = some j) (hz : j.size = z) (hz0 : Nat.blt 0 j.size = true) (h : k (.d (.slx z n f))) : SlxD C t (.d (.sl z n f)) (.d (.val (.int k1 (n : Int)))) (.d (.val (.int k2 (n : Int)))) k :=
  ⟨⟨z, n, f, i, e, j, k1, k2, rfl, rfl, rfl, hi, hk, hj, hz, hz0, h⟩⟩
theorem slxD_ok {C : Cx} {E : Env} {nx : Nat} {w : World} {t : Nat} {x h m : SV} {u uh um : Value} {k : SV → Prop} (hx : RS E nx w x u) (hh : RS E nx w h uh) (hm : RS E nx w m um) (hd : SlxD C t x h m k) :
    ∃ z v, (Instr.sliceAt t u none (some uh) (some um)).run C.P w = .ok z w ∧ k v ∧ RS E nx w v z := by
  obtain ⟨z, n, f, i, e, j, k1, k2, rfl, rfl, rfl, hi, hk, hj, hz, hz0, hkk⟩ := hd.out
  subst hz
  have hz0 : 0 < j.size := by simpa using hz0
  obtain rfl := hh.val_inv
  obtain rfl := hm.val_inv
  have ht := (C.ok _ _ hi).slice hk
  have hsz := (C.ok _ _ hj).sizeOf w
  cases hx with
  | d _ _ hx => cases hx with
    | sl _ _ _ ad cap gv hc hmx hl ha hg =>
      have hr : RD w E.Im (.sl j.size n f) (.slice ad n n) := .sl _ _ _ _ _ gv (Q4 _) (by omega) hl ha hg
      have hrun : (Instr.sliceAt t (.slice ad n cap) none (some (.int k1 (n : Int))) (some (.int k2 (n : Int)))).run C.P w = .ok (.slice ad n n) w := by
        rcases Nat.eq_zero_or_pos n with h0 | h0
        · subst h0
          simp [Instr.sliceAt, run_underlying ht, Instr.slice, Instr.sliceBounds, Instr.sliceBound, asIntOf, hsz]
        · obtain ⟨b, o, rfl, _⟩ := ha (Nat.mul_pos h0 hz0)
          have h1 : (n : Int) ≤ (cap : Int) := by omega
          have h2 : n ≠ 0 := by omega
          simp [Instr.sliceAt, run_underlying ht, Instr.slice, Instr.sliceBounds, Instr.sliceBound, asIntOf, hsz, h1, hc, h2, Addr.add_mid]
      exact ⟨.slice ad n n, _, hrun, hkk, .d _ _ (.slx _ _ _ _ hr)⟩
def nH (C : Cx) (S : St) (ln : Nat) (op : Op) (k : Ef → Prop) : Prop :=
  match op with
  | .move x => fE (ev S x) [] k
  | .assign x => fE (ev S x) [] k
  | .pick c x y => match ev S c with
    | .d (.val (.bool b)) => bif b then fE (ev S x) [] k else fE (ev S y) [] k
    | _ => False
  | .alloc t => match C.tt t with
    | some i => gR i.zero fun cs => k ⟨.ptr ln 0, [(ln, some (.cells cs))], []⟩
    | none => False
  | .load t a => jh C S t (ev S a) fun v => fE v [] k
  | .store t a x => fh C S t (ev S a) (ev S x) fun l b => k ⟨.any, [(l, some b)], []⟩
  | .binOp op t x y _ => binX C op t (ev S x) (ev S y) fun v => fE v [] k
  | .unOp op _ x => unK op (ev S x) fun v => fE v [] k
  | .convert s d x => jv C s d (ev S x) fun v => fE v [] k
  | .fieldAddr t x f => dz C t f (ev S x) fun v => fE v [] k
  | .field t x f => mD C t f (ev S x) fun v => fE v [] k
  | .indexAddr t x i => dv C t (ev S x) (ev S i) fun v => fE v [] k
  | .index t x i => mq C t (ev S x) (ev S i) fun v => fE v [] k
  | .extract x i => fO i (ev S x) fun v => fE v [] k
  | .slice t x lo hi none => lT C t (ev S x) (lo.map (ev S)) (hi.map (ev S)) fun v => fE v [] k
  | .build t parts => kP C S t parts.toList fun v => fE v [] k
  | .buildSlice t n parts => bT C S t n parts.toList fun e z f => k ⟨.sl ln z 0 n, [(ln, some (.row e z n f))], []⟩ ∨ (Nat.blt 0 n = true ∧ k ⟨.d (.sl z n f), [(ln, none)], []⟩)
  | .nilCheck x => gq (ev S x) fun v => fE v [] k
  | .makeFunc fn first caps => match first.toList with
    | [] => evL S caps.toList fun cs => fE (.fn fn cs) [] k
    | _ => False
  | .box _ x => bx (ev S x) fun cs => k ⟨.ptr ln 0, [(ln, some (.cells cs))], []⟩
  | .call c => match c.callee with
    | .value f => evL S c.args.toList fun args => pd C S ln (ev S f) args k
    | .builtin b => evL S c.args.toList fun args => er C S ln b c.argTypes.toList args k
    | _ => False
  | .lookup t m i false => eE C t (ev S m) (ev S i) S.hp fun v l => fER v [] [l] k
  | .slice t x none (some h) (some m) => SlxD C t (ev S x) (ev S h) (ev S m) fun v => fE v [] k
  | .makeSlice t l c => eP C t (ev S l) (ev S c) fun e z n f => k ⟨.sl ln z 0 n, [(ln, some (.row e z n f))], []⟩
  | _ => False
theorem Sat.allocD {O : Org} {E : Env} {S : St} {a : Act} {w : World} (h : Sat O E S a w) {l : Nat} (hl : l < S.nx) (hO : O.nl ≤ l) (hinv : Inv S l) {cs : List SV} {vs : Array Value} (T : TypeId)
    (ht : bK (E.new l w.heap.size) S.nx (w.alloc (.cells vs T)) cs vs.toList) :
    Sat O (E.new l w.heap.size) ⟨S.nt, S.nx, S.fr, (l, some (.cells cs)) :: S.hp⟩ a (w.alloc (.cells vs T)) ∧ RS (E.new l w.heap.size) S.nx (w.alloc (.cells vs T)) (.ptr l 0) (.pointer (some ⟨w.heap.size, 0, none⟩)) := by
  obtain ⟨h1, h2⟩ := hinv E (E.new l w.heap.size) w (fun m hm => ⟨by simp [Env.new, hm], rfl⟩) rfl
  have hr : (E.new l w.heap.size).ρ l = w.heap.size := by simp [Env.new]
  have hEm : ∀ m, m ≠ l → (E.new l w.heap.size).ρ m = E.ρ m := fun m hm => by simp [Env.new, hm]
  have hwk : ∀ k, k < w.heap.size → (w.alloc (.cells vs T)).heap[k]? = w.heap[k]? := fun k hk => Below.heap_alloc _ _ _ hk
  have hwi : ∀ b, E.Im b → (w.alloc (.cells vs T)).heap[b]? = w.heap[b]? := fun b hb => hwk b (h.im b hb).1
  have hlive : ∀ m x, lkh ((l, some (.cells cs)) :: S.hp) m = some x → (m = l ∧ x = .cells cs) ∨ (m ≠ l ∧ lkh S.hp m = some x) := by
    intro m x hm
    rw [aj] at hm
    by_cases e : l = m
    · rw [if_pos e] at hm; cases hm; exact Or.inl ⟨e.symm, rfl⟩
    · rw [if_neg e] at hm; exact Or.inr ⟨fun k => e k.symm, hm⟩
  have hmono : ∀ x v, RS (E.new l w.heap.size) S.nx w x v → RS (E.new l w.heap.size) S.nx (w.alloc (.cells vs T)) x v := fun x v hv => hv.mono (fun _ _ => ⟨rfl, rfl⟩) (Q4 _) (fun _ hb => hb) hwi
  refine ⟨⟨fun n => hmono _ _ (h1 n _ (h.fr n)), h.nt, h.df, ?_, ?_, ?_, ?_, ?_, ?_, ?_, h.nl, h.imo⟩, ?_⟩
  · intro m x hm
    rcases hlive m x hm with ⟨rfl, rfl⟩ | ⟨hn, hm'⟩
    · have := ht.to
      simp only [Array.toArray_toList] at this
      exact ⟨vs, T, by rw [hr]; exact au w _, this.1, this.2⟩
    · exact ((h2 m x hm').2 (h.hp m x hm')).mono (h.nx m x hm') (fun _ _ => ⟨rfl, rfl⟩) (Q4 _) (fun _ hb => hb) hwi (fun hxr => hwk _ (by rw [hEm m hn]; exact (h.hp m x hm').lt hxr))
  · intro m x hm
    rcases hlive m x hm with ⟨rfl, rfl⟩ | ⟨hn, hm'⟩
    · exact hl
    · exact h.nx m x hm'
  · intro m m' x x' hm hm' hxr hxr' hne
    rcases hlive m x hm with ⟨rfl, rfl⟩ | ⟨hn, hm1⟩ <;> rcases hlive m' x' hm' with ⟨rfl, rfl⟩ | ⟨hn', hm1'⟩
    · exact absurd rfl hne
    · rw [hr, hEm m' hn']; have := (h.hp m' x' hm1').lt hxr'; omega
    · rw [hr, hEm m hn]; have := (h.hp m x hm1).lt hxr; omega
    · rw [hEm m hn, hEm m' hn']; exact h.inj m m' x x' hm1 hm1' hxr hxr' hne
  · intro k hk
    obtain ⟨k1, k2, k3⟩ := h.im k hk
    refine ⟨by simp only [World.size_alloc]; omega, k2, fun m x hm hxr => ?_⟩
    rcases hlive m x hm with ⟨rfl, rfl⟩ | ⟨hn, hm'⟩
    · rw [hr]; omega
    · rw [hEm m hn]; exact k3 m x hm' hxr
  · intro m x hm hxr
    rcases hlive m x hm with ⟨rfl, rfl⟩ | ⟨hn, hm'⟩
    · rw [hr]; exact Or.inr h.kq.size
    · rw [hEm m hn]; exact h.own m x hm' hxr
  · exact h.kq.trans ((Kp.refl w).alloc _ |>.kq _)
  · intro m hm
    have hne : m ≠ l := by omega
    rw [hEm m hne]; exact h.lab m hm
  · have := RS.ptr (E := E.new l w.heap.size) (w := w.alloc (.cells vs T)) (nx := S.nx) l 0 hl
    rwa [hr] at this
theorem Sat.allocDr {O : Org} {E : Env} {S : St} {a : Act} {w : World} (h : Sat O E S a w) {l c : Nat} {o : Obj} {b : Blk} (hl : l < S.nx) (hO : O.nl ≤ l) (hinv : Inv S l) (hb : BS (E.newrow l w.heap.size c) S.nx (w.alloc o) l b) :
    Sat O (E.newrow l w.heap.size c) ⟨S.nt, S.nx, S.fr, (l, some b) :: S.hp⟩ a (w.alloc o) := by
  have hEm : ∀ m, m ≠ l → (E.newrow l w.heap.size c).ρ m = E.ρ m ∧ (E.newrow l w.heap.size c).κ m = E.κ m := fun m hm => ⟨by simp [Env.newrow, hm], by simp [Env.newrow, hm]⟩
  obtain ⟨h1, h2⟩ := hinv E (E.newrow l w.heap.size c) w hEm rfl
  have hr : (E.newrow l w.heap.size c).ρ l = w.heap.size := by simp [Env.newrow]
  have hwk : ∀ k, k < w.heap.size → (w.alloc o).heap[k]? = w.heap[k]? := fun k hk => Below.heap_alloc _ _ _ hk
  have hwi : ∀ b, E.Im b → (w.alloc o).heap[b]? = w.heap[b]? := fun b hb => hwk b (h.im b hb).1
  have hlive : ∀ m x, lkh ((l, some b) :: S.hp) m = some x → (m = l ∧ x = b) ∨ (m ≠ l ∧ lkh S.hp m = some x) := by
    intro m x hm
    rw [aj] at hm
    by_cases e : l = m
    · rw [if_pos e] at hm; cases hm; exact Or.inl ⟨e.symm, rfl⟩
    · rw [if_neg e] at hm; exact Or.inr ⟨fun k => e k.symm, hm⟩
  refine ⟨fun n => RS.mono (E := E.newrow l w.heap.size c) (fun _ _ => ⟨rfl, rfl⟩) (Q4 _) (fun _ hb => hb) hwi (h1 n _ (h.fr n)), h.nt, h.df, ?_, ?_, ?_, ?_, ?_, ?_, ?_, h.nl, h.imo⟩
  · intro m x hm
    rcases hlive m x hm with ⟨rfl, rfl⟩ | ⟨hn, hm'⟩
    · exact hb
    · exact ((h2 m x hm').2 (h.hp m x hm')).mono (h.nx m x hm') (fun _ _ => ⟨rfl, rfl⟩) (Q4 _) (fun _ hb => hb) hwi (fun hxr => hwk _ (by rw [(hEm m hn).1]; rw [(hEm m hn).2] at hxr; exact (h.hp m x hm').lt hxr))
  · intro m x hm
    rcases hlive m x hm with ⟨rfl, rfl⟩ | ⟨hn, hm'⟩
    · exact hl
    · exact h.nx m x hm'
  · intro m m' x x' hm hm' hxr hxr' hne
    rcases hlive m x hm with ⟨rfl, rfl⟩ | ⟨hn, hm1⟩ <;> rcases hlive m' x' hm' with ⟨rfl, rfl⟩ | ⟨hn', hm1'⟩
    · exact absurd rfl hne
    · rw [hr, (hEm m' hn').1]; rw [(hEm m' hn').2] at hxr'; have := (h.hp m' x' hm1').lt hxr'; omega
    · rw [hr, (hEm m hn).1]; rw [(hEm m hn).2] at hxr; have := (h.hp m x hm1).lt hxr; omega
    · rw [(hEm m hn).1, (hEm m' hn').1]; rw [(hEm m hn).2] at hxr; rw [(hEm m' hn').2] at hxr'; exact h.inj m m' x x' hm1 hm1' hxr hxr' hne
  · intro k hk
    obtain ⟨k1, k2, k3⟩ := h.im k hk
    refine ⟨by simp only [World.size_alloc]; omega, k2, fun m x hm hxr => ?_⟩
    rcases hlive m x hm with ⟨rfl, rfl⟩ | ⟨hn, hm'⟩
    · rw [hr]; omega
    · rw [(hEm m hn).1]; rw [(hEm m hn).2] at hxr; exact k3 m x hm' hxr
  · intro m x hm hxr
    rcases hlive m x hm with ⟨rfl, rfl⟩ | ⟨hn, hm'⟩
    · rw [hr]; exact Or.inr h.kq.size
    · rw [(hEm m hn).1]; rw [(hEm m hn).2] at hxr; exact h.own m x hm' hxr
  · exact h.kq.trans ((Kp.refl w).alloc _ |>.kq _)
  · intro m hm
    have hne : m ≠ l := by omega
    rw [(hEm m hne).1, (hEm m hne).2]; exact h.lab m hm
def St.ed (S : St) (e : List (Nat × Option Blk)) : St := match S with | ⟨nt, nx, fr, hp⟩ => ⟨nt, nx, fr, e ++ hp⟩
theorem eX : ∀ (vs : List SV) (k k' : List SV → Prop), (∀ r, k r → k' r) → fo vs k → fo vs k'
  | [], k, k', h, hk => h _ hk
  | v :: r, k, k', h, hk => by
    have : ∀ (x : SV) (q q' : SV → Prop), (∀ y, q y → q' y) → kA x q → kA x q' := fun x q q' hq hx => by cases x <;> exact hq _ hx
    exact this v _ _ (fun y hy => eX r _ _ (fun z => h _) hy) hk
theorem nm {x : SV} {k k' : SV → Prop} (h : ∀ r, k r → k' r) (hk : cY x k) : cY x k' := by
  cases x with
  | agg vs => exact eX vs _ _ (fun r => h _) hk
  | tup vs => exact eX vs _ _ (fun r => h _) hk
  | _ => exact h _ hk
theorem jt (S : St) : ∀ (xs : List Operand) (k k' : List SV → Prop), (∀ r, k r → k' r) → evL S xs k → evL S xs k'
  | [], k, k', h, hk => h _ hk
  | x :: r, k, k', h, hk => nm (fun v hv => jt S r _ _ (fun z => h _) hv) hk
theorem oZ {x : SV} {k : SV → Prop} (h : k x) : kA x k := by cases x <;> exact h
theorem gA : ∀ (vs : List SV) (k : List SV → Prop), k vs → fo vs k
  | [], k, h => h
  | v :: r, k, h => oZ (gA r _ h)
theorem oX {x : SV} {k : SV → Prop} (h : k x) : cY x k := by
  cases x with
  | agg vs => exact gA vs _ h
  | tup vs => exact gA vs _ h
  | _ => exact h
theorem s5 (S : St) : ∀ (xs : List Operand) (k : List SV → Prop), evL S xs k → ∃ vs, k vs ∧ ∀ k2 : List SV → Prop, k2 vs → evL S xs k2
  | [], k, h => ⟨[], h, fun _ h => h⟩
  | x :: r, k, h => by
    obtain ⟨vs, h1, h2⟩ := s5 S r _ (bw h)
    exact ⟨_, h1, fun k2 hk => oX (h2 _ hk)⟩
def mW (C : Cx) (O : Org) (S : St) (o : Oper) (a : Act) (w : World) (k : Ef → Prop) : Prop :=
  ∀ (next : Act → World → Prop) (Q : Exit → Act → World → Prop), (∀ v E' w' e, k e → Sat O E' (S.ed e.ed) a w' → RS E' S.nx w' e.val v → next (a.put o.dst v) w') → o.wp C.P a w next Q
theorem mW.of {C : Cx} {O : Org} {S : St} {o : Oper} {a : Act} {w : World} {k : Ef → Prop} (h : eF C O o a w fun S' x => S' = S ∧ fE x [] k) : mW C O S o a w k := by
  intro next Q hk
  refine h next Q fun v E' S' w' x ⟨e, hx⟩ hs hv => ?_
  subst e
  exact hk v E' w' _ (rV hx) hs hv
theorem fU : ∀ (vs : List Value) (k : List SV → Prop), gR vs k → ∃ cs : List SV, k cs ∧ ∀ E nx w, bK E nx w cs vs
  | [], k, h => ⟨[], by simpa [gR] using h, fun _ _ _ => ⟨rfl, fun j x hj => by simp at hj⟩⟩
  | v :: r, k, h => by
    unfold gR at h
    cases hv : v.oneCell' with
    | false => simp [hv] at h
    | true =>
      simp only [hv, cond_true] at h
      obtain ⟨cs, h1, h2⟩ := fU r _ h
      refine ⟨_, h1, fun E nx w => ⟨by simp [(h2 E nx w).1], fun j x hj => ?_⟩⟩
      cases j with
      | zero => simp at hj; subst hj; exact ⟨v, by simp, .d _ _ (.val _ hv), hv⟩
      | succ j => simp at hj; obtain ⟨u, g1, g2⟩ := (h2 E nx w).2 j x hj; exact ⟨u, by simpa using g1, g2⟩
theorem gm (π : Nat → Nat) (hp : List (Nat × Option Blk)) : ∀ H, aX π hp H = aX π [] H ++ hp
  | [] => rfl
  | (i, ob) :: r => by simp [aX, gm π hp r]
theorem effD_ok {C : Cx} {O : Org} {E : Env} {S : St} {a : Act} {w : World} (hs : Sat O E S a w) {ln : Nat} (hl : ln < S.nx) (hO : O.nl ≤ ln) {o : Oper} (hinv : eS o.op = true → Inv S ln) {k : Ef → Prop} (h : nH C S ln o.op k) : mW C O S o a w k := by
  have via : gS C S o.op (fun S' x => S' = S ∧ fE x [] k) → mW C O S o a w k := fun h => .of (eG hs h)
  unfold nH at h
  split at h
  · rename_i x ho; exact via (by rw [ho]; exact ⟨rfl, h⟩)
  · rename_i x ho; exact via (by rw [ho]; exact ⟨rfl, h⟩)
  · rename_i c x y ho
    refine via ?_
    rw [ho]
    simp only [gS, true_and]
    exact h
  · rename_i t ho
    split at h
    · rename_i i hi
      obtain ⟨j, z, h1, h2, h3, h4, _⟩ := (C.ok _ _ hi).info
      obtain ⟨cs, g1, g2⟩ := fU _ _ h
      rw [← h3] at g2
      obtain ⟨e1, e2⟩ := hs.allocD hl hO (hinv (by rw [ho]; rfl)) t (g2 _ S.nx _)
      intro next Q hk
      unfold Oper.wp
      rw [show (execOp a.eval o).run C.P w = .ok (.value (.pointer (some ⟨w.heap.size, 0, none⟩))) (w.alloc (.cells z.cells t)) by simp [execOp, ho, Instr.alloc, zeroValue, typeInfo, h1, h2, newVar, newRow]]
      exact hk _ _ _ _ g1 e1 e2
    · exact h.elim
  · rename_i t x ho; exact via (by rw [ho]; simp only [gS, true_and]; exact h)
  · rename_i t x y ho
    obtain ⟨w', S', h1, ⟨l, b, h2, rfl⟩, h3⟩ := jP (C := C) (t := t) (k := fun S' => ∃ l b, k ⟨.any, [(l, some b)], []⟩ ∧ S' = S.seth l (some b)) hs (aB hs x) (aB hs y) (rg (fun l b hb => ⟨l, b, hb, rfl⟩) h)
    intro next Q hk
    unfold Oper.wp
    rw [show (execOp a.eval o).run C.P w = .ok .skip w' by simp [execOp, ho, h1]]
    exact hk undef E w' _ h2 h3 (.any _)
  · rename_i op t x y _ ho; exact via (by rw [ho]; simp only [gS, true_and]; exact h)
  · rename_i op _ x ho; exact via (by rw [ho]; simp only [gS, true_and]; exact h)
  · rename_i ho; exact via (by rw [ho]; simp only [gS, true_and]; first | exact h | exact eu (by simp only [true_and]; exact h))
  · rename_i ho; exact via (by rw [ho]; simp only [gS, true_and]; first | exact h | exact eu (by simp only [true_and]; exact h))
  · rename_i ho; exact via (by rw [ho]; simp only [gS, true_and]; first | exact h | exact eu (by simp only [true_and]; exact h))
  · rename_i ho; exact via (by rw [ho]; simp only [gS, true_and]; first | exact h | exact eu (by simp only [true_and]; exact h))
  · rename_i ho; exact via (by rw [ho]; simp only [gS, true_and]; first | exact h | exact eu (by simp only [true_and]; exact h))
  · rename_i ho; exact via (by rw [ho]; simp only [gS, true_and]; first | exact h | exact eu (by simp only [true_and]; exact h))
  · rename_i ho; exact via (by rw [ho]; simp only [gS, true_and]; first | exact h | exact eu (by simp only [true_and]; exact h))
  · rename_i ho; exact via (by rw [ho]; simp only [gS, true_and]; first | exact h | exact eu (by simp only [true_and]; exact h))
  · rename_i t n ps ho
    obtain ⟨e, z, f, us', g5, hrun, h1, h2, h3, h4, h5, h6⟩ := dG hs h
    have hr : (E.newrow ln w.heap.size n).ρ ln = w.heap.size := by simp [Env.newrow]
    have hκ : (E.newrow ln w.heap.size n).κ ln = n := by simp [Env.newrow]
    have e1 := hs.allocDr (c := n) (o := .cells us' e) (b := .row e z n f) hl hO (hinv (by rw [ho]; rfl)) ⟨by rw [hκ]; exact Q4 _, by rw [hκ]; exact h1, h2, h3, fun _ => ⟨us', by rw [hr]; exact au w _, by rw [hκ]; exact h4, h5, fun i j hi hj => (h6 i j hi hj).mono (fun _ hb => hb) fun b hb => Below.heap_alloc _ _ _ (hs.im b hb).1⟩⟩
    intro next Q hk
    unfold Oper.wp
    rw [show (execOp a.eval o).run C.P w = .ok (.value (.slice (some ⟨w.heap.size, 0, none⟩) n n)) (w.alloc (.cells us' e)) by simp [execOp, ho, hrun]]
    have hv : RS (E.newrow ln w.heap.size n) S.nx (w.alloc (.cells us' e)) (.sl ln z 0 n) (.slice (some ⟨w.heap.size, 0, none⟩) n n) :=
      .sl _ _ _ _ _ _ hl (Q4 _) h1 (fun _ => by rw [hr, Nat.zero_mul]) (fun _ => ⟨hκ.symm, fun _ => by rw [hr]⟩)
    rcases g5 with g5 | ⟨hn, g5⟩
    · exact hk _ _ _ _ g5 e1 hv
    · have hn : 0 < n := by simpa using hn
      obtain ⟨s1, s2⟩ := e1.imm (w' := w.alloc (.cells us' e)) (l := ln) (e := e) (esz := z) (n := n) (f := f) (by rw [aj, if_pos rfl]) (by rw [hκ]; exact hn) (fun _ _ _ => rfl) rfl ⟨rfl, rfl, rfl⟩ (fun vs hvs => ⟨_, hvs⟩)
      have h7 := s2 0 n _ (by omega) hv
      rw [show (fun i => f (0 + i)) = f from funext fun i => by rw [Q19]] at h7
      refine hk _ _ _ _ g5 (s1.congr' fun l => ?_) h7
      show lkh ((ln, none) :: (ln, some (.row e z n f)) :: S.hp) l = lkh ((ln, none) :: S.hp) l
      rw [aj, aj, aj]
      split <;> rfl
  · rename_i ho; exact via (by rw [ho]; simp only [gS, true_and]; first | exact h | exact eu (by simp only [true_and]; exact h))
  · rename_i fn first caps ho; exact via (by rw [ho]; simp only [gS, true_and]; exact h)
  · rename_i t x ho
    have h1 := ((hinv (by rw [ho]; rfl)) E (E.new ln w.heap.size) w (fun m hm => ⟨by simp [Env.new, hm], rfl⟩) rfl).1
    have hv : RS (E.new ln w.heap.size) S.nx w (ev S x) (a.eval x) := by
      cases x with
      | tmp t => exact h1 t _ (hs.fr t)
      | const v => exact nS _ _ _ v
      | global g => exact .any _
      | func f => exact .d _ _ (.fn _ _ _ (by simp) (fun j hj => by simp at hj))
    have hv2 : RS (E.new ln w.heap.size) S.nx (w.alloc (.cells (a.eval x).cells t)) (ev S x) (a.eval x) := hv.mono (fun _ _ => ⟨rfl, rfl⟩) (Q4 _) (fun _ hb => hb) (fun b hb => Below.heap_alloc _ _ _ (hs.im b hb).1)
    obtain ⟨cs, g1, g2⟩ := aK h hv2
    obtain ⟨e1, e2⟩ := hs.allocD hl hO (hinv (by rw [ho]; rfl)) t g2
    intro next Q hk
    unfold Oper.wp
    rw [show (execOp a.eval o).run C.P w = .ok (.value (.pointer (some ⟨w.heap.size, 0, none⟩))) (w.alloc (.cells (a.eval x).cells t)) by simp [execOp, ho, Instr.box, newVar, newRow]]
    exact hk _ _ _ _ g1 e1 e2
  · rename_i c ho
    split at h
    · rename_i f hc
      refine (fun (hcall : eF C O o a w fun S' x => ∃ ef : Ef, k ef ∧ (S'.nt = S.nt ∧ S'.nx = S.nx ∧ S'.fr = S.fr ∧ ∀ l, lkh S'.hp l = lkh (S.ed ef.ed).hp l) ∧ x = ef.val) => ?_) (eG hs ?_)
      · intro next Q hk
        refine hcall next Q fun v E' S' w' x ⟨ef, h1, h2, h3⟩ hs' hv => ?_
        subst h3
        obtain ⟨nt, nx, fr, hp⟩ := S'
        obtain ⟨nt0, nx0, fr0, hp0⟩ := S
        obtain ⟨rfl, rfl, rfl, h2⟩ := h2
        exact hk v E' w' ef h1 (hs'.congr' h2) hv
      · rw [ho]
        simp only [gS, hc]
        refine jt S _ _ _ (fun args hargs => ?_) h
        have go : ∀ (g : Nat) (args : List SV), ai C S ln g args (fun r ed rd => fER r ed rd k) → ab C S g args fun S' x => ∃ ef : Ef, k ef ∧ (S'.nt = S.nt ∧ S'.nx = S.nx ∧ S'.fr = S.fr ∧ ∀ l, lkh S'.hp l = lkh (S.ed ef.ed).hp l) ∧ x = ef.val := by
          intro g args hargs
          rcases hargs.out with ⟨r, h1, h2, h3, h4⟩ | ⟨L, args0, H, H', r, K, h1, h2, h3, h4, h5, h6, h7, h9, h8⟩ | ⟨L, args0, H, H', r, K, h1, h2, h3, h4, h5, h6, h7, h9, h8⟩ | ⟨m, r, h1, h2, h3, h4⟩
          · exact .pure h1 h2 h3 ⟨_, fq h4, by cases S; exact ⟨rfl, rfl, rfl, fun _ => rfl⟩, rfl⟩
          · refine .fun h1 L rfl h2 h3 h4 h5 h6 h7 ⟨_, fq h8, ?_, rfl⟩
            rw [gm, Nat.sub_self]
            exact ⟨rfl, rfl, rfl, fun l => mH h9 l⟩
          · refine .fresh L h1 h2 h3 h4 h5 h6 h7 (hinv (by rw [ho]; rfl)) (show S.nt.m ≤ ln by have := hs.nt.2; omega) hl ⟨_, fq h8, ?_, rfl⟩
            rw [gm]
            exact ⟨rfl, rfl, rfl, fun l => mH h9 l⟩
          · exact .funM h1 h2 h3 ⟨_, fq h4, by cases S; exact ⟨rfl, rfl, rfl, fun _ => rfl⟩, rfl⟩
        unfold pd at hargs
        split at hargs
        · rename_i g e
          rw [e]
          simp only [sh]
          exact go g args hargs
        · rename_i g caps e
          rw [e]
          simp only [sh]
          have h9 := go g (args ++ caps) hargs
          cases S; exact h9
        · exact hargs.elim
    · rename_i b hc
      obtain ⟨vs0, hk0, hall⟩ := s5 S _ _ h
      obtain ⟨args, ⟨hargs, hall2⟩, h2, h3⟩ := kF hs _ (fun args => er C S ln b c.argTypes.toList args k ∧ ∀ k2 : List SV → Prop, k2 args → evL S c.args.toList k2) (hall _ ⟨hk0, hall⟩)
      by_cases hax : ∃ t x y, b = .append ∧ c.argTypes.toList = [t, t] ∧ args = [x, y] ∧ DApx C t x y fun r => k ⟨r, [], []⟩
      · obtain ⟨t, x, y, rfl, e1, rfl, happ⟩ := hax
        have ht := ay e1
        match hca : c.args.toList, h2, h3 with
        | [p, q], h2, h3 =>
          have hca' := ay hca
          obtain ⟨z, w', E', r, g1, g2, g3, g4⟩ := hs.apx (ty := o.type) (h3 0 p x rfl rfl) (h3 1 q y rfl rfl) happ
          intro next Q hk
          unfold Oper.wp
          rw [show (execOp a.eval o).run C.P w = .ok (.value z) w' by simp [execOp, ho, resolve, hc, invoke, builtin, ht, hca', g1]]
          exact hk z E' w' _ g2 (by cases S; exact g3) g4
        | [], h2, h3 => simp at h2
        | [_], h2, h3 => simp at h2
        | _ :: _ :: _ :: _, h2, h3 => simp at h2
      by_cases hap : ∃ t x y, b = .append ∧ c.argTypes.toList = [t, t] ∧ args = [x, y] ∧ af C S ln t x y fun r ed => fE r ed k
      · obtain ⟨t, x, y, rfl, e1, rfl, happ⟩ := hap
        have ht := ay e1
        match hca : c.args.toList, h2, h3 with
        | [p, q], h2, h3 =>
          have hca' := ay hca
          obtain ⟨z, w', E', r, ed, g1, g2, g3, g4⟩ := hs.app (ty := o.type) (h3 0 p x rfl rfl) (h3 1 q y rfl rfl) happ (hinv (by rw [ho]; rfl)) (show S.nt.m ≤ ln by have := hs.nt.2; omega) hl
          intro next Q hk
          unfold Oper.wp
          rw [show (execOp a.eval o).run C.P w = .ok (.value z) w' by simp [execOp, ho, resolve, hc, invoke, builtin, ht, hca', g1]]
          exact hk z E' w' _ (rV g2) g3 g4
        | [], h2, h3 => simp at h2
        | [_], h2, h3 => simp at h2
        | _ :: _ :: _ :: _, h2, h3 => simp at h2
      · refine via ?_
        rw [ho]
        simp only [gS, hc]
        refine hall2 _ ?_
        unfold er at hargs
        split at hargs
        · rename_i t t2 x y e1
          exfalso
          cases hb : Nat.beq t t2 with
          | false => simp [hb] at hargs
          | true =>
            simp only [hb, cond_true] at hargs
            obtain rfl := Q2 hb
            rcases hargs with hargs | hargs
            · exact hap ⟨t, x, y, rfl, e1, rfl, hargs⟩
            · exact hax ⟨t, x, y, rfl, e1, rfl, hargs⟩
        · rename_i t x e1
          rw [e1]; simp only [eA, true_and]; exact hargs
        · simp only [eA, true_and]; exact hargs
        · simp only [eA, true_and]; exact hargs
        · exact hargs.elim
    · exact h.elim
  · rename_i t m i ho
    obtain ⟨z, v, l, h1, h2, h3⟩ := mg hs (aB hs m) (aB hs i) h
    intro next Q hk
    unfold Oper.wp
    rw [show (execOp a.eval o).run C.P w = .ok (.value z) w by simp [execOp, ho, h1]]
    exact hk z E w _ (fq h2) (by cases S; exact hs) h3
  · rename_i t x hh m ho
    obtain ⟨z, v, h1, h2, h3⟩ := slxD_ok (aB hs x) (aB hs hh) (aB hs m) h
    intro next Q hk
    unfold Oper.wp
    rw [show (execOp a.eval o).run C.P w = .ok (.value z) w by simp [execOp, ho, h1]]
    exact hk z E w _ (rV h2) (by cases S; exact hs) h3
  · rename_i t lx cx ho
    obtain ⟨e, z, n, f, us', g5, hrun, h1, h2, h3, h4, h5, h6⟩ := jg (aB hs lx) (aB hs cx) h
    have hr : (E.newrow ln w.heap.size n).ρ ln = w.heap.size := by simp [Env.newrow]
    have hκ : (E.newrow ln w.heap.size n).κ ln = n := by simp [Env.newrow]
    have e1 := hs.allocDr (c := n) (o := .cells us' e) (b := .row e z n f) hl hO (hinv (by rw [ho]; rfl)) ⟨by rw [hκ]; exact Q4 _, by rw [hκ]; exact h1, h2, h3, fun _ => ⟨us', by rw [hr]; exact au w _, by rw [hκ]; exact h4, h5, fun i j hi hj => (h6 i j hi hj).mono (fun _ hb => hb) fun b hb => Below.heap_alloc _ _ _ (hs.im b hb).1⟩⟩
    intro next Q hk
    unfold Oper.wp
    rw [show (execOp a.eval o).run C.P w = .ok (.value (.slice (some ⟨w.heap.size, 0, none⟩) n n)) (w.alloc (.cells us' e)) by simp [execOp, ho, hrun]]
    have hv : RS (E.newrow ln w.heap.size n) S.nx (w.alloc (.cells us' e)) (.sl ln z 0 n) (.slice (some ⟨w.heap.size, 0, none⟩) n n) :=
      .sl _ _ _ _ _ _ hl (Q4 _) h1 (fun _ => by rw [hr, Nat.zero_mul]) (fun _ => ⟨hκ.symm, fun _ => by rw [hr]⟩)
    exact hk _ _ _ _ g5 e1 hv
  · exact h.elim
end
theorem mF {S S' : St} {x : Operand} (h : ∀ t, x = .tmp t → lk S.fr t = lk S'.fr t) : ev S x = ev S' x := by
  cases x with
  | tmp t => exact h t rfl
  | _ => rfl
theorem en {S S' : St} : ∀ (xs : List Operand) (k : List SV → Prop), (∀ x ∈ xs, ev S x = ev S' x) → evL S xs k = evL S' xs k
  | [], k, h => rfl
  | x :: r, k, h => by
    simp only [evL]
    rw [h x (by simp)]
    congr 1
    funext v
    exact en r _ fun y hy => h y (by simp [hy])
theorem gE {C : Cx} {S S' : St} {fs : List (Nat × Nat)} : ∀ (ps : List (Nat × Operand)) (cs : List SV) (k : List SV → Prop), (∀ p ∈ ps, ev S p.2 = ev S' p.2) → gF C S fs ps cs k = gF C S' fs ps cs k
  | [], cs, k, h => rfl
  | (i, x) :: r, cs, k, h => by
    have ih : ∀ cs' k', gF C S fs r cs' k' = gF C S' fs r cs' k' := fun cs' k' => gE r cs' k' fun p hp => h p (by simp [hp])
    have hx : ev S x = ev S' x := h (i, x) (by simp)
    unfold gF
    simp only [hx, ih]
theorem fp {S S' : St} {z : Nat} : ∀ (ps : List (Nat × Operand)) (cs : List SV) (k : List SV → Prop), (∀ p ∈ ps, ev S p.2 = ev S' p.2) → de S z ps cs k = de S' z ps cs k
  | [], cs, k, h => rfl
  | (i, x) :: r, cs, k, h => by
    have ih : ∀ cs' k', de S z r cs' k' = de S' z r cs' k' := fun cs' k' => fp r cs' k' fun p hp => h p (by simp [hp])
    have hx : ev S x = ev S' x := h (i, x) (by simp)
    unfold de
    simp only [hx, ih]
def kh : SV → List Nat
  | .ptr l _ => [l]
  | .rp l _ _ _ => [l]
  | _ => []
def iu (S : St) : Op → List Nat
  | .load _ a => kh (ev S a)
  | .store _ a _ => kh (ev S a)
  | _ => []
theorem lp {C : Cx} {S S' : St} {t : Nat} {x : SV} {k : SV → Prop} (h : ∀ l ∈ kh x, lkh S.hp l = lkh S'.hp l) : jh C S t x k = jh C S' t x k := by
  cases x with
  | ptr l off => simp only [jh]; rw [h _ (by simp [kh])]
  | rp l z i off => simp only [jh]; rw [h _ (by simp [kh])]
  | d x => cases x <;> rfl
  | _ => rfl
theorem jQ {C : Cx} {S S' : St} {t : Nat} {x y : SV} {k : Nat → Blk → Prop} (h : ∀ l ∈ kh x, lkh S.hp l = lkh S'.hp l) : fh C S t x y k = fh C S' t x y k := by
  cases x with
  | ptr l off => simp only [fh]; rw [h _ (by simp [kh])]
  | rp l z i off => simp only [fh]; rw [h _ (by simp [kh])]
  | _ => rfl
theorem ki {π : Nat → Nat} : ∀ {H : List (Nat × Option Blk)} {i : Nat}, (∃ o, (i, o) ∈ H) → ∃ o, (π i, o) ∈ aX π [] H
  | [], i, ⟨o, h⟩ => by simp at h
  | (j, ob) :: r, i, ⟨o, h⟩ => by
    rcases Q22 h with h | h
    · cases h; exact ⟨ob.map (oa π), by simp [aX]⟩
    · obtain ⟨o', h'⟩ := ki (π := π) (H := r) ⟨o, h⟩
      exact ⟨o', by simp [aX, h']⟩
theorem dJ {P hp hp' : List (Nat × Option Blk)} : ∀ {K : List Nat}, (∀ l ∈ K, lkh hp l = lkh hp' l) → gW P hp K → gW P hp' K
  | [], _, _ => trivial
  | k :: r, h, ⟨h1, h2⟩ => ⟨h1.trans (h k (by simp)), dJ (fun l hl => h l (by simp [hl])) h2⟩
theorem keyH {S S' : St} {P : List (Nat × Option Blk)} (hk : ∀ l o, (l, o) ∈ P → lkh S.hp l = lkh S'.hp l) : ∀ (L : List Nat) (π : Nat → Nat) (H H' : List (Nat × Option Blk)), dN H' L.length = true → (∀ i, i < L.length → π i = L.getD i 0) → aX π [] H' = P → aO S.hp L H → aO S'.hp L H := by
  intro L π H H' h4 hπ h8 h7
  have hag : ∀ i, i < L.length → lkh S.hp (L.getD i 0) = lkh S'.hp (L.getD i 0) := fun i hi => by
    unfold dN at h4
    rw [Q23] at h4
    have := h4 i (by simpa using hi)
    rw [List.any_eq_true] at this
    obtain ⟨⟨p1, p2⟩, hp1, hp2⟩ := this
    have hp3 := Q2 hp2
    simp only at hp3
    subst hp3
    obtain ⟨o, ho⟩ := ki (π := π) ⟨p2, hp1⟩
    rw [h8, hπ _ hi] at ho
    exact hk _ _ ho
  have key : ∀ (Hx : List (Nat × Option Blk)), aO S.hp L Hx → aO S'.hp L Hx := by
    intro Hx
    induction Hx with
    | nil => exact fun h => h
    | cons p r ih =>
      obtain ⟨i, ob⟩ := p
      cases ob with
      | none => exact fun h => ih h
      | some b =>
        intro h9
        unfold aO at h9 ⊢
        cases hb : Nat.blt i L.length with
        | false => simp [hb] at h9
        | true =>
          simp only [hb, cond_true] at h9 ⊢
          exact ⟨by rw [← hag i (by simpa using hb)]; exact h9.1, ih h9.2⟩
  exact key H h7
theorem iC {C : Cx} {S S' : St} {ln : Nat} {op : Op} {ef : Ef} (hnx : S.nx = S'.nx) (hx : ∀ x ∈ op.operands.toList, ev S x = ev S' x) (hl : ∀ l ∈ iu S op, lkh S.hp l = lkh S'.hp l) (hk : ∀ l o, (l, o) ∈ ef.ed → lkh S.hp l = lkh S'.hp l) (hr : ∀ l ∈ ef.rd, lkh S.hp l = lkh S'.hp l)
    (h : nH C S ln op (fun e => e = ef)) : nH C S' ln op (fun e => e = ef) := by
  cases op <;> simp only [nH] at h ⊢
  case move x => rw [← hx x (by simp [Op.operands])]; exact h
  case assign x => rw [← hx x (by simp [Op.operands])]; exact h
  case pick c x y => rw [← hx c (by simp [Op.operands]), ← hx x (by simp [Op.operands]), ← hx y (by simp [Op.operands])]; exact h
  case alloc t => exact h
  case box t x => rw [← hx x (by simp [Op.operands])]; exact h
  case load t a => rw [← hx a (by simp [Op.operands]), ← lp (S := S) (by simpa [iu] using hl)]; exact h
  case store t a x => rw [← hx a (by simp [Op.operands]), ← hx x (by simp [Op.operands]), ← jQ (S := S) (by simpa [iu] using hl)]; exact h
  case binOp op t x y _ => rw [← hx x (by simp [Op.operands]), ← hx y (by simp [Op.operands])]; exact h
  case unOp op _ x => rw [← hx x (by simp [Op.operands])]; exact h
  case convert s d x => rw [← hx x (by simp [Op.operands])]; exact h
  case fieldAddr t x f => rw [← hx x (by simp [Op.operands])]; exact h
  case field t x f => rw [← hx x (by simp [Op.operands])]; exact h
  case indexAddr t x i => rw [← hx x (by simp [Op.operands]), ← hx i (by simp [Op.operands])]; exact h
  case index t x i => rw [← hx x (by simp [Op.operands]), ← hx i (by simp [Op.operands])]; exact h
  case extract x i => rw [← hx x (by simp [Op.operands])]; exact h
  case nilCheck x => rw [← hx x (by simp [Op.operands])]; exact h
  case slice t x lo hi mx =>
    cases mx with
    | some m =>
      cases lo with
      | some a => simp at h
      | none =>
        cases hi with
        | none => simp at h
        | some a =>
          simp only at h ⊢
          rw [← hx x (by simp [Op.operands]), ← hx a (by simp [Op.operands]), ← hx m (by simp [Op.operands])]; exact h
    | none =>
      simp only at h ⊢
      rw [← hx x (by simp [Op.operands])]
      have h1 : lo.map (ev S) = lo.map (ev S') := by cases lo with
        | none => rfl
        | some a => simp [hx a (by simp [Op.operands])]
      have h2 : hi.map (ev S) = hi.map (ev S') := by cases hi with
        | none => rfl
        | some a => simp [hx a (by simp [Op.operands])]
      rw [← h1, ← h2]; exact h
  case build t ps =>
    unfold kP at h ⊢
    have hc : ∀ fs cs k, gF C S fs ps.toList cs k = gF C S' fs ps.toList cs k := fun fs cs k => gE _ _ _ fun p hp => hx p.2 (by simp [Op.operands]; exact ⟨p.1, by simpa using hp⟩)
    simp only [hc] at h
    exact h
  case buildSlice t n ps =>
    unfold bT at h ⊢
    have hc : ∀ z cs k, de S z ps.toList cs k = de S' z ps.toList cs k := fun z cs k => fp _ _ _ fun p hp => hx p.2 (by simp [Op.operands]; exact ⟨p.1, by simpa using hp⟩)
    simp only [hc] at h
    exact h
  case makeSlice t l c => rw [← hx l (by simp [Op.operands]), ← hx c (by simp [Op.operands])]; exact h
  case makeFunc fn first caps =>
    split at h
    · rw [← en _ _ fun x hx' => hx x (by simp [Op.operands]; exact Or.inr (by simpa using hx'))]
      exact h
    · exact h.elim
  case lookup t m i ok =>
    cases ok with
    | true => simp at h
    | false =>
      simp only at h ⊢
      rw [← hx m (by simp [Op.operands]), ← hx i (by simp [Op.operands])]
      obtain ⟨kt, et, b, l, mm, keys, g, s, v, h1, h2, h3, h4, h5, h6, h7, h8⟩ := h.out
      have e8 := fq h8
      exact ⟨⟨kt, et, b, l, mm, keys, g, s, v, h1, h2, h3, h4, h5, by rw [← hr l (by rw [← e8]; exact List.mem_singleton.2 rfl)]; exact h6, h7, h8⟩⟩
  case call c =>
    split at h
    · rename_i f hc
      have hf : ev S f = ev S' f := hx f (by simp [Op.operands, Call.operands, hc])
      rw [← en _ _ fun x hx' => hx x (by simp [Op.operands, Call.operands, hc]; exact Or.inr (by simpa using hx'))]
      refine jt S _ _ _ (fun args hargs => ?_) h
      rw [← hf]
      have go : ∀ (g : Nat) (args : List SV), ai C S ln g args (fun r ed rd => fER r ed rd fun e => e = ef) → ai C S' ln g args (fun r ed rd => fER r ed rd fun e => e = ef) := by
        intro g args hargs
        refine ⟨?_⟩
        rcases hargs.out with h1 | ⟨L, args0, H, H', r, K, h1, h2, h3, h4, h5, h6, h7, h9, h8⟩ | ⟨L, args0, H, H', r, K, h1, h2, h3, h4, h5, h6, h7, h9, h8⟩ | ⟨m, r, h1, h2, h3, h4⟩
        · exact Or.inl h1
        · have e8 := fq h8
          have hkP : ∀ l o, (l, o) ∈ aX (πf L S.nx) [] H' → lkh S.hp l = lkh S'.hp l := fun l o hlo => by
            rcases dA (K := K) hlo with h | h
            · exact hr l (by rw [← e8]; exact h)
            · exact hk l o (by rw [← e8]; exact h)
          refine Or.inr (Or.inl ⟨L, args0, H, H', r, K, h1, h2, h3, h4, h5, h6, keyH hkP L (πf L S.nx) H H' h4 (fun i hi => ?_) rfl h7, ?_, by rw [← hnx]; exact h8⟩)
          rotate_left
          · rw [← hnx]
            have hrK : ∀ l ∈ K, lkh S.hp l = lkh S'.hp l := fun l hl => hr l (by rw [← e8]; exact hl)
            exact dJ hrK h9
          have hb : Nat.blt i L.length = true := by simpa using hi
          unfold πf; rw [hb]; rfl
        · have e8 := fq h8
          have hkP : ∀ l o, (l, o) ∈ aX (πn L ln) [] H' → lkh S.hp l = lkh S'.hp l := fun l o hlo => by
            rcases dA (K := K) hlo with h | h
            · exact hr l (by rw [← e8]; exact h)
            · exact hk l o (by rw [← e8]; exact h)
          refine Or.inr (Or.inr (Or.inl ⟨L, args0, H, H', r, K, h1, h2, h3, h4, h5, h6, keyH hkP L (πn L ln) H H' h4 (fun i hi => ?_) rfl h7, ?_, h8⟩))
          rotate_left
          · have hrK : ∀ l ∈ K, lkh S.hp l = lkh S'.hp l := fun l hl => hr l (by rw [← e8]; exact hl)
            exact dJ hrK h9
          have hb : Nat.blt i L.length = true := by simpa using hi
          unfold πn; rw [hb]; rfl
        · exact Or.inr (Or.inr (Or.inr ⟨m, r, h1, by rw [← hnx]; exact h2, by rw [← hnx]; exact h3, h4⟩))
      unfold pd at hargs ⊢
      split at hargs
      · rename_i g e; exact go g args hargs
      · rename_i g caps e; exact go g _ hargs
      · exact hargs.elim
    · rename_i b hc
      rw [← en _ _ fun x hx' => hx x (by simp [Op.operands, Call.operands, hc]; simpa using hx')]
      refine jt S _ _ _ (fun args hargs => ?_) h
      unfold er at hargs ⊢
      split at hargs
      · rename_i t t2 x y e1
        cases hb : Nat.beq t t2 with
        | false => simp [hb] at hargs
        | true =>
          simp only [hb, cond_true] at hargs ⊢
          rcases hargs with hargs | hargs
          rotate_left
          · exact Or.inr hargs
          left
          obtain ⟨L, x0, y0, H, H', r, h1, h2, h3, h4, h5, h6, h7, h8⟩ := hargs.out
          refine ⟨L, x0, y0, H, H', r, h1, h2, h3, h4, h5, h6, keyH hk L (πn L ln) H H' h4 (fun i hi => ?_) (by rw [← rV h8]) h7, h8⟩
          have hb : Nat.blt i L.length = true := by simpa using hi
          unfold πn; rw [hb]; rfl
      · exact hargs
      · exact hargs
      · exact hargs
      · exact hargs.elim
    · exact h.elim
section
def St.step : St → Option Nat → Ef → St
  | ⟨nt, nx, fr, hp⟩, some n, e => ⟨nt, nx, (n, e.val) :: fr, e.ed ++ hp⟩
  | ⟨nt, nx, fr, hp⟩, none, e => ⟨nt, nx, fr, e.ed ++ hp⟩
structure gP (S S' : St) : Prop where
  nt : S.nt = S'.nt
  nx : S.nx = S'.nx
  fr : ∀ n, lk S.fr n = lk S'.fr n
  hp : ∀ l, lkh S.hp l = lkh S'.hp l
theorem gP.refl (S : St) : gP S S := ⟨rfl, rfl, fun _ => rfl, fun _ => rfl⟩
theorem gP.symm {S S' : St} (h : gP S S') : gP S' S := ⟨h.nt.symm, h.nx.symm, fun n => (h.fr n).symm, fun l => (h.hp l).symm⟩
theorem gP.trans {S S' S'' : St} (h : gP S S') (k : gP S' S'') : gP S S'' := ⟨h.nt.trans k.nt, h.nx.trans k.nx, fun n => (h.fr n).trans (k.fr n), fun l => (h.hp l).trans (k.hp l)⟩
theorem Sat.congr {O : Org} {E : Env} {S S' : St} {a : Act} {w : World} (e : gP S S') (h : Sat O E S a w) : Sat O E S' a w := by
  obtain ⟨nt, nx, fr, hp⟩ := S
  obtain ⟨nt', nx', fr', hp'⟩ := S'
  obtain ⟨e1, e2, e3, e4⟩ := e
  simp only at e1 e2 e3 e4
  subst e1 e2
  refine ⟨fun n => ?_, h.nt, h.df, fun l b hb => h.hp l b ?_, fun l b hb => h.nx l b ?_, fun l l' b b' hb hb' => h.inj l l' b b' ?_ ?_, fun b hb => ⟨(h.im b hb).1, (h.im b hb).2.1, fun l x hl => (h.im b hb).2.2 l x ?_⟩, fun l b hb => h.own l b ?_, h.kq, h.lab, h.nl, h.imo⟩
  · have := h.fr n
    simp only at this ⊢
    rw [← e3]; exact this
  all_goals (simp only at *; rw [e4]; assumption)
open Classical in
theorem oI : ∀ (e hp : List (Nat × Option Blk)) (l : Nat), lkh (e ++ hp) l = if (∃ o, (l, o) ∈ e) then lkh e l else lkh hp l
  | [], hp, l => by simp
  | (m, ob) :: r, hp, l => by
    rw [List.cons_append, aj, aj, oI r hp l]
    by_cases h : m = l
    · subst h; rw [if_pos rfl, if_pos ⟨ob, by simp⟩, if_pos rfl]
    · rw [if_neg h, if_neg h]
      by_cases h2 : ∃ o, (l, o) ∈ r
      · rw [if_pos h2, if_pos (by obtain ⟨o, ho⟩ := h2; exact ⟨o, by simp [ho]⟩)]
      · rw [if_neg h2, if_neg (by
          rintro ⟨o, ho⟩
          rcases Q22 ho with ho | ho
          · cases ho; exact h rfl
          · exact h2 ⟨o, ho⟩)]
theorem fV (S : St) (d : Option Nat) (e : Ef) : (S.step d e).nt = S.nt ∧ (S.step d e).nx = S.nx := by cases S; cases d <;> exact ⟨rfl, rfl⟩
theorem iS (S : St) (d : Option Nat) (e : Ef) (n : Nat) : lk (S.step d e).fr n = if d = some n then e.val else lk S.fr n := by
  cases S
  cases d with
  | none => simp [St.step]
  | some m => simp only [St.step, cj, Option.some.injEq]
open Classical in
theorem iR (S : St) (d : Option Nat) (e : Ef) (l : Nat) : lkh (S.step d e).hp l = if (∃ o, (l, o) ∈ e.ed) then lkh e.ed l else lkh S.hp l := by
  cases S
  cases d <;> exact oI _ _ _
theorem gP.step {S S' : St} (h : gP S S') (d : Option Nat) (e : Ef) : gP (S.step d e) (S'.step d e) :=
  ⟨by rw [(fV S d e).1, (fV S' d e).1, h.nt], by rw [(fV S d e).2, (fV S' d e).2, h.nx], fun n => by rw [iS, iS, h.fr], fun l => by rw [iR, iR, h.hp]⟩
abbrev Pt := Oper × Ef
def am : List Pt → St → St
  | [], S => S
  | p :: r, S => am r (S.step p.1.dst p.2)
theorem cS : ∀ (l : List Pt) (S : St), (am l S).nt = S.nt ∧ (am l S).nx = S.nx
  | [], S => ⟨rfl, rfl⟩
  | p :: r, S => by
    obtain ⟨h1, h2⟩ := cS r (S.step p.1.dst p.2)
    obtain ⟨h3, h4⟩ := fV S p.1.dst p.2
    exact ⟨h1.trans h3, h2.trans h4⟩
theorem eh : ∀ (l : List Pt) (S : St) (n : Nat), (∀ p ∈ l, p.1.dst ≠ some n) → lk (am l S).fr n = lk S.fr n
  | [], S, n, h => rfl
  | p :: r, S, n, h => by
    rw [am, eh r _ n fun q hq => h q (by simp [hq]), iS, if_neg (h p (by simp))]
theorem fN : ∀ (l : List Pt) (S : St) (n : Nat) (v : SV), (∃ p ∈ l, p.1.dst = some n) → (∀ p ∈ l, p.1.dst = some n → p.2.val = v) → lk (am l S).fr n = v
  | [], S, n, v, ⟨p, hp, _⟩, h => by simp at hp
  | p :: r, S, n, v, hex, h => by
    by_cases h2 : ∃ q ∈ r, q.1.dst = some n
    · exact fN r _ n v h2 fun q hq => h q (by simp [hq])
    · rw [am, eh r _ n fun q hq e => h2 ⟨q, hq, e⟩, iS]
      obtain ⟨q, hq, e⟩ := hex
      rcases Q22 hq with rfl | hq
      · rw [if_pos e]; exact h _ (by simp) e
      · exact absurd ⟨q, hq, e⟩ h2
theorem jr : ∀ (l : List Pt) (S : St) (n : Nat), (∀ p ∈ l, ∀ o, (n, o) ∉ p.2.ed) → lkh (am l S).hp n = lkh S.hp n
  | [], S, n, h => rfl
  | p :: r, S, n, h => by
    rw [am, jr r _ n fun q hq => h q (by simp [hq]), iR, if_neg (by rintro ⟨o, ho⟩; exact h p (by simp) o ho)]
theorem nn (l m : List Pt) (S : St) : am (l ++ m) S = am m (am l S) := by
  induction l generalizing S with
  | nil => rfl
  | cons p r ih => exact ih _
def ci (C : Cx) (ops : List Oper) (ln : Nat) (S : St) (o : Oper) (ef : Ef) : Prop :=
  match o.guard with
  | none => nH C S ln o.op fun e => e = ef
  | some (j, want) => ∃ t, (ops[j]?).bind (·.dst) = some t ∧ ((∃ b, lk S.fr t = .b b ∧ (b = want → nH C S ln o.op fun e => e = ef) ∧ (b ≠ want → ef = ⟨.tup [], [], []⟩)) ∨ (lk S.fr t = .tup [] ∧ ef = ⟨.tup [], [], []⟩))
structure Go (p : Prop) : Prop where
  out : p
def edK : List (Nat × Option Blk) → List (Nat × Option Blk) → (List (Nat × Option Blk) → Prop) → Prop
  | [], hp, k => k hp
  | x :: r, hp, k => edK r hp fun h => k (x :: h)
theorem s7 : ∀ (e hp : List (Nat × Option Blk)) (k : List (Nat × Option Blk) → Prop), edK e hp k → k (e ++ hp)
  | [], hp, k, h => h
  | x :: r, hp, k, h => s7 r hp _ h
def nU (S : St) (dst : Option Nat) (ef : Ef) (k : St → Prop) : Prop :=
  match S, dst, ef with
  | ⟨nt, nx, fr, hp⟩, some n, ⟨v, ed, _⟩ => edK ed hp fun hp' => k ⟨nt, nx, (n, v) :: fr, hp'⟩
  | ⟨nt, nx, fr, hp⟩, none, ⟨_, ed, _⟩ => edK ed hp fun hp' => k ⟨nt, nx, fr, hp'⟩
theorem dp {S : St} {dst : Option Nat} {ef : Ef} {k : St → Prop} (h : nU S dst ef k) : k (S.step dst ef) := by
  obtain ⟨nt, nx, fr, hp⟩ := S
  obtain ⟨v, ed, rd⟩ := ef
  cases dst <;> exact s7 _ _ _ h
structure ao (A B : Ef → Prop) : Prop where
  out : ∃ ef, A ef ∧ B ef
theorem ao.of {A B : Ef → Prop} (ef : Ef) (h1 : A ef) (h2 : Go (B ef)) : ao A B := ⟨ef, h1, h2.out⟩
def runR (C : Cx) (S : St) (ln : Nat) (o : Oper) (k : Ef → St → Prop) : Prop := ao (fun ef => nH C S ln o.op fun e => e = ef) fun ef => nU S o.dst ef fun S' => k ef S'
def cC (C : Cx) (ops : List Oper) (n0 : Nat) : List Oper → Nat → St → (List Ef → St → Prop) → Prop
  | [], _, S, k => k [] S
  | o :: r, i, S, k => match o.guard with
    | none => runR C S (n0 + i) o fun ef S' => cC C ops n0 r (i + 1) S' fun efs => k (ef :: efs)
    | some (j, want) => match (ops[j]?).bind (·.dst) with
      | some t => match lk S.fr t with
        | .d (.val (.bool b)) => match want with
          | true => bif b then runR C (setSlot S t true) (n0 + i) o (fun ef S' => cC C ops n0 r (i + 1) S' fun efs => k (ef :: efs)) else nU (setSlot S t false) o.dst ⟨.tup [], [], []⟩ fun S' => cC C ops n0 r (i + 1) S' fun efs => k (⟨.tup [], [], []⟩ :: efs)
          | false => bif b then nU (setSlot S t true) o.dst ⟨.tup [], [], []⟩ (fun S' => cC C ops n0 r (i + 1) S' fun efs => k (⟨.tup [], [], []⟩ :: efs)) else runR C (setSlot S t false) (n0 + i) o fun ef S' => cC C ops n0 r (i + 1) S' fun efs => k (ef :: efs)
        | .tup [] => nU S o.dst ⟨.tup [], [], []⟩ fun S' => cC C ops n0 r (i + 1) S' fun efs => k (⟨.tup [], [], []⟩ :: efs)
        | _ => False
      | none => False
theorem nc {S : St} {t : Nat} {b : Bool} (h : lk S.fr t = .b b) : gP S (setSlot S t b) := by
  obtain ⟨nt, nx, fr, hp⟩ := S
  refine ⟨rfl, rfl, fun n => ?_, fun _ => rfl⟩
  simp only [setSlot, cj]
  by_cases e : t = n
  · subst e; rw [if_pos rfl]; exact h
  · rw [if_neg e]
theorem pb {C : Cx} {S S' : St} (e : gP S S') {ln : Nat} {op : Op} {ef : Ef} (h : nH C S ln op fun x => x = ef) : nH C S' ln op fun x => x = ef :=
  iC e.nx (fun x _ => mF fun t _ => e.fr t) (fun l _ => e.hp l) (fun l _ _ => e.hp l) (fun l _ => e.hp l) h
theorem ci.congr {C : Cx} {ops : List Oper} {ln : Nat} {S S' : St} {o : Oper} {ef : Ef} (e : gP S S') (h : ci C ops ln S o ef) : ci C ops ln S' o ef := by
  unfold ci at h ⊢
  split at h
  · exact pb e h
  · obtain ⟨t, h1, ⟨b, h2, h3, h4⟩ | ⟨h2, h3⟩⟩ := h
    · exact ⟨t, h1, Or.inl ⟨b, by rw [← e.fr]; exact h2, fun hb => pb e (h3 hb), h4⟩⟩
    · exact ⟨t, h1, Or.inr ⟨by rw [← e.fr]; exact h2, h3⟩⟩
theorem mE {C : Cx} {ops : List Oper} {n0 : Nat} : ∀ (l : List Oper) (i : Nat) (S : St) (k : List Ef → St → Prop), cC C ops n0 l i S k →
    ∃ (efs : List Ef) (Sn : St), k efs Sn ∧ efs.length = l.length ∧ gP Sn (am (l.zip efs) S) ∧ ∀ (j : Nat) (o : Oper) (ef : Ef), l[j]? = some o → efs[j]? = some ef → ci C ops (n0 + (i + j)) (am ((l.zip efs).take j) S) o ef
  | [], i, S, k, h => ⟨[], S, h, rfl, .refl _, fun j o ef ho => by simp at ho⟩
  | o :: r, i, S, k, h => by
    have fin : ∀ (S1 : St) (ef : Ef), gP S S1 → ci C ops (n0 + i) S1 o ef → cC C ops n0 r (i + 1) (S1.step o.dst ef) (fun efs => k (ef :: efs)) →
        ∃ (efs : List Ef) (Sn : St), k efs Sn ∧ efs.length = (o :: r).length ∧ gP Sn (am ((o :: r).zip efs) S) ∧ ∀ (j : Nat) (o' : Oper) (ef : Ef), (o :: r)[j]? = some o' → efs[j]? = some ef → ci C ops (n0 + (i + j)) (am (((o :: r).zip efs).take j) S) o' ef := by
      intro S1 ef hS hst hx
      obtain ⟨efs, Sn, h1, h2, h3, h4⟩ := mE r (i + 1) _ _ hx
      have cong : ∀ (l : List Pt) (S S' : St), gP S S' → gP (am l S) (am l S') := by
        intro l
        induction l with
        | nil => exact fun S S' h => h
        | cons p l ih => exact fun S S' h => ih _ _ (h.step _ _)
      refine ⟨ef :: efs, Sn, h1, by simp [h2], h3.trans (cong _ _ _ ((hS.step _ _).symm)), fun j o' ef' ho he => ?_⟩
      cases j with
      | zero => simp at ho he; subst ho he; exact hst.congr hS.symm
      | succ j =>
        simp at ho he
        have := h4 j o' ef' ho he
        rw [show i + (j + 1) = i + 1 + j by omega]
        have e := cong ((r.zip efs).take j) _ _ (hS.step o.dst ef).symm
        exact this.congr e
    unfold cC at h
    split at h
    · rename_i hg
      obtain ⟨ef, h1, h2⟩ := h.out
      exact fin S ef (.refl S) (by unfold ci; rw [hg]; exact h1) (dp (k := fun S' => cC C ops n0 r (i + 1) S' fun efs => k (ef :: efs)) h2)
    · rename_i j want hg
      split at h
      · rename_i t ht
        split at h
        · rename_i b hb
          have hS := nc hb
          have hb' : ∀ c, b = c → lk (setSlot S t c).fr t = .b c := fun c hc => by subst hc; rw [← hS.fr]; exact hb
          have okr : ∀ c ef, b = c → c = want → nH C (setSlot S t c) (n0 + i) o.op (fun e => e = ef) → ci C ops (n0 + i) (setSlot S t c) o ef := fun c ef hc hw h1 => by
            unfold ci; rw [hg]; exact ⟨t, ht, Or.inl ⟨c, hb' c hc, fun _ => h1, fun hne => absurd hw hne⟩⟩
          have oks : ∀ c, b = c → c ≠ want → ci C ops (n0 + i) (setSlot S t c) o ⟨.tup [], [], []⟩ := fun c hc hw => by
            unfold ci; rw [hg]; exact ⟨t, ht, Or.inl ⟨c, hb' c hc, fun he => absurd he hw, fun _ => rfl⟩⟩
          cases want <;> cases b
          · obtain ⟨ef, h1, h2⟩ := h.out
            exact fin _ ef hS (okr _ _ rfl rfl h1) (dp (k := fun S' => cC C ops n0 r (i + 1) S' fun efs => k (ef :: efs)) h2)
          · exact fin _ _ hS (oks _ rfl (by simp)) (dp (S := setSlot S t true) (dst := o.dst) (ef := ⟨.tup [], [], []⟩) (k := fun S' => cC C ops n0 r (i + 1) S' fun efs => k (⟨.tup [], [], []⟩ :: efs)) h)
          · exact fin _ _ hS (oks _ rfl (by simp)) (dp (S := setSlot S t false) (dst := o.dst) (ef := ⟨.tup [], [], []⟩) (k := fun S' => cC C ops n0 r (i + 1) S' fun efs => k (⟨.tup [], [], []⟩ :: efs)) h)
          · obtain ⟨ef, h1, h2⟩ := h.out
            exact fin _ ef hS (okr _ _ rfl rfl h1) (dp (k := fun S' => cC C ops n0 r (i + 1) S' fun efs => k (ef :: efs)) h2)
        · rename_i hb
          exact fin S ⟨.tup [], [], []⟩ (.refl S) (by unfold ci; rw [hg]; exact ⟨t, ht, Or.inr ⟨hb, rfl⟩⟩) (dp (S := S) (dst := o.dst) (ef := ⟨.tup [], [], []⟩) (k := fun S' => cC C ops n0 r (i + 1) S' fun efs => k (⟨.tup [], [], []⟩ :: efs)) h)
        · exact h.elim
      · exact h.elim
end
end Go.Proofs.YtlplngmpggkloaaGreat
