/- Parts of the proof, one behind the other: Sx16, Sx17, Sx18, Sx19, Sx21, Sx22, Sx24, Ty, Sx20, Bk1, Br1, Br2, Br3a, Sx39. Lemmas and contracts of functions; no condition of its own. -/
import Derived.Test.YteallmlkkcjblaaGreatDoorMR4
import Derived.LoopN
import Derived.IntWalk
import Derived.Test.YteallmlkkcjblaaGreatDoorRows
import Derived.Deep.Slices
import Derived.ReadAgain
import Derived.ChangeSame
import Derived.ProofKit
import Derived.OpenShut
import Derived.JoinedCond
import Derived.WideWitness
set_option linter.unusedVariables false
set_option linter.unusedSimpArgs false
namespace Go.Proofs.YteallmlkkcjblaaGreatDoor
open Go.RowKit
def dirP (o : Oper) (acc : List Nat) : Nat := o.after.toList.foldl (fun s e => bif Region.binds .any e then s ||| 2 ^ e.on ||| acc.getD e.on 0 else s) 0
def predsG : List Oper → List Nat → List Nat
  | [], acc => acc
  | o :: r, acc => predsG r (acc ++ [dirP o acc])
def ordB (pre : List Nat) (i j : Nat) : Bool := bif Nat.blt j i then (pre.getD i 0).testBit j else (pre.getD j 0).testBit i
mutual
def memB (l : Nat) : SV → Bool
  | .ptr m _ => Nat.beq m l
  | .rp m _ _ _ => Nat.beq m l
  | .sl m _ _ _ => Nat.beq m l
  | .d _ => false
  | .any => false
  | .agg vs => memBL l vs
  | .tup vs => memBL l vs
  | .fn _ vs => memBL l vs
  | .iref vs _ => memBL l vs
def memBL (l : Nat) : List SV → Bool
  | [] => false
  | x :: r => memB l x || memBL l r
end
theorem memBL_at {l : Nat} : ∀ {vs : List SV}, memBL l vs = false → ∀ j (hj : j < vs.length), memB l vs[j] = false
  | [], _, j, hj => by simp at hj
  | x :: r, h, j, hj => by
    simp only [memBL, Bool.or_eq_false_iff] at h
    cases j with
    | zero => exact h.1
    | succ j => exact memBL_at h.2 j (by simpa using hj)
abbrev mem1 (l : Nat) (x : SV) : Bool := memB l x
abbrev mem2 (l : Nat) (x : SV) : Bool := memB l x
def memO (l : Nat) : Option Blk → Bool
  | some (.cells cs) => cs.any (mem1 l)
  | some (.cf m _ _) => Nat.blt l m
  | some (.obj _ m _ _ _) => Nat.blt l m
  | _ => false
section
variable {E E' : Env} {nx : Nat} {w : World} {l : Nat}
theorem memB_ok (hρ : ∀ m, m ≠ l → E'.ρ m = E.ρ m ∧ E'.κ m = E.κ m) (hI : E'.Im = E.Im) {x : SV} {v : Value} (hm : memB l x = false) (h : RS E nx w x v) : RS E' nx w x v := by
  have ne : ∀ m, Nat.beq m l = false → m ≠ l := fun m hb e => by subst e; simp at hb
  induction h with
  | any => exact .any _
  | d x v h => exact .d _ _ (by rw [hI]; exact h)
  | ptr m o hl => unfold memB at hm; rw [← (hρ m (ne m hm)).1]; exact .ptr _ _ hl
  | rp m z q o hl => unfold memB at hm; rw [← (hρ m (ne m hm)).1]; exact .rp _ _ _ _ hl
  | sl m z o n ad cap hl hc hmx ha h0 => unfold memB at hm; exact .sl _ _ _ _ _ _ hl hc hmx (by rw [(hρ m (ne m hm)).1]; exact ha) (by rw [(hρ m (ne m hm)).1, (hρ m (ne m hm)).2]; exact h0)
  | agg vs us hs h1 hh ih => unfold memB at hm; exact .agg _ _ hs h1 fun j hj => ih j hj (memBL_at hm j hj)
  | tup vs us hs hh ih => unfold memB at hm; exact .tup _ _ hs fun j hj => ih j hj (memBL_at hm j hj)
  | fn f vs us hs hh ih => unfold memB at hm; exact .fn _ _ _ hs fun j hj => ih j hj (memBL_at hm j hj)
  | iref vs off b o g hb hcell h1 hh ih => unfold memB at hm; exact .iref _ _ b o g (by rw [hI]; exact hb) hcell h1 fun j hj => ih j hj (memBL_at hm j hj)
theorem mem1_ok (hρ : ∀ m, m ≠ l → E'.ρ m = E.ρ m ∧ E'.κ m = E.κ m) (hI : E'.Im = E.Im) {x : SV} {v : Value} (hm : mem1 l x = false) (h : RS E nx w x v) : RS E' nx w x v := memB_ok hρ hI hm h
theorem mem2_ok (hρ : ∀ m, m ≠ l → E'.ρ m = E.ρ m ∧ E'.κ m = E.κ m) (hI : E'.Im = E.Im) {x : SV} {v : Value} (hm : mem2 l x = false) (h : RS E nx w x v) : RS E' nx w x v := memB_ok hρ hI hm h
theorem memO_ok (hρ : ∀ m, m ≠ l → E'.ρ m = E.ρ m ∧ E'.κ m = E.κ m) (hI : E'.Im = E.Im) {m : Nat} {b : Blk} (hne : m ≠ l) (hm : memO l (some b) = false) (h : BS E nx w m b) : BS E' nx w m b := by
  cases b with
  | cells cs =>
    obtain ⟨vs, T, h1, h2, h3⟩ := h
    refine ⟨vs, T, by rw [(hρ m hne).1]; exact h1, h2, fun j hj => ⟨mem1_ok hρ hI ?_ (h3 j hj).1, (h3 j hj).2⟩⟩
    simp only [memO] at hm; rw [List.any_eq_false] at hm; simpa using hm _ (List.getElem_mem hj)
  | row e z n f =>
    obtain ⟨h1, h2, h3, h4, h5⟩ := h
    refine ⟨by rw [(hρ m hne).2]; exact h1, by rw [(hρ m hne).2]; exact h2, h3, h4, ?_⟩
    rw [(hρ m hne).1, (hρ m hne).2, hI]; exact h5
  | cf m' n g =>
    obtain ⟨h0, hh⟩ := h
    have hlm : m' ≤ l := by
      have hm : Nat.blt l m' = false := hm
      have : ¬ l < m' := fun h => by
        have h9 : Nat.blt l m' = true := by simpa using h
        rw [h9] at hm; exact absurd hm (by decide)
      omega
    refine ⟨h0, fun hp => ?_⟩
    obtain ⟨vs, T, h1, h2, h3⟩ := hh hp
    exact ⟨vs, T, by rw [(hρ m hne).1]; exact h1, h2, fun j hj => ⟨(h3 j hj).1, RS.congr (fun k hk => hρ k (by omega)) h0 (fun b hb => by rw [hI]; exact hb) (h3 j hj).1 (h3 j hj).2.1, (h3 j hj).2.2⟩⟩
  | obj c m' n p g =>
    obtain ⟨e0, h0, o, u, h1, h2, h3⟩ := h
    have hlm : m' ≤ l := by
      have hm : Nat.blt l m' = false := hm
      have : ¬ l < m' := fun h => by
        have h9 : Nat.blt l m' = true := by simpa using h
        rw [h9] at hm; exact absurd hm (by decide)
      omega
    exact ⟨by rw [(hρ m hne).1]; exact e0, h0, o, u, by rw [(hρ m hne).1]; exact h1, h2, fun j hj => ⟨(h3 j hj).1, RS.congr (fun k hk => hρ k (by omega)) h0 (fun b hb => by rw [hI]; exact hb) (h3 j hj).1 (h3 j hj).2.1, (h3 j hj).2.2⟩⟩
end
def looks (ops : List Oper) (o : Oper) : List Nat :=
  (o.op.operands.toList.filterMap fun | .tmp t => some t | _ => none) ++ (match o.guard with | some (j, _) => ((ops[j]?).bind (·.dst)).toList | none => [])
def chkPair (pre : List Nat) (ops : List Oper) (n0 i j : Nat) (labs : List Nat) (p q : Pt) : Bool :=
  (match p.1.dst, q.1.dst with | some a, some b => !Nat.beq a b | _, _ => true) &&
  (p.2.ed.all (fun x => q.2.ed.all fun y => !Nat.beq x.1 y.1) || ordB pre i j) &&
  ((match q.1.dst with | some d => (looks ops p.1).all fun t => !Nat.beq d t | none => true) || ordB pre i j) &&
  ((labs.all (fun l => q.2.ed.all fun y => !Nat.beq y.1 l) && p.2.rd.all (fun l => q.2.ed.all fun y => !Nat.beq y.1 l)) || ordB pre i j) &&
  (!isAlloc p.1.op || (!mem2 (n0 + i) q.2.val && q.2.ed.all (fun y => !Nat.beq y.1 (n0 + i) && !memO (n0 + i) y.2)) || (Nat.blt i j && ordB pre i j))
def chkRow (pre : List Nat) (ops : List Oper) (n0 i : Nat) (labs : List Nat) (p : Pt) : List Pt → Nat → Bool
  | [], _ => true
  | q :: r, j => (Nat.beq i j || chkPair pre ops n0 i j labs p q) && chkRow pre ops n0 i labs p r (j + 1)
def chkAll (pre : List Nat) (ops : List Oper) (n0 : Nat) (all : List Pt) (S0 : St) : List Pt → Nat → St → Bool
  | [], _, _ => true
  | p :: r, i, S => chkRow pre ops n0 i (labsOf S p.1.op) p all 0 && (!isAlloc p.1.op || (S0.fr.all (fun x => !mem2 (n0 + i) x.2) && S0.hp.all (fun x => !Nat.beq x.1 (n0 + i) && !memO (n0 + i) x.2))) &&
      (p.1.after.toList.all fun e => !Region.binds .any e || Nat.blt e.on i) && (match p.1.dst with | some n => Nat.blt n S0.nt.n | none => true) && chkAll pre ops n0 all S0 r (i + 1) (S.step p.1.dst p.2)
def drawOK (ops : List Oper) (efs : List Ef) (n0 : Nat) (S0 : St) : Bool := chkAll (predsG ops []) ops n0 (ops.zip efs) S0 (ops.zip efs) 0 S0
theorem chkRow_ok {pre : List Nat} {ops : List Oper} {n0 i : Nat} {labs : List Nat} {p : Pt} : ∀ (l : List Pt) (k : Nat), chkRow pre ops n0 i labs p l k = true → ∀ j q, l[j]? = some q → i ≠ k + j → chkPair pre ops n0 i (k + j) labs p q = true
  | [], k, h, j, q, hq, hne => by simp at hq
  | x :: r, k, h, j, q, hq, hne => by
    unfold chkRow at h
    rw [Bool.and_eq_true, Bool.or_eq_true] at h
    cases j with
    | zero =>
      simp at hq; subst hq
      rcases h.1 with h1 | h1
      · exact absurd (Nat.eq_of_beq_eq_true h1) hne
      · exact h1
    | succ j => simp at hq; have := chkRow_ok r (k + 1) h.2 j q hq (by omega); rw [show k + (j + 1) = k + 1 + j by omega]; exact this
theorem chkAll_ok {pre : List Nat} {ops : List Oper} {n0 : Nat} {all : List Pt} {S0 : St} : ∀ (l : List Pt) (k : Nat) (S : St), chkAll pre ops n0 all S0 l k S = true → ∀ i p, l[i]? = some p →
    (∀ j q, all[j]? = some q → k + i ≠ j → chkPair pre ops n0 (k + i) j (labsOf (foldSt (l.take i) S) p.1.op) p q = true) ∧
    (isAlloc p.1.op = true → (∀ x ∈ S0.fr, mem2 (n0 + (k + i)) x.2 = false) ∧ ∀ x ∈ S0.hp, x.1 ≠ n0 + (k + i) ∧ memO (n0 + (k + i)) x.2 = false) ∧
    (∀ e ∈ p.1.after.toList, Region.binds .any e = true → e.on < k + i) ∧ (∀ n, p.1.dst = some n → n < S0.nt.n)
  | [], k, S, h, i, p, hp => by simp at hp
  | x :: r, k, S, h, i, p, hp => by
    unfold chkAll at h
    simp only [Bool.and_eq_true] at h
    obtain ⟨⟨⟨⟨h1, h2⟩, h3⟩, h5⟩, h4⟩ := h
    cases i with
    | zero =>
      simp at hp; subst hp
      refine ⟨fun j q hq hne => by have := chkRow_ok all 0 h1 j q hq (by omega); simpa [foldSt] using this, fun hal => ?_, fun e he hb => ?_, fun n hn => by rw [hn] at h5; simpa using h5⟩
      · rw [hal] at h2
        simp only [Bool.not_true, Bool.false_or, Bool.and_eq_true, List.all_eq_true] at h2
        refine ⟨fun x hx => by simpa using h2.1 x hx, fun x hx => ?_⟩
        have := h2.2 x hx
        simp only [Bool.not_eq_true'] at this
        refine ⟨fun e => ?_, by simpa using this.2⟩
        have h9 := this.1
        rw [e] at h9
        simp at h9
      · rw [List.all_eq_true] at h3
        have := h3 e he
        rw [hb] at this
        simpa using this
    | succ i =>
      simp at hp
      have := chkAll_ok r (k + 1) _ h4 i p hp
      rw [show k + (i + 1) = k + 1 + i by omega]
      exact this
theorem preds_ok {G D : Nat → Prop} (hDG : ∀ i, D i → G i) : ∀ (l : List Oper) (acc : List Nat), (∀ i o, l[i]? = some o → G (acc.length + i) → ∀ e ∈ o.after.toList, Region.binds .any e = true → D e.on) →
    (∀ i j, (acc.getD i 0).testBit j = true → G i → D j) → ∀ i j, ((predsG l acc).getD i 0).testBit j = true → G i → D j
  | [], acc, h, ha, i, j, hij, hG => ha i j hij hG
  | o :: r, acc, h, ha, i, j, hij, hG => by
    refine preds_ok hDG r (acc ++ [dirP o acc]) (fun i o' ho hg => ?_) (fun i j hij hG => ?_) i j hij hG
    · have := h (i + 1) o' (by simpa using ho)
      refine this ?_
      rw [List.length_append] at hg
      simpa [Nat.add_assoc, Nat.add_comm 1 i] using hg
    · by_cases hlt : i < acc.length
      · have e : (acc ++ [dirP o acc]).getD i 0 = acc.getD i 0 := by simp [List.getD, List.getElem?_append_left hlt]
        rw [e] at hij
        exact ha i j hij hG
      · by_cases hi : i = acc.length
        · subst hi
          have e : (acc ++ [dirP o acc]).getD acc.length 0 = dirP o acc := by simp [List.getD]
          rw [e] at hij
          have hd := h 0 o rfl (by simpa using hG)
          have key : ∀ (es : List Edge) (s : Nat), (∀ e ∈ es, Region.binds .any e = true → D e.on) → (s.testBit j = true → D j) → ((es.foldl (fun s e => bif Region.binds .any e then s ||| 2 ^ e.on ||| acc.getD e.on 0 else s) s).testBit j = true → D j) := by
            intro es
            induction es with
            | nil => exact fun s _ hs => hs
            | cons e es ih =>
              intro s hes hs
              refine ih _ (fun e he => hes e (by simp [he])) ?_
              show ((bif Region.binds .any e then s ||| 2 ^ e.on ||| acc.getD e.on 0 else s) : Nat).testBit j = true → D j
              cases hb : Region.binds .any e with
              | false => exact hs
              | true =>
                simp only [cond_true]
                intro hbit
                rw [Nat.testBit_or, Nat.testBit_or, Bool.or_eq_true, Bool.or_eq_true] at hbit
                have hon := hes e (by simp) hb
                rcases hbit with (hbit | hbit) | hbit
                · exact hs hbit
                · rw [Nat.testBit_two_pow] at hbit
                  have := of_decide_eq_true hbit
                  rw [← this]; exact hon
                · exact ha _ _ hbit (hDG _ hon)
          exact key _ 0 hd (by simp) hij
        · have e : (acc ++ [dirP o acc]).getD i 0 = 0 := by
            simp only [List.getD]
            rw [List.getElem?_eq_none (by simp; omega)]; rfl
          rw [e] at hij
          simp at hij
theorem ordB_symm {pre : List Nat} {i j : Nat} (h : i ≠ j) : ordB pre i j = ordB pre j i := by
  unfold ordB
  by_cases hlt : j < i
  · have h1 : Nat.blt j i = true := by simpa using hlt
    have h2 : Nat.blt i j = false := by
      cases hq : Nat.blt i j with
      | true => have : i < j := by simpa using hq
                omega
      | false => rfl
    rw [h1, h2]; rfl
  · have h1 : Nat.blt i j = true := by simp; omega
    have h2 : Nat.blt j i = false := by
      cases hq : Nat.blt j i with
      | true => have : j < i := by simpa using hq
                omega
      | false => rfl
    rw [h1, h2]; rfl
theorem fold_last {l2 : List Pt} {R : Nat → Nat → Prop} {n : Nat} (hR : ∀ i j p q, l2[i]? = some p → l2[j]? = some q → (∃ o, (n, o) ∈ p.2.ed) → (∃ o, (n, o) ∈ q.2.ed) → i ≠ j → R i j) :
    ∀ (ms : List Nat) (S : St), ms.Pairwise (fun a b => R a b → a < b) → ∀ j p, j ∈ ms → l2[j]? = some p → (∃ o, (n, o) ∈ p.2.ed) → (∀ i q, i ∈ ms → l2[i]? = some q → (∃ o, (n, o) ∈ q.2.ed) → i ≤ j) → lkh (foldSt (ms.filterMap fun j => l2[j]?) S).hp n = lkh p.2.ed n
  | [], S, hp, j, p, hj, _, _, _ => by simp at hj
  | a :: r, S, hpw, j, p, hj, hjp, hw, hmax => by
    rw [List.pairwise_cons] at hpw
    by_cases hex : ∃ b q, b ∈ r ∧ l2[b]? = some q ∧ ∃ o, (n, o) ∈ q.2.ed
    · obtain ⟨b, q, hb, hbq, hbw⟩ := hex
      have hjr : j ∈ r := by
        rcases List.mem_cons.1 hj with rfl | h
        · by_cases hne : j = b
          · subst hne; exact hb
          · have h1 := hpw.1 b hb (hR j b p q hjp hbq hw hbw hne)
            have h2 := hmax b q (by simp [hb]) hbq hbw
            omega
        · exact h
      have ih := fun S => fold_last hR r S hpw.2 j p hjr hjp hw (fun i q hi => hmax i q (by simp [hi]))
      cases ha : l2[a]? with
      | none => simp only [List.filterMap_cons, ha]; exact ih S
      | some q => simp only [List.filterMap_cons, ha]; exact ih _
    · have hja : j = a := by
        rcases List.mem_cons.1 hj with h | h
        · exact h
        · exact absurd ⟨j, p, h, hjp, hw⟩ hex
      subst hja
      simp only [List.filterMap_cons, hjp]
      show lkh (foldSt _ (S.step p.1.dst p.2)).hp n = _
      rw [fold_hp0 _ _ n (fun q hq o ho => by
        obtain ⟨b, hb, hbq⟩ := List.mem_filterMap.1 hq
        exact hex ⟨b, q, hb, hbq, o, ho⟩), step_hp, if_pos hw]
theorem max_of {p : Nat → Prop} {N : Nat} (hN : ∀ j, p j → j < N) {j0 : Nat} (h0 : p j0) : ∃ j, p j ∧ ∀ i, p i → i ≤ j := by
  induction N generalizing j0 with
  | zero => exact absurd (hN j0 h0) (by omega)
  | succ N ih =>
    by_cases h : p N
    · exact ⟨N, h, fun i hi => by have := hN i hi; omega⟩
    · exact ih (fun j hj => by
        have := hN j hj
        by_cases e : j = N
        · subst e; exact absurd hj h
        · omega) h0
theorem Wp.drawAny {C : Cx} {l : List Oper} {nt : NT} {nx : Nat} {fr : List (Nat × SV)} {hp : List (Nat × Option Blk)} {Q : Exit → St → Prop}
    (h : execR C l nx l 0 ⟨nt, nx + l.length, fr, hp⟩ fun efs Sn => drawOK l efs nx ⟨nt, nx + l.length, fr, hp⟩ = true ∧ Q .normal Sn) {O : Org} {E : Env} {a : Act} {w : World} (hs : Sat O E ⟨nt, nx, fr, hp⟩ a w) :
    wpAny C.P .any l.toArray (fun e a' w' => ∃ S' E', Q e S' ∧ Sat O E' S' a' w') l.length (Array.replicate l.length false) a { w with drawn := w.drawn + 1 } := by
  obtain ⟨efs, Sn, ⟨hok, hQ⟩, hlen, hLk, hstep⟩ := execR_ok l 0 _ _ h
  generalize hS0 : (⟨nt, nx + l.length, fr, hp⟩ : St) = S0 at *
  have hnx0 : S0.nx = nx + l.length := by rw [← hS0]
  let l2 := l.zip efs
  have hl2 : l2.length = l.length := by simp [l2, hlen]
  have hget : ∀ (j : Nat) (p : Pt), l2[j]? = some p → l[j]? = some p.1 ∧ efs[j]? = some p.2 := fun j p hp => by
    obtain ⟨p1, p2⟩ := p
    have := List.getElem?_zip_eq_some.1 hp
    exact this
  have hchk := chkAll_ok (pre := predsG l []) (ops := l) (n0 := nx) (all := l2) (S0 := S0) l2 0 S0 (by unfold drawOK at hok; exact hok)
  simp only [Nat.zero_add] at hchk
  have uniqD : ∀ (i j : Nat) (p q : Pt) (n : Nat), l2[i]? = some p → l2[j]? = some q → p.1.dst = some n → q.1.dst = some n → i = j := fun i j p q n hi hj hpn hqn => Classical.byContradiction fun hne => by
    have := (hchk i p hi).1 j q hj (by omega)
    unfold chkPair at this
    simp only [Bool.and_eq_true] at this
    rw [hpn, hqn] at this
    simp at this
  have wOrd : ∀ (n i j : Nat) (p q : Pt), l2[i]? = some p → l2[j]? = some q → (∃ o, (n, o) ∈ p.2.ed) → (∃ o, (n, o) ∈ q.2.ed) → i ≠ j → ordB (predsG l []) i j = true := fun n i j p q hi hj ⟨o, ho⟩ ⟨o', ho'⟩ hne => by
    have := (hchk i p hi).1 j q hj (by omega)
    unfold chkPair at this
    simp only [Bool.and_eq_true, List.all_eq_true, Bool.or_eq_true] at this
    rcases this.1.1.1.2 with h9 | h9
    · have h9 := h9 _ ho _ ho'
      simp at h9
    · exact h9
  let Mem : List Pt → (Nat → Prop) → Prop := fun m D => ∀ (p : Pt), p ∈ m ↔ ∃ (j : Nat), l2[j]? = some p ∧ D j
  have agF : ∀ (m m' : List Pt) (D D' : Nat → Prop) (n : Nat), Mem m D → Mem m' D' → (∀ (j : Nat) (p : Pt), l2[j]? = some p → p.1.dst = some n → (D j ↔ D' j)) → lk (foldSt m S0).fr n = lk (foldSt m' S0).fr n := by
    intro m m' D D' n hm hm' hag
    by_cases hex : ∃ (j : Nat) (p : Pt), l2[j]? = some p ∧ D j ∧ p.1.dst = some n
    · obtain ⟨j, p, h1, h2, h3⟩ := hex
      rw [fold_fr1 m S0 n p.2.val ⟨p, (hm p).2 ⟨j, h1, h2⟩, h3⟩ (fun q hq hqn => by
          obtain ⟨i, hi, _⟩ := (hm q).1 hq
          obtain rfl := uniqD i j q p n hi h1 hqn h3
          rw [hi] at h1; cases h1; rfl),
        fold_fr1 m' S0 n p.2.val ⟨p, (hm' p).2 ⟨j, h1, (hag j p h1 h3).1 h2⟩, h3⟩ (fun q hq hqn => by
          obtain ⟨i, hi, _⟩ := (hm' q).1 hq
          obtain rfl := uniqD i j q p n hi h1 hqn h3
          rw [hi] at h1; cases h1; rfl)]
    · rw [fold_fr0 m S0 n (fun q hq hqn => by obtain ⟨i, hi, hd⟩ := (hm q).1 hq; exact hex ⟨i, q, hi, hd, hqn⟩),
        fold_fr0 m' S0 n (fun q hq hqn => by obtain ⟨i, hi, hd⟩ := (hm' q).1 hq; exact hex ⟨i, q, hi, (hag i q hi hqn).2 hd, hqn⟩)]
  let Ord : List Pt → (Nat → Prop) → Prop := fun m D => ∃ ms : List Nat, m = ms.filterMap (fun j => l2[j]?) ∧ (∀ j, j ∈ ms ↔ (j < l2.length ∧ D j)) ∧ ms.Pairwise (fun a b => ordB (predsG l []) a b = true → a < b)
  have ltN : ∀ (j : Nat) (p : Pt), l2[j]? = some p → j < l2.length := fun j p hj => (List.getElem?_eq_some_iff.1 hj).1
  have lastH : ∀ (m : List Pt) (D : Nat → Prop) (n : Nat), Ord m D → (∃ (j : Nat) (p : Pt), l2[j]? = some p ∧ D j ∧ (∃ o, (n, o) ∈ p.2.ed) ∧ (∀ (i : Nat) (q : Pt), l2[i]? = some q → D i → (∃ o, (n, o) ∈ q.2.ed) → i ≤ j) ∧ lkh (foldSt m S0).hp n = lkh p.2.ed n) ∨
      ((∀ (j : Nat) (p : Pt), l2[j]? = some p → D j → ¬ ∃ o, (n, o) ∈ p.2.ed) ∧ lkh (foldSt m S0).hp n = lkh S0.hp n) := by
    rintro m D n ⟨ms, rfl, h1, h2⟩
    by_cases hex : ∃ (j : Nat) (p : Pt), l2[j]? = some p ∧ D j ∧ ∃ o, (n, o) ∈ p.2.ed
    · obtain ⟨j0, p0, g1, g2, g3⟩ := hex
      obtain ⟨j, ⟨p, k1, k2, k3⟩, kmax⟩ := max_of (p := fun j => ∃ p, l2[j]? = some p ∧ D j ∧ ∃ o, (n, o) ∈ p.2.ed) (N := l2.length) (fun j ⟨p, hp, _⟩ => ltN j p hp) ⟨p0, g1, g2, g3⟩
      refine Or.inl ⟨j, p, k1, k2, k3, fun i q hi hd hw => kmax i ⟨q, hi, hd, hw⟩, ?_⟩
      exact fold_last (R := fun a b => ordB (predsG l []) a b = true) (wOrd n) ms S0 h2 j p ((h1 j).2 ⟨ltN j p k1, k2⟩) k1 k3 fun i q hi hq hw => kmax i ⟨q, hq, ((h1 i).1 hi).2, hw⟩
    · refine Or.inr ⟨fun j p hj hd hw => hex ⟨j, p, hj, hd, hw⟩, ?_⟩
      refine fold_hp0 _ S0 n fun q hq o ho => ?_
      obtain ⟨j, hj, hjq⟩ := List.mem_filterMap.1 hq
      exact hex ⟨j, q, hjq, ((h1 j).1 hj).2, o, ho⟩
  have agH : ∀ (m m' : List Pt) (D D' : Nat → Prop) (n : Nat), Ord m D → Ord m' D' → (∀ (j : Nat) (p : Pt), l2[j]? = some p → (∃ o, (n, o) ∈ p.2.ed) → (D j ↔ D' j)) → lkh (foldSt m S0).hp n = lkh (foldSt m' S0).hp n := by
    intro m m' D D' n hm hm' hag
    rcases lastH m D n hm with ⟨j, p, h1, h2, h3, h4, h5⟩ | ⟨h1, h2⟩ <;> rcases lastH m' D' n hm' with ⟨j', p', h1', h2', h3', h4', h5'⟩ | ⟨h1', h2'⟩
    · have e1 := h4' j p h1 ((hag j p h1 h3).1 h2) h3
      have e2 := h4 j' p' h1' ((hag j' p' h1' h3').2 h2') h3'
      obtain rfl : j = j' := by omega
      rw [h1] at h1'; cases h1'
      rw [h5, h5']
    · exact absurd h3 (h1' j p h1 ((hag j p h1 h3).1 h2))
    · exact absurd h3' (h1 j' p' h1' ((hag j' p' h1' h3').2 h2'))
    · rw [h2, h2']
  have oTake : ∀ i, i ≤ l2.length → Ord (l2.take i) (fun j => j < i) := fun i hi => by
    refine ⟨List.range i, ?_, fun j => by rw [List.mem_range]; omega, by
      have := List.pairwise_lt_range (n := i)
      exact this.imp (fun {a b} h => fun _ => h)⟩
    have : ∀ (L : List Pt) (k : Nat), k ≤ L.length → L.take k = (List.range k).filterMap (fun j => L[j]?) := by
      intro L k
      induction k with
      | zero => intro _; simp
      | succ k ih =>
        intro hk
        rw [List.range_succ, List.filterMap_append, ← ih (by omega), List.take_add_one]
        congr 1
    exact this l2 i hi
  have oAll : Ord l2 (fun _ => True) := by
    obtain ⟨ms, h1, h2, h3⟩ := oTake l2.length (Nat.le_refl _)
    rw [List.take_length] at h1
    exact ⟨ms, h1, fun j => by rw [h2]; simp, h3⟩
  have mTake : ∀ i, Mem (l2.take i) (fun j => j < i) := fun i p => by
    constructor
    · intro hp
      obtain ⟨j, hj, e⟩ := List.getElem_of_mem hp
      rw [List.length_take] at hj
      refine ⟨j, ?_, by omega⟩
      rw [← e, List.getElem_take, List.getElem?_eq_getElem]
    · rintro ⟨j, h1, h2⟩
      have : (l2.take i)[j]? = some p := by rw [List.getElem?_take, if_pos h2]; exact h1
      exact List.mem_of_getElem? this
  have mAll : Mem l2 (fun _ => True) := fun p => by
    constructor
    · intro hp
      obtain ⟨j, hj, e⟩ := List.getElem_of_mem hp
      exact ⟨j, by rw [← e, List.getElem?_eq_getElem], trivial⟩
    · rintro ⟨j, h1, _⟩; exact List.mem_of_getElem? h1
  have hOn : O.nl ≤ nx := hs.nl
  have main : ∀ (fuel : Nat) (listed : Array Bool) (m : List Pt) (E : Env) (a : Act) (w : World), listed.size = l.length → Mem m (fun j => listed.getD j false = true) → Ord m (fun j => listed.getD j false = true) →
      (∀ (i : Nat) (o : Oper), l[i]? = some o → listed.getD i false = true → ∀ e ∈ o.after.toList, Region.binds .any e = true → listed.getD e.on false = true) → (listed.toList.count false ≤ fuel) → Sat O E (foldSt m S0) a w →
      wpAny C.P .any l.toArray (fun e a' w' => ∃ S' E', Q e S' ∧ Sat O E' S' a' w') fuel listed a w := by
    have fin : ∀ (listed : Array Bool) (m : List Pt) (E : Env) (a : Act) (w : World), Mem m (fun j => listed.getD j false = true) → Ord m (fun j => listed.getD j false = true) → (∀ j, j < l.length → listed.getD j false = true) → Sat O E (foldSt m S0) a w → ∃ S' E', Q .normal S' ∧ Sat O E' S' a w := by
      intro listed m E a w hm ho hall hs
      refine ⟨Sn, E, hQ, hs.congr ?_⟩
      refine LkEq.trans ⟨by rw [(fold_nt m S0).1, (fold_nt l2 S0).1], by rw [(fold_nt m S0).2, (fold_nt l2 S0).2], fun n => ?_, fun n => ?_⟩ hLk.symm
      · exact agF m l2 _ _ n hm mAll fun j p hp _ => ⟨fun _ => trivial, fun _ => hall j (by have := (List.getElem?_eq_some_iff.1 hp).1; omega)⟩
      · exact agH m l2 _ _ n ho oAll fun j p hp _ => ⟨fun _ => trivial, fun _ => hall j (by have := (List.getElem?_eq_some_iff.1 hp).1; omega)⟩
    have hready : ∀ (listed : Array Bool) (i : Nat), listed.size = l.length → (i ∈ Region.ready .any l.toArray listed ↔ ∃ (o : Oper), l[i]? = some o ∧ listed.getD i false = false ∧ ∀ e ∈ o.after.toList, Region.binds .any e = true → listed.getD e.on false = true) := by
      intro listed i hls
      unfold Region.ready
      rw [List.mem_filter]
      constructor
      · rintro ⟨h1, h2⟩
        have hi : i < l.length := by simpa using h1
        have hli : i < listed.size := by omega
        rw [Bool.and_eq_true] at h2
        refine ⟨l[i], List.getElem?_eq_getElem hi, ?_, fun e he hb => ?_⟩
        · have := h2.1
          simp only [Array.getD, hli, dif_pos] at this ⊢
          simpa using this
        · have h3 := h2.2
          simp only [List.getElem?_toArray, List.getElem?_eq_getElem hi, Option.map_some, Option.getD_some] at h3
          rw [← Array.all_toList, List.all_eq_true] at h3
          have := h3 e he
          rw [hb] at this
          simpa using this
      · rintro ⟨o, h1, h2, h3⟩
        obtain ⟨hi, e1⟩ := List.getElem?_eq_some_iff.1 h1
        have hli : i < listed.size := by omega
        refine ⟨by simpa using hi, ?_⟩
        rw [Bool.and_eq_true]
        refine ⟨?_, ?_⟩
        · simp only [Array.getD, hli, dif_pos] at h2 ⊢
          simpa using h2
        · simp only [List.getElem?_toArray, h1, Option.map_some, Option.getD_some]
          rw [← Array.all_toList, List.all_eq_true]
          intro e he
          cases hb : Region.binds .any e with
          | false => rfl
          | true => simpa using h3 e he hb
    have allOf : ∀ (listed : Array Bool), listed.size = l.length → Region.ready .any l.toArray listed = [] → ∀ j, j < l.length → listed.getD j false = true := by
      intro listed hls hr j
      induction j using Nat.strongRecOn with
      | _ j ih =>
        intro hj
        cases hb : listed.getD j false with
        | true => rfl
        | false =>
          exfalso
          have hjl : l2[j]? = some (l[j], efs[j]'(by omega)) := by
            rw [List.getElem?_zip_eq_some]; exact ⟨List.getElem?_eq_getElem hj, List.getElem?_eq_getElem _⟩
          have : j ∈ Region.ready .any l.toArray listed := (hready listed j hls).2 ⟨l[j], List.getElem?_eq_getElem hj, hb, fun e he hb2 => by
            have := (hchk j _ hjl).2.2.1 e he hb2
            exact ih e.on this (by omega)⟩
          rw [hr] at this
          simp at this
    intro fuel
    induction fuel with
    | zero =>
      intro listed m E a w hls hm hord0 hdc hcnt hs
      have hall : ∀ j, j < l.length → listed.getD j false = true := fun j hj => by
        have : false ∉ listed.toList := List.count_eq_zero.1 (by omega)
        have h1 : j < listed.size := by omega
        cases hb : listed.getD j false with
        | true => rfl
        | false => exfalso; apply this; simp only [Array.getD, h1, dif_pos] at hb; rw [← hb]; simp
      refine ⟨?_, fin listed m E a w hm hord0 hall hs⟩
      refine List.eq_nil_iff_forall_not_mem.2 fun i hi => ?_
      obtain ⟨o, h1, h2, _⟩ := (hready listed i hls).1 hi
      rw [hall i (List.getElem?_eq_some_iff.1 h1).1] at h2
      simp at h2
    | succ fuel ih =>
      intro listed m E a w hls hm hord0 hdc hcnt hs
      refine ⟨fun hr => fin listed m E a w hm hord0 (allOf listed hls hr) hs, fun i hi => ?_⟩
      obtain ⟨o, ho, hun, hpre⟩ := (hready listed i hls).1 hi
      obtain ⟨hil, _⟩ := List.getElem?_eq_some_iff.1 ho
      obtain ⟨ef, hef⟩ : ∃ ef, efs[i]? = some ef := ⟨efs[i]'(by omega), List.getElem?_eq_getElem _⟩
      have hp : l2[i]? = some (o, ef) := List.getElem?_zip_eq_some.2 ⟨ho, hef⟩
      obtain ⟨c1, c2, c3, c4⟩ := hchk i (o, ef) hp
      have hst := hstep i o ef ho hef
      rw [Nat.zero_add] at hst
      have hnl : ¬ listed.getD i false = true := by rw [hun]; simp
      have hG := preds_ok (G := fun j => listed.getD j false = true ∨ j = i) (D := fun j => listed.getD j false = true) (fun j hj => Or.inl hj) l [] (fun j o' ho' hg e he hb => by
        simp only [List.length_nil, Nat.zero_add] at hg
        rcases hg with hg | rfl
        · exact hdc j o' ho' hg e he hb
        · rw [ho] at ho'; cases ho'; exact hpre e he hb) (fun j j' hb => by simp at hb)
      have hord : ∀ j, i ≠ j → ordB (predsG l []) i j = true → (j < i ↔ listed.getD j false = true) := by
        intro j hne hb
        unfold ordB at hb
        by_cases hlt : j < i
        · have h1 : Nat.blt j i = true := by simpa using hlt
          rw [h1] at hb
          exact ⟨fun _ => hG i j hb (Or.inr rfl), fun _ => hlt⟩
        · have h1 : Nat.blt j i = false := by
            cases hq : Nat.blt j i with
            | true => exact absurd (by simpa using hq) hlt
            | false => rfl
          rw [h1] at hb
          exact ⟨fun h => absurd h hlt, fun h => absurd (hG j i hb (Or.inl h)) hnl⟩
      have hfr : ∀ t ∈ looks l o, lk (foldSt (l2.take i) S0).fr t = lk (foldSt m S0).fr t := fun t ht => agF _ m _ _ t (mTake i) hm fun j q hq hqt => by
        by_cases hne : i = j
        · subst hne; exact ⟨fun h => absurd h (Nat.lt_irrefl _), fun h => absurd h hnl⟩
        · have := c1 j q hq hne
          unfold chkPair at this
          simp only [Bool.and_eq_true] at this
          have h9 := this.1.1.2
          rw [hqt] at h9
          simp only [Bool.or_eq_true, List.all_eq_true] at h9
          rcases h9 with h9 | h9
          · have := h9 t ht; simp at this
          · exact hord j hne h9
      have hil2 : i ≤ l2.length := by omega
      have hlab : ∀ t ∈ labsOf (foldSt (l2.take i) S0) o.op, lkh (foldSt (l2.take i) S0).hp t = lkh (foldSt m S0).hp t := fun t ht => agH _ m _ _ t (oTake i hil2) hord0 fun j q hq ⟨o', hqo⟩ => by
        by_cases hne : i = j
        · subst hne; exact ⟨fun h => absurd h (Nat.lt_irrefl _), fun h => absurd h hnl⟩
        · have := c1 j q hq hne
          unfold chkPair at this
          simp only [Bool.and_eq_true] at this
          have h9 := this.1.2
          simp only [Bool.or_eq_true, Bool.and_eq_true, List.all_eq_true] at h9
          rcases h9 with ⟨h9, _⟩ | h9
          · have := h9 t ht _ hqo; simp at this
          · exact hord j hne h9
      have hrd : ∀ t ∈ ef.rd, lkh (foldSt (l2.take i) S0).hp t = lkh (foldSt m S0).hp t := fun t ht => agH _ m _ _ t (oTake i hil2) hord0 fun j q hq ⟨o', hqo⟩ => by
        by_cases hne : i = j
        · subst hne; exact ⟨fun h => absurd h (Nat.lt_irrefl _), fun h => absurd h hnl⟩
        · have := c1 j q hq hne
          unfold chkPair at this
          simp only [Bool.and_eq_true] at this
          have h9 := this.1.2
          simp only [Bool.or_eq_true, Bool.and_eq_true, List.all_eq_true] at h9
          rcases h9 with ⟨_, h9⟩ | h9
          · have := h9 t ht _ hqo; simp at this
          · exact hord j hne h9
      have hkey : ∀ t o', (t, o') ∈ ef.ed → lkh (foldSt (l2.take i) S0).hp t = lkh (foldSt m S0).hp t := fun t o' ho' => agH _ m _ _ t (oTake i hil2) hord0 fun j q hq hqo => by
        by_cases hne : i = j
        · subst hne; exact ⟨fun h => absurd h (Nat.lt_irrefl _), fun h => absurd h hnl⟩
        · exact hord j hne (wOrd t i j (o, ef) q hp hq ⟨o', ho'⟩ hqo hne)
      have hnxm : (foldSt m S0).nx = nx + l.length := by rw [(fold_nt m S0).2, hnx0]
      have hmm : ∀ (q : Pt), q ∈ m → ∃ (j : Nat), l2[j]? = some q ∧ listed.getD j false = true ∧ i ≠ j := fun q hq => by
        obtain ⟨j, h1, h2⟩ := (hm q).1 hq
        exact ⟨j, h1, h2, fun e => hnl (by rw [e]; exact h2)⟩
      have hmem : isAlloc o.op = true → ∀ (q : Pt), q ∈ m → mem2 (nx + i) q.2.val = false ∧ ∀ y ∈ q.2.ed, y.1 ≠ nx + i ∧ memO (nx + i) y.2 = false := fun hal q hq => by
        obtain ⟨j, h1, h2, h3⟩ := hmm q hq
        have := c1 j q h1 h3
        unfold chkPair at this
        simp only [Bool.and_eq_true] at this
        have h9 := this.2
        rw [hal] at h9
        simp only [Bool.not_true, Bool.false_or, Bool.or_eq_true, Bool.and_eq_true, List.all_eq_true] at h9
        rcases h9 with ⟨h9, h8⟩ | ⟨h9, h8⟩
        · refine ⟨by simpa using h9, fun y hy => ?_⟩
          have := h8 y hy
          simp only [Bool.not_eq_true'] at this
          exact ⟨fun e => by have h7 := this.1; rw [e] at h7; simp at h7, this.2⟩
        · exfalso
          have := (hord j h3 h8).2 h2
          have h7 : i < j := by simpa using h9
          omega
      have hinv : isAlloc o.op = true → Inv (foldSt m S0) (nx + i) := by
        intro hal E1 E2 w1 hρ hI
        obtain ⟨d1, d2⟩ := c2 hal
        have hq := hmem hal
        refine ⟨fun n v hv => mem2_ok hρ hI ?_ hv, fun lb b hb => ?_⟩
        · by_cases hex : ∃ q ∈ m, q.1.dst = some n
          · obtain ⟨q, hqm, hqn⟩ := hex
            obtain ⟨j, h1, h2, h3⟩ := hmm q hqm
            rw [fold_fr1 m S0 n q.2.val ⟨q, hqm, hqn⟩ (fun q' hq' hqn' => by
              obtain ⟨j', h1', _⟩ := (hm q').1 hq'
              obtain rfl := uniqD j' j q' q n h1' h1 hqn' hqn
              rw [h1'] at h1; cases h1; rfl)]
            exact (hq q hqm).1
          · rw [fold_fr0 m S0 n (fun q hqm hqn => hex ⟨q, hqm, hqn⟩)]
            have : ∀ fr : List (Nat × SV), (∀ x ∈ fr, mem2 (nx + i) x.2 = false) → mem2 (nx + i) (lk fr n) = false := by
              intro fr
              induction fr with
              | nil => intro _; rfl
              | cons x r ihr =>
                intro hx
                obtain ⟨x1, x2⟩ := x
                rw [lk_cons]
                split
                · exact hx (x1, x2) (by simp)
                · exact ihr fun y hy => hx y (by simp [hy])
            exact this _ d1
        · have key : lb ≠ nx + i ∧ memO (nx + i) (some b) = false := by
            have look : ∀ (hp : List (Nat × Option Blk)), (∀ x ∈ hp, x.1 ≠ nx + i ∧ memO (nx + i) x.2 = false) → lkh hp lb = some b → lb ≠ nx + i ∧ memO (nx + i) (some b) = false := by
              intro hp
              induction hp with
              | nil => intro _ h; simp [lkh] at h
              | cons x r ihr =>
                intro hx h
                obtain ⟨x1, x2⟩ := x
                rw [lkh_cons] at h
                split at h
                · rename_i e
                  subst e
                  have := hx (x1, x2) (by simp)
                  simp only at this
                  rw [h] at this; exact this
                · exact ihr (fun y hy => hx y (by simp [hy])) h
            rcases lastH m _ lb hord0 with ⟨j, q, h1, h2, h3, h4, h5⟩ | ⟨h1, h2⟩
            · rw [h5] at hb
              exact look _ (hq q ((hm q).2 ⟨j, h1, h2⟩)).2 hb
            · rw [h2] at hb
              exact look _ d2 hb
          exact ⟨key.1, memO_ok hρ hI key.1 key.2⟩
      have next : ∀ (v : Value) (E' : Env) (w' : World), Sat O E' ((foldSt m S0).ed ef.ed) a w' → RS E' (foldSt m S0).nx w' ef.val v →
          wpAny C.P .any l.toArray (fun e a' w' => ∃ S' E', Q e S' ∧ Sat O E' S' a' w') fuel (listed.setIfInBounds i true) (a.put o.dst v) w' := by
        intro v E' w' hs' hv
        have hlg : ∀ j, (listed.setIfInBounds i true).getD j false = true ↔ (listed.getD j false = true ∨ j = i) := fun j => by
          simp only [Array.getD_eq_getD_getElem?, Array.getElem?_setIfInBounds]
          by_cases h : i = j
          · subst h
            have : i < listed.size := by omega
            simp [this]
          · simp [h]
            exact fun e => absurd e.symm h
        refine ih _ (m ++ [(o, ef)]) E' _ w' (by simpa using hls) (fun p => ?_) ?_ (fun j o' ho' hj e he hb => ?_) ?_ ?_
        · rw [List.mem_append, List.mem_singleton, hm p]
          constructor
          · rintro (⟨j, h1, h2⟩ | rfl)
            · exact ⟨j, h1, (hlg j).2 (Or.inl h2)⟩
            · exact ⟨i, hp, (hlg i).2 (Or.inr rfl)⟩
          · rintro ⟨j, h1, h2⟩
            rcases (hlg j).1 h2 with h2 | rfl
            · exact Or.inl ⟨j, h1, h2⟩
            · rw [hp] at h1; cases h1; exact Or.inr rfl
        · obtain ⟨ms, g1, g2, g3⟩ := hord0
          refine ⟨ms ++ [i], by rw [List.filterMap_append, ← g1]; simp [hp], fun j => ?_, ?_⟩
          · rw [List.mem_append, List.mem_singleton, g2]
            show _ ↔ j < l2.length ∧ (listed.setIfInBounds i true).getD j false = true
            rw [hlg]
            constructor
            · rintro (⟨k1, k2⟩ | rfl)
              · exact ⟨k1, Or.inl k2⟩
              · exact ⟨by omega, Or.inr rfl⟩
            · rintro ⟨k1, k2 | rfl⟩
              · exact Or.inl ⟨k1, k2⟩
              · exact Or.inr rfl
          · rw [List.pairwise_append]
            refine ⟨g3, by simp, fun a ha b hb hab => ?_⟩
            rw [List.mem_singleton] at hb
            subst hb
            have hla := ((g2 a).1 ha).2
            have hne : b ≠ a := fun e => hnl (by rw [e]; exact hla)
            rw [ordB_symm (fun e => hne e.symm)] at hab
            exact (hord a hne hab).2 hla
        · rw [hlg]
          rcases (hlg j).1 hj with hj | rfl
          · exact Or.inl (hdc j o' ho' hj e he hb)
          · rw [ho] at ho'; cases ho'; exact Or.inl (hpre e he hb)
        · have cnt : ∀ (L : List Bool) (q : Nat), L[q]? = some false → (L.set q true).count false + 1 = L.count false := by
            intro L
            induction L with
            | nil => intro q h; simp at h
            | cons x r ihr =>
              intro q h
              cases q with
              | zero => simp at h; subst h; simp
              | succ q =>
                simp at h
                have := ihr q h
                simp only [List.set_cons_succ, List.count_cons]
                omega
          have hq : listed.toList[i]? = some false := by
            have h1 : i < listed.size := by omega
            simp only [Array.getD, h1, dif_pos] at hun
            simp [h1]; simpa using hun
          have := cnt _ i hq
          rw [Array.toList_setIfInBounds]
          omega
        · rw [foldSt_app]
          show Sat O E' ((foldSt m S0).step o.dst ef) (a.put o.dst v) w'
          cases hd : o.dst with
          | none =>
            have : (foldSt m S0).step none ef = (foldSt m S0).ed ef.ed := by cases foldSt m S0; rfl
            rw [this]; exact hs'
          | some n =>
            have := hs'.put (n := n) (x := ef.val) (v := v) (by have := c4 n hd; show n < (foldSt m S0).nt.n; rw [(fold_nt m S0).1]; exact this) hv
            have e : ((foldSt m S0).ed ef.ed).set n ef.val = (foldSt m S0).step (some n) ef := by cases foldSt m S0; rfl
            rw [e] at this; exact this
      have run : effD C (foldSt (l2.take i) S0) (nx + i) o.op (fun e => e = ef) → o.wp C.P a w (wpAny C.P .any l.toArray (fun e a' w' => ∃ S' E', Q e S' ∧ Sat O E' S' a' w') fuel (listed.setIfInBounds i true)) (fun e a' w' => ∃ S' E', Q e S' ∧ Sat O E' S' a' w') := fun hef => by
        have h2 := effD_congr (S' := foldSt m S0) (by rw [(fold_nt (l2.take i) S0).2, (fold_nt m S0).2]) (fun x hx => ev_congr fun t ht => hfr t (by
          unfold looks
          rw [List.mem_append]
          exact Or.inl (List.mem_filterMap.2 ⟨x, hx, by rw [ht]⟩))) hlab hkey hrd hef
        exact effD_ok hs (by rw [hnxm]; omega) (by omega) hinv h2 _ _ fun v E' w' e he hs' hv => by subst he; exact next v E' w' hs' hv
      show wpOp C.P l.toArray _ i _ a w
      unfold wpOp
      have hoa : l.toArray[i]? = some o := by simpa using ho
      rw [hoa]
      simp only
      unfold StepOK at hst
      split at hst
      · rename_i hg
        rw [if_pos (by simp [Region.wanted, hg])]
        exact Or.inl (run hst)
      · rename_i j want hg
        obtain ⟨t, h1, hst⟩ := hst
        have hin : t ∈ looks l o := by unfold looks; rw [List.mem_append, hg]; simp only; rw [h1]; simp
        have h5 : (l.toArray[j]?).bind (·.dst) = some t := by simpa using h1
        have e0 : ∀ S : St, S.ed [] = S := fun S => by cases S; rfl
        rcases hst with ⟨b, h2, h3, h4⟩ | ⟨h2, h3⟩
        · have hlt : lk (foldSt m S0).fr t = .b b := by rw [← hfr t hin]; exact h2
          have hv := hs.fr t
          rw [hlt] at hv
          have hv := hv.val_inv
          have hy : yielded l.toArray a.tmps j = some b := by
            unfold yielded
            have h6 : a.tmps[t]? = some (.bool b) := by
              rw [Array.getD_eq_getD_getElem?] at hv
              cases hq : a.tmps[t]? with
              | none => rw [hq] at hv; simp [undef] at hv
              | some y => rw [hq] at hv; simp at hv; rw [hv]
            rw [h5]
            simp [h6]
          by_cases hbw : b = want
          · rw [if_pos (by simp [Region.wanted, hg, hy, hbw])]
            exact Or.inl (run (h3 hbw))
          · rw [if_neg (by simp [Region.wanted, hg, hy, hbw])]
            have he := h4 hbw
            subst he
            exact next undef E w (by
              show Sat O E ((foldSt m S0).ed []) a w
              rw [e0]; exact hs) (RS.skip _ _ _)
        · have hlt : lk (foldSt m S0).fr t = .tup [] := by rw [← hfr t hin]; exact h2
          have hv := hs.fr t
          rw [hlt] at hv
          have hv := hv.skip_inv
          have hy : yielded l.toArray a.tmps j = none := by
            unfold yielded
            rw [h5]
            rw [Array.getD_eq_getD_getElem?] at hv
            cases hq : a.tmps[t]? with
            | none => simp [hq]
            | some y => rw [hq] at hv; simp at hv; subst hv; simp [hq, undef]
          rw [if_neg (by simp [Region.wanted, hg, hy])]
          subst h3
          exact next undef E w (by
            show Sat O E ((foldSt m S0).ed []) a w
            rw [e0]; exact hs) (RS.skip _ _ _)
  have hs1 : Sat O E S0 a { w with drawn := w.drawn + 1 } := by
    rw [← hS0]
    have h := hs.drew (w.drawn + 1)
    refine ⟨fun n => (h.fr n).mono (fun _ _ => ⟨rfl, rfl⟩) (by simp) (fun _ hb => hb) (fun _ _ => rfl), h.nt, h.df, fun lb b hb => (h.hp lb b hb).mono (h.nx lb b hb) (fun _ _ => ⟨rfl, rfl⟩) (by simp) (fun _ hb => hb) (fun _ _ => rfl) (fun _ => rfl),
      fun lb b hb => Nat.lt_of_lt_of_le (h.nx lb b hb) (by simp), h.inj, h.im, h.own, h.kq, h.lab, Nat.le_trans h.nl (by simp), h.imo⟩
  have := main l.length (Array.replicate l.length false) [] E a { w with drawn := w.drawn + 1 } (by simp) (fun p => by
      constructor
      · intro h; simp at h
      · rintro ⟨j, _, h⟩; simp [Array.getD_eq_getD_getElem?, Array.getElem?_replicate] at h
        split at h <;> simp at h) ⟨[], rfl, fun j => by
      constructor
      · intro h; simp at h
      · rintro ⟨_, h⟩; simp [Array.getD_eq_getD_getElem?, Array.getElem?_replicate] at h
        split at h <;> simp at h, List.Pairwise.nil⟩ (fun i o _ h => by simp [Array.getD_eq_getD_getElem?, Array.getElem?_replicate] at h; split at h <;> simp at h) (by simp) hs1
  simpa using this
theorem Wp.draw {C : Cx} {id : Nat} {l : List Oper} {nt : NT} {nx : Nat} {fr : List (Nat × SV)} {hp : List (Nat × Option Blk)} {Q : Exit → St → Prop} (hm : C.P.follows .mixedOrders = true)
    (h : execR C l nx l 0 ⟨nt, nx + l.length, fr, hp⟩ fun efs Sn => drawOK l efs nx ⟨nt, nx + l.length, fr, hp⟩ = true ∧ Q .normal Sn) : Wp C (.region id l.toArray true) ⟨nt, nx, fr, hp⟩ Q :=
  ⟨fun _ _ _ _ hs => wp_region_any hm (by simpa using Wp.drawAny h hs)⟩
theorem nil_no {n : Nat} {p : Bool → Prop} (h : 0 < n) (hp : p false) : ∀ c : Bool, (0 < n → c = false) → p c := fun c hc => by rw [hc h]; exact hp
end Go.Proofs.YteallmlkkcjblaaGreatDoor

namespace Go.Proofs.YteallmlkkcjblaaGreatDoor
open Go.RowKit
end Go.Proofs.YteallmlkkcjblaaGreatDoor

namespace Go.Proofs.YteallmlkkcjblaaGreatDoor
open Go.RowKit
def inK (C : Cx) (rs : List ResultVar) (nt : NT) (fr : List (Nat × SV)) (k : St → SV → Prop) (S' : St) : Prop :=
  resK C S' rs fun vs => tupK vs fun x => forceK x fun x' => match S' with | ⟨_, nx', _, hp'⟩ => k ⟨nt, nx', fr, hp'⟩ x'
def inQ (C : Cx) (rs : List ResultVar) (nt : NT) (fr : List (Nat × SV)) (k : St → SV → Prop) : Exit → St → Prop
  | .normal, S => inK C rs nt fr k S
  | .ret, S => inK C rs nt fr k S
  | _, _ => False
theorem CallStop.inline {C : Cx} {nt : NT} {nx : Nat} {fr : List (Nat × SV)} {hp : List (Nat × Option Blk)} {g : Nat} {args : List SV} {k : St → SV → Prop} {P : Program} {fn : Func} {c : Code} (hf : P.funcs[g]? = some fn) (hP : C.P = P) (hb : fn.body = some c) (hn : (fn.name == "runtime.NumGoroutine") = false) (hle : args.length ≤ fn.ntmps)
    (h : Wp C c ⟨⟨fn.ntmps, nx⟩, nx, slots 0 args, hp⟩ (inQ C fn.results.toList nt fr k)) : CallStop C ⟨nt, nx, fr, hp⟩ g args k := by
  subst hP
  refine ⟨.mk hf hn (by simp [hb]), fun O E a w vs hs hsz hargs => calls_of_wp hf hb ?_⟩
  let M : Nat → Prop := fun b => ∃ l x, lkh hp l = some x ∧ x.real (E.κ l) ∧ E.ρ l = b
  let Oc : Org := ⟨w, M, E.Im, nx, E.ρ, E.κ, []⟩
  have hs0 : Sat Oc E ⟨⟨fn.ntmps, nx⟩, nx, slots 0 args, hp⟩ { tmps := vs ++ Array.replicate (fn.ntmps - vs.size) undef, defers := [] } w := by
    refine ⟨fun n => ?_, ⟨by simp; omega, rfl⟩, rfl, hs.hp, hs.nx, hs.inj, fun b hb => ⟨(hs.im b hb).1, Or.inr (Or.inl hb), (hs.im b hb).2.2⟩, fun l b hb hr => Or.inl ⟨l, b, hb, hr, rfl⟩, Kq.refl _ _, fun l _ => ⟨rfl, rfl⟩, Nat.le_refl _, fun b hb => hb⟩
    rw [lk_slots]
    by_cases hlt : n < args.length
    · rw [if_pos (by omega), Nat.sub_zero, List.getElem?_eq_getElem hlt]
      have := hargs n hlt
      have h2 : n < vs.size := by omega
      have h3 : (vs ++ Array.replicate (fn.ntmps - vs.size) undef).getD n undef = vs.getD n undef := by
        simp only [Array.getD_eq_getD_getElem?]; rw [Array.getElem?_append_left h2]
      rw [h3]; exact this
    · rw [if_neg (by omega)]; exact .any _
  refine wp_mono (h.out Oc E _ w hs0) fun e a' w' ⟨S', E', hq, hs'⟩ => ?_
  have fin : inK C fn.results.toList nt fr k S' → bodyPost C.P fn (fun e w' => ∃ v E' S' x, e = .returned v ∧ k S' x ∧ Sat O E' S' a w' ∧ RS E' S'.nx w' x v) .normal a' w' := by
    intro hq
    obtain ⟨xs, us, h1, h2, h3, h4⟩ := resK_ok hs' _ _ hq
    obtain ⟨x, g1, g2⟩ := tupK_ok h3 h4 h1
    have g1 := forceK_ok g1
    obtain ⟨nt', nx', fr', hp'⟩ := S'
    have hnl : nx ≤ nx' := hs'.nl
    have hE : ∀ l, l < nx → E'.ρ l = E.ρ l ∧ E'.κ l = E.κ l := hs'.lab
    have hM : ∀ b, M b → O.M b ∨ O.w0.heap.size ≤ b := by
      rintro b ⟨l, y, q1, q2, rfl⟩
      exact hs.own l y q1 q2
    have hwi : ∀ b, E.Im b → w'.heap[b]? = w.heap[b]? := fun b hb => hs'.kq.block b (hs.im b hb).1 (by
      rintro ⟨l, y, q1, q2, q3⟩
      exact (hs.im b hb).2.2 l y q1 q2 q3)
    have hk0 := hs.kq.size
    refine ⟨hs'.df, (if h : us.toArray.size = 1 then us.toArray[0] else .tuple us.toArray), ?_, _, E', ⟨nt, nx', fr, hp'⟩, x, rfl, g1, ?_, g2⟩
    · rw [results_eq, show fn.results = fn.results.toList.toArray by simp, List.mapM_toArray]
      simp only [Sem.run_bind, Sem.run_map, h2]
      rfl
    · refine ⟨fun n => (hs.fr n).mono hE hnl hs'.imo hwi, hs.nt, hs.df, hs'.hp, hs'.nx, hs'.inj, fun b hb => ?_, fun l y hl hr => ?_, ?_, fun l hl => ?_, ?_, fun b hb => hs'.imo b (hs.imo b hb)⟩
      · obtain ⟨q1, q2, q3⟩ := hs'.im b hb
        refine ⟨q1, ?_, q3⟩
        rcases q2 with q2 | q2 | q2
        · exact Or.inl (Nat.le_trans hk0 q2)
        · exact (hs.im b q2).2.1
        · rcases hM b q2 with q | q
          · exact Or.inr (Or.inr q)
          · exact Or.inl q
      · rcases hs'.own l y hl hr with q | q
        · exact hM _ q
        · exact Or.inr (Nat.le_trans hk0 q)
      · exact hs.kq.trans' hs'.kq fun b hb hlt => by
          rcases hM b hb with q | q
          · exact q
          · omega
      · have := hs.nl
        simp only at this
        obtain ⟨q1, q2⟩ := hE l (by omega)
        rw [q1, q2]; exact hs.lab l hl
      · have := hs.nl; simp only at this ⊢; omega
  cases e with
  | normal => exact fin hq
  | ret => exact fin hq
  | _ => exact hq.elim
def thenK (k : St → Prop) (Q : Exit → St → Prop) : Exit → St → Prop
  | .normal, S => k S
  | e, S => Q e S
def WpN (C : Cx) (c : Code) (Q : Exit → St → Prop) : Nat → St → Prop
  | 0, _ => False
  | n + 1, S => Wp C c S (thenK (WpN C c Q n) Q)
theorem WpN_rounds {C : Cx} {c : Code} {O : Org} {Q : Exit → St → Prop} : ∀ (n : Nat) (S : St) (E : Env) (a : Act) (w : World), WpN C c Q n S → Sat O E S a w → Code.rounds C.P c (fun e a' w' => ∃ S' E', Q e S' ∧ Sat O E' S' a' w') n a w
  | 0, S, E, a, w, h, hs => h.elim
  | n + 1, S, E, a, w, h, hs => wp_mono (h.out O E a w hs) fun e a' w' ⟨S', E', h1, h2⟩ => by
    cases e with
    | normal => exact WpN_rounds n S' E' a' w' h1 h2
    | _ => exact ⟨S', E', h1, h2⟩
theorem Wp.loopN {C : Cx} {c : Code} {S : St} {Q : Exit → St → Prop} (n : Nat) (h : WpN C c Q n S) : Wp C (.loop c) S Q :=
  ⟨fun O E a w hs => wp_loop_rounds n (WpN_rounds n S E a w h hs)⟩
theorem CallStop.fn {C : Cx} {nt : NT} {nx : Nat} {fr : List (Nat × SV)} {hp : List (Nat × Option Blk)} {g : Nat} {args : List SV} {k : St → SV → Prop} {m m' : Nat} {args0 : List SV} {H H' : List (Nat × Option Blk)} {r : SV} (h : Fun C g m args0 H m' r H') (L : List Nat) (hlen : L.length = m) (hd : noDup L = true) (hlive : liveK H m = true) (hkeys : keysK H' m = true) (hlt : keysLt H' m' = true)
    (ha : ArgLes L args args0) (hh : HeapLe hp L H) (hk : k ⟨nt, nx + (m' - m), fr, postH (πf L nx) hp H'⟩ (ren2 (πf L nx) r)) : CallStop C ⟨nt, nx, fr, hp⟩ g args k :=
  .fun h L hlen hd hlive hkeys hlt ha hh hk
theorem DCall.fn {C : Cx} {nt : NT} {nx : Nat} {fr : List (Nat × SV)} {hp : List (Nat × Option Blk)} {ln g : Nat} {args : List SV} {k : SV → List (Nat × Option Blk) → List Nat → Prop} {m : Nat} {args0 : List SV} {H H' : List (Nat × Option Blk)} {r : SV} (h : Fun C g m args0 H m r H') (L K : List Nat) (hlen : L.length = m) (hd : noDup L = true) (hlive : liveK H m = true) (hkeys : keysK H' m = true) (hlt : keysLt H' m = true)
    (ha : ArgLes L args args0) (hh : HeapLe hp L H) (hs : sameK (postH (πf L nx) [] H') hp K) (hk : k (ren2 (πf L nx) r) (dropK K (postH (πf L nx) [] H')) K) : DCall C ⟨nt, nx, fr, hp⟩ ln g args k :=
  .fun h L K hlen hd hlive hkeys hlt ha hh hs hk
end Go.Proofs.YteallmlkkcjblaaGreatDoor

namespace Go.Proofs.YteallmlkkcjblaaGreatDoor
open Go.RowKit
theorem RD.sl_congr {w : World} {Im : Nat → Prop} {z n : Nat} {f g : Nat → List D} {v : Value} (h : ∀ i, i < n → f i = g i) (hv : RD w Im (.sl z n f) v) : RD w Im (.sl z n g) v := by
  cases hv with
  | sl _ _ _ a cap q hc hm hl ha hg =>
    refine .sl z n g a cap q hc hm (fun i hi => by rw [← h i hi]; exact hl i hi) ha fun i j hi hj => ?_
    have key : ∀ c : List D, c = f i → ∀ hj' : j < c.length, RD w Im c[j] (q i j) := by
      intro c hc hj'; subst hc; exact hg i j hi hj'
    exact key _ (h i hi).symm hj
theorem SV.Le.sl {z n : Nat} {f g : Nat → List D} (h : ∀ i, i < n → f i = g i) : SV.Le (.d (.sl z n f)) (.d (.sl z n g)) :=
  ⟨fun E nx w v hv => by cases hv with | d _ _ hv => exact .d _ _ (hv.sl_congr h)⟩
theorem SV.Le.nil {z : Nat} {f : Nat → List D} : SV.Le (.d (.val (.slice none 0 0))) (.d (.sl z 0 f)) :=
  ⟨fun E nx w v hv => by
    obtain rfl := hv.val_inv
    exact .d _ _ (.sl z 0 f none 0 (fun _ _ => undef) (Nat.le_refl _) (by unfold maxLen; omega) (fun i hi => by omega) (fun h => by omega) (fun i j hi => by omega))⟩
structure Les (xs ys : List SV) : Prop where
  len : xs.length = ys.length
  out : ∀ j (hx : j < xs.length) (hy : j < ys.length), SV.Le xs[j] ys[j]
theorem Les.nil : Les [] [] := ⟨rfl, fun j hx => by simp at hx⟩
theorem Les.cons {x y : SV} {xs ys : List SV} (h : SV.Le x y) (k : Les xs ys) : Les (x :: xs) (y :: ys) :=
  ⟨by simp [k.len], fun j hx hy => by cases j with | zero => exact h | succ j => exact k.out j (by simpa using hx) (by simpa using hy)⟩
def imK (S : St) : List SV → (St → List SV → Prop) → Prop
  | [], k => k S []
  | .sl l z off n :: r, k => match S with
    | ⟨nt, nx, fr, hp⟩ => match lkh hp l with
      | some (.row _ z' m f) => bif Nat.beq z' z then off + n ≤ m ∧ imK ⟨nt, nx, fr, (l, none) :: hp⟩ r fun S' xs => k S' (.d (.sl z n fun i => f (off + i)) :: xs) else False
      | _ => False
  | x :: r, k => bif x.free then imK S r fun S' xs => k S' (x :: xs) else False
theorem imK_ok {O : Org} {a : Act} {w : World} : ∀ (xs : List SV) {E : Env} {S : St} {us : List Value} {k : St → List SV → Prop}, Sat O E S a w → us.length = xs.length → (∀ (j : Nat) (x : SV) (v : Value), xs[j]? = some x → us[j]? = some v → RS E S.nx w x v) → imK S xs k →
    ∃ E' S' ys, k S' ys ∧ Sat O E' S' a w ∧ ys.length = xs.length ∧ (∀ b, E.Im b → E'.Im b) ∧ ∀ (j : Nat) (y : SV) (v : Value), ys[j]? = some y → us[j]? = some v → RS E' 0 w y v
  | [], E, S, us, k, hs, hl, hh, h => ⟨E, S, [], h, hs, rfl, fun _ h => h, fun j y v hy => by simp at hy⟩
  | x :: r, E, S, [], k, hs, hl, hh, h => by simp at hl
  | x :: r, E, S, u :: us, k, hs, hl, hh, h => by
    have hu := hh 0 x u rfl rfl
    have go : ∀ (E1 : Env) (S1 : St) (y : SV), Sat O E1 S1 a w → E1.ρ = E.ρ → E1.κ = E.κ → S1.nx = S.nx → (∀ b, E.Im b → E1.Im b) → RS E1 0 w y u → y.free = true → (imK S1 r fun S' xs => k S' (y :: xs)) →
        ∃ E' S' ys, k S' ys ∧ Sat O E' S' a w ∧ ys.length = (x :: r).length ∧ (∀ b, E.Im b → E'.Im b) ∧ ∀ (j : Nat) (y : SV) (v : Value), ys[j]? = some y → (u :: us)[j]? = some v → RS E' 0 w y v := by
      intro E1 S1 y hs1 e1 e2 e3 e4 hy hf h1
      obtain ⟨E', S', ys, g1, g2, g3, g4, g5⟩ := imK_ok r hs1 (by simpa using hl) (fun j x v hx hv => RS.mono (E := E) (fun _ _ => ⟨by rw [e1], by rw [e2]⟩) (by omega) e4 (fun _ _ => rfl) (hh (j + 1) x v (by simpa using hx) (by simpa using hv))) h1
      refine ⟨E', S', _, g1, g2, by simp [g3], fun b hb => g4 b (e4 b hb), fun j z v hz hv => ?_⟩
      cases j with
      | zero =>
        simp at hz hv; subst hz hv
        have h5 : RS ⟨E1.ρ, E1.κ, E'.Im⟩ 0 w y u := RS.mono (E := E1) (fun _ _ => ⟨rfl, rfl⟩) (Nat.le_refl _) g4 (fun _ _ => rfl) hy
        exact RS.free (E := ⟨E1.ρ, E1.κ, E'.Im⟩) (E' := E') rfl hf h5
      | succ j => simp at hz hv; exact g5 j z v hz hv
    have free : ∀ y : SV, y = x → y.free = true → (imK S r fun S' xs => k S' (y :: xs)) → _ := fun y hy hf h1 => go E S y hs rfl rfl rfl (fun _ h => h) (by subst hy; exact RS.free (E := E) rfl hf hu) hf h1
    cases x with
    | sl l z off n =>
      obtain ⟨nt, nx, fr, hp⟩ := S
      simp only [imK] at h
      split at h
      · rename_i e z' m f hl'
        cases hb : Nat.beq z' z with
        | false => simp [hb] at h
        | true =>
          simp only [hb, cond_true] at h
          obtain rfl := Nat.eq_of_beq_eq_true hb
          obtain ⟨h1, h2⟩ := h
          by_cases hκ : 0 < E.κ l
          · obtain ⟨s1, s2⟩ := hs.imm (w' := w) hl' hκ (fun _ _ _ => rfl) rfl ⟨rfl, rfl, rfl⟩ (fun vs hvs => ⟨_, hvs⟩)
            have h5 := s2 off n u h1 hu
            exact go _ _ _ s1 rfl rfl rfl (fun b hb => Or.inl hb) (RS.free (E := ⟨E.ρ, E.κ, fun b => E.Im b ∨ b = E.ρ l⟩) rfl rfl h5) rfl h2
          · have hm := (hs.hp l _ hl').1
            have hn : n = 0 := by omega
            subst hn
            refine go _ _ _ (hs.kill l) rfl rfl rfl (fun _ h => h) ?_ rfl h2
            cases hu with
            | sl _ _ _ _ a' cap hlx hc hmx ha h0 => exact .d _ _ (.sl _ 0 _ a' cap (fun _ _ => undef) hc hmx (fun i hi => by omega) (fun h => by omega) (fun i j hi => by omega))
      · exact h.elim
    | _ =>
      simp only [imK] at h
      generalize hx : SV.free _ = b at h
      cases b with
      | false => exact h.elim
      | true => exact free _ rfl hx h
def cntK : List Oper → Nat → (Nat → Prop) → Prop
  | [], m, k => k m
  | _ :: r, m, k => cntK r (m + 1) k
theorem cntK_ok : ∀ (l : List Oper) (m : Nat) (k : Nat → Prop), cntK l m k → k (m + l.length)
  | [], m, k, h => h
  | _ :: r, m, k, h => by
    have := cntK_ok r (m + 1) k h
    rw [List.length_cons, show m + (r.length + 1) = m + 1 + r.length by omega]; exact this
theorem Wp.drawL {C : Cx} {id : Nat} {l : List Oper} {nt : NT} {nx : Nat} {fr : List (Nat × SV)} {hp : List (Nat × Option Blk)} {Q : Exit → St → Prop} (hm : C.P.follows .mixedOrders = true)
    (h : cntK l nx fun m => execR C l nx l 0 ⟨nt, m, fr, hp⟩ fun efs Sn => drawOK l efs nx ⟨nt, m, fr, hp⟩ = true ∧ Q .normal Sn) : Wp C (.region id l.toArray true) ⟨nt, nx, fr, hp⟩ Q :=
  .draw hm (cntK_ok l nx _ h)
end Go.Proofs.YteallmlkkcjblaaGreatDoor

namespace Go.Proofs.YteallmlkkcjblaaGreatDoor
open Go.RowKit
end Go.Proofs.YteallmlkkcjblaaGreatDoor

namespace Go.Proofs.YteallmlkkcjblaaGreatDoor
open Go.RowKit
def pm (l nx k : Nat) : Nat := bif Nat.beq k l then nx else k
def mvH (l nx : Nat) : List (Nat × Option Blk) → List (Nat × Option Blk)
  | [] => []
  | (k, none) :: r => (k, none) :: mvH l nx r
  | (k, some b) :: r => (k, some (renB (pm l nx) b)) :: mvH l nx r
end Go.Proofs.YteallmlkkcjblaaGreatDoor

namespace Go.Proofs.YteallmlkkcjblaaGreatDoor
open Go.RowKit
structure Seal (S : St) (L : List Nat) (x y : SV) : Prop where
  out : ∀ O E a w v, Sat O E S a w → RS E S.nx w x v → RS (E.end S L) L.length w y v
def Seals (S : St) (L : List Nat) : List SV → List SV → Prop
  | [], [] => True
  | x :: xs, y :: ys => Seal S L x y ∧ Seals S L xs ys
  | _, _ => False
theorem Seals.out {S : St} {L : List Nat} : ∀ {xs ys : List SV}, Seals S L xs ys → xs.length = ys.length ∧ ∀ (j : Nat) (y : SV), ys[j]? = some y → ∃ x, xs[j]? = some x ∧ Seal S L x y
  | [], [], _ => ⟨rfl, fun j y h => by simp at h⟩
  | x :: xs, y :: ys, ⟨h1, h2⟩ => by
    obtain ⟨g1, g2⟩ := Seals.out h2
    refine ⟨by simp [g1], fun j z hz => ?_⟩
    cases j with
    | zero => simp at hz; subst hz; exact ⟨x, rfl, h1⟩
    | succ j => simp at hz; exact g2 j z hz
  | [], _ :: _, h => h.elim
  | _ :: _, [], h => h.elim
theorem Seals.at {S : St} {L : List Nat} {xs ys : List SV} (h : Seals S L xs ys) {j : Nat} (hj : j < ys.length) : ∃ hj' : j < xs.length, Seal S L xs[j] ys[j] := by
  obtain ⟨h1, h2⟩ := h.out
  obtain ⟨x, g1, g2⟩ := h2 j _ (List.getElem?_eq_getElem hj)
  obtain ⟨q1, q2⟩ := List.getElem?_eq_some_iff.1 g1
  exact ⟨q1, by rw [q2]; exact g2⟩
variable {S : St} {L : List Nat}
theorem Seal.any {x : SV} : Seal S L x .any := ⟨fun _ _ _ _ _ _ _ => .any _⟩
theorem Seal.d {x : D} : Seal S L (.d x) (.d x) := ⟨fun O E a w v hs hv => by cases hv with | d _ _ hv => exact .d _ _ (hv.mono (fun _ hb => Or.inl hb) fun _ _ => rfl)⟩
theorem Seal.sl {l e z o n m : Nat} {f : Nat → List D} (hi : idxK L l = none) (hl : lkh S.hp l = some (.row e z m f)) (hn : o + n ≤ m) : Seal S L (.sl l z o n) (.d (.sl z n fun i => f (o + i))) := by
  refine ⟨fun O E a w v hs hv => ?_⟩
  have hI : ∀ b, E.Im b → (E.end S L).Im b := fun b hb => Or.inl hb
  obtain ⟨y, h1, h2⟩ := sealD_fine (ρ' := (E.end S L).ρ) (κ' := (E.end S L).κ) (m' := L.length) (k := fun y => y = .d (.sl z n fun i => f (o + i))) hs hI hv (fun l' b hl' hb hr => by
      have : SV.lab (.sl l z o n) = some l := rfl
      rw [this] at hl'; cases hl'; exact Or.inr ⟨l, b, hb, hr, rfl, idxK_none hi⟩) (by simp only [sealD, hl]; simp [hn])
  rw [h1] at h2; exact h2
structure DLe (x y : D) : Prop where
  out : ∀ w Im v, RD w Im x v → RD w Im y v
theorem DLe.refl (x : D) : DLe x x := ⟨fun _ _ _ h => h⟩
theorem DLe.nil {z : Nat} {f : Nat → List D} : DLe (.val (.slice none 0 0)) (.sl z 0 f) := ⟨fun w Im v h => by
  cases h with | val _ _ => exact .sl z 0 f none 0 (fun _ _ => undef) (Nat.le_refl _) (by unfold maxLen; omega) (fun i hi => by omega) (fun h => by omega) (fun i j hi => by omega)⟩
def DLes : List D → List D → Prop
  | [], [] => True
  | x :: xs, y :: ys => DLe x y ∧ DLes xs ys
  | _, _ => False
theorem DLes.refl : ∀ xs : List D, DLes xs xs
  | [] => trivial
  | x :: xs => ⟨.refl x, DLes.refl xs⟩
theorem DLes.of {xs ys : List D} (h : xs = ys) : DLes xs ys := by subst h; exact .refl _
theorem DLes.out : ∀ {xs ys : List D}, DLes xs ys → xs.length = ys.length ∧ ∀ (j : Nat) (hx : j < xs.length) (hy : j < ys.length), DLe xs[j] ys[j]
  | [], [], _ => ⟨rfl, fun j hx => by simp at hx⟩
  | x :: xs, y :: ys, ⟨h1, h2⟩ => by
    obtain ⟨g1, g2⟩ := DLes.out h2
    refine ⟨by simp [g1], fun j hx hy => ?_⟩
    cases j with
    | zero => exact h1
    | succ j => exact g2 j (by simpa using hx) (by simpa using hy)
  | [], _ :: _, h => h.elim
  | _ :: _, [], h => h.elim
theorem zA {p : Prop} (h : p := by first | ((((conv => whnf); repeat' (first | exact trivial | exact ArgLe.rfl rfl | exact ArgLe.ptr rfl | exact ArgLe.sl rfl | ((with_reducible refine ArgLe.fn ?_); (conv => whnf)) | ((refine ArgLe.iref ?_); (conv => whnf)) | exact ArgLe.free SV.Le.nil rfl | ((with_reducible refine And.intro ?_ ?_) <;> (conv => whnf)) | ((refine ArgLe.free ?_ rfl); (repeat' (first | exact SV.Le.rfl _ | exact SV.Le.nil | exact SV.Le.sl (fun i hi => by (rcases i with _ | _ | _ | _ | i) <;> first | rfl | (exfalso; omega)) | with_reducible refine SV.Le.agg ?_ | exact Les.nil | with_reducible refine Les.cons ?_ ?_)))))); done) | fail "no") : p := h
theorem zH {p : Prop} (h : p := by first | ((((conv => whnf); repeat' (first | exact trivial | exact ArgLe.rfl rfl | exact ArgLe.ptr rfl | exact ArgLe.sl rfl | ((with_reducible refine ArgLe.fn ?_); (conv => whnf)) | ((refine ArgLe.iref ?_); (conv => whnf)) | exact ArgLe.free SV.Le.nil rfl | exact ⟨rfl, rfl, rfl⟩ | exact fun i hi => rfl | exact (fun i hi => by (rcases i with _ | i) <;> first | rfl | (exfalso; omega)) | ((with_reducible refine And.intro ?_ ?_) <;> (conv => whnf))))); done) | fail "no") : p := h
theorem zD {p : Prop} (h : p := by first | ((((conv => whnf); repeat' (first | exact trivial | exact ArgLe.rfl rfl | exact ArgLe.ptr rfl | exact ArgLe.sl rfl | exact ⟨rfl, rfl, rfl⟩ | exact ⟨rfl, Nat.le_of_ble_eq_true rfl⟩ | exact dir_arg (by assumption) | exact dir_argR (by assumption) (fun l hl => by rcases l with _ | _ | _ | _ | _ | l <;> first | rfl | omega) | exact fun i hi => rfl | ((with_reducible refine And.intro ?_ ?_) <;> (conv => whnf))))); done) | fail "no") : p := h
theorem zG {p : Prop} (h : p := by first | ((((conv => whnf); repeat' (first | exact trivial | exact ArgLe.rfl rfl | exact ArgLe.ptr rfl | exact ArgLe.sl5 | exact ArgLe.sl rfl | exact ⟨rfl, rfl, rfl⟩ | exact ⟨rfl, Nat.le_of_ble_eq_true rfl⟩ | exact dir_arg4 | exact dir_argR4 (fun l hl => by rcases l with _ | _ | _ | _ | l <;> first | rfl | omega) | exact fun i hi => rfl | ((with_reducible refine And.intro ?_ ?_) <;> (conv => whnf))))); done) | fail "no") : p := h
theorem zK {p : Prop} (h : p := by first | (((conv => whnf); repeat' (first | exact trivial | ((refine And.intro rfl ?_); (conv => whnf)))); done) | fail "no") : p := h
theorem zB {p : Prop} (h : p := by first | ((first | exact bytes_bd (Nat.le_of_ble_eq_true rfl) (by omega) | omega); done) | fail "no") : p := h
theorem zO {p : Prop} (h : p := by first | ((first | exact IntWalk.i64_in _ (by omega) | exact IntWalk.u64_in _ (by omega) | exact IntWalk.u8_in _ (by omega) | exact IntWalk.u32_in _ (by omega) | exact IntWalk.i32_in _ (by omega) | exact IntWalk.u16_in _ (by omega)); done) | fail "no") : p := h
theorem zC {p : Prop} (h : p := by first | ((first | omega | exact Nat.le_of_ble_eq_true rfl); done) | fail "no") : p := h
theorem zF {p : Prop} (h : p := by first | ((first | exact trivial | exact Seal.any | exact Seal.d | exact Seal.ptrL rfl | exact Seal.slL rfl | exact Seal.lt0 (SV.Lt.of rfl) | exact Seal.same (by assumption) (Nat.le_of_ble_eq_true rfl) (fun i hi => id5 hi) | exact Seal.le Seal.d (SV.Le.i (by omega)) | exact ⟨rfl, rfl, rfl⟩ | exact ⟨rfl, Nat.le_of_ble_eq_true rfl⟩ | exact dir_seal (by assumption) | exact dir_sealR4 (fun l hl => by rcases l with _ | _ | _ | _ | l <;> first | rfl | omega) | exact dir_sealR (by assumption) (fun l hl => by rcases l with _ | _ | _ | _ | _ | l <;> first | rfl | omega) | exact fun i hi => DLes.refl _ | exact Seal.le Seal.d SV.Le.nil | exact Seal.le (Seal.sl rfl rfl (by omega)) (SV.Le.sl fun i hi => by simp only [Nat.zero_add])); done) | fail "no") : p := h
theorem zE {p : Prop} (h : p := by first | ((first | exact trivial | exact Seal.any | exact Seal.d | exact Seal.ptrL rfl | exact Seal.slL rfl | exact Seal.lt0 (SV.Lt.of rfl) | exact Seal.same (by assumption) (Nat.le_of_ble_eq_true rfl) (fun i hi => id5 hi) | exact Seal.le Seal.d (SV.Le.i (by omega)) | exact ⟨rfl, rfl, rfl⟩ | exact ⟨rfl, Nat.le_of_ble_eq_true rfl⟩ | exact dir_seal (by assumption) | exact dir_sealR (by assumption) (fun l hl => by rcases l with _ | _ | _ | _ | _ | l <;> first | rfl | omega) | exact fun i hi => DLes.refl _ | exact Seal.le Seal.d SV.Le.nil | exact Seal.le (Seal.sl rfl rfl (by omega)) (SV.Le.sl fun i hi => by simp only [Nat.zero_add])); done) | fail "no") : p := h
end Go.Proofs.YteallmlkkcjblaaGreatDoor

namespace Go.Proofs.YteallmlkkcjblaaGreatDoor
open Go.RowKit
abbrev zP := TIok Tryz.prog
theorem zT {P : Program} {t : Nat} {i : TI} (h : TIok P t i := by exact ⟨by kernel_rfl, by kernel_rfl, fun h => by cases h⟩) : TIok P t i := h
def ti1 : TI := ⟨.func, 1, 8, [.nilFunc], false⟩
theorem ti1_ok : zP 1 ti1 := zT
def ti2 : TI := ⟨.int .i64, 1, 8, [.int .i64 0], false⟩
theorem ti2_ok : zP 2 ti2 := zT
def ti3 : TI := ⟨.int .i64, 1, 8, [.int .i64 0], false⟩
theorem ti3_ok : zP 3 ti3 := zT
def ti4 : TI := ⟨.bool, 1, 1, [.bool false], false⟩
theorem ti4_ok : zP 4 ti4 := zT
def ti5 : TI := ⟨.int .u8, 1, 1, [.int .u8 0], false⟩
theorem ti5_ok : zP 5 ti5 := zT
def ti6 : TI := ⟨.int .u8, 1, 1, [.int .u8 0], false⟩
theorem ti6_ok : zP 6 ti6 := zT
def ti7 : TI := ⟨.struct [(0, 2), (1, 3), (2, 4), (3, 6)], 4, 24, [.int .i64 0, .int .i64 0, .bool false, .int .u8 0], false⟩
theorem ti7_ok : zP 7 ti7 := zT
def ti8 : TI := ⟨.struct [(0, 2), (1, 3), (2, 4), (3, 6)], 4, 24, [.int .i64 0, .int .i64 0, .bool false, .int .u8 0], false⟩
theorem ti8_ok : zP 8 ti8 := zT
def ti9 : TI := ⟨.str, 1, 16, [.string ⟨#[]⟩], false⟩
theorem ti9_ok : zP 9 ti9 := zT
def ti10 : TI := ⟨.str, 1, 16, [.string ⟨#[]⟩], false⟩
theorem ti10_ok : zP 10 ti10 := zT
def ti11 : TI := ⟨.str, 1, 16, [.string ⟨#[]⟩], false⟩
theorem ti11_ok : zP 11 ti11 := zT
def ti12 : TI := ⟨.int .u64, 1, 8, [.int .u64 0], false⟩
theorem ti12_ok : zP 12 ti12 := zT
def ti13 : TI := ⟨.struct [(0, 9), (1, 12)], 2, 24, [.string ⟨#[]⟩, .int .u64 0], false⟩
theorem ti13_ok : zP 13 ti13 := zT
def ti14 : TI := ⟨.struct [(0, 9), (1, 12)], 2, 24, [.string ⟨#[]⟩, .int .u64 0], false⟩
theorem ti14_ok : zP 14 ti14 := zT
def ti15 : TI := ⟨.ptr 169, 1, 8, [.pointer none], false⟩
theorem ti15_ok : zP 15 ti15 := zT
def ti16 : TI := ⟨.ptr 172, 1, 8, [.pointer none], false⟩
theorem ti16_ok : zP 16 ti16 := zT
def ti17 : TI := ⟨.ptr 180, 1, 8, [.pointer none], false⟩
theorem ti17_ok : zP 17 ti17 := zT
def ti18 : TI := ⟨.struct [(0, 17)], 1, 8, [.pointer none], false⟩
theorem ti18_ok : zP 18 ti18 := zT
def ti19 : TI := ⟨.struct [(0, 17)], 1, 8, [.pointer none], false⟩
theorem ti19_ok : zP 19 ti19 := zT
def ti20 : TI := ⟨.other, 1, 16, [.nilIface], false⟩
theorem ti20_ok : zP 20 ti20 := zT
def ti21 : TI := ⟨.int .i32, 1, 4, [.int .i32 0], false⟩
theorem ti21_ok : zP 21 ti21 := zT
def ti22 : TI := ⟨.ptr 48, 1, 8, [.pointer none], false⟩
theorem ti22_ok : zP 22 ti22 := zT
def ti23 : TI := ⟨.slice 31, 1, 24, [.slice none 0 0], false⟩
theorem ti23_ok : zP 23 ti23 := zT
def ti24 : TI := ⟨.int .i64, 1, 8, [.int .i64 0], false⟩
theorem ti24_ok : zP 24 ti24 := zT
def ti26 : TI := ⟨.func, 1, 8, [.nilFunc], false⟩
theorem ti26_ok : zP 26 ti26 := zT
def ti27 : TI := ⟨.slice 70, 1, 24, [.slice none 0 0], false⟩
theorem ti27_ok : zP 27 ti27 := zT
def ti28 : TI := ⟨.struct [(0, 5), (1, 3)], 2, 16, [.int .u8 0, .int .i64 0], true⟩
theorem ti28_ok : zP 28 ti28 := ⟨by kernel_rfl, by kernel_rfl, fun _ => ⟨by kernel_rfl, by kernel_rfl, by kernel_rfl⟩⟩
def ti29 : TI := ⟨.struct [(0, 5), (1, 3)], 2, 16, [.int .u8 0, .int .i64 0], true⟩
theorem ti29_ok : zP 29 ti29 := ⟨by kernel_rfl, by kernel_rfl, fun _ => ⟨by kernel_rfl, by kernel_rfl, by kernel_rfl⟩⟩
def ti30 : TI := ⟨.struct [(0, 9), (1, 27), (2, 29), (4, 4)], 5, 64, [.string ⟨#[]⟩, .slice none 0 0, .int .u8 0, .int .i64 0, .bool false], false⟩
theorem ti30_ok : zP 30 ti30 := zT
def ti31 : TI := ⟨.struct [(0, 9), (1, 27), (2, 29), (4, 4)], 5, 64, [.string ⟨#[]⟩, .slice none 0 0, .int .u8 0, .int .i64 0, .bool false], false⟩
theorem ti31_ok : zP 31 ti31 := zT
def ti33 : TI := ⟨.func, 1, 8, [.nilFunc], false⟩
theorem ti33_ok : zP 33 ti33 := zT
def ti35 : TI := ⟨.func, 1, 8, [.nilFunc], false⟩
theorem ti35_ok : zP 35 ti35 := zT
def ti36 : TI := ⟨.func, 1, 8, [.nilFunc], false⟩
theorem ti36_ok : zP 36 ti36 := zT
def ti37 : TI := ⟨.func, 1, 8, [.nilFunc], false⟩
theorem ti37_ok : zP 37 ti37 := zT
def ti38 : TI := ⟨.slice 71, 1, 24, [.slice none 0 0], false⟩
theorem ti38_ok : zP 38 ti38 := zT
def ti39 : TI := ⟨.struct [(0, 5), (1, 3)], 2, 16, [.int .u8 0, .int .i64 0], true⟩
theorem ti39_ok : zP 39 ti39 := ⟨by kernel_rfl, by kernel_rfl, fun _ => ⟨by kernel_rfl, by kernel_rfl, by kernel_rfl⟩⟩
def ti40 : TI := ⟨.struct [(0, 9), (1, 38), (2, 39), (4, 4)], 5, 64, [.string ⟨#[]⟩, .slice none 0 0, .int .u8 0, .int .i64 0, .bool false], false⟩
theorem ti40_ok : zP 40 ti40 := zT
def ti41 : TI := ⟨.struct [(0, 9), (1, 38), (2, 39), (4, 4)], 5, 64, [.string ⟨#[]⟩, .slice none 0 0, .int .u8 0, .int .i64 0, .bool false], false⟩
theorem ti41_ok : zP 41 ti41 := zT
def ti42 : TI := ⟨.func, 1, 8, [.nilFunc], false⟩
theorem ti42_ok : zP 42 ti42 := zT
def ti43 : TI := ⟨.slice 9, 1, 24, [.slice none 0 0], false⟩
theorem ti43_ok : zP 43 ti43 := zT
def ti44 : TI := ⟨.func, 1, 8, [.nilFunc], false⟩
theorem ti44_ok : zP 44 ti44 := zT
def ti45 : TI := ⟨.func, 1, 8, [.nilFunc], false⟩
theorem ti45_ok : zP 45 ti45 := zT
def ti46 : TI := ⟨.slice 49, 1, 24, [.slice none 0 0], false⟩
theorem ti46_ok : zP 46 ti46 := zT
def ti47 : TI := ⟨.struct [(0, 46), (1, 3)], 2, 32, [.slice none 0 0, .int .i64 0], false⟩
theorem ti47_ok : zP 47 ti47 := zT
def ti48 : TI := ⟨.struct [(0, 46), (1, 3)], 2, 32, [.slice none 0 0, .int .i64 0], false⟩
theorem ti48_ok : zP 48 ti48 := zT
def ti49 : TI := ⟨.ptr 57, 1, 8, [.pointer none], false⟩
theorem ti49_ok : zP 49 ti49 := zT
def ti50 : TI := ⟨.func, 1, 8, [.nilFunc], false⟩
theorem ti50_ok : zP 50 ti50 := zT
def ti51 : TI := ⟨.func, 1, 8, [.nilFunc], false⟩
theorem ti51_ok : zP 51 ti51 := zT
def ti52 : TI := ⟨.func, 1, 8, [.nilFunc], false⟩
theorem ti52_ok : zP 52 ti52 := zT
def ti53 : TI := ⟨.slice 62, 1, 24, [.slice none 0 0], false⟩
theorem ti53_ok : zP 53 ti53 := zT
def ti54 : TI := ⟨.struct [(0, 9), (1, 53)], 2, 40, [.string ⟨#[]⟩, .slice none 0 0], false⟩
theorem ti54_ok : zP 54 ti54 := zT
def ti55 : TI := ⟨.struct [(0, 9), (1, 53)], 2, 40, [.string ⟨#[]⟩, .slice none 0 0], false⟩
theorem ti55_ok : zP 55 ti55 := zT
def ti56 : TI := ⟨.struct [(0, 55), (2, 3)], 3, 48, [.string ⟨#[]⟩, .slice none 0 0, .int .i64 0], false⟩
theorem ti56_ok : zP 56 ti56 := zT
def ti57 : TI := ⟨.struct [(0, 55), (2, 3)], 3, 48, [.string ⟨#[]⟩, .slice none 0 0, .int .i64 0], false⟩
theorem ti57_ok : zP 57 ti57 := zT
def ti59 : TI := ⟨.func, 1, 8, [.nilFunc], false⟩
theorem ti59_ok : zP 59 ti59 := zT
def ti60 : TI := ⟨.struct [(0, 5), (1, 3)], 2, 16, [.int .u8 0, .int .i64 0], true⟩
theorem ti60_ok : zP 60 ti60 := ⟨by kernel_rfl, by kernel_rfl, fun _ => ⟨by kernel_rfl, by kernel_rfl, by kernel_rfl⟩⟩
def ti61 : TI := ⟨.struct [(0, 5), (1, 3)], 2, 16, [.int .u8 0, .int .i64 0], true⟩
theorem ti61_ok : zP 61 ti61 := ⟨by kernel_rfl, by kernel_rfl, fun _ => ⟨by kernel_rfl, by kernel_rfl, by kernel_rfl⟩⟩
def ti62 : TI := ⟨.slice 61, 1, 24, [.slice none 0 0], false⟩
theorem ti62_ok : zP 62 ti62 := zT
def ti63 : TI := ⟨.slice 55, 1, 24, [.slice none 0 0], false⟩
theorem ti63_ok : zP 63 ti63 := zT
def ti64 : TI := ⟨.func, 1, 8, [.nilFunc], false⟩
theorem ti64_ok : zP 64 ti64 := zT
def ti66 : TI := ⟨.func, 1, 8, [.nilFunc], false⟩
theorem ti66_ok : zP 66 ti66 := zT
def ti67 : TI := ⟨.func, 1, 8, [.nilFunc], false⟩
theorem ti67_ok : zP 67 ti67 := zT
def ti68 : TI := ⟨.func, 1, 8, [.nilFunc], false⟩
theorem ti68_ok : zP 68 ti68 := zT
def ti69 : TI := ⟨.struct [(0, 5), (1, 5), (2, 3)], 3, 16, [.int .u8 0, .int .u8 0, .int .i64 0], true⟩
theorem ti69_ok : zP 69 ti69 := ⟨by kernel_rfl, by kernel_rfl, fun _ => ⟨by kernel_rfl, by kernel_rfl, by kernel_rfl⟩⟩
def ti70 : TI := ⟨.struct [(0, 5), (1, 5), (2, 3)], 3, 16, [.int .u8 0, .int .u8 0, .int .i64 0], true⟩
theorem ti70_ok : zP 70 ti70 := ⟨by kernel_rfl, by kernel_rfl, fun _ => ⟨by kernel_rfl, by kernel_rfl, by kernel_rfl⟩⟩
def ti71 : TI := ⟨.struct [(0, 5), (1, 5), (2, 3)], 3, 16, [.int .u8 0, .int .u8 0, .int .i64 0], true⟩
theorem ti71_ok : zP 71 ti71 := ⟨by kernel_rfl, by kernel_rfl, fun _ => ⟨by kernel_rfl, by kernel_rfl, by kernel_rfl⟩⟩
def ti72 : TI := ⟨.func, 1, 8, [.nilFunc], false⟩
theorem ti72_ok : zP 72 ti72 := zT
def ti73 : TI := ⟨.ptr 75, 1, 8, [.pointer none], false⟩
theorem ti73_ok : zP 73 ti73 := zT
def ti74 : TI := ⟨.struct [(0, 53), (1, 3), (2, 27)], 3, 56, [.slice none 0 0, .int .i64 0, .slice none 0 0], false⟩
theorem ti74_ok : zP 74 ti74 := zT
def ti75 : TI := ⟨.struct [(0, 53), (1, 3), (2, 27)], 3, 56, [.slice none 0 0, .int .i64 0, .slice none 0 0], false⟩
theorem ti75_ok : zP 75 ti75 := zT
def ti76 : TI := ⟨.func, 1, 8, [.nilFunc], false⟩
theorem ti76_ok : zP 76 ti76 := zT
def ti77 : TI := ⟨.func, 1, 8, [.nilFunc], false⟩
theorem ti77_ok : zP 77 ti77 := zT
def ti78 : TI := ⟨.func, 1, 8, [.nilFunc], false⟩
theorem ti78_ok : zP 78 ti78 := zT
def ti79 : TI := ⟨.other, 1, 8, [.map none], false⟩
theorem ti79_ok : zP 79 ti79 := zT
def ti80 : TI := ⟨.func, 1, 8, [.nilFunc], false⟩
theorem ti80_ok : zP 80 ti80 := zT
def ti81 : TI := ⟨.int .i64, 1, 8, [.int .i64 0], false⟩
theorem ti81_ok : zP 81 ti81 := zT
def ti82 : TI := ⟨.other, 1, 16, [.nilIface], false⟩
theorem ti82_ok : zP 82 ti82 := zT
def ti83 : TI := ⟨.other, 1, 16, [.nilIface], false⟩
theorem ti83_ok : zP 83 ti83 := zT
def ti85 : TI := ⟨.func, 1, 8, [.nilFunc], false⟩
theorem ti85_ok : zP 85 ti85 := zT
def ti86 : TI := ⟨.func, 1, 8, [.nilFunc], false⟩
theorem ti86_ok : zP 86 ti86 := zT
def ti87 : TI := ⟨.ptr 81, 1, 8, [.pointer none], false⟩
theorem ti87_ok : zP 87 ti87 := zT
def ti88 : TI := ⟨.func, 1, 8, [.nilFunc], false⟩
theorem ti88_ok : zP 88 ti88 := zT
def ti89 : TI := ⟨.func, 1, 8, [.nilFunc], false⟩
theorem ti89_ok : zP 89 ti89 := zT
def ti90 : TI := ⟨.func, 1, 8, [.nilFunc], false⟩
theorem ti90_ok : zP 90 ti90 := zT
def ti91 : TI := ⟨.func, 1, 8, [.nilFunc], false⟩
theorem ti91_ok : zP 91 ti91 := zT
def ti93 : TI := ⟨.int .u64, 1, 8, [.int .u64 0], false⟩
theorem ti93_ok : zP 93 ti93 := zT
def ti94 : TI := ⟨.struct [(0, 17), (1, 92), (2, 93)], 3, 24, [.pointer none, .pointer none, .int .u64 0], false⟩
theorem ti94_ok : zP 94 ti94 := zT
def ti95 : TI := ⟨.struct [(0, 17), (1, 92), (2, 93)], 3, 24, [.pointer none, .pointer none, .int .u64 0], false⟩
theorem ti95_ok : zP 95 ti95 := zT
def ti96 : TI := ⟨.func, 1, 8, [.nilFunc], false⟩
theorem ti96_ok : zP 96 ti96 := zT
def ti97 : TI := ⟨.other, 1, 16, [.nilIface], false⟩
theorem ti97_ok : zP 97 ti97 := zT
def ti98 : TI := ⟨.other, 1, 16, [.nilIface], false⟩
theorem ti98_ok : zP 98 ti98 := zT
def ti99 : TI := ⟨.func, 1, 8, [.nilFunc], false⟩
theorem ti99_ok : zP 99 ti99 := zT
def ti100 : TI := ⟨.int .u8, 1, 1, [.int .u8 0], false⟩
theorem ti100_ok : zP 100 ti100 := zT
def ti101 : TI := ⟨.func, 1, 8, [.nilFunc], false⟩
theorem ti101_ok : zP 101 ti101 := zT
def ti102 : TI := ⟨.func, 1, 8, [.nilFunc], false⟩
theorem ti102_ok : zP 102 ti102 := zT
def ti103 : TI := ⟨.func, 1, 8, [.nilFunc], false⟩
theorem ti103_ok : zP 103 ti103 := zT
def ti104 : TI := ⟨.struct [(0, 9), (1, 5)], 2, 24, [.string ⟨#[]⟩, .int .u8 0], true⟩
theorem ti104_ok : zP 104 ti104 := ⟨by kernel_rfl, by kernel_rfl, fun _ => ⟨by kernel_rfl, by kernel_rfl, by kernel_rfl⟩⟩
def ti105 : TI := ⟨.slice 104, 1, 24, [.slice none 0 0], false⟩
theorem ti105_ok : zP 105 ti105 := zT
def ti106 : TI := ⟨.func, 1, 8, [.nilFunc], false⟩
theorem ti106_ok : zP 106 ti106 := zT
def ti107 : TI := ⟨.func, 1, 8, [.nilFunc], false⟩
theorem ti107_ok : zP 107 ti107 := zT
def ti108 : TI := ⟨.func, 1, 8, [.nilFunc], false⟩
theorem ti108_ok : zP 108 ti108 := zT
def ti109 : TI := ⟨.int .i64, 1, 8, [.int .i64 0], false⟩
theorem ti109_ok : zP 109 ti109 := zT
def ti110 : TI := ⟨.slice 5, 1, 24, [.slice none 0 0], false⟩
theorem ti110_ok : zP 110 ti110 := zT
def ti112 : TI := ⟨.func, 1, 8, [.nilFunc], false⟩
theorem ti112_ok : zP 112 ti112 := zT
def ti113 : TI := ⟨.ptr 142, 1, 8, [.pointer none], false⟩
theorem ti113_ok : zP 113 ti113 := zT
def ti114 : TI := ⟨.func, 1, 8, [.nilFunc], false⟩
theorem ti114_ok : zP 114 ti114 := zT
def ti115 : TI := ⟨.func, 1, 8, [.nilFunc], false⟩
theorem ti115_ok : zP 115 ti115 := zT
def ti116 : TI := ⟨.struct [(0, 17)], 1, 8, [.pointer none], false⟩
theorem ti116_ok : zP 116 ti116 := zT
def ti117 : TI := ⟨.struct [(0, 17)], 1, 8, [.pointer none], false⟩
theorem ti117_ok : zP 117 ti117 := zT
def ti118 : TI := ⟨.ptr 201, 1, 8, [.pointer none], false⟩
theorem ti118_ok : zP 118 ti118 := zT
def ti119 : TI := ⟨.func, 1, 8, [.nilFunc], false⟩
theorem ti119_ok : zP 119 ti119 := zT
def ti120 : TI := ⟨.func, 1, 8, [.nilFunc], false⟩
theorem ti120_ok : zP 120 ti120 := zT
def ti121 : TI := ⟨.func, 1, 8, [.nilFunc], false⟩
theorem ti121_ok : zP 121 ti121 := zT
def ti122 : TI := ⟨.other, 1, 16, [.nilIface], false⟩
theorem ti122_ok : zP 122 ti122 := zT
def ti124 : TI := ⟨.func, 1, 8, [.nilFunc], false⟩
theorem ti124_ok : zP 124 ti124 := zT
def ti125 : TI := ⟨.other, 1, 16, [.nilIface], false⟩
theorem ti125_ok : zP 125 ti125 := zT
def ti126 : TI := ⟨.func, 1, 8, [.nilFunc], false⟩
theorem ti126_ok : zP 126 ti126 := zT
def ti127 : TI := ⟨.other, 1, 16, [.nilIface], false⟩
theorem ti127_ok : zP 127 ti127 := zT
def ti128 : TI := ⟨.slice 83, 1, 24, [.slice none 0 0], false⟩
theorem ti128_ok : zP 128 ti128 := zT
def ti129 : TI := ⟨.func, 1, 8, [.nilFunc], false⟩
theorem ti129_ok : zP 129 ti129 := zT
def ti130 : TI := ⟨.func, 1, 8, [.nilFunc], false⟩
theorem ti130_ok : zP 130 ti130 := zT
def ti131 : TI := ⟨.slice 3, 1, 24, [.slice none 0 0], false⟩
theorem ti131_ok : zP 131 ti131 := zT
def ti132 : TI := ⟨.other, 1, 8, [.map none], false⟩
theorem ti132_ok : zP 132 ti132 := zT
def ti133 : TI := ⟨.ptr 3, 1, 8, [.pointer none], false⟩
theorem ti133_ok : zP 133 ti133 := zT
def ti134 : TI := ⟨.other, 1, 8, [.chan none], false⟩
theorem ti134_ok : zP 134 ti134 := zT
def ti135 : TI := ⟨.array 2 3, 2, 16, [.int .i64 0, .int .i64 0], false⟩
theorem ti135_ok : zP 135 ti135 := zT
def ti136 : TI := ⟨.int .u64, 1, 8, [.int .u64 0], false⟩
theorem ti136_ok : zP 136 ti136 := zT
def ti138 : TI := ⟨.func, 1, 8, [.nilFunc], false⟩
theorem ti138_ok : zP 138 ti138 := zT
def ti139 : TI := ⟨.int .u64, 1, 8, [.int .u64 0], false⟩
theorem ti139_ok : zP 139 ti139 := zT
def ti140 : TI := ⟨.func, 1, 8, [.nilFunc], false⟩
theorem ti140_ok : zP 140 ti140 := zT
def ti141 : TI := ⟨.struct [(0, 9), (1, 9), (2, 83)], 3, 48, [.string ⟨#[]⟩, .string ⟨#[]⟩, .nilIface], false⟩
theorem ti141_ok : zP 141 ti141 := zT
def ti142 : TI := ⟨.struct [(0, 9), (1, 9), (2, 83)], 3, 48, [.string ⟨#[]⟩, .string ⟨#[]⟩, .nilIface], false⟩
theorem ti142_ok : zP 142 ti142 := zT
def ti143 : TI := ⟨.func, 1, 8, [.nilFunc], false⟩
theorem ti143_ok : zP 143 ti143 := zT
def ti144 : TI := ⟨.func, 1, 8, [.nilFunc], false⟩
theorem ti144_ok : zP 144 ti144 := zT
def ti145 : TI := ⟨.func, 1, 8, [.nilFunc], false⟩
theorem ti145_ok : zP 145 ti145 := zT
def ti146 : TI := ⟨.ptr 5, 1, 8, [.pointer none], false⟩
theorem ti146_ok : zP 146 ti146 := zT
def ti147 : TI := ⟨.ptr 149, 1, 8, [.pointer none], false⟩
theorem ti147_ok : zP 147 ti147 := zT
def ti148 : TI := ⟨.struct [(0, 9)], 1, 16, [.string ⟨#[]⟩], true⟩
theorem ti148_ok : zP 148 ti148 := ⟨by kernel_rfl, by kernel_rfl, fun _ => ⟨by kernel_rfl, by kernel_rfl, by kernel_rfl⟩⟩
def ti149 : TI := ⟨.struct [(0, 9)], 1, 16, [.string ⟨#[]⟩], true⟩
theorem ti149_ok : zP 149 ti149 := ⟨by kernel_rfl, by kernel_rfl, fun _ => ⟨by kernel_rfl, by kernel_rfl, by kernel_rfl⟩⟩
def ti150 : TI := ⟨.func, 1, 8, [.nilFunc], false⟩
theorem ti150_ok : zP 150 ti150 := zT
def ti151 : TI := ⟨.func, 1, 8, [.nilFunc], false⟩
theorem ti151_ok : zP 151 ti151 := zT
def ti152 : TI := ⟨.array 24 5, 24, 24, [.int .u8 0, .int .u8 0, .int .u8 0, .int .u8 0, .int .u8 0, .int .u8 0, .int .u8 0, .int .u8 0, .int .u8 0, .int .u8 0, .int .u8 0, .int .u8 0, .int .u8 0, .int .u8 0, .int .u8 0, .int .u8 0, .int .u8 0, .int .u8 0, .int .u8 0, .int .u8 0, .int .u8 0, .int .u8 0, .int .u8 0, .int .u8 0], false⟩
theorem ti152_ok : zP 152 ti152 := zT
def ti153 : TI := ⟨.func, 1, 8, [.nilFunc], false⟩
theorem ti153_ok : zP 153 ti153 := zT
def ti154 : TI := ⟨.func, 1, 8, [.nilFunc], false⟩
theorem ti154_ok : zP 154 ti154 := zT
def ti156 : TI := ⟨.func, 1, 8, [.nilFunc], false⟩
theorem ti156_ok : zP 156 ti156 := zT
def ti157 : TI := ⟨.int .u32, 1, 4, [.int .u32 0], false⟩
theorem ti157_ok : zP 157 ti157 := zT
def ti159 : TI := ⟨.func, 1, 8, [.nilFunc], false⟩
theorem ti159_ok : zP 159 ti159 := zT
def ti160 : TI := ⟨.func, 1, 8, [.nilFunc], false⟩
theorem ti160_ok : zP 160 ti160 := zT
def ti161 : TI := ⟨.array 20 136, 20, 160, [.int .u64 0, .int .u64 0, .int .u64 0, .int .u64 0, .int .u64 0, .int .u64 0, .int .u64 0, .int .u64 0, .int .u64 0, .int .u64 0, .int .u64 0, .int .u64 0, .int .u64 0, .int .u64 0, .int .u64 0, .int .u64 0, .int .u64 0, .int .u64 0, .int .u64 0, .int .u64 0], false⟩
theorem ti161_ok : zP 161 ti161 := zT
def ti162 : TI := ⟨.array 65 5, 65, 65, [.int .u8 0, .int .u8 0, .int .u8 0, .int .u8 0, .int .u8 0, .int .u8 0, .int .u8 0, .int .u8 0, .int .u8 0, .int .u8 0, .int .u8 0, .int .u8 0, .int .u8 0, .int .u8 0, .int .u8 0, .int .u8 0, .int .u8 0, .int .u8 0, .int .u8 0, .int .u8 0, .int .u8 0, .int .u8 0, .int .u8 0, .int .u8 0, .int .u8 0, .int .u8 0, .int .u8 0, .int .u8 0, .int .u8 0, .int .u8 0, .int .u8 0, .int .u8 0, .int .u8 0, .int .u8 0, .int .u8 0, .int .u8 0, .int .u8 0, .int .u8 0, .int .u8 0, .int .u8 0, .int .u8 0, .int .u8 0, .int .u8 0, .int .u8 0, .int .u8 0, .int .u8 0, .int .u8 0, .int .u8 0, .int .u8 0, .int .u8 0, .int .u8 0, .int .u8 0, .int .u8 0, .int .u8 0, .int .u8 0, .int .u8 0, .int .u8 0, .int .u8 0, .int .u8 0, .int .u8 0, .int .u8 0, .int .u8 0, .int .u8 0, .int .u8 0, .int .u8 0], false⟩
theorem ti162_ok : zP 162 ti162 := zT
def ti163 : TI := ⟨.func, 1, 8, [.nilFunc], false⟩
theorem ti163_ok : zP 163 ti163 := zT
def ti164 : TI := ⟨.func, 1, 8, [.nilFunc], false⟩
theorem ti164_ok : zP 164 ti164 := zT
def ti165 : TI := ⟨.func, 1, 8, [.nilFunc], false⟩
theorem ti165_ok : zP 165 ti165 := zT
def ti166 : TI := ⟨.array 32 5, 32, 32, [.int .u8 0, .int .u8 0, .int .u8 0, .int .u8 0, .int .u8 0, .int .u8 0, .int .u8 0, .int .u8 0, .int .u8 0, .int .u8 0, .int .u8 0, .int .u8 0, .int .u8 0, .int .u8 0, .int .u8 0, .int .u8 0, .int .u8 0, .int .u8 0, .int .u8 0, .int .u8 0, .int .u8 0, .int .u8 0, .int .u8 0, .int .u8 0, .int .u8 0, .int .u8 0, .int .u8 0, .int .u8 0, .int .u8 0, .int .u8 0, .int .u8 0, .int .u8 0], false⟩
theorem ti166_ok : zP 166 ti166 := zT
def ti167 : TI := ⟨.array 64 5, 64, 64, [.int .u8 0, .int .u8 0, .int .u8 0, .int .u8 0, .int .u8 0, .int .u8 0, .int .u8 0, .int .u8 0, .int .u8 0, .int .u8 0, .int .u8 0, .int .u8 0, .int .u8 0, .int .u8 0, .int .u8 0, .int .u8 0, .int .u8 0, .int .u8 0, .int .u8 0, .int .u8 0, .int .u8 0, .int .u8 0, .int .u8 0, .int .u8 0, .int .u8 0, .int .u8 0, .int .u8 0, .int .u8 0, .int .u8 0, .int .u8 0, .int .u8 0, .int .u8 0, .int .u8 0, .int .u8 0, .int .u8 0, .int .u8 0, .int .u8 0, .int .u8 0, .int .u8 0, .int .u8 0, .int .u8 0, .int .u8 0, .int .u8 0, .int .u8 0, .int .u8 0, .int .u8 0, .int .u8 0, .int .u8 0, .int .u8 0, .int .u8 0, .int .u8 0, .int .u8 0, .int .u8 0, .int .u8 0, .int .u8 0, .int .u8 0, .int .u8 0, .int .u8 0, .int .u8 0, .int .u8 0, .int .u8 0, .int .u8 0, .int .u8 0, .int .u8 0], false⟩
theorem ti167_ok : zP 167 ti167 := zT
def ti168 : TI := ⟨.struct [(0, 17), (1, 17), (2, 17), (3, 9)], 4, 40, [.pointer none, .pointer none, .pointer none, .string ⟨#[]⟩], false⟩
theorem ti168_ok : zP 168 ti168 := zT
def ti169 : TI := ⟨.struct [(0, 17), (1, 17), (2, 17), (3, 9)], 4, 40, [.pointer none, .pointer none, .pointer none, .string ⟨#[]⟩], false⟩
theorem ti169_ok : zP 169 ti169 := zT
def ti170 : TI := ⟨.array 0 16, 0, 0, [], false⟩
theorem ti170_ok : zP 170 ti170 := zT
def ti171 : TI := ⟨.struct [(0, 170)], 0, 0, [], false⟩
theorem ti171_ok : zP 171 ti171 := zT
def ti172 : TI := ⟨.struct [(0, 170)], 0, 0, [], false⟩
theorem ti172_ok : zP 172 ti172 := zT
def ti173 : TI := ⟨.func, 1, 8, [.nilFunc], false⟩
theorem ti173_ok : zP 173 ti173 := zT
def ti174 : TI := ⟨.func, 1, 8, [.nilFunc], false⟩
theorem ti174_ok : zP 174 ti174 := zT
def ti175 : TI := ⟨.int .u8, 1, 1, [.int .u8 0], false⟩
theorem ti175_ok : zP 175 ti175 := zT
def ti176 : TI := ⟨.func, 1, 8, [.nilFunc], false⟩
theorem ti176_ok : zP 176 ti176 := zT
def ti177 : TI := ⟨.int .i32, 1, 4, [.int .i32 0], false⟩
theorem ti177_ok : zP 177 ti177 := zT
def ti178 : TI := ⟨.int .i32, 1, 4, [.int .i32 0], false⟩
theorem ti178_ok : zP 178 ti178 := zT
def ti179 : TI := ⟨.struct [(0, 12), (1, 12), (2, 157), (3, 175), (4, 5), (5, 5), (6, 100), (7, 176), (8, 146), (9, 177), (10, 178)], 11, 48, [.int .u64 0, .int .u64 0, .int .u32 0, .int .u8 0, .int .u8 0, .int .u8 0, .int .u8 0, .nilFunc, .pointer none, .int .i32 0, .int .i32 0], false⟩
theorem ti179_ok : zP 179 ti179 := zT
def ti180 : TI := ⟨.struct [(0, 12), (1, 12), (2, 157), (3, 175), (4, 5), (5, 5), (6, 100), (7, 176), (8, 146), (9, 177), (10, 178)], 11, 48, [.int .u64 0, .int .u64 0, .int .u32 0, .int .u8 0, .int .u8 0, .int .u8 0, .int .u8 0, .nilFunc, .pointer none, .int .i32 0, .int .i32 0], false⟩
theorem ti180_ok : zP 180 ti180 := zT
def ti181 : TI := ⟨.func, 1, 8, [.nilFunc], false⟩
theorem ti181_ok : zP 181 ti181 := zT
def ti184 : TI := ⟨.func, 1, 8, [.nilFunc], false⟩
theorem ti184_ok : zP 184 ti184 := zT
def ti186 : TI := ⟨.func, 1, 8, [.nilFunc], false⟩
theorem ti186_ok : zP 186 ti186 := zT
def ti188 : TI := ⟨.func, 1, 8, [.nilFunc], false⟩
theorem ti188_ok : zP 188 ti188 := zT
def ti190 : TI := ⟨.array 256 5, 256, 256, [.int .u8 0, .int .u8 0, .int .u8 0, .int .u8 0, .int .u8 0, .int .u8 0, .int .u8 0, .int .u8 0, .int .u8 0, .int .u8 0, .int .u8 0, .int .u8 0, .int .u8 0, .int .u8 0, .int .u8 0, .int .u8 0, .int .u8 0, .int .u8 0, .int .u8 0, .int .u8 0, .int .u8 0, .int .u8 0, .int .u8 0, .int .u8 0, .int .u8 0, .int .u8 0, .int .u8 0, .int .u8 0, .int .u8 0, .int .u8 0, .int .u8 0, .int .u8 0, .int .u8 0, .int .u8 0, .int .u8 0, .int .u8 0, .int .u8 0, .int .u8 0, .int .u8 0, .int .u8 0, .int .u8 0, .int .u8 0, .int .u8 0, .int .u8 0, .int .u8 0, .int .u8 0, .int .u8 0, .int .u8 0, .int .u8 0, .int .u8 0, .int .u8 0, .int .u8 0, .int .u8 0, .int .u8 0, .int .u8 0, .int .u8 0, .int .u8 0, .int .u8 0, .int .u8 0, .int .u8 0, .int .u8 0, .int .u8 0, .int .u8 0, .int .u8 0, .int .u8 0, .int .u8 0, .int .u8 0, .int .u8 0, .int .u8 0, .int .u8 0, .int .u8 0, .int .u8 0, .int .u8 0, .int .u8 0, .int .u8 0, .int .u8 0, .int .u8 0, .int .u8 0, .int .u8 0, .int .u8 0, .int .u8 0, .int .u8 0, .int .u8 0, .int .u8 0, .int .u8 0, .int .u8 0, .int .u8 0, .int .u8 0, .int .u8 0, .int .u8 0, .int .u8 0, .int .u8 0, .int .u8 0, .int .u8 0, .int .u8 0, .int .u8 0, .int .u8 0, .int .u8 0, .int .u8 0, .int .u8 0, .int .u8 0, .int .u8 0, .int .u8 0, .int .u8 0, .int .u8 0, .int .u8 0, .int .u8 0, .int .u8 0, .int .u8 0, .int .u8 0, .int .u8 0, .int .u8 0, .int .u8 0, .int .u8 0, .int .u8 0, .int .u8 0, .int .u8 0, .int .u8 0, .int .u8 0, .int .u8 0, .int .u8 0, .int .u8 0, .int .u8 0, .int .u8 0, .int .u8 0, .int .u8 0, .int .u8 0, .int .u8 0, .int .u8 0, .int .u8 0, .int .u8 0, .int .u8 0, .int .u8 0, .int .u8 0, .int .u8 0, .int .u8 0, .int .u8 0, .int .u8 0, .int .u8 0, .int .u8 0, .int .u8 0, .int .u8 0, .int .u8 0, .int .u8 0, .int .u8 0, .int .u8 0, .int .u8 0, .int .u8 0, .int .u8 0, .int .u8 0, .int .u8 0, .int .u8 0, .int .u8 0, .int .u8 0, .int .u8 0, .int .u8 0, .int .u8 0, .int .u8 0, .int .u8 0, .int .u8 0, .int .u8 0, .int .u8 0, .int .u8 0, .int .u8 0, .int .u8 0, .int .u8 0, .int .u8 0, .int .u8 0, .int .u8 0, .int .u8 0, .int .u8 0, .int .u8 0, .int .u8 0, .int .u8 0, .int .u8 0, .int .u8 0, .int .u8 0, .int .u8 0, .int .u8 0, .int .u8 0, .int .u8 0, .int .u8 0, .int .u8 0, .int .u8 0, .int .u8 0, .int .u8 0, .int .u8 0, .int .u8 0, .int .u8 0, .int .u8 0, .int .u8 0, .int .u8 0, .int .u8 0, .int .u8 0, .int .u8 0, .int .u8 0, .int .u8 0, .int .u8 0, .int .u8 0, .int .u8 0, .int .u8 0, .int .u8 0, .int .u8 0, .int .u8 0, .int .u8 0, .int .u8 0, .int .u8 0, .int .u8 0, .int .u8 0, .int .u8 0, .int .u8 0, .int .u8 0, .int .u8 0, .int .u8 0, .int .u8 0, .int .u8 0, .int .u8 0, .int .u8 0, .int .u8 0, .int .u8 0, .int .u8 0, .int .u8 0, .int .u8 0, .int .u8 0, .int .u8 0, .int .u8 0, .int .u8 0, .int .u8 0, .int .u8 0, .int .u8 0, .int .u8 0, .int .u8 0, .int .u8 0, .int .u8 0, .int .u8 0, .int .u8 0, .int .u8 0, .int .u8 0, .int .u8 0, .int .u8 0, .int .u8 0, .int .u8 0, .int .u8 0, .int .u8 0, .int .u8 0, .int .u8 0, .int .u8 0, .int .u8 0, .int .u8 0, .int .u8 0, .int .u8 0, .int .u8 0, .int .u8 0, .int .u8 0, .int .u8 0, .int .u8 0], false⟩
theorem ti190_ok : zP 190 ti190 := zT
def ti191 : TI := ⟨.struct [(0, 5), (1, 5)], 2, 2, [.int .u8 0, .int .u8 0], true⟩
theorem ti191_ok : zP 191 ti191 := ⟨by kernel_rfl, by kernel_rfl, fun _ => ⟨by kernel_rfl, by kernel_rfl, by kernel_rfl⟩⟩
def ti192 : TI := ⟨.struct [(0, 5), (1, 5)], 2, 2, [.int .u8 0, .int .u8 0], true⟩
theorem ti192_ok : zP 192 ti192 := ⟨by kernel_rfl, by kernel_rfl, fun _ => ⟨by kernel_rfl, by kernel_rfl, by kernel_rfl⟩⟩
def ti193 : TI := ⟨.array 16 192, 32, 32, [.int .u8 0, .int .u8 0, .int .u8 0, .int .u8 0, .int .u8 0, .int .u8 0, .int .u8 0, .int .u8 0, .int .u8 0, .int .u8 0, .int .u8 0, .int .u8 0, .int .u8 0, .int .u8 0, .int .u8 0, .int .u8 0, .int .u8 0, .int .u8 0, .int .u8 0, .int .u8 0, .int .u8 0, .int .u8 0, .int .u8 0, .int .u8 0, .int .u8 0, .int .u8 0, .int .u8 0, .int .u8 0, .int .u8 0, .int .u8 0, .int .u8 0, .int .u8 0], false⟩
theorem ti193_ok : zP 193 ti193 := zT
def ti194 : TI := ⟨.int .u16, 1, 2, [.int .u16 0], false⟩
theorem ti194_ok : zP 194 ti194 := zT
def ti197 : TI := ⟨.func, 1, 8, [.nilFunc], false⟩
theorem ti197_ok : zP 197 ti197 := zT
def ti198 : TI := ⟨.slice 157, 1, 24, [.slice none 0 0], false⟩
theorem ti198_ok : zP 198 ti198 := zT
def ti199 : TI := ⟨.func, 1, 8, [.nilFunc], false⟩
theorem ti199_ok : zP 199 ti199 := zT
def ti201 : TI := ⟨.struct [(0, 9), (1, 100)], 2, 24, [.string ⟨#[]⟩, .int .u8 0], false⟩
theorem ti201_ok : zP 201 ti201 := zT
def ti202 : TI := ⟨.ptr 205, 1, 8, [.pointer none], false⟩
theorem ti202_ok : zP 202 ti202 := zT
def ti203 : TI := ⟨.func, 1, 8, [.nilFunc], false⟩
theorem ti203_ok : zP 203 ti203 := zT
def ti205 : TI := ⟨.struct [(0, 177), (1, 194), (2, 194), (3, 157), (4, 157)], 5, 16, [.int .i32 0, .int .u16 0, .int .u16 0, .int .u32 0, .int .u32 0], false⟩
theorem ti205_ok : zP 205 ti205 := zT
def ti207 : TI := ⟨.int .i32, 1, 4, [.int .i32 0], false⟩
theorem ti207_ok : zP 207 ti207 := zT
def tyTree : TyTree := .node (.node (.node (.node (.node (.node (.node (.node (.leaf) 1 ti1 (.leaf)) 2 ti2 (.leaf)) 3 ti3 (.node (.node (.leaf) 4 ti4 (.leaf)) 5 ti5 (.leaf))) 6 ti6 (.node (.node (.node (.leaf) 7 ti7 (.leaf)) 8 ti8 (.leaf)) 9 ti9 (.node (.node (.leaf) 10 ti10 (.leaf)) 11 ti11 (.leaf)))) 12 ti12 (.node (.node (.node (.node (.leaf) 13 ti13 (.leaf)) 14 ti14 (.leaf)) 15 ti15 (.node (.node (.leaf) 16 ti16 (.leaf)) 17 ti17 (.leaf))) 18 ti18 (.node (.node (.node (.leaf) 19 ti19 (.leaf)) 20 ti20 (.leaf)) 21 ti21 (.node (.node (.leaf) 22 ti22 (.leaf)) 23 ti23 (.leaf))))) 24 ti24 (.node (.node (.node (.node (.node (.leaf) 26 ti26 (.leaf)) 27 ti27 (.leaf)) 28 ti28 (.node (.node (.leaf) 29 ti29 (.leaf)) 30 ti30 (.leaf))) 31 ti31 (.node (.node (.node (.leaf) 33 ti33 (.leaf)) 35 ti35 (.leaf)) 36 ti36 (.node (.node (.leaf) 37 ti37 (.leaf)) 38 ti38 (.leaf)))) 39 ti39 (.node (.node (.node (.node (.leaf) 40 ti40 (.leaf)) 41 ti41 (.leaf)) 42 ti42 (.node (.node (.leaf) 43 ti43 (.leaf)) 44 ti44 (.leaf))) 45 ti45 (.node (.node (.node (.leaf) 46 ti46 (.leaf)) 47 ti47 (.leaf)) 48 ti48 (.node (.leaf) 49 ti49 (.leaf)))))) 50 ti50 (.node (.node (.node (.node (.node (.node (.leaf) 51 ti51 (.leaf)) 52 ti52 (.leaf)) 53 ti53 (.node (.node (.leaf) 54 ti54 (.leaf)) 55 ti55 (.leaf))) 56 ti56 (.node (.node (.node (.leaf) 57 ti57 (.leaf)) 59 ti59 (.leaf)) 60 ti60 (.node (.node (.leaf) 61 ti61 (.leaf)) 62 ti62 (.leaf)))) 63 ti63 (.node (.node (.node (.node (.leaf) 64 ti64 (.leaf)) 66 ti66 (.leaf)) 67 ti67 (.node (.node (.leaf) 68 ti68 (.leaf)) 69 ti69 (.leaf))) 70 ti70 (.node (.node (.node (.leaf) 71 ti71 (.leaf)) 72 ti72 (.leaf)) 73 ti73 (.node (.leaf) 74 ti74 (.leaf))))) 75 ti75 (.node (.node (.node (.node (.node (.leaf) 76 ti76 (.leaf)) 77 ti77 (.leaf)) 78 ti78 (.node (.node (.leaf) 79 ti79 (.leaf)) 80 ti80 (.leaf))) 81 ti81 (.node (.node (.node (.leaf) 82 ti82 (.leaf)) 83 ti83 (.leaf)) 85 ti85 (.node (.node (.leaf) 86 ti86 (.leaf)) 87 ti87 (.leaf)))) 88 ti88 (.node (.node (.node (.node (.leaf) 89 ti89 (.leaf)) 90 ti90 (.leaf)) 91 ti91 (.node (.node (.leaf) 93 ti93 (.leaf)) 94 ti94 (.leaf))) 95 ti95 (.node (.node (.node (.leaf) 96 ti96 (.leaf)) 97 ti97 (.leaf)) 98 ti98 (.node (.leaf) 99 ti99 (.leaf))))))) 100 ti100 (.node (.node (.node (.node (.node (.node (.node (.leaf) 101 ti101 (.leaf)) 102 ti102 (.leaf)) 103 ti103 (.node (.node (.leaf) 104 ti104 (.leaf)) 105 ti105 (.leaf))) 106 ti106 (.node (.node (.node (.leaf) 107 ti107 (.leaf)) 108 ti108 (.leaf)) 109 ti109 (.node (.node (.leaf) 110 ti110 (.leaf)) 112 ti112 (.leaf)))) 113 ti113 (.node (.node (.node (.node (.leaf) 114 ti114 (.leaf)) 115 ti115 (.leaf)) 116 ti116 (.node (.node (.leaf) 117 ti117 (.leaf)) 118 ti118 (.leaf))) 119 ti119 (.node (.node (.node (.leaf) 120 ti120 (.leaf)) 121 ti121 (.leaf)) 122 ti122 (.node (.node (.leaf) 124 ti124 (.leaf)) 125 ti125 (.leaf))))) 126 ti126 (.node (.node (.node (.node (.node (.leaf) 127 ti127 (.leaf)) 128 ti128 (.leaf)) 129 ti129 (.node (.node (.leaf) 130 ti130 (.leaf)) 131 ti131 (.leaf))) 132 ti132 (.node (.node (.node (.leaf) 133 ti133 (.leaf)) 134 ti134 (.leaf)) 135 ti135 (.node (.node (.leaf) 136 ti136 (.leaf)) 138 ti138 (.leaf)))) 139 ti139 (.node (.node (.node (.node (.leaf) 140 ti140 (.leaf)) 141 ti141 (.leaf)) 142 ti142 (.node (.node (.leaf) 143 ti143 (.leaf)) 144 ti144 (.leaf))) 145 ti145 (.node (.node (.node (.leaf) 146 ti146 (.leaf)) 147 ti147 (.leaf)) 148 ti148 (.node (.leaf) 149 ti149 (.leaf)))))) 150 ti150 (.node (.node (.node (.node (.node (.node (.leaf) 151 ti151 (.leaf)) 152 ti152 (.leaf)) 153 ti153 (.node (.node (.leaf) 154 ti154 (.leaf)) 156 ti156 (.leaf))) 157 ti157 (.node (.node (.node (.leaf) 159 ti159 (.leaf)) 160 ti160 (.leaf)) 161 ti161 (.node (.node (.leaf) 162 ti162 (.leaf)) 163 ti163 (.leaf)))) 164 ti164 (.node (.node (.node (.node (.leaf) 165 ti165 (.leaf)) 166 ti166 (.leaf)) 167 ti167 (.node (.node (.leaf) 168 ti168 (.leaf)) 169 ti169 (.leaf))) 170 ti170 (.node (.node (.node (.leaf) 171 ti171 (.leaf)) 172 ti172 (.leaf)) 173 ti173 (.node (.leaf) 174 ti174 (.leaf))))) 175 ti175 (.node (.node (.node (.node (.node (.leaf) 176 ti176 (.leaf)) 177 ti177 (.leaf)) 178 ti178 (.node (.node (.leaf) 179 ti179 (.leaf)) 180 ti180 (.leaf))) 181 ti181 (.node (.node (.node (.leaf) 184 ti184 (.leaf)) 186 ti186 (.leaf)) 188 ti188 (.node (.node (.leaf) 190 ti190 (.leaf)) 191 ti191 (.leaf)))) 192 ti192 (.node (.node (.node (.node (.leaf) 193 ti193 (.leaf)) 194 ti194 (.leaf)) 197 ti197 (.node (.node (.leaf) 198 ti198 (.leaf)) 199 ti199 (.leaf))) 201 ti201 (.node (.node (.node (.leaf) 202 ti202 (.leaf)) 203 ti203 (.leaf)) 205 ti205 (.node (.leaf) 207 ti207 (.leaf)))))))
theorem tyTree_ok : tyTree.allP (TIok Tryz.prog) := ⟨⟨⟨⟨⟨⟨⟨⟨trivial, ti1_ok, trivial⟩, ti2_ok, trivial⟩, ti3_ok, ⟨⟨trivial, ti4_ok, trivial⟩, ti5_ok, trivial⟩⟩, ti6_ok, ⟨⟨⟨trivial, ti7_ok, trivial⟩, ti8_ok, trivial⟩, ti9_ok, ⟨⟨trivial, ti10_ok, trivial⟩, ti11_ok, trivial⟩⟩⟩, ti12_ok, ⟨⟨⟨⟨trivial, ti13_ok, trivial⟩, ti14_ok, trivial⟩, ti15_ok, ⟨⟨trivial, ti16_ok, trivial⟩, ti17_ok, trivial⟩⟩, ti18_ok, ⟨⟨⟨trivial, ti19_ok, trivial⟩, ti20_ok, trivial⟩, ti21_ok, ⟨⟨trivial, ti22_ok, trivial⟩, ti23_ok, trivial⟩⟩⟩⟩, ti24_ok, ⟨⟨⟨⟨⟨trivial, ti26_ok, trivial⟩, ti27_ok, trivial⟩, ti28_ok, ⟨⟨trivial, ti29_ok, trivial⟩, ti30_ok, trivial⟩⟩, ti31_ok, ⟨⟨⟨trivial, ti33_ok, trivial⟩, ti35_ok, trivial⟩, ti36_ok, ⟨⟨trivial, ti37_ok, trivial⟩, ti38_ok, trivial⟩⟩⟩, ti39_ok, ⟨⟨⟨⟨trivial, ti40_ok, trivial⟩, ti41_ok, trivial⟩, ti42_ok, ⟨⟨trivial, ti43_ok, trivial⟩, ti44_ok, trivial⟩⟩, ti45_ok, ⟨⟨⟨trivial, ti46_ok, trivial⟩, ti47_ok, trivial⟩, ti48_ok, ⟨trivial, ti49_ok, trivial⟩⟩⟩⟩⟩, ti50_ok, ⟨⟨⟨⟨⟨⟨trivial, ti51_ok, trivial⟩, ti52_ok, trivial⟩, ti53_ok, ⟨⟨trivial, ti54_ok, trivial⟩, ti55_ok, trivial⟩⟩, ti56_ok, ⟨⟨⟨trivial, ti57_ok, trivial⟩, ti59_ok, trivial⟩, ti60_ok, ⟨⟨trivial, ti61_ok, trivial⟩, ti62_ok, trivial⟩⟩⟩, ti63_ok, ⟨⟨⟨⟨trivial, ti64_ok, trivial⟩, ti66_ok, trivial⟩, ti67_ok, ⟨⟨trivial, ti68_ok, trivial⟩, ti69_ok, trivial⟩⟩, ti70_ok, ⟨⟨⟨trivial, ti71_ok, trivial⟩, ti72_ok, trivial⟩, ti73_ok, ⟨trivial, ti74_ok, trivial⟩⟩⟩⟩, ti75_ok, ⟨⟨⟨⟨⟨trivial, ti76_ok, trivial⟩, ti77_ok, trivial⟩, ti78_ok, ⟨⟨trivial, ti79_ok, trivial⟩, ti80_ok, trivial⟩⟩, ti81_ok, ⟨⟨⟨trivial, ti82_ok, trivial⟩, ti83_ok, trivial⟩, ti85_ok, ⟨⟨trivial, ti86_ok, trivial⟩, ti87_ok, trivial⟩⟩⟩, ti88_ok, ⟨⟨⟨⟨trivial, ti89_ok, trivial⟩, ti90_ok, trivial⟩, ti91_ok, ⟨⟨trivial, ti93_ok, trivial⟩, ti94_ok, trivial⟩⟩, ti95_ok, ⟨⟨⟨trivial, ti96_ok, trivial⟩, ti97_ok, trivial⟩, ti98_ok, ⟨trivial, ti99_ok, trivial⟩⟩⟩⟩⟩⟩, ti100_ok, ⟨⟨⟨⟨⟨⟨⟨trivial, ti101_ok, trivial⟩, ti102_ok, trivial⟩, ti103_ok, ⟨⟨trivial, ti104_ok, trivial⟩, ti105_ok, trivial⟩⟩, ti106_ok, ⟨⟨⟨trivial, ti107_ok, trivial⟩, ti108_ok, trivial⟩, ti109_ok, ⟨⟨trivial, ti110_ok, trivial⟩, ti112_ok, trivial⟩⟩⟩, ti113_ok, ⟨⟨⟨⟨trivial, ti114_ok, trivial⟩, ti115_ok, trivial⟩, ti116_ok, ⟨⟨trivial, ti117_ok, trivial⟩, ti118_ok, trivial⟩⟩, ti119_ok, ⟨⟨⟨trivial, ti120_ok, trivial⟩, ti121_ok, trivial⟩, ti122_ok, ⟨⟨trivial, ti124_ok, trivial⟩, ti125_ok, trivial⟩⟩⟩⟩, ti126_ok, ⟨⟨⟨⟨⟨trivial, ti127_ok, trivial⟩, ti128_ok, trivial⟩, ti129_ok, ⟨⟨trivial, ti130_ok, trivial⟩, ti131_ok, trivial⟩⟩, ti132_ok, ⟨⟨⟨trivial, ti133_ok, trivial⟩, ti134_ok, trivial⟩, ti135_ok, ⟨⟨trivial, ti136_ok, trivial⟩, ti138_ok, trivial⟩⟩⟩, ti139_ok, ⟨⟨⟨⟨trivial, ti140_ok, trivial⟩, ti141_ok, trivial⟩, ti142_ok, ⟨⟨trivial, ti143_ok, trivial⟩, ti144_ok, trivial⟩⟩, ti145_ok, ⟨⟨⟨trivial, ti146_ok, trivial⟩, ti147_ok, trivial⟩, ti148_ok, ⟨trivial, ti149_ok, trivial⟩⟩⟩⟩⟩, ti150_ok, ⟨⟨⟨⟨⟨⟨trivial, ti151_ok, trivial⟩, ti152_ok, trivial⟩, ti153_ok, ⟨⟨trivial, ti154_ok, trivial⟩, ti156_ok, trivial⟩⟩, ti157_ok, ⟨⟨⟨trivial, ti159_ok, trivial⟩, ti160_ok, trivial⟩, ti161_ok, ⟨⟨trivial, ti162_ok, trivial⟩, ti163_ok, trivial⟩⟩⟩, ti164_ok, ⟨⟨⟨⟨trivial, ti165_ok, trivial⟩, ti166_ok, trivial⟩, ti167_ok, ⟨⟨trivial, ti168_ok, trivial⟩, ti169_ok, trivial⟩⟩, ti170_ok, ⟨⟨⟨trivial, ti171_ok, trivial⟩, ti172_ok, trivial⟩, ti173_ok, ⟨trivial, ti174_ok, trivial⟩⟩⟩⟩, ti175_ok, ⟨⟨⟨⟨⟨trivial, ti176_ok, trivial⟩, ti177_ok, trivial⟩, ti178_ok, ⟨⟨trivial, ti179_ok, trivial⟩, ti180_ok, trivial⟩⟩, ti181_ok, ⟨⟨⟨trivial, ti184_ok, trivial⟩, ti186_ok, trivial⟩, ti188_ok, ⟨⟨trivial, ti190_ok, trivial⟩, ti191_ok, trivial⟩⟩⟩, ti192_ok, ⟨⟨⟨⟨trivial, ti193_ok, trivial⟩, ti194_ok, trivial⟩, ti197_ok, ⟨⟨trivial, ti198_ok, trivial⟩, ti199_ok, trivial⟩⟩, ti201_ok, ⟨⟨⟨trivial, ti202_ok, trivial⟩, ti203_ok, trivial⟩, ti205_ok, ⟨trivial, ti207_ok, trivial⟩⟩⟩⟩⟩⟩⟩
noncomputable def TC : Cx := ⟨Tryz.prog, tyTree.look, TyTree.look_ok tyTree_ok⟩
theorem TC_mixed : TC.P.follows .mixedOrders = true := by kernel_rfl
end Go.Proofs.YteallmlkkcjblaaGreatDoor

namespace Go.Proofs.YteallmlkkcjblaaGreatDoor
open Go.RowKit
theorem Pure.val {C : Cx} {g : Nat} {xs : List Value} {r : Value} (ent : Enters C.P g) (hr : r.oneCell' = true) (h : ∀ w, Calls C.P g xs.toArray w fun e w' => e = .returned r ∧ w' = w) : Pure C g (xs.map fun v => .d (.val v)) (.d (.val r)) := by
  refine ⟨ent, fun E w vs hIm hsz hargs => ?_⟩
  have : vs = xs.toArray := by
    apply Array.ext (by simpa using hsz)
    intro i h1 h2
    have h3 := hargs i (by simpa using h2)
    rw [List.getElem_map] at h3
    have := h3.val_inv
    simpa [Array.getD, h1] using this
  subst this
  refine (h w).mono ?_
  rintro e w' ⟨rfl, rfl⟩
  exact ⟨r, rfl, Kp.refl _, .d _ _ (.val _ hr)⟩
end Go.Proofs.YteallmlkkcjblaaGreatDoor

namespace Go.Proofs.YteallmlkkcjblaaGreatDoor
open Go.RowKit
structure Pol where
  kind : Int
  T : Int
  tau : Int
  permits : Int
  deriving Inhabited
def Pol.D (p : Pol) : List D := [.val (.int .u8 p.kind), .val (.int .i64 p.T), .val (.int .i64 p.tau), .val (.int .i64 p.permits)]
def bsF (lt : Nat → Bool) : Nat → Nat → Nat → Nat
  | 0, i, _ => i
  | n + 1, i, j => if i < j then (if lt ((i + j) / 2) then bsF lt n ((i + j) / 2 + 1) j else bsF lt n i ((i + j) / 2)) else i
def bs (lt : Nat → Bool) (n : Nat) : Nat := bsF lt (n + 1) 0 n
end Go.Proofs.YteallmlkkcjblaaGreatDoor

namespace Go.Proofs.YteallmlkkcjblaaGreatDoor
open Go.RowKit
inductive Sh where
  | int (k : IntKind)
  | bool
  | str
  | sl (z : Nat) (es : List Sh)
mutual
inductive FitD : Sh → D → Prop
  | int {k : IntKind} {n : Int} (h : (Lit.int k n).wf = true) : FitD (.int k) (.val (.int k n))
  | bool (b : Bool) : FitD .bool (.val (.bool b))
  | str (s : ByteArray) (h : s.size ≤ maxLen) : FitD .str (.val (.string s))
  | sl {z : Nat} {es : List Sh} {n : Nat} {f : Nat → List D} (hn : n ≤ maxLen) (h : ∀ i, i < n → FitL es (f i)) : FitD (.sl z es) (.sl z n f)
inductive FitL : List Sh → List D → Prop
  | nil : FitL [] []
  | cons {s : Sh} {d : D} {ss : List Sh} {ds : List D} (h : FitD s d) (t : FitL ss ds) : FitL (s :: ss) (d :: ds)
end
structure RLs (w : World) (ds : List D) (cs : List Value) : Prop where
  len : ds.length = cs.length
  out : ∀ (j : Nat) (d : D) (c : Value), ds[j]? = some d → cs[j]? = some c → RD w (fun b => b < w.heap.size) d c
theorem RLs.nil (w : World) : RLs w [] [] := ⟨rfl, fun j d c h => by simp at h⟩
section
variable {H : Type} {enc : TypeId × Value → H} {P : Program} {w : World} {spare : Nat → Bool}
end
end Go.Proofs.YteallmlkkcjblaaGreatDoor

namespace Go.Proofs.YteallmlkkcjblaaGreatDoor
open Go.ChangeShapes Go.WideShapes Go.ChangeAt Go.RowKit
section
variable {H : Type} {enc : TypeId × Value → H} {P : Program}
theorem all_carry {w w' : World} {base : Nat} {sp : Nat → Bool} {hd : Bool} : ∀ {ts : List TypeId} {vs : List Value} {ds : List (DataW H)} {ps : List MemPlace}, DataW.TrodAll enc P w base sp hd ts vs ds ps → (∀ p ∈ ps, w.sameAt w' p) → DataW.TrodAll enc P w' base sp hd ts vs ds ps
  | [], [], [], _, h, _ => h
  | t :: ts, v :: vs, d :: ds, ps, ⟨p, q, ⟨n, h1⟩, h2, e⟩, hs => ⟨p, q, ⟨n, DataW.trod_carry n _ _ _ h1 fun x hx => hs x (by rw [e]; exact List.mem_append_left _ hx)⟩, all_carry h2 fun x hx => hs x (by rw [e]; exact List.mem_append_right _ hx), e⟩
theorem kept_of {w w' : World} (h : Kp w w') (may : MemPlace → Prop) : w.keptBut w' may := by
  refine ⟨h.os, h.output, fun i hi => ?_⟩
  have hb := h.block i hi
  rw [hb]
  rcases hq : w.heap[i]? with _ | o
  · simp
  · cases o <;> simp
theorem law_post {T : TypeId → Prop} (K : Kids P T) (hz : ∀ t e, T t → P.underlying t = some (.slice e) → 0 < P.cellsOf e) {f : Func} {s : ChangeSpec} {W W' : World} {args : Array Value} {ds gs : List (DataW H)} {before : List MemPlace} {tb : TypeId}
    (hT : ∀ t ∈ f.params.toList, T t) (hvars : s.vars = []) (hr : f.resultTypes = #[tb]) (hb : P.underlying tb = some .bool)
    (hfn : gs = [] → (s.fn H (ds ++ gs)).results = [.lit (.bool true)] ∧ (s.fn H (ds ++ gs)).args = ds ∧ (s.fn H (ds ++ gs)).vars = [])
    (hW : DataW.Whole enc P f.params.toList s.vars false W args.toList ds gs before) (hk : Kp W W') : s.post enc P f false true false false W args (.bool true) W' := by
  have hW0 := hW
  obtain ⟨p, q, hA, hV, rfl, hfz, _⟩ := hW
  rw [hvars] at hV
  have hgs : gs = [] ∧ q = [] := by
    cases gs with
    | nil => exact ⟨rfl, hV⟩
    | cons x r => exact hV.elim
  obtain ⟨rfl, rfl⟩ := hgs
  obtain ⟨h1, h2, h3⟩ := hfn rfl
  have hlt := hW0.lt
  have hsame : ∀ x ∈ p, W.sameAt W' x := fun x hx => by
    have hb := hk.block x.block (hlt x (by simpa using hx))
    cases x with
    | cell b o => exact World.cell?_of_block hb
    | map b => exact hb
  have hA' := all_carry hA hsame
  refine ⟨ds, [], p ++ [], [], p, [], hW0, ?_, ?_, ?_, kept_of hk _, fun h => by cases h⟩
  · rw [h1, hr]
    exact ⟨[], [], shut_bool hb true, rfl, rfl⟩
  · rw [h2]
    exact DataW.TrodAll.respare K hz hT hA' fun x hx => by simpa using hlt x (by simpa using hx)
  · rw [h3, hvars]; rfl
end
end Go.Proofs.YteallmlkkcjblaaGreatDoor

namespace Go.Proofs.YteallmlkkcjblaaGreatDoor
open Go.ChangeShapes Go.WideShapes Go.ChangeAt Go.RowKit
theorem own : ownKnob Tryz.prog.godebug = none := by kernel_rfl
theorem kids : Kids Tryz.prog (· < Tryz.prog.types.size) := kids_rows (by kernel_rfl) (by kernel_rfl)
theorem full : ∀ t e, t < Tryz.prog.types.size → Tryz.prog.underlying t = some (.slice e) → 0 < Tryz.prog.cellsOf e := slices_full_of Tryz.prog (by kernel_rfl)
structure TLe (d d' : D) : Prop where
  out : ∀ w Im v, RD w Im d v → RD w Im d' v
theorem TLe.rfl (d : D) : TLe d d := ⟨fun _ _ _ h => h⟩
theorem TLe.sv {d d' : D} (h : TLe d d') : SV.Le (.d d) (.d d') := ⟨fun E nx w v hv => by cases hv with | d _ _ hv => exact .d _ _ (h.out _ _ _ hv)⟩
structure LsLe (ds ds' : List D) : Prop where
  len : ds.length = ds'.length
  out : ∀ (j : Nat) (d d' : D), ds[j]? = some d → ds'[j]? = some d' → TLe d d'
theorem LsLe.nil : LsLe [] [] := ⟨_root_.rfl, fun j d d' h => by simp at h⟩
theorem LsLe.cons {d d' : D} {ds ds' : List D} (h : TLe d d') (t : LsLe ds ds') : LsLe (d :: ds) (d' :: ds') :=
  ⟨by simp [t.len], fun j x y hx hy => by
    cases j with
    | zero => simp at hx hy; subst hx hy; exact h
    | succ j => simp at hx hy; exact t.out j x y hx hy⟩
theorem TLe.sl {z n : Nat} {f g : Nat → List D} (h : ∀ i, i < n → LsLe (f i) (g i)) : TLe (.sl z n f) (.sl z n g) := by
  refine ⟨fun w Im v hv => ?_⟩
  cases hv with
  | sl _ _ _ a cap gv hc hm hl ha hg =>
    refine .sl z n g a cap gv hc hm (fun i hi => by rw [← (h i hi).len]; exact hl i hi) ha fun i j hi hj => ?_
    have hj' : j < (f i).length := by rw [(h i hi).len]; exact hj
    exact ((h i hi).out j _ _ (List.getElem?_eq_getElem hj') (List.getElem?_eq_getElem hj)).out _ _ _ (hg i j hi hj')
end Go.Proofs.YteallmlkkcjblaaGreatDoor

namespace Go.Proofs.YteallmlkkcjblaaGreatDoor
open Go.RowKit
end Go.Proofs.YteallmlkkcjblaaGreatDoor
