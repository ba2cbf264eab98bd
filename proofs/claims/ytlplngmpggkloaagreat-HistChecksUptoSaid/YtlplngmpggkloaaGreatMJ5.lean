/- Lemmas of Sx16, Sx17, Sx18, Sx19, Sx21, Sx22, Sx24. No condition. -/
import Derived.Test.YtlplngmpggkloaaGreatMJ4
import Derived.LoopN
import Derived.IntWalk
set_option linter.unusedVariables false
set_option linter.unusedSimpArgs false
set_option maxHeartbeats 80000000
set_option maxRecDepth 100000
namespace Go.Proofs.YtlplngmpggkloaaGreat
open Go.RowKit
section
def dirP (o : Oper) (acc : List Nat) : Nat := o.after.toList.foldl (fun s e => bif Region.binds .any e then s ||| 2 ^ e.on ||| acc.getD e.on 0 else s) 0
def fj : List Oper → List Nat → List Nat
  | [], acc => acc
  | o :: r, acc => fj r (acc ++ [dirP o acc])
def nF (pre : List Nat) (i j : Nat) : Bool := bif Nat.blt j i then (pre.getD i 0).testBit j else (pre.getD j 0).testBit i
mutual
def nG (l : Nat) : SV → Bool
  | .ptr m _ => Nat.beq m l
  | .rp m _ _ _ => Nat.beq m l
  | .sl m _ _ _ => Nat.beq m l
  | .d _ => false
  | .any => false
  | .agg vs => ll l vs
  | .tup vs => ll l vs
  | .fn _ vs => ll l vs
  | .iref vs _ => ll l vs
def ll (l : Nat) : List SV → Bool
  | [] => false
  | x :: r => nG l x || ll l r
end
theorem ea {l : Nat} : ∀ {vs : List SV}, ll l vs = false → ∀ j (hj : j < vs.length), nG l vs[j] = false
  | [], _, j, hj => by simp at hj
  | x :: r, h, j, hj => by
    simp only [ll, Bool.or_eq_false_iff] at h
    cases j with
    | zero => exact h.1
    | succ j => exact ea h.2 j (by simpa using hj)
abbrev mem1 (l : Nat) (x : SV) : Bool := nG l x
abbrev mem2 (l : Nat) (x : SV) : Bool := nG l x
def rH (l : Nat) : Option Blk → Bool
  | some (.cells cs) => cs.any (mem1 l)
  | some (.cf m _ _) => Nat.blt l m
  | some (.obj _ m _ _ _) => Nat.blt l m
  | _ => false
section
variable {E E' : Env} {nx : Nat} {w : World} {l : Nat}
theorem oF (hρ : ∀ m, m ≠ l → E'.ρ m = E.ρ m ∧ E'.κ m = E.κ m) (hI : E'.Im = E.Im) {x : SV} {v : Value} (hm : nG l x = false) (h : RS E nx w x v) : RS E' nx w x v := by
  have ne : ∀ m, Nat.beq m l = false → m ≠ l := fun m hb e => by subst e; simp at hb
  induction h with
  | any => exact .any _
  | d x v h => exact .d _ _ (by rw [hI]; exact h)
  | ptr m o hl => unfold nG at hm; rw [← (hρ m (ne m hm)).1]; exact .ptr _ _ hl
  | rp m z q o hl => unfold nG at hm; rw [← (hρ m (ne m hm)).1]; exact .rp _ _ _ _ hl
  | sl m z o n ad cap hl hc hmx ha h0 => unfold nG at hm; exact .sl _ _ _ _ _ _ hl hc hmx (by rw [(hρ m (ne m hm)).1]; exact ha) (by rw [(hρ m (ne m hm)).1, (hρ m (ne m hm)).2]; exact h0)
  | agg vs us hs h1 hh ih => unfold nG at hm; exact .agg _ _ hs h1 fun j hj => ih j hj (ea hm j hj)
  | tup vs us hs hh ih => unfold nG at hm; exact .tup _ _ hs fun j hj => ih j hj (ea hm j hj)
  | fn f vs us hs hh ih => unfold nG at hm; exact .fn _ _ _ hs fun j hj => ih j hj (ea hm j hj)
  | iref vs off b o g hb hcell h1 hh ih => unfold nG at hm; exact .iref _ _ b o g (by rw [hI]; exact hb) hcell h1 fun j hj => ih j hj (ea hm j hj)
theorem mem1_ok (hρ : ∀ m, m ≠ l → E'.ρ m = E.ρ m ∧ E'.κ m = E.κ m) (hI : E'.Im = E.Im) {x : SV} {v : Value} (hm : mem1 l x = false) (h : RS E nx w x v) : RS E' nx w x v := oF hρ hI hm h
theorem mem2_ok (hρ : ∀ m, m ≠ l → E'.ρ m = E.ρ m ∧ E'.κ m = E.κ m) (hI : E'.Im = E.Im) {x : SV} {v : Value} (hm : mem2 l x = false) (h : RS E nx w x v) : RS E' nx w x v := oF hρ hI hm h
theorem memO_ok (hρ : ∀ m, m ≠ l → E'.ρ m = E.ρ m ∧ E'.κ m = E.κ m) (hI : E'.Im = E.Im) {m : Nat} {b : Blk} (hne : m ≠ l) (hm : rH l (some b) = false) (h : BS E nx w m b) : BS E' nx w m b := by
  cases b with
  | cells cs =>
    obtain ⟨vs, T, h1, h2, h3⟩ := h
    refine ⟨vs, T, by rw [(hρ m hne).1]; exact h1, h2, fun j hj => ⟨mem1_ok hρ hI ?_ (h3 j hj).1, (h3 j hj).2⟩⟩
    simp only [rH] at hm; rw [List.any_eq_false] at hm; simpa using hm _ (Q14 hj)
  | row e z n f =>
    obtain ⟨h1, h2, h3, h4, h5⟩ := h
    refine ⟨by rw [(hρ m hne).2]; exact h1, by rw [(hρ m hne).2]; exact h2, h3, h4, ?_⟩
    rw [(hρ m hne).1, (hρ m hne).2, hI]; exact h5
  | cf m' n g =>
    obtain ⟨h0, hh⟩ := h
    have hlm : m' ≤ l := by
      have hm : Nat.blt l m' = false := hm
      have : ¬ l < m' := fun h => by
        have h9 : Nat.blt l m' = true := by simpa using h
        rw [h9] at hm; exact absurd hm (by decide)
      omega
    refine ⟨h0, fun hp => ?_⟩
    obtain ⟨vs, T, h1, h2, h3⟩ := hh hp
    exact ⟨vs, T, by rw [(hρ m hne).1]; exact h1, h2, fun j hj => ⟨(h3 j hj).1, RS.congr (fun k hk => hρ k (by omega)) h0 (fun b hb => by rw [hI]; exact hb) (h3 j hj).1 (h3 j hj).2.1, (h3 j hj).2.2⟩⟩
  | obj c m' n p g =>
    obtain ⟨e0, h0, o, u, h1, h2, h3⟩ := h
    have hlm : m' ≤ l := by
      have hm : Nat.blt l m' = false := hm
      have : ¬ l < m' := fun h => by
        have h9 : Nat.blt l m' = true := by simpa using h
        rw [h9] at hm; exact absurd hm (by decide)
      omega
    exact ⟨by rw [(hρ m hne).1]; exact e0, h0, o, u, by rw [(hρ m hne).1]; exact h1, h2, fun j hj => ⟨(h3 j hj).1, RS.congr (fun k hk => hρ k (by omega)) h0 (fun b hb => by rw [hI]; exact hb) (h3 j hj).1 (h3 j hj).2.1, (h3 j hj).2.2⟩⟩
end
def oH (ops : List Oper) (o : Oper) : List Nat :=
  (o.op.operands.toList.filterMap fun | .tmp t => some t | _ => none) ++ (match o.guard with | some (j, _) => ((ops[j]?).bind (·.dst)).toList | none => [])
def cU (pre : List Nat) (ops : List Oper) (n0 i j : Nat) (labs : List Nat) (p q : Pt) : Bool :=
  (match p.1.dst, q.1.dst with | some a, some b => !Nat.beq a b | _, _ => true) &&
  (p.2.ed.all (fun x => q.2.ed.all fun y => !Nat.beq x.1 y.1) || nF pre i j) &&
  ((match q.1.dst with | some d => (oH ops p.1).all fun t => !Nat.beq d t | none => true) || nF pre i j) &&
  ((labs.all (fun l => q.2.ed.all fun y => !Nat.beq y.1 l) && p.2.rd.all (fun l => q.2.ed.all fun y => !Nat.beq y.1 l)) || nF pre i j) &&
  (!eS p.1.op || (!mem2 (n0 + i) q.2.val && q.2.ed.all (fun y => !Nat.beq y.1 (n0 + i) && !rH (n0 + i) y.2)) || (Nat.blt i j && nF pre i j))
def mO (pre : List Nat) (ops : List Oper) (n0 i : Nat) (labs : List Nat) (p : Pt) : List Pt → Nat → Bool
  | [], _ => true
  | q :: r, j => (Nat.beq i j || cU pre ops n0 i j labs p q) && mO pre ops n0 i labs p r (j + 1)
def mP (pre : List Nat) (ops : List Oper) (n0 : Nat) (all : List Pt) (S0 : St) : List Pt → Nat → St → Bool
  | [], _, _ => true
  | p :: r, i, S => mO pre ops n0 i (iu S p.1.op) p all 0 && (!eS p.1.op || (S0.fr.all (fun x => !mem2 (n0 + i) x.2) && S0.hp.all (fun x => !Nat.beq x.1 (n0 + i) && !rH (n0 + i) x.2))) &&
      (p.1.after.toList.all fun e => !Region.binds .any e || Nat.blt e.on i) && (match p.1.dst with | some n => Nat.blt n S0.nt.n | none => true) && mP pre ops n0 all S0 r (i + 1) (S.step p.1.dst p.2)
def ah (ops : List Oper) (efs : List Ef) (n0 : Nat) (S0 : St) : Bool := mP (fj ops []) ops n0 (ops.zip efs) S0 (ops.zip efs) 0 S0
theorem kM {pre : List Nat} {ops : List Oper} {n0 i : Nat} {labs : List Nat} {p : Pt} : ∀ (l : List Pt) (k : Nat), mO pre ops n0 i labs p l k = true → ∀ j q, l[j]? = some q → i ≠ k + j → cU pre ops n0 i (k + j) labs p q = true
  | [], k, h, j, q, hq, hne => by simp at hq
  | x :: r, k, h, j, q, hq, hne => by
    unfold mO at h
    rw [Q5, Q20] at h
    cases j with
    | zero =>
      simp at hq; subst hq
      rcases h.1 with h1 | h1
      · exact absurd (Q2 h1) hne
      · exact h1
    | succ j => simp at hq; have := kM r (k + 1) h.2 j q hq (by omega); rw [show k + (j + 1) = k + 1 + j by omega]; exact this
theorem kN {pre : List Nat} {ops : List Oper} {n0 : Nat} {all : List Pt} {S0 : St} : ∀ (l : List Pt) (k : Nat) (S : St), mP pre ops n0 all S0 l k S = true → ∀ i p, l[i]? = some p →
    (∀ j q, all[j]? = some q → k + i ≠ j → cU pre ops n0 (k + i) j (iu (am (l.take i) S) p.1.op) p q = true) ∧
    (eS p.1.op = true → (∀ x ∈ S0.fr, mem2 (n0 + (k + i)) x.2 = false) ∧ ∀ x ∈ S0.hp, x.1 ≠ n0 + (k + i) ∧ rH (n0 + (k + i)) x.2 = false) ∧
    (∀ e ∈ p.1.after.toList, Region.binds .any e = true → e.on < k + i) ∧ (∀ n, p.1.dst = some n → n < S0.nt.n)
  | [], k, S, h, i, p, hp => by simp at hp
  | x :: r, k, S, h, i, p, hp => by
    unfold mP at h
    simp only [Q5] at h
    obtain ⟨⟨⟨⟨h1, h2⟩, h3⟩, h5⟩, h4⟩ := h
    cases i with
    | zero =>
      simp at hp; subst hp
      refine ⟨fun j q hq hne => by have := kM all 0 h1 j q hq (by omega); simpa [am] using this, fun hal => ?_, fun e he hb => ?_, fun n hn => by rw [hn] at h5; simpa using h5⟩
      · rw [hal] at h2
        simp only [Bool.not_true, Bool.false_or, Q5, Q23] at h2
        refine ⟨fun x hx => by simpa using h2.1 x hx, fun x hx => ?_⟩
        have := h2.2 x hx
        simp only [Bool.not_eq_true'] at this
        refine ⟨fun e => ?_, by simpa using this.2⟩
        have h9 := this.1
        rw [e] at h9
        simp at h9
      · rw [Q23] at h3
        have := h3 e he
        rw [hb] at this
        simpa using this
    | succ i =>
      simp at hp
      have := kN r (k + 1) _ h4 i p hp
      rw [show k + (i + 1) = k + 1 + i by omega]
      exact this
theorem l6 {G D : Nat → Prop} (hDG : ∀ i, D i → G i) : ∀ (l : List Oper) (acc : List Nat), (∀ i o, l[i]? = some o → G (acc.length + i) → ∀ e ∈ o.after.toList, Region.binds .any e = true → D e.on) →
    (∀ i j, (acc.getD i 0).testBit j = true → G i → D j) → ∀ i j, ((fj l acc).getD i 0).testBit j = true → G i → D j
  | [], acc, h, ha, i, j, hij, hG => ha i j hij hG
  | o :: r, acc, h, ha, i, j, hij, hG => by
    refine l6 hDG r (acc ++ [dirP o acc]) (fun i o' ho hg => ?_) (fun i j hij hG => ?_) i j hij hG
    · have := h (i + 1) o' (by simpa using ho)
      refine this ?_
      rw [Q9] at hg
      simpa [Nat.add_assoc, Nat.add_comm 1 i] using hg
    · by_cases hlt : i < acc.length
      · have e : (acc ++ [dirP o acc]).getD i 0 = acc.getD i 0 := by simp [List.getD, Q11 hlt]
        rw [e] at hij
        exact ha i j hij hG
      · by_cases hi : i = acc.length
        · subst hi
          have e : (acc ++ [dirP o acc]).getD acc.length 0 = dirP o acc := by simp [List.getD]
          rw [e] at hij
          have hd := h 0 o rfl (by simpa using hG)
          have key : ∀ (es : List Edge) (s : Nat), (∀ e ∈ es, Region.binds .any e = true → D e.on) → (s.testBit j = true → D j) → ((es.foldl (fun s e => bif Region.binds .any e then s ||| 2 ^ e.on ||| acc.getD e.on 0 else s) s).testBit j = true → D j) := by
            intro es
            induction es with
            | nil => exact fun s _ hs => hs
            | cons e es ih =>
              intro s hes hs
              refine ih _ (fun e he => hes e (by simp [he])) ?_
              show ((bif Region.binds .any e then s ||| 2 ^ e.on ||| acc.getD e.on 0 else s) : Nat).testBit j = true → D j
              cases hb : Region.binds .any e with
              | false => exact hs
              | true =>
                simp only [cond_true]
                intro hbit
                rw [Nat.testBit_or, Nat.testBit_or, Q20, Q20] at hbit
                have hon := hes e (by simp) hb
                rcases hbit with (hbit | hbit) | hbit
                · exact hs hbit
                · rw [Nat.testBit_two_pow] at hbit
                  have := of_decide_eq_true hbit
                  rw [← this]; exact hon
                · exact ha _ _ hbit (hDG _ hon)
          exact key _ 0 hd (by simp) hij
        · have e : (acc ++ [dirP o acc]).getD i 0 = 0 := by
            simp only [List.getD]
            rw [List.getElem?_eq_none (by simp; omega)]; rfl
          rw [e] at hij
          simp at hij
theorem ox {pre : List Nat} {i j : Nat} (h : i ≠ j) : nF pre i j = nF pre j i := by
  unfold nF
  by_cases hlt : j < i
  · have h1 : Nat.blt j i = true := by simpa using hlt
    have h2 : Nat.blt i j = false := by
      cases hq : Nat.blt i j with
      | true => have : i < j := by simpa using hq
                omega
      | false => rfl
    rw [h1, h2]; rfl
  · have h1 : Nat.blt i j = true := by simp; omega
    have h2 : Nat.blt j i = false := by
      cases hq : Nat.blt j i with
      | true => have : j < i := by simpa using hq
                omega
      | false => rfl
    rw [h1, h2]; rfl
theorem kC {l2 : List Pt} {R : Nat → Nat → Prop} {n : Nat} (hR : ∀ i j p q, l2[i]? = some p → l2[j]? = some q → (∃ o, (n, o) ∈ p.2.ed) → (∃ o, (n, o) ∈ q.2.ed) → i ≠ j → R i j) :
    ∀ (ms : List Nat) (S : St), ms.Pairwise (fun a b => R a b → a < b) → ∀ j p, j ∈ ms → l2[j]? = some p → (∃ o, (n, o) ∈ p.2.ed) → (∀ i q, i ∈ ms → l2[i]? = some q → (∃ o, (n, o) ∈ q.2.ed) → i ≤ j) → lkh (am (ms.filterMap fun j => l2[j]?) S).hp n = lkh p.2.ed n
  | [], S, hp, j, p, hj, _, _, _ => by simp at hj
  | a :: r, S, hpw, j, p, hj, hjp, hw, hmax => by
    rw [List.pairwise_cons] at hpw
    by_cases hex : ∃ b q, b ∈ r ∧ l2[b]? = some q ∧ ∃ o, (n, o) ∈ q.2.ed
    · obtain ⟨b, q, hb, hbq, hbw⟩ := hex
      have hjr : j ∈ r := by
        rcases Q22 hj with rfl | h
        · by_cases hne : j = b
          · subst hne; exact hb
          · have h1 := hpw.1 b hb (hR j b p q hjp hbq hw hbw hne)
            have h2 := hmax b q (by simp [hb]) hbq hbw
            omega
        · exact h
      have ih := fun S => kC hR r S hpw.2 j p hjr hjp hw (fun i q hi => hmax i q (by simp [hi]))
      cases ha : l2[a]? with
      | none => simp only [List.filterMap_cons, ha]; exact ih S
      | some q => simp only [List.filterMap_cons, ha]; exact ih _
    · have hja : j = a := by
        rcases Q22 hj with h | h
        · exact h
        · exact absurd ⟨j, p, h, hjp, hw⟩ hex
      subst hja
      simp only [List.filterMap_cons, hjp]
      show lkh (am _ (S.step p.1.dst p.2)).hp n = _
      rw [jr _ _ n (fun q hq o ho => by
        obtain ⟨b, hb, hbq⟩ := List.mem_filterMap.1 hq
        exact hex ⟨b, q, hb, hbq, o, ho⟩), iR, if_pos hw]
theorem max_of {p : Nat → Prop} {N : Nat} (hN : ∀ j, p j → j < N) {j0 : Nat} (h0 : p j0) : ∃ j, p j ∧ ∀ i, p i → i ≤ j := by
  induction N generalizing j0 with
  | zero => exact absurd (hN j0 h0) (by omega)
  | succ N ih =>
    by_cases h : p N
    · exact ⟨N, h, fun i hi => by have := hN i hi; omega⟩
    · exact ih (fun j hj => by
        have := hN j hj
        by_cases e : j = N
        · subst e; exact absurd hj h
        · omega) h0
theorem Wp.drawAny {C : Cx} {l : List Oper} {nt : NT} {nx : Nat} {fr : List (Nat × SV)} {hp : List (Nat × Option Blk)} {Q : Exit → St → Prop}
    (h : cC C l nx l 0 ⟨nt, nx + l.length, fr, hp⟩ fun efs Sn => ah l efs nx ⟨nt, nx + l.length, fr, hp⟩ = true ∧ Q .normal Sn) {O : Org} {E : Env} {a : Act} {w : World} (hs : Sat O E ⟨nt, nx, fr, hp⟩ a w) :
    wpAny C.P .any l.toArray (fun e a' w' => ∃ S' E', Q e S' ∧ Sat O E' S' a' w') l.length (Array.replicate l.length false) a { w with drawn := w.drawn + 1 } := by
  obtain ⟨efs, Sn, ⟨hok, hQ⟩, hlen, hLk, hstep⟩ := mE l 0 _ _ h
  generalize hS0 : (⟨nt, nx + l.length, fr, hp⟩ : St) = S0 at *
  have hnx0 : S0.nx = nx + l.length := by rw [← hS0]
  let l2 := l.zip efs
  have hl2 : l2.length = l.length := by simp [l2, hlen]
  have hget : ∀ (j : Nat) (p : Pt), l2[j]? = some p → l[j]? = some p.1 ∧ efs[j]? = some p.2 := fun j p hp => by
    obtain ⟨p1, p2⟩ := p
    have := List.getElem?_zip_eq_some.1 hp
    exact this
  have hchk := kN (pre := fj l []) (ops := l) (n0 := nx) (all := l2) (S0 := S0) l2 0 S0 (by unfold ah at hok; exact hok)
  simp only [Q19] at hchk
  have uniqD : ∀ (i j : Nat) (p q : Pt) (n : Nat), l2[i]? = some p → l2[j]? = some q → p.1.dst = some n → q.1.dst = some n → i = j := fun i j p q n hi hj hpn hqn => Classical.byContradiction fun hne => by
    have := (hchk i p hi).1 j q hj (by omega)
    unfold cU at this
    simp only [Q5] at this
    rw [hpn, hqn] at this
    simp at this
  have wOrd : ∀ (n i j : Nat) (p q : Pt), l2[i]? = some p → l2[j]? = some q → (∃ o, (n, o) ∈ p.2.ed) → (∃ o, (n, o) ∈ q.2.ed) → i ≠ j → nF (fj l []) i j = true := fun n i j p q hi hj ⟨o, ho⟩ ⟨o', ho'⟩ hne => by
    have := (hchk i p hi).1 j q hj (by omega)
    unfold cU at this
    simp only [Q5, Q23, Q20] at this
    rcases this.1.1.1.2 with h9 | h9
    · have h9 := h9 _ ho _ ho'
      simp at h9
    · exact h9
  let Mem : List Pt → (Nat → Prop) → Prop := fun m D => ∀ (p : Pt), p ∈ m ↔ ∃ (j : Nat), l2[j]? = some p ∧ D j
  have agF : ∀ (m m' : List Pt) (D D' : Nat → Prop) (n : Nat), Mem m D → Mem m' D' → (∀ (j : Nat) (p : Pt), l2[j]? = some p → p.1.dst = some n → (D j ↔ D' j)) → lk (am m S0).fr n = lk (am m' S0).fr n := by
    intro m m' D D' n hm hm' hag
    by_cases hex : ∃ (j : Nat) (p : Pt), l2[j]? = some p ∧ D j ∧ p.1.dst = some n
    · obtain ⟨j, p, h1, h2, h3⟩ := hex
      rw [fN m S0 n p.2.val ⟨p, (hm p).2 ⟨j, h1, h2⟩, h3⟩ (fun q hq hqn => by
          obtain ⟨i, hi, _⟩ := (hm q).1 hq
          obtain rfl := uniqD i j q p n hi h1 hqn h3
          rw [hi] at h1; cases h1; rfl),
        fN m' S0 n p.2.val ⟨p, (hm' p).2 ⟨j, h1, (hag j p h1 h3).1 h2⟩, h3⟩ (fun q hq hqn => by
          obtain ⟨i, hi, _⟩ := (hm' q).1 hq
          obtain rfl := uniqD i j q p n hi h1 hqn h3
          rw [hi] at h1; cases h1; rfl)]
    · rw [eh m S0 n (fun q hq hqn => by obtain ⟨i, hi, hd⟩ := (hm q).1 hq; exact hex ⟨i, q, hi, hd, hqn⟩),
        eh m' S0 n (fun q hq hqn => by obtain ⟨i, hi, hd⟩ := (hm' q).1 hq; exact hex ⟨i, q, hi, (hag i q hi hqn).2 hd, hqn⟩)]
  let Ord : List Pt → (Nat → Prop) → Prop := fun m D => ∃ ms : List Nat, m = ms.filterMap (fun j => l2[j]?) ∧ (∀ j, j ∈ ms ↔ (j < l2.length ∧ D j)) ∧ ms.Pairwise (fun a b => nF (fj l []) a b = true → a < b)
  have ltN : ∀ (j : Nat) (p : Pt), l2[j]? = some p → j < l2.length := fun j p hj => (Q3 hj).1
  have lastH : ∀ (m : List Pt) (D : Nat → Prop) (n : Nat), Ord m D → (∃ (j : Nat) (p : Pt), l2[j]? = some p ∧ D j ∧ (∃ o, (n, o) ∈ p.2.ed) ∧ (∀ (i : Nat) (q : Pt), l2[i]? = some q → D i → (∃ o, (n, o) ∈ q.2.ed) → i ≤ j) ∧ lkh (am m S0).hp n = lkh p.2.ed n) ∨
      ((∀ (j : Nat) (p : Pt), l2[j]? = some p → D j → ¬ ∃ o, (n, o) ∈ p.2.ed) ∧ lkh (am m S0).hp n = lkh S0.hp n) := by
    rintro m D n ⟨ms, rfl, h1, h2⟩
    by_cases hex : ∃ (j : Nat) (p : Pt), l2[j]? = some p ∧ D j ∧ ∃ o, (n, o) ∈ p.2.ed
    · obtain ⟨j0, p0, g1, g2, g3⟩ := hex
      obtain ⟨j, ⟨p, k1, k2, k3⟩, kmax⟩ := max_of (p := fun j => ∃ p, l2[j]? = some p ∧ D j ∧ ∃ o, (n, o) ∈ p.2.ed) (N := l2.length) (fun j ⟨p, hp, _⟩ => ltN j p hp) ⟨p0, g1, g2, g3⟩
      refine Or.inl ⟨j, p, k1, k2, k3, fun i q hi hd hw => kmax i ⟨q, hi, hd, hw⟩, ?_⟩
      exact kC (R := fun a b => nF (fj l []) a b = true) (wOrd n) ms S0 h2 j p ((h1 j).2 ⟨ltN j p k1, k2⟩) k1 k3 fun i q hi hq hw => kmax i ⟨q, hq, ((h1 i).1 hi).2, hw⟩
    · refine Or.inr ⟨fun j p hj hd hw => hex ⟨j, p, hj, hd, hw⟩, ?_⟩
      refine jr _ S0 n fun q hq o ho => ?_
      obtain ⟨j, hj, hjq⟩ := List.mem_filterMap.1 hq
      exact hex ⟨j, q, hjq, ((h1 j).1 hj).2, o, ho⟩
  have agH : ∀ (m m' : List Pt) (D D' : Nat → Prop) (n : Nat), Ord m D → Ord m' D' → (∀ (j : Nat) (p : Pt), l2[j]? = some p → (∃ o, (n, o) ∈ p.2.ed) → (D j ↔ D' j)) → lkh (am m S0).hp n = lkh (am m' S0).hp n := by
    intro m m' D D' n hm hm' hag
    rcases lastH m D n hm with ⟨j, p, h1, h2, h3, h4, h5⟩ | ⟨h1, h2⟩ <;> rcases lastH m' D' n hm' with ⟨j', p', h1', h2', h3', h4', h5'⟩ | ⟨h1', h2'⟩
    · have e1 := h4' j p h1 ((hag j p h1 h3).1 h2) h3
      have e2 := h4 j' p' h1' ((hag j' p' h1' h3').2 h2') h3'
      obtain rfl : j = j' := by omega
      rw [h1] at h1'; cases h1'
      rw [h5, h5']
    · exact absurd h3 (h1' j p h1 ((hag j p h1 h3).1 h2))
    · exact absurd h3' (h1 j' p' h1' ((hag j' p' h1' h3').2 h2'))
    · rw [h2, h2']
  have oTake : ∀ i, i ≤ l2.length → Ord (l2.take i) (fun j => j < i) := fun i hi => by
    refine ⟨List.range i, ?_, fun j => by rw [List.mem_range]; omega, by
      have := List.pairwise_lt_range (n := i)
      exact this.imp (fun {a b} h => fun _ => h)⟩
    have : ∀ (L : List Pt) (k : Nat), k ≤ L.length → L.take k = (List.range k).filterMap (fun j => L[j]?) := by
      intro L k
      induction k with
      | zero => intro _; simp
      | succ k ih =>
        intro hk
        rw [List.range_succ, List.filterMap_append, ← ih (by omega), List.take_add_one]
        congr 1
    exact this l2 i hi
  have oAll : Ord l2 (fun _ => True) := by
    obtain ⟨ms, h1, h2, h3⟩ := oTake l2.length (Q4 _)
    rw [List.take_length] at h1
    exact ⟨ms, h1, fun j => by rw [h2]; simp, h3⟩
  have mTake : ∀ i, Mem (l2.take i) (fun j => j < i) := fun i p => by
    constructor
    · intro hp
      obtain ⟨j, hj, e⟩ := List.getElem_of_mem hp
      rw [Q10] at hj
      refine ⟨j, ?_, by omega⟩
      rw [← e, List.getElem_take, Q0]
    · rintro ⟨j, h1, h2⟩
      have : (l2.take i)[j]? = some p := by rw [Q15, if_pos h2]; exact h1
      exact List.mem_of_getElem? this
  have mAll : Mem l2 (fun _ => True) := fun p => by
    constructor
    · intro hp
      obtain ⟨j, hj, e⟩ := List.getElem_of_mem hp
      exact ⟨j, by rw [← e, Q0], trivial⟩
    · rintro ⟨j, h1, _⟩; exact List.mem_of_getElem? h1
  have hOn : O.nl ≤ nx := hs.nl
  have main : ∀ (fuel : Nat) (listed : Array Bool) (m : List Pt) (E : Env) (a : Act) (w : World), listed.size = l.length → Mem m (fun j => listed.getD j false = true) → Ord m (fun j => listed.getD j false = true) →
      (∀ (i : Nat) (o : Oper), l[i]? = some o → listed.getD i false = true → ∀ e ∈ o.after.toList, Region.binds .any e = true → listed.getD e.on false = true) → (listed.toList.count false ≤ fuel) → Sat O E (am m S0) a w →
      wpAny C.P .any l.toArray (fun e a' w' => ∃ S' E', Q e S' ∧ Sat O E' S' a' w') fuel listed a w := by
    have fin : ∀ (listed : Array Bool) (m : List Pt) (E : Env) (a : Act) (w : World), Mem m (fun j => listed.getD j false = true) → Ord m (fun j => listed.getD j false = true) → (∀ j, j < l.length → listed.getD j false = true) → Sat O E (am m S0) a w → ∃ S' E', Q .normal S' ∧ Sat O E' S' a w := by
      intro listed m E a w hm ho hall hs
      refine ⟨Sn, E, hQ, hs.congr ?_⟩
      refine gP.trans ⟨by rw [(cS m S0).1, (cS l2 S0).1], by rw [(cS m S0).2, (cS l2 S0).2], fun n => ?_, fun n => ?_⟩ hLk.symm
      · exact agF m l2 _ _ n hm mAll fun j p hp _ => ⟨fun _ => trivial, fun _ => hall j (by have := (Q3 hp).1; omega)⟩
      · exact agH m l2 _ _ n ho oAll fun j p hp _ => ⟨fun _ => trivial, fun _ => hall j (by have := (Q3 hp).1; omega)⟩
    have hready : ∀ (listed : Array Bool) (i : Nat), listed.size = l.length → (i ∈ Region.ready .any l.toArray listed ↔ ∃ (o : Oper), l[i]? = some o ∧ listed.getD i false = false ∧ ∀ e ∈ o.after.toList, Region.binds .any e = true → listed.getD e.on false = true) := by
      intro listed i hls
      unfold Region.ready
      rw [List.mem_filter]
      constructor
      · rintro ⟨h1, h2⟩
        have hi : i < l.length := by simpa using h1
        have hli : i < listed.size := by omega
        rw [Q5] at h2
        refine ⟨l[i], Q0 hi, ?_, fun e he hb => ?_⟩
        · have := h2.1
          simp only [Array.getD, hli, dif_pos] at this ⊢
          simpa using this
        · have h3 := h2.2
          simp only [List.getElem?_toArray, Q0 hi, Option.map_some, Option.getD_some] at h3
          rw [← Array.all_toList, Q23] at h3
          have := h3 e he
          rw [hb] at this
          simpa using this
      · rintro ⟨o, h1, h2, h3⟩
        obtain ⟨hi, e1⟩ := Q3 h1
        have hli : i < listed.size := by omega
        refine ⟨by simpa using hi, ?_⟩
        rw [Q5]
        refine ⟨?_, ?_⟩
        · simp only [Array.getD, hli, dif_pos] at h2 ⊢
          simpa using h2
        · simp only [List.getElem?_toArray, h1, Option.map_some, Option.getD_some]
          rw [← Array.all_toList, Q23]
          intro e he
          cases hb : Region.binds .any e with
          | false => rfl
          | true => simpa using h3 e he hb
    have allOf : ∀ (listed : Array Bool), listed.size = l.length → Region.ready .any l.toArray listed = [] → ∀ j, j < l.length → listed.getD j false = true := by
      intro listed hls hr j
      induction j using Nat.strongRecOn with
      | _ j ih =>
        intro hj
        cases hb : listed.getD j false with
        | true => rfl
        | false =>
          exfalso
          have hjl : l2[j]? = some (l[j], efs[j]'(by omega)) := by
            rw [List.getElem?_zip_eq_some]; exact ⟨Q0 hj, Q0 _⟩
          have : j ∈ Region.ready .any l.toArray listed := (hready listed j hls).2 ⟨l[j], Q0 hj, hb, fun e he hb2 => by
            have := (hchk j _ hjl).2.2.1 e he hb2
            exact ih e.on this (by omega)⟩
          rw [hr] at this
          simp at this
    intro fuel
    induction fuel with
    | zero =>
      intro listed m E a w hls hm hord0 hdc hcnt hs
      have hall : ∀ j, j < l.length → listed.getD j false = true := fun j hj => by
        have : false ∉ listed.toList := List.count_eq_zero.1 (by omega)
        have h1 : j < listed.size := by omega
        cases hb : listed.getD j false with
        | true => rfl
        | false => exfalso; apply this; simp only [Array.getD, h1, dif_pos] at hb; rw [← hb]; simp
      refine ⟨?_, fin listed m E a w hm hord0 hall hs⟩
      refine List.eq_nil_iff_forall_not_mem.2 fun i hi => ?_
      obtain ⟨o, h1, h2, _⟩ := (hready listed i hls).1 hi
      rw [hall i (Q3 h1).1] at h2
      simp at h2
    | succ fuel ih =>
      intro listed m E a w hls hm hord0 hdc hcnt hs
      refine ⟨fun hr => fin listed m E a w hm hord0 (allOf listed hls hr) hs, fun i hi => ?_⟩
      obtain ⟨o, ho, hun, hpre⟩ := (hready listed i hls).1 hi
      obtain ⟨hil, _⟩ := Q3 ho
      obtain ⟨ef, hef⟩ : ∃ ef, efs[i]? = some ef := ⟨efs[i]'(by omega), Q0 _⟩
      have hp : l2[i]? = some (o, ef) := List.getElem?_zip_eq_some.2 ⟨ho, hef⟩
      obtain ⟨c1, c2, c3, c4⟩ := hchk i (o, ef) hp
      have hst := hstep i o ef ho hef
      rw [Q19] at hst
      have hnl : ¬ listed.getD i false = true := by rw [hun]; simp
      have hG := l6 (G := fun j => listed.getD j false = true ∨ j = i) (D := fun j => listed.getD j false = true) (fun j hj => Or.inl hj) l [] (fun j o' ho' hg e he hb => by
        simp only [List.length_nil, Q19] at hg
        rcases hg with hg | rfl
        · exact hdc j o' ho' hg e he hb
        · rw [ho] at ho'; cases ho'; exact hpre e he hb) (fun j j' hb => by simp at hb)
      have hord : ∀ j, i ≠ j → nF (fj l []) i j = true → (j < i ↔ listed.getD j false = true) := by
        intro j hne hb
        unfold nF at hb
        by_cases hlt : j < i
        · have h1 : Nat.blt j i = true := by simpa using hlt
          rw [h1] at hb
          exact ⟨fun _ => hG i j hb (Or.inr rfl), fun _ => hlt⟩
        · have h1 : Nat.blt j i = false := by
            cases hq : Nat.blt j i with
            | true => exact absurd (by simpa using hq) hlt
            | false => rfl
          rw [h1] at hb
          exact ⟨fun h => absurd h hlt, fun h => absurd (hG j i hb (Or.inl h)) hnl⟩
      have hfr : ∀ t ∈ oH l o, lk (am (l2.take i) S0).fr t = lk (am m S0).fr t := fun t ht => agF _ m _ _ t (mTake i) hm fun j q hq hqt => by
        by_cases hne : i = j
        · subst hne; exact ⟨fun h => absurd h (Nat.lt_irrefl _), fun h => absurd h hnl⟩
        · have := c1 j q hq hne
          unfold cU at this
          simp only [Q5] at this
          have h9 := this.1.1.2
          rw [hqt] at h9
          simp only [Q20, Q23] at h9
          rcases h9 with h9 | h9
          · have := h9 t ht; simp at this
          · exact hord j hne h9
      have hil2 : i ≤ l2.length := by omega
      have hlab : ∀ t ∈ iu (am (l2.take i) S0) o.op, lkh (am (l2.take i) S0).hp t = lkh (am m S0).hp t := fun t ht => agH _ m _ _ t (oTake i hil2) hord0 fun j q hq ⟨o', hqo⟩ => by
        by_cases hne : i = j
        · subst hne; exact ⟨fun h => absurd h (Nat.lt_irrefl _), fun h => absurd h hnl⟩
        · have := c1 j q hq hne
          unfold cU at this
          simp only [Q5] at this
          have h9 := this.1.2
          simp only [Q20, Q5, Q23] at h9
          rcases h9 with ⟨h9, _⟩ | h9
          · have := h9 t ht _ hqo; simp at this
          · exact hord j hne h9
      have hrd : ∀ t ∈ ef.rd, lkh (am (l2.take i) S0).hp t = lkh (am m S0).hp t := fun t ht => agH _ m _ _ t (oTake i hil2) hord0 fun j q hq ⟨o', hqo⟩ => by
        by_cases hne : i = j
        · subst hne; exact ⟨fun h => absurd h (Nat.lt_irrefl _), fun h => absurd h hnl⟩
        · have := c1 j q hq hne
          unfold cU at this
          simp only [Q5] at this
          have h9 := this.1.2
          simp only [Q20, Q5, Q23] at h9
          rcases h9 with ⟨_, h9⟩ | h9
          · have := h9 t ht _ hqo; simp at this
          · exact hord j hne h9
      have hkey : ∀ t o', (t, o') ∈ ef.ed → lkh (am (l2.take i) S0).hp t = lkh (am m S0).hp t := fun t o' ho' => agH _ m _ _ t (oTake i hil2) hord0 fun j q hq hqo => by
        by_cases hne : i = j
        · subst hne; exact ⟨fun h => absurd h (Nat.lt_irrefl _), fun h => absurd h hnl⟩
        · exact hord j hne (wOrd t i j (o, ef) q hp hq ⟨o', ho'⟩ hqo hne)
      have hnxm : (am m S0).nx = nx + l.length := by rw [(cS m S0).2, hnx0]
      have hmm : ∀ (q : Pt), q ∈ m → ∃ (j : Nat), l2[j]? = some q ∧ listed.getD j false = true ∧ i ≠ j := fun q hq => by
        obtain ⟨j, h1, h2⟩ := (hm q).1 hq
        exact ⟨j, h1, h2, fun e => hnl (by rw [e]; exact h2)⟩
      have hmem : eS o.op = true → ∀ (q : Pt), q ∈ m → mem2 (nx + i) q.2.val = false ∧ ∀ y ∈ q.2.ed, y.1 ≠ nx + i ∧ rH (nx + i) y.2 = false := fun hal q hq => by
        obtain ⟨j, h1, h2, h3⟩ := hmm q hq
        have := c1 j q h1 h3
        unfold cU at this
        simp only [Q5] at this
        have h9 := this.2
        rw [hal] at h9
        simp only [Bool.not_true, Bool.false_or, Q20, Q5, Q23] at h9
        rcases h9 with ⟨h9, h8⟩ | ⟨h9, h8⟩
        · refine ⟨by simpa using h9, fun y hy => ?_⟩
          have := h8 y hy
          simp only [Bool.not_eq_true'] at this
          exact ⟨fun e => by have h7 := this.1; rw [e] at h7; simp at h7, this.2⟩
        · exfalso
          have := (hord j h3 h8).2 h2
          have h7 : i < j := by simpa using h9
          omega
      have hinv : eS o.op = true → Inv (am m S0) (nx + i) := by
        intro hal E1 E2 w1 hρ hI
        obtain ⟨d1, d2⟩ := c2 hal
        have hq := hmem hal
        refine ⟨fun n v hv => mem2_ok hρ hI ?_ hv, fun lb b hb => ?_⟩
        · by_cases hex : ∃ q ∈ m, q.1.dst = some n
          · obtain ⟨q, hqm, hqn⟩ := hex
            obtain ⟨j, h1, h2, h3⟩ := hmm q hqm
            rw [fN m S0 n q.2.val ⟨q, hqm, hqn⟩ (fun q' hq' hqn' => by
              obtain ⟨j', h1', _⟩ := (hm q').1 hq'
              obtain rfl := uniqD j' j q' q n h1' h1 hqn' hqn
              rw [h1'] at h1; cases h1; rfl)]
            exact (hq q hqm).1
          · rw [eh m S0 n (fun q hqm hqn => hex ⟨q, hqm, hqn⟩)]
            have : ∀ fr : List (Nat × SV), (∀ x ∈ fr, mem2 (nx + i) x.2 = false) → mem2 (nx + i) (lk fr n) = false := by
              intro fr
              induction fr with
              | nil => intro _; rfl
              | cons x r ihr =>
                intro hx
                obtain ⟨x1, x2⟩ := x
                rw [cj]
                split
                · exact hx (x1, x2) (by simp)
                · exact ihr fun y hy => hx y (by simp [hy])
            exact this _ d1
        · have key : lb ≠ nx + i ∧ rH (nx + i) (some b) = false := by
            have look : ∀ (hp : List (Nat × Option Blk)), (∀ x ∈ hp, x.1 ≠ nx + i ∧ rH (nx + i) x.2 = false) → lkh hp lb = some b → lb ≠ nx + i ∧ rH (nx + i) (some b) = false := by
              intro hp
              induction hp with
              | nil => intro _ h; simp [lkh] at h
              | cons x r ihr =>
                intro hx h
                obtain ⟨x1, x2⟩ := x
                rw [aj] at h
                split at h
                · rename_i e
                  subst e
                  have := hx (x1, x2) (by simp)
                  simp only at this
                  rw [h] at this; exact this
                · exact ihr (fun y hy => hx y (by simp [hy])) h
            rcases lastH m _ lb hord0 with ⟨j, q, h1, h2, h3, h4, h5⟩ | ⟨h1, h2⟩
            · rw [h5] at hb
              exact look _ (hq q ((hm q).2 ⟨j, h1, h2⟩)).2 hb
            · rw [h2] at hb
              exact look _ d2 hb
          exact ⟨key.1, memO_ok hρ hI key.1 key.2⟩
      have next : ∀ (v : Value) (E' : Env) (w' : World), Sat O E' ((am m S0).ed ef.ed) a w' → RS E' (am m S0).nx w' ef.val v →
          wpAny C.P .any l.toArray (fun e a' w' => ∃ S' E', Q e S' ∧ Sat O E' S' a' w') fuel (listed.setIfInBounds i true) (a.put o.dst v) w' := by
        intro v E' w' hs' hv
        have hlg : ∀ j, (listed.setIfInBounds i true).getD j false = true ↔ (listed.getD j false = true ∨ j = i) := fun j => by
          simp only [Q7, Array.getElem?_setIfInBounds]
          by_cases h : i = j
          · subst h
            have : i < listed.size := by omega
            simp [this]
          · simp [h]
            exact fun e => absurd e.symm h
        refine ih _ (m ++ [(o, ef)]) E' _ w' (by simpa using hls) (fun p => ?_) ?_ (fun j o' ho' hj e he hb => ?_) ?_ ?_
        · rw [List.mem_append, List.mem_singleton, hm p]
          constructor
          · rintro (⟨j, h1, h2⟩ | rfl)
            · exact ⟨j, h1, (hlg j).2 (Or.inl h2)⟩
            · exact ⟨i, hp, (hlg i).2 (Or.inr rfl)⟩
          · rintro ⟨j, h1, h2⟩
            rcases (hlg j).1 h2 with h2 | rfl
            · exact Or.inl ⟨j, h1, h2⟩
            · rw [hp] at h1; cases h1; exact Or.inr rfl
        · obtain ⟨ms, g1, g2, g3⟩ := hord0
          refine ⟨ms ++ [i], by rw [List.filterMap_append, ← g1]; simp [hp], fun j => ?_, ?_⟩
          · rw [List.mem_append, List.mem_singleton, g2]
            show _ ↔ j < l2.length ∧ (listed.setIfInBounds i true).getD j false = true
            rw [hlg]
            constructor
            · rintro (⟨k1, k2⟩ | rfl)
              · exact ⟨k1, Or.inl k2⟩
              · exact ⟨by omega, Or.inr rfl⟩
            · rintro ⟨k1, k2 | rfl⟩
              · exact Or.inl ⟨k1, k2⟩
              · exact Or.inr rfl
          · rw [List.pairwise_append]
            refine ⟨g3, by simp, fun a ha b hb hab => ?_⟩
            rw [List.mem_singleton] at hb
            subst hb
            have hla := ((g2 a).1 ha).2
            have hne : b ≠ a := fun e => hnl (by rw [e]; exact hla)
            rw [ox (fun e => hne e.symm)] at hab
            exact (hord a hne hab).2 hla
        · rw [hlg]
          rcases (hlg j).1 hj with hj | rfl
          · exact Or.inl (hdc j o' ho' hj e he hb)
          · rw [ho] at ho'; cases ho'; exact Or.inl (hpre e he hb)
        · have cnt : ∀ (L : List Bool) (q : Nat), L[q]? = some false → (L.set q true).count false + 1 = L.count false := by
            intro L
            induction L with
            | nil => intro q h; simp at h
            | cons x r ihr =>
              intro q h
              cases q with
              | zero => simp at h; subst h; simp
              | succ q =>
                simp at h
                have := ihr q h
                simp only [List.set_cons_succ, List.count_cons]
                omega
          have hq : listed.toList[i]? = some false := by
            have h1 : i < listed.size := by omega
            simp only [Array.getD, h1, dif_pos] at hun
            simp [h1]; simpa using hun
          have := cnt _ i hq
          rw [Array.toList_setIfInBounds]
          omega
        · rw [nn]
          show Sat O E' ((am m S0).step o.dst ef) (a.put o.dst v) w'
          cases hd : o.dst with
          | none =>
            have : (am m S0).step none ef = (am m S0).ed ef.ed := by cases am m S0; rfl
            rw [this]; exact hs'
          | some n =>
            have := hs'.put (n := n) (x := ef.val) (v := v) (by have := c4 n hd; show n < (am m S0).nt.n; rw [(cS m S0).1]; exact this) hv
            have e : ((am m S0).ed ef.ed).set n ef.val = (am m S0).step (some n) ef := by cases am m S0; rfl
            rw [e] at this; exact this
      have run : nH C (am (l2.take i) S0) (nx + i) o.op (fun e => e = ef) → o.wp C.P a w (wpAny C.P .any l.toArray (fun e a' w' => ∃ S' E', Q e S' ∧ Sat O E' S' a' w') fuel (listed.setIfInBounds i true)) (fun e a' w' => ∃ S' E', Q e S' ∧ Sat O E' S' a' w') := fun hef => by
        have h2 := iC (S' := am m S0) (by rw [(cS (l2.take i) S0).2, (cS m S0).2]) (fun x hx => mF fun t ht => hfr t (by
          unfold oH
          rw [List.mem_append]
          exact Or.inl (List.mem_filterMap.2 ⟨x, hx, by rw [ht]⟩))) hlab hkey hrd hef
        exact effD_ok hs (by rw [hnxm]; omega) (by omega) hinv h2 _ _ fun v E' w' e he hs' hv => by subst he; exact next v E' w' hs' hv
      show wpOp C.P l.toArray _ i _ a w
      unfold wpOp
      have hoa : l.toArray[i]? = some o := by simpa using ho
      rw [hoa]
      simp only
      unfold ci at hst
      split at hst
      · rename_i hg
        rw [if_pos (by simp [Region.wanted, hg])]
        exact Or.inl (run hst)
      · rename_i j want hg
        obtain ⟨t, h1, hst⟩ := hst
        have hin : t ∈ oH l o := by unfold oH; rw [List.mem_append, hg]; simp only; rw [h1]; simp
        have h5 : (l.toArray[j]?).bind (·.dst) = some t := by simpa using h1
        have e0 : ∀ S : St, S.ed [] = S := fun S => by cases S; rfl
        rcases hst with ⟨b, h2, h3, h4⟩ | ⟨h2, h3⟩
        · have hlt : lk (am m S0).fr t = .b b := by rw [← hfr t hin]; exact h2
          have hv := hs.fr t
          rw [hlt] at hv
          have hv := hv.val_inv
          have hy : yielded l.toArray a.tmps j = some b := by
            unfold yielded
            have h6 : a.tmps[t]? = some (.bool b) := by
              rw [Q7] at hv
              cases hq : a.tmps[t]? with
              | none => rw [hq] at hv; simp [undef] at hv
              | some y => rw [hq] at hv; simp at hv; rw [hv]
            rw [h5]
            simp [h6]
          by_cases hbw : b = want
          · rw [if_pos (by simp [Region.wanted, hg, hy, hbw])]
            exact Or.inl (run (h3 hbw))
          · rw [if_neg (by simp [Region.wanted, hg, hy, hbw])]
            have he := h4 hbw
            subst he
            exact next undef E w (by
              show Sat O E ((am m S0).ed []) a w
              rw [e0]; exact hs) (RS.skip _ _ _)
        · have hlt : lk (am m S0).fr t = .tup [] := by rw [← hfr t hin]; exact h2
          have hv := hs.fr t
          rw [hlt] at hv
          have hv := hv.skip_inv
          have hy : yielded l.toArray a.tmps j = none := by
            unfold yielded
            rw [h5]
            rw [Q7] at hv
            cases hq : a.tmps[t]? with
            | none => simp [hq]
            | some y => rw [hq] at hv; simp at hv; subst hv; simp [hq, undef]
          rw [if_neg (by simp [Region.wanted, hg, hy])]
          subst h3
          exact next undef E w (by
            show Sat O E ((am m S0).ed []) a w
            rw [e0]; exact hs) (RS.skip _ _ _)
  have hs1 : Sat O E S0 a { w with drawn := w.drawn + 1 } := by
    rw [← hS0]
    have h := hs.drew (w.drawn + 1)
    refine ⟨fun n => (h.fr n).mono (fun _ _ => ⟨rfl, rfl⟩) (by simp) (fun _ hb => hb) (fun _ _ => rfl), h.nt, h.df, fun lb b hb => (h.hp lb b hb).mono (h.nx lb b hb) (fun _ _ => ⟨rfl, rfl⟩) (by simp) (fun _ hb => hb) (fun _ _ => rfl) (fun _ => rfl),
      fun lb b hb => Nat.lt_of_lt_of_le (h.nx lb b hb) (by simp), h.inj, h.im, h.own, h.kq, h.lab, Nat.le_trans h.nl (by simp), h.imo⟩
  have := main l.length (Array.replicate l.length false) [] E a { w with drawn := w.drawn + 1 } (by simp) (fun p => by
      constructor
      · intro h; simp at h
      · rintro ⟨j, _, h⟩; simp [Q7, Array.getElem?_replicate] at h
        split at h <;> simp at h) ⟨[], rfl, fun j => by
      constructor
      · intro h; simp at h
      · rintro ⟨_, h⟩; simp [Q7, Array.getElem?_replicate] at h
        split at h <;> simp at h, List.Pairwise.nil⟩ (fun i o _ h => by simp [Q7, Array.getElem?_replicate] at h; split at h <;> simp at h) (by simp) hs1
  simpa using this
theorem Wp.draw {C : Cx} {id : Nat} {l : List Oper} {nt : NT} {nx : Nat} {fr : List (Nat × SV)} {hp : List (Nat × Option Blk)} {Q : Exit → St → Prop} (hm : C.P.follows .mixedOrders = true)
    (h : cC C l nx l 0 ⟨nt, nx + l.length, fr, hp⟩ fun efs Sn => ah l efs nx ⟨nt, nx + l.length, fr, hp⟩ = true ∧ Q .normal Sn) : Wp C (.region id l.toArray true) ⟨nt, nx, fr, hp⟩ Q :=
  ⟨fun _ _ _ _ hs => wp_region_any hm (by simpa using Wp.drawAny h hs)⟩
theorem ae {n b : Nat} (hb : b ≤ 4096) (h : n ≤ 34359738368) : n * b ≤ 140737488355328 := Nat.le_trans (Nat.mul_le_mul h hb) (by decide)
theorem ag {n : Nat} {p : Bool → Prop} (hf : p false) (ht : n = 0 → p true) : ∀ c : Bool, (0 < n → c = false) → p c := fun c hc => by
  cases c with
  | false => exact hf
  | true => exact ht (by rcases Nat.eq_zero_or_pos n with h | h; exact h; exact absurd (hc h) (by simp))
end
def sE {ι : Type} (p : ι → Prop) (I : ι → St) (μ : ι → Nat) (n : Nat) (Q : Exit → St → Prop) : Exit → St → Prop
  | .normal, S => ∃ i, p i ∧ μ i < n ∧ Le S (I i)
  | e, S => Q e S
theorem Wp.loopP {C : Cx} {ι : Type} {c : Code} {S : St} {Q : Exit → St → Prop} (p : ι → Prop) (I : ι → St) (μ : ι → Nat) (i0 : ι) (hp0 : p i0) (h0 : Le S (I i0)) (h : ∀ i, p i → Wp C c (I i) (sE p I μ (μ i) Q)) : Wp C (.loop c) S Q := by
  refine Wp.loop (ι := {i // p i}) (fun i => I i.1) (fun i => μ i.1) ⟨i0, hp0⟩ h0 fun i => (h i.1 i.2).mono fun e S' hq => ?_
  cases e with
  | normal => obtain ⟨j, h1, h2, h3⟩ := hq; exact ⟨⟨j, h1⟩, h2, h3⟩
  | _ => exact hq
def inK (C : Cx) (rs : List ResultVar) (nt : NT) (fr : List (Nat × SV)) (k : St → SV → Prop) (S' : St) : Prop :=
  pM C S' rs fun vs => pT vs fun x => cY x fun x' => match S' with | ⟨_, nx', _, hp'⟩ => k ⟨nt, nx', fr, hp'⟩ x'
def inQ (C : Cx) (rs : List ResultVar) (nt : NT) (fr : List (Nat × SV)) (k : St → SV → Prop) : Exit → St → Prop
  | .normal, S => inK C rs nt fr k S
  | .ret, S => inK C rs nt fr k S
  | _, _ => False
theorem ab.inline {C : Cx} {nt : NT} {nx : Nat} {fr : List (Nat × SV)} {hp : List (Nat × Option Blk)} {g : Nat} {args : List SV} {k : St → SV → Prop} {P : Program} {fn : Func} {c : Code} (hf : P.funcs[g]? = some fn) (hP : C.P = P) (hb : fn.body = some c) (hn : (fn.name == "runtime.NumGoroutine") = false) (hle : args.length ≤ fn.ntmps)
    (h : Wp C c ⟨⟨fn.ntmps, nx⟩, nx, slots 0 args, hp⟩ (inQ C fn.results.toList nt fr k)) : ab C ⟨nt, nx, fr, hp⟩ g args k := by
  subst hP
  refine ⟨.mk hf hn (by simp [hb]), fun O E a w vs hs hsz hargs => calls_of_wp hf hb ?_⟩
  let M : Nat → Prop := fun b => ∃ l x, lkh hp l = some x ∧ x.real (E.κ l) ∧ E.ρ l = b
  let Oc : Org := ⟨w, M, E.Im, nx, E.ρ, E.κ⟩
  have hs0 : Sat Oc E ⟨⟨fn.ntmps, nx⟩, nx, slots 0 args, hp⟩ { tmps := vs ++ Array.replicate (fn.ntmps - vs.size) undef, defers := [] } w := by
    refine ⟨fun n => ?_, ⟨by simp; omega, rfl⟩, rfl, hs.hp, hs.nx, hs.inj, fun b hb => ⟨(hs.im b hb).1, Or.inr (Or.inl hb), (hs.im b hb).2.2⟩, fun l b hb hr => Or.inl ⟨l, b, hb, hr, rfl⟩, Kq.refl _ _, fun l _ => ⟨rfl, rfl⟩, Q4 _, fun b hb => hb⟩
    rw [fJ]
    by_cases hlt : n < args.length
    · rw [if_pos (by omega), Nat.sub_zero, Q0 hlt]
      have := hargs n hlt
      have h2 : n < vs.size := by omega
      have h3 : (vs ++ Array.replicate (fn.ntmps - vs.size) undef).getD n undef = vs.getD n undef := by
        simp only [Q7]; rw [Array.getElem?_append_left h2]
      rw [h3]; exact this
    · rw [if_neg (by omega)]; exact .any _
  refine wp_mono (h.out Oc E _ w hs0) fun e a' w' ⟨S', E', hq, hs'⟩ => ?_
  have fin : inK C fn.results.toList nt fr k S' → bodyPost C.P fn (fun e w' => ∃ v E' S' x, e = .returned v ∧ k S' x ∧ Sat O E' S' a w' ∧ RS E' S'.nx w' x v) .normal a' w' := by
    intro hq
    obtain ⟨xs, us, h1, h2, h3, h4⟩ := gi hs' _ _ hq
    obtain ⟨x, g1, g2⟩ := kZ h3 h4 h1
    have g1 := bw g1
    obtain ⟨nt', nx', fr', hp'⟩ := S'
    have hnl : nx ≤ nx' := hs'.nl
    have hE : ∀ l, l < nx → E'.ρ l = E.ρ l ∧ E'.κ l = E.κ l := hs'.lab
    have hM : ∀ b, M b → O.M b ∨ O.w0.heap.size ≤ b := by
      rintro b ⟨l, y, q1, q2, rfl⟩
      exact hs.own l y q1 q2
    have hwi : ∀ b, E.Im b → w'.heap[b]? = w.heap[b]? := fun b hb => hs'.kq.block b (hs.im b hb).1 (by
      rintro ⟨l, y, q1, q2, q3⟩
      exact (hs.im b hb).2.2 l y q1 q2 q3)
    have hk0 := hs.kq.size
    refine ⟨hs'.df, (if h : us.toArray.size = 1 then us.toArray[0] else .tuple us.toArray), ?_, _, E', ⟨nt, nx', fr, hp'⟩, x, rfl, g1, ?_, g2⟩
    · rw [eH, show fn.results = fn.results.toList.toArray by simp, List.mapM_toArray]
      simp only [Sem.run_bind, Sem.run_map, h2]
      rfl
    · refine ⟨fun n => (hs.fr n).mono hE hnl hs'.imo hwi, hs.nt, hs.df, hs'.hp, hs'.nx, hs'.inj, fun b hb => ?_, fun l y hl hr => ?_, ?_, fun l hl => ?_, ?_, fun b hb => hs'.imo b (hs.imo b hb)⟩
      · obtain ⟨q1, q2, q3⟩ := hs'.im b hb
        refine ⟨q1, ?_, q3⟩
        rcases q2 with q2 | q2 | q2
        · exact Or.inl (Nat.le_trans hk0 q2)
        · exact (hs.im b q2).2.1
        · rcases hM b q2 with q | q
          · exact Or.inr (Or.inr q)
          · exact Or.inl q
      · rcases hs'.own l y hl hr with q | q
        · exact hM _ q
        · exact Or.inr (Nat.le_trans hk0 q)
      · exact hs.kq.trans' hs'.kq fun b hb hlt => by
          rcases hM b hb with q | q
          · exact q
          · omega
      · have := hs.nl
        simp only at this
        obtain ⟨q1, q2⟩ := hE l (by omega)
        rw [q1, q2]; exact hs.lab l hl
      · have := hs.nl; simp only at this ⊢; omega
  cases e with
  | normal => exact fin hq
  | ret => exact fin hq
  | _ => exact hq.elim
def thenK (k : St → Prop) (Q : Exit → St → Prop) : Exit → St → Prop
  | .normal, S => k S
  | e, S => Q e S
def WpN (C : Cx) (c : Code) (Q : Exit → St → Prop) : Nat → St → Prop
  | 0, _ => False
  | n + 1, S => Wp C c S (thenK (WpN C c Q n) Q)
theorem iJ {C : Cx} {c : Code} {O : Org} {Q : Exit → St → Prop} : ∀ (n : Nat) (S : St) (E : Env) (a : Act) (w : World), WpN C c Q n S → Sat O E S a w → Code.rounds C.P c (fun e a' w' => ∃ S' E', Q e S' ∧ Sat O E' S' a' w') n a w
  | 0, S, E, a, w, h, hs => h.elim
  | n + 1, S, E, a, w, h, hs => wp_mono (h.out O E a w hs) fun e a' w' ⟨S', E', h1, h2⟩ => by
    cases e with
    | normal => exact iJ n S' E' a' w' h1 h2
    | _ => exact ⟨S', E', h1, h2⟩
theorem Wp.loopN {C : Cx} {c : Code} {S : St} {Q : Exit → St → Prop} (n : Nat) (h : WpN C c Q n S) : Wp C (.loop c) S Q :=
  ⟨fun O E a w hs => wp_loop_rounds n (iJ n S E a w h hs)⟩
theorem ab.fn {C : Cx} {nt : NT} {nx : Nat} {fr : List (Nat × SV)} {hp : List (Nat × Option Blk)} {g : Nat} {args : List SV} {k : St → SV → Prop} {m m' : Nat} {args0 : List SV} {H H' : List (Nat × Option Blk)} {r : SV} (h : Fun C g m args0 H m' r H') (L : List Nat) (hlen : L.length = m) (hd : cP L = true) (hlive : dM H m = true) (hkeys : dN H' m = true) (hlt : cX H' m' = true)
    (ha : bB L args args0) (hh : aO hp L H) (hk : k ⟨nt, nx + (m' - m), fr, aX (πf L nx) hp H'⟩ (nd (πf L nx) r)) : ab C ⟨nt, nx, fr, hp⟩ g args k :=
  .fun h L hlen hd hlive hkeys hlt ha hh hk
theorem ai.fn {C : Cx} {nt : NT} {nx : Nat} {fr : List (Nat × SV)} {hp : List (Nat × Option Blk)} {ln g : Nat} {args : List SV} {k : SV → List (Nat × Option Blk) → List Nat → Prop} {m : Nat} {args0 : List SV} {H H' : List (Nat × Option Blk)} {r : SV} (h : Fun C g m args0 H m r H') (L K : List Nat) (hlen : L.length = m) (hd : cP L = true) (hlive : dM H m = true) (hkeys : dN H' m = true) (hlt : cX H' m = true)
    (ha : bB L args args0) (hh : aO hp L H) (hs : gW (aX (πf L nx) [] H') hp K) (hk : k (nd (πf L nx) r) (eZ K (aX (πf L nx) [] H')) K) : ai C ⟨nt, nx, fr, hp⟩ ln g args k :=
  .fun h L K hlen hd hlive hkeys hlt ha hh hs hk
theorem RD.sl_congr {w : World} {Im : Nat → Prop} {z n : Nat} {f g : Nat → List D} {v : Value} (h : ∀ i, i < n → f i = g i) (hv : RD w Im (.sl z n f) v) : RD w Im (.sl z n g) v := by
  cases hv with
  | sl _ _ _ a cap q hc hm hl ha hg =>
    refine .sl z n g a cap q hc hm (fun i hi => by rw [← h i hi]; exact hl i hi) ha fun i j hi hj => ?_
    have key : ∀ c : List D, c = f i → ∀ hj' : j < c.length, RD w Im c[j] (q i j) := by
      intro c hc hj'; subst hc; exact hg i j hi hj'
    exact key _ (h i hi).symm hj
theorem SV.Le.sl {z n : Nat} {f g : Nat → List D} (h : ∀ i, i < n → f i = g i) : SV.Le (.d (.sl z n f)) (.d (.sl z n g)) :=
  ⟨fun E nx w v hv => by cases hv with | d _ _ hv => exact .d _ _ (hv.sl_congr h)⟩
theorem SV.Le.nil {z : Nat} {f : Nat → List D} : SV.Le (.d (.val (.slice none 0 0))) (.d (.sl z 0 f)) :=
  ⟨fun E nx w v hv => by
    obtain rfl := hv.val_inv
    exact .d _ _ (.sl z 0 f none 0 (fun _ _ => undef) (Q4 _) (by unfold maxLen; omega) (fun i hi => by omega) (fun h => by omega) (fun i j hi => by omega))⟩
structure Les (xs ys : List SV) : Prop where
  len : xs.length = ys.length
  out : ∀ j (hx : j < xs.length) (hy : j < ys.length), SV.Le xs[j] ys[j]
theorem Les.nil : Les [] [] := ⟨rfl, fun j hx => by simp at hx⟩
theorem Les.cons {x y : SV} {xs ys : List SV} (h : SV.Le x y) (k : Les xs ys) : Les (x :: xs) (y :: ys) :=
  ⟨by simp [k.len], fun j hx hy => by cases j with | zero => exact h | succ j => exact k.out j (by simpa using hx) (by simpa using hy)⟩
theorem SV.Le.agg {xs ys : List SV} (h : Les xs ys) : SV.Le (.agg xs) (.agg ys) :=
  ⟨fun E nx w v hv => by cases hv with | agg _ us hs h1 hh => exact .agg _ _ (hs.trans h.len) h1 fun j hj => (h.out j (by rw [h.len]; exact hj) hj).out _ _ _ _ (hh j (by rw [h.len]; exact hj))⟩
theorem SV.Le.tup {xs ys : List SV} (h : Les xs ys) : SV.Le (.tup xs) (.tup ys) :=
  ⟨fun E nx w v hv => by cases hv with | tup _ us hs hh => exact .tup _ _ (hs.trans h.len) fun j hj => (h.out j (by rw [h.len]; exact hj) hj).out _ _ _ _ (hh j (by rw [h.len]; exact hj))⟩
theorem me {E : Env} {nx z : Nat} {w : World} {v : Value} (h : RS E nx w (.d (.val (.slice none 0 0))) v) : RS (E.newrow nx 0 0) (nx + 1) w (.sl nx z 0 0) v := by
  obtain rfl := h.val_inv
  exact .sl _ _ _ _ _ _ (by omega) (Q4 _) (by unfold maxLen; omega) (fun h => by omega) (fun _ => ⟨by simp [Env.newrow], fun h => by omega⟩)
theorem Le.virt {nt : NT} {nx : Nat} {fr : List (Nat × SV)} {hp : List (Nat × Option Blk)} (n : Nat) (e : TypeId) (z : Nat) (f : Nat → List D) (hz : 0 < z) (h : lk fr n = .d (.val (.slice none 0 0))) :
    Le ⟨nt, nx, fr, hp⟩ ⟨nt, nx + 1, (n, .sl nx z 0 0) :: fr, (nx, some (.row e z 0 f)) :: hp⟩ := by
  refine ⟨fun O E a w hs => ⟨E.newrow nx 0 0, ?_⟩⟩
  have h0 := hs.virt (e := e) (f := f) hz
  have h1 := hs.fr n
  rw [h] at h1
  refine ⟨fun m => ?_, h0.nt, h0.df, h0.hp, h0.nx, h0.inj, h0.im, h0.own, h0.kq, h0.lab, h0.nl, h0.imo⟩
  simp only [cj]
  by_cases e1 : n = m
  · subst e1; rw [if_pos rfl]; exact me h1
  · rw [if_neg e1]; exact h0.fr m
theorem aq.virt {m m' nx : Nat} {nt : NT} {fr : List (Nat × SV)} {hp : List (Nat × Option Blk)} {r : SV} {H' : List (Nat × Option Blk)} (e : TypeId) (z : Nat) (f : Nat → List D) (hz : 0 < z) (hm : m ≤ nx)
    (h : aq m ⟨nt, nx + 1, fr, (nx, some (.row e z 0 f)) :: hp⟩ (.sl nx z 0 0) m' r H') : aq m ⟨nt, nx, fr, hp⟩ (.d (.val (.slice none 0 0))) m' r H' := by
  refine ⟨fun O E a w v hO hs hv => ?_⟩
  have h0 := hs.virt (e := e) (f := f) hz
  obtain ⟨E', k1, k2, k3, k4, k5, k6⟩ := h.out O _ a w v hO h0 (me hv)
  have hb : ∀ b, HB (E.newrow nx 0 0) ((nx, some (.row e z 0 f)) :: hp) b → HB E hp b := by
    rintro b ⟨l, x, hl, hr, rfl⟩
    rw [aj] at hl
    by_cases e1 : nx = l
    · subst e1; rw [if_pos rfl] at hl; cases hl; simp [Blk.real, Env.newrow] at hr
    · rw [if_neg e1] at hl
      have e2 : ¬ l = nx := fun h => e1 h.symm
      simp only [Env.newrow, if_neg e2] at hr ⊢
      exact ⟨l, x, hl, hr, rfl⟩
  refine ⟨E', k1, fun l hl => ?_, fun b hx => hb b (k3 b hx), fun b hx => (k4 b hx).imp id (hb b), k5, k6⟩
  obtain ⟨p1, p2⟩ := k2 l hl
  have e2 : ¬ l = nx := by omega
  exact ⟨p1.trans (by simp [Env.newrow, e2]), p2.trans (by simp [Env.newrow, e2])⟩
def imK (S : St) : List SV → (St → List SV → Prop) → Prop
  | [], k => k S []
  | .sl l z off n :: r, k => match S with
    | ⟨nt, nx, fr, hp⟩ => match lkh hp l with
      | some (.row _ z' m f) => bif Nat.beq z' z then off + n ≤ m ∧ imK ⟨nt, nx, fr, (l, none) :: hp⟩ r fun S' xs => k S' (.d (.sl z n fun i => f (off + i)) :: xs) else False
      | _ => False
  | x :: r, k => bif x.free then imK S r fun S' xs => k S' (x :: xs) else False
theorem sV {O : Org} {a : Act} {w : World} : ∀ (xs : List SV) {E : Env} {S : St} {us : List Value} {k : St → List SV → Prop}, Sat O E S a w → us.length = xs.length → (∀ (j : Nat) (x : SV) (v : Value), xs[j]? = some x → us[j]? = some v → RS E S.nx w x v) → imK S xs k →
    ∃ E' S' ys, k S' ys ∧ Sat O E' S' a w ∧ ys.length = xs.length ∧ (∀ b, E.Im b → E'.Im b) ∧ ∀ (j : Nat) (y : SV) (v : Value), ys[j]? = some y → us[j]? = some v → RS E' 0 w y v
  | [], E, S, us, k, hs, hl, hh, h => ⟨E, S, [], h, hs, rfl, fun _ h => h, fun j y v hy => by simp at hy⟩
  | x :: r, E, S, [], k, hs, hl, hh, h => by simp at hl
  | x :: r, E, S, u :: us, k, hs, hl, hh, h => by
    have hu := hh 0 x u rfl rfl
    have go : ∀ (E1 : Env) (S1 : St) (y : SV), Sat O E1 S1 a w → E1.ρ = E.ρ → E1.κ = E.κ → S1.nx = S.nx → (∀ b, E.Im b → E1.Im b) → RS E1 0 w y u → y.free = true → (imK S1 r fun S' xs => k S' (y :: xs)) →
        ∃ E' S' ys, k S' ys ∧ Sat O E' S' a w ∧ ys.length = (x :: r).length ∧ (∀ b, E.Im b → E'.Im b) ∧ ∀ (j : Nat) (y : SV) (v : Value), ys[j]? = some y → (u :: us)[j]? = some v → RS E' 0 w y v := by
      intro E1 S1 y hs1 e1 e2 e3 e4 hy hf h1
      obtain ⟨E', S', ys, g1, g2, g3, g4, g5⟩ := sV r hs1 (by simpa using hl) (fun j x v hx hv => RS.mono (E := E) (fun _ _ => ⟨by rw [e1], by rw [e2]⟩) (by omega) e4 (fun _ _ => rfl) (hh (j + 1) x v (by simpa using hx) (by simpa using hv))) h1
      refine ⟨E', S', _, g1, g2, by simp [g3], fun b hb => g4 b (e4 b hb), fun j z v hz hv => ?_⟩
      cases j with
      | zero =>
        simp at hz hv; subst hz hv
        have h5 : RS ⟨E1.ρ, E1.κ, E'.Im⟩ 0 w y u := RS.mono (E := E1) (fun _ _ => ⟨rfl, rfl⟩) (Q4 _) g4 (fun _ _ => rfl) hy
        exact RS.free (E := ⟨E1.ρ, E1.κ, E'.Im⟩) (E' := E') rfl hf h5
      | succ j => simp at hz hv; exact g5 j z v hz hv
    have free : ∀ y : SV, y = x → y.free = true → (imK S r fun S' xs => k S' (y :: xs)) → _ := fun y hy hf h1 => go E S y hs rfl rfl rfl (fun _ h => h) (by subst hy; exact RS.free (E := E) rfl hf hu) hf h1
    cases x with
    | sl l z off n =>
      obtain ⟨nt, nx, fr, hp⟩ := S
      simp only [imK] at h
      split at h
      · rename_i e z' m f hl'
        cases hb : Nat.beq z' z with
        | false => simp [hb] at h
        | true =>
          simp only [hb, cond_true] at h
          obtain rfl := Q2 hb
          obtain ⟨h1, h2⟩ := h
          by_cases hκ : 0 < E.κ l
          · obtain ⟨s1, s2⟩ := hs.imm (w' := w) hl' hκ (fun _ _ _ => rfl) rfl ⟨rfl, rfl, rfl⟩ (fun vs hvs => ⟨_, hvs⟩)
            have h5 := s2 off n u h1 hu
            exact go _ _ _ s1 rfl rfl rfl (fun b hb => Or.inl hb) (RS.free (E := ⟨E.ρ, E.κ, fun b => E.Im b ∨ b = E.ρ l⟩) rfl rfl h5) rfl h2
          · have hm := (hs.hp l _ hl').1
            have hn : n = 0 := by omega
            subst hn
            refine go _ _ _ (hs.kill l) rfl rfl rfl (fun _ h => h) ?_ rfl h2
            cases hu with
            | sl _ _ _ _ a' cap hlx hc hmx ha h0 => exact .d _ _ (.sl _ 0 _ a' cap (fun _ _ => undef) hc hmx (fun i hi => by omega) (fun h => by omega) (fun i j hi => by omega))
      · exact h.elim
    | _ =>
      simp only [imK] at h
      generalize hx : SV.free _ = b at h
      cases b with
      | false => exact h.elim
      | true => exact free _ rfl hx h
theorem ab.pureI {C : Cx} {nt : NT} {nx : Nat} {fr : List (Nat × SV)} {hp : List (Nat × Option Blk)} {g : Nat} {args args0 : List SV} {r : SV} {k : St → SV → Prop} (h : Pure C g args0 r) (hr : r.free = true) (hk : imK ⟨nt, nx, fr, hp⟩ args fun S' ys => Les ys args0 ∧ k S' r) : ab C ⟨nt, nx, fr, hp⟩ g args k := by
  refine ⟨h.ent, fun O E a w vs hs hsz hargs => ?_⟩
  obtain ⟨E', S', ys, ⟨g1, gk⟩, g2, g3, g4, g5⟩ := sV args (us := vs.toList) hs (by simpa using hsz) (fun j x v hx hv => by
    obtain ⟨q1, q2⟩ := Q3 hx
    subst q2; rw [← cm hv]; exact hargs j q1) hk
  have hlen : vs.size = ys.length := by omega
  refine (h.out E' w vs (fun b hb => (g2.im b hb).1) (by rw [hlen, g1.len]) fun j hj => ?_).mono ?_
  · have hj2 : j < ys.length := by rw [g1.len]; exact hj
    have hj3 : j < vs.size := by omega
    exact (g1.out j hj2 hj).out _ _ _ _ (g5 j _ _ (Q0 hj2) (by simp [Array.getD, hj3]))
  · rintro e w' ⟨v, rfl, hkp, hv⟩
    exact ⟨v, _, S', r, rfl, gk, g2.after hkp, hv.free rfl hr⟩
def cntK : List Oper → Nat → (Nat → Prop) → Prop
  | [], m, k => k m
  | _ :: r, m, k => cntK r (m + 1) k
theorem lA : ∀ (l : List Oper) (m : Nat) (k : Nat → Prop), cntK l m k → k (m + l.length)
  | [], m, k, h => h
  | _ :: r, m, k, h => by
    have := lA r (m + 1) k h
    rw [List.length_cons, show m + (r.length + 1) = m + 1 + r.length by omega]; exact this
theorem Wp.drawL {C : Cx} {id : Nat} {l : List Oper} {nt : NT} {nx : Nat} {fr : List (Nat × SV)} {hp : List (Nat × Option Blk)} {Q : Exit → St → Prop} (hm : C.P.follows .mixedOrders = true)
    (h : cntK l nx fun m => cC C l nx l 0 ⟨nt, m, fr, hp⟩ fun efs Sn => ah l efs nx ⟨nt, m, fr, hp⟩ = true ∧ Q .normal Sn) : Wp C (.region id l.toArray true) ⟨nt, nx, fr, hp⟩ Q :=
  .draw hm (lA l nx _ h)
def cy : List SV → List Nat
  | [] => []
  | .d (.sl _ n _) :: r => n :: cy r
  | .agg vs :: r => (vs.filterMap fun | .d (.sl _ n _) => some n | _ => none) ++ cy r
  | _ :: r => cy r
theorem kf {E : Env} {nx : Nat} {w : World} : ∀ (xs : List SV) (us : List Value), us.length = xs.length → (∀ (j : Nat) (x : SV) (v : Value), xs[j]? = some x → us[j]? = some v → RS E nx w x v) → ∀ n ∈ cy xs, n ≤ maxLen
  | [], us, hl, hh, n, hn => by simp [cy] at hn
  | x :: r, [], hl, hh, n, hn => by simp at hl
  | x :: r, u :: us, hl, hh, n, hn => by
    have hu := hh 0 x u rfl rfl
    have hr := kf r us (by simpa using hl) (fun j x v hx hv => hh (j + 1) x v (by simpa using hx) (by simpa using hv))
    have sl : ∀ z m f v, RS E nx w (.d (.sl z m f)) v → m ≤ maxLen := fun z m f v hv => by cases hv with | d _ _ hv => cases hv with | sl _ _ _ a cap g hc hm => omega
    unfold cy at hn
    split at hn
    · simp at hn
    · rename_i z m f r' e
      cases e
      rcases Q22 hn with rfl | hn
      · exact sl _ _ _ _ hu
      · exact hr n hn
    · rename_i vs r' e
      cases e
      rcases List.mem_append.1 hn with hn | hn
      · obtain ⟨y, hy, he⟩ := List.mem_filterMap.1 hn
        obtain ⟨j, hj, rfl⟩ := List.getElem_of_mem hy
        cases hu with
        | agg _ ws hs h1 hg =>
          have := hg j hj
          split at he
          · rename_i z m f hq
            rw [hq] at this
            cases he
            exact sl _ _ _ _ this
          · cases he
      · exact hr n hn
    · rename_i e
      cases e
      exact hr n hn
theorem Pure.lens {C : Cx} {g : Nat} {args : List SV} {r : SV} (ent : dH C.P g) (h : (∀ n ∈ cy args, n ≤ 9223372036854775807) → Pure C g args r) : Pure C g args r :=
  ⟨ent, fun E w vs hIm hsz hargs => (h fun n hn => by
    have := kf args vs.toList (by simpa using hsz) (fun j x v hx hv => by
      obtain ⟨q1, q2⟩ := Q3 hx
      subst q2; rw [← cm hv]; exact hargs j q1) n hn
    unfold maxLen at this; omega).out E w vs hIm hsz hargs⟩
theorem Ov.sh1 {k : IntKind} {x : Int} {e : Nat} {p : Int → Prop} (he : e = 1) (h : Ov k (x / 2) p) : Ov k (x / 2 ^ e) p := by subst he; exact h
theorem Ov.quo {a b : Int} {p : Int → Prop} (ha : 0 ≤ a) (hu : a ≤ 9223372036854775807) (hb : 1 ≤ b) (h : 0 ≤ a / b → a / b ≤ a → p (a / b)) : Ov .i64 (a.tdiv b) p := by
  rw [Int.tdiv_eq_ediv_of_nonneg ha]
  have h1 : 0 ≤ a / b := Int.ediv_nonneg ha (by omega)
  have h2 : a / b ≤ a := Int.ediv_le_self _ ha
  exact Ov.ok (IntWalk.i64_in _ (by omega)) (h h1 h2)
def aN {α : Type} [Inhabited α] (e : TypeId) (z : Nat) (enc : α → List D) (xs : List α) : Blk := .row e z xs.length fun i => enc (xs.getD i default)
def bE {α : Type} (xs : List α) (i : Nat) (x : α) : List α := xs.take i ++ [x] ++ xs.drop i
def bY {α : Type} (xs : List α) (i : Nat) : List α := xs.take i ++ xs.drop (i + 1)
theorem aD {α : Type} (xs : List α) (i : Nat) (x : α) (hi : i ≤ xs.length) : (bE xs i x).length = xs.length + 1 := by simp [bE]; omega
theorem dj {α : Type} (xs : List α) (i : Nat) (hi : i < xs.length) : (bY xs i).length = xs.length - 1 := by simp [bY]; omega
theorem eT {α : Type} [Inhabited α] (xs : List α) (i : Nat) (x : α) (hi : i ≤ xs.length) (k : Nat) : (bE xs i x).getD k default = if k < i then xs.getD k default else if k = i then x else xs.getD (k - 1) default := by
  have hl : (xs.take i).length = i := by simp; omega
  simp only [bE, Q1, List.append_assoc]
  by_cases h : k < i
  · rw [if_pos h, Q11 (by omega), Q15, if_pos h]
  · rw [if_neg h, Q12 (by omega), hl]
    by_cases h2 : k = i
    · subst h2; simp
    · rw [if_neg h2, Q12 (by simp; omega), List.getElem?_drop]
      congr 2; simp; omega
theorem nu {α : Type} [Inhabited α] (xs : List α) (i : Nat) (hi : i < xs.length) (k : Nat) : (bY xs i).getD k default = if k < i then xs.getD k default else xs.getD (k + 1) default := by
  have hl : (xs.take i).length = i := by simp; omega
  simp only [bY, Q1]
  by_cases h : k < i
  · rw [if_pos h, Q11 (by omega), Q15, if_pos h]
  · rw [if_neg h, Q12 (by omega), hl, List.getElem?_drop]
    congr 2; omega
theorem lay_ins (F vs : List Value) (n i z k j : Nat) (hF : F.length = n * z) (hv : vs.length = z) (hi : i ≤ n) (hj : j < z) :
    (F.take (i * z) ++ vs ++ F.drop (i * z))[k * z + j]? = if k < i then F[k * z + j]? else if k = i then vs[j]? else F[(k - 1) * z + j]? := by
  have h1 : i * z ≤ n * z := Q8 _ hi
  have hl : (F.take (i * z)).length = i * z := by simp; omega
  simp only [List.append_assoc]
  by_cases h : k < i
  · have h2 : (k + 1) * z ≤ i * z := Q8 _ h
    rw [Q18] at h2
    rw [if_pos h, Q11 (by omega), Q15, if_pos (by omega)]
  · have h2 : i * z ≤ k * z := Q8 _ (by omega)
    rw [if_neg h, Q12 (by omega), hl]
    by_cases h3 : k = i
    · subst h3; rw [if_pos rfl, Q11 (by omega)]; congr 1; omega
    · have h4 : (i + 1) * z ≤ k * z := Q8 _ (by omega)
      have h5 : (k - 1) * z + z = k * z := by rw [show k = (k - 1) + 1 by omega, Q18]; simp
      rw [Q18] at h4
      rw [if_neg h3, Q12 (by omega), List.getElem?_drop]
      congr 1; omega
theorem lay_del (F : List Value) (n i z k j : Nat) (hF : F.length = n * z) (hi : i < n) (hj : j < z) :
    (F.take (i * z) ++ F.drop (i * z + z))[k * z + j]? = if k < i then F[k * z + j]? else F[(k + 1) * z + j]? := by
  have h1 : (i + 1) * z ≤ n * z := Q8 _ hi
  rw [Q18] at h1
  have hl : (F.take (i * z)).length = i * z := by simp; omega
  by_cases h : k < i
  · have h2 : (k + 1) * z ≤ i * z := Q8 _ h
    rw [Q18] at h2
    rw [if_pos h, Q11 (by omega), Q15, if_pos (by omega)]
  · have h2 : i * z ≤ k * z := Q8 _ (by omega)
    rw [if_neg h, Q12 (by omega), hl, List.getElem?_drop]
    congr 1; rw [Q18]; omega
theorem jF.ofOwn {E : Env} {m : Nat} {H : List (Nat × Option Blk)} {w w' : World} {e z : Nat} {α : Type} [Inhabited α] {enc : α → List D} {ys : List α} {G : List Value} {v' : Value} {g cap : Nat} {cur : Array Value} {row : Option Nat}
    (hS : jF E m H w) (hz : 0 < z) (henc : ∀ x, (enc x).length = z) (hG : G.length = ys.length * z) (hcap : ys.length ≤ cap) (hmax : cap ≤ maxLen) (hsz : cur.size = cap * z)
    (hb : w'.heap[g]? = some (.cells cur e (0, 0))) (htk : cur.toList.take (ys.length * z) = G) (hgr : w.grownBy w' row) (hrow : ∀ k, row = some k → HB E H k) (hnew : HB E H g ∨ w.heap.size ≤ g)
    (h1 : ∀ u ∈ G, u.oneCell' = true) (hd : ∀ k j, k < ys.length → j < z → ∀ hj : j < (enc (ys.getD k default)).length, ∃ u, G[k * z + j]? = some u ∧ RD w E.Im ((enc (ys.getD k default))[j]) u) (H' : List (Nat × Option Blk)) (hH' : ∀ l b, lkh H' l = some b → l = m ∧ b = aN e z enc ys) (hm0 : 0 < cap) (hv' : v' = .slice (some ⟨g, 0, none⟩) ys.length cap) :
    ∃ E', Kq (HB E H) w w' ∧ (∀ l, l < m → E'.ρ l = E.ρ l ∧ E'.κ l = E.κ l) ∧ jF E' (m + 1) H' w' ∧ (∀ b, HB E' H' b → HB E H b ∨ w.heap.size ≤ b) ∧ (∀ b, E'.Im b → E.Im b ∨ HB E H b ∨ w.heap.size ≤ b) ∧ (∀ b, E.Im b → E'.Im b) ∧ RS E' (m + 1) w' (.sl m z 0 ys.length) v' := by
  subst hv'
  have hni : ∀ b, HB E H b → ¬ E.Im b := by
    rintro b ⟨l, x, hl, hr, rfl⟩ hi
    exact (hS.im _ hi).2 l x hl hr rfl
  have hwi : ∀ b, E.Im b → w'.heap[b]? = w.heap[b]? := fun b hb => hgr.block b (hS.im b hb).1 (fun h => hni b (hrow b h.symm) hb)
  have hgi : ∀ b, E.Im b → g ≠ b := by
    rintro b hb rfl
    rcases hnew with h | h
    · exact hni _ h hb
    · have := (hS.im _ hb).1; omega
  let E' : Env := ⟨fun l => if l = m then g else E.ρ l, fun l => if l = m then cap else E.κ l, E.Im⟩
  have hBS : BS E' (m + 1) w' m (aN e z enc ys) := by
    refine ⟨by show _ ≤ (if m = m then cap else _); simpa using hcap, by show (if m = m then cap else _) ≤ _; simpa using hmax, hz, fun i hi => henc _, fun _ => ?_⟩
    refine ⟨cur, by show w'.heap[if m = m then g else _]? = _; simpa using hb, by show cur.size = (if m = m then cap else _) * z; simpa using hsz, fun j hj => ?_, fun i j hi hj => ?_⟩
    · have hlt : j < G.length := by rw [hG]; exact hj
      have : cur.getD j undef = G[j] := by
        rw [cm (v := G[j])]
        have : G[j]? = some G[j] := Q0 hlt
        rw [← this, ← htk, Q15, if_pos hj]
      rw [this]; exact h1 _ (Q14 hlt)
    · have hjz : j < z := by rw [← henc (ys.getD i default)]; exact hj
      obtain ⟨u, k1, k2⟩ := hd i j hi hjz hj
      have hlt : (i + 1) * z ≤ ys.length * z := Q8 _ hi
      rw [Q18] at hlt
      have : cur.getD (i * z + j) undef = u := by
        apply cm
        rw [← k1, ← htk, Q15, if_pos (by omega)]
      rw [this]; exact k2.mono (fun _ h => h) hwi
  have hem : E'.ρ m = g ∧ E'.κ m = cap := ⟨if_pos rfl, if_pos rfl⟩
  refine ⟨E', ⟨hgr.os, hgr.tape, hgr.output, hgr.size, fun k hk hn => hgr.block k hk (fun h => hn (hrow k h.symm))⟩, fun l hl => ⟨if_neg (by omega), if_neg (by omega)⟩, ⟨?_, ?_, ?_, ?_⟩, ?_, fun b hb => Or.inl hb, fun b hb => hb, ?_⟩
  · intro l b hl; obtain ⟨rfl, rfl⟩ := hH' l b hl; exact hBS
  · intro l b hl; obtain ⟨rfl, rfl⟩ := hH' l b hl; omega
  · intro l l' b b' hl hl' _ _ hne; exact absurd ((hH' l b hl).1.trans (hH' l' b' hl').1.symm) hne
  · intro b hb
    refine ⟨Nat.lt_of_lt_of_le (hS.im b hb).1 hgr.size, fun l x hl _ => ?_⟩
    obtain ⟨rfl, rfl⟩ := hH' l x hl
    rw [hem.1]; exact hgi b hb
  · rintro b ⟨l, x, hl, hr, rfl⟩
    obtain ⟨rfl, rfl⟩ := hH' l x hl
    rw [hem.1]; exact hnew
  · exact .sl _ _ _ _ _ _ (by omega) hcap hmax (fun _ => by rw [hem.1]; simp) (fun _ => ⟨hem.2.symm, fun _ => by rw [hem.1]⟩)
theorem nN {n : Nat} {vs : Array Value} (h : vs.size = n) : vs = (List.ofFn fun i : Fin n => vs.getD i undef).toArray := by
  apply Array.ext (by simp [h])
  intro i h1 h2
  simp [Array.getD, h1]
theorem jF.toOwn {E : Env} {m : Nat} {H : List (Nat × Option Blk)} {w : World} {e z n l : Nat} {f : Nat → List D} {v : Value} (hS : jF E m H w) (hl : lkh H l = some (.row e z n f)) (hv : RS E m w (.sl l z 0 n) v) (hn : 0 < n) :
    ∃ cap cur, v = .slice (some ⟨E.ρ l, 0, none⟩) n cap ∧ 0 < cap ∧ cap = E.κ l ∧ w.heap[E.ρ l]? = some (.cells cur e (0, 0)) ∧ n ≤ cap ∧ cap ≤ maxLen ∧ cur.size = cap * z ∧ (cur.toList.take (n * z)).length = n * z ∧ (∀ u ∈ cur.toList.take (n * z), u.oneCell' = true) ∧
      ∀ k j, k < n → ∀ hj : j < (f k).length, ∃ u, (cur.toList.take (n * z))[k * z + j]? = some u ∧ RD w E.Im ((f k)[j]) u := by
  obtain ⟨h1, h2, h3, h4, h5⟩ := hS.hp l _ hl
  cases hv with
  | sl _ _ _ _ a cap hlx hc hm ha h0 =>
    obtain ⟨e1, e2⟩ := h0 rfl
    subst e1
    have hpos : 0 < E.κ l := by omega
    obtain ⟨cur, g1, g2, g3, g4⟩ := h5 hpos
    have hmul : n * z ≤ E.κ l * z := Q8 _ hc
    have hlen : (cur.toList.take (n * z)).length = n * z := by simp; omega
    refine ⟨_, cur, by rw [e2 hpos], hpos, rfl, g1, hc, hm, g2, hlen, fun u hu => ?_, fun k j hk hj => ?_⟩
    · obtain ⟨i, hi, rfl⟩ := List.getElem_of_mem hu
      have hi' : i < n * z := by omega
      have := g3 i hi'
      rw [Q7, Array.getElem?_eq_getElem (by omega)] at this
      simpa using this
    · have hjz : j < z := by rw [← h4 k hk]; exact hj
      have hlt : (k + 1) * z ≤ n * z := Q8 _ hk
      rw [Q18] at hlt
      refine ⟨cur.getD (k * z + j) undef, ?_, g4 k j hk hj⟩
      rw [Q15, if_pos (by omega), Array.getElem?_toList, Q7, Array.getElem?_eq_getElem (by omega)]; rfl
theorem sS {C : Cx} {g e z : Nat} {α : Type} [Inhabited α] {enc : α → List D} (hz : 0 < z) (ent : dH C.P g) (henc : ∀ x, (enc x).length = z) (xs : List α) (i : Nat) (x : α) (hi : i < xs.length)
    (hcall : ∀ (v : Value) (vb cv : Nat) (vcur : Array Value) (F vs : List Value) (w : World), w.ownsRow 0 e z v xs.length F → vs.length = z → w.heap[vb]? = some (.cells vcur e (0, 0)) → (∀ (j : Nat) (u : Value), vs[j]? = some u → vcur[j]? = some u) → v.ownBlock ≠ some vb → (∀ u ∈ vs, u.oneCell' = true) → (∀ u ∈ F, u.oneCell' = true) →
      Calls C.P g #[v, .int .i64 i, .slice (some ⟨vb, 0, none⟩) 1 cv] w fun e' w' => ∃ v', e' = .returned v' ∧ w'.ownsRow 0 e z v' (xs.length + 1) (F.take (i * z) ++ vs ++ F.drop (i * z)) ∧ w.grownBy w' v.ownBlock ∧ ∀ k, v'.ownBlock = some k → v.ownBlock = some k ∨ w.heap.size ≤ k) :
    Fun C g 2 [.sl 0 z 0 xs.length, .i .i64 i, .sl 1 z 0 1] [(0, some (aN e z enc xs)), (1, some (aN e z enc [x]))] 3 (.sl 2 z 0 (bE xs i x).length) [(0, none), (1, none), (2, some (aN e z enc (bE xs i x)))] := by
  refine ⟨ent, by omega, fun E w vs hS hsz hargs => ?_⟩
  have a0 := hargs 0 (by simp)
  have a1 := hargs 1 (by simp)
  have a2 := hargs 2 (by simp)
  have hvs : vs = #[vs.getD 0 undef, vs.getD 1 undef, vs.getD 2 undef] := nN (n := 3) (by simpa using hsz)
  obtain ⟨cap, cur, e0, hc0, hκ, g1, g2, g3, g4, g5, g6, g7⟩ := hS.toOwn (l := 0) rfl a0 (by omega)
  obtain ⟨cap1, cur1, e1, hc1, hκ1, k1, k2, k3, k4, k5, k6, k7⟩ := hS.toOwn (l := 1) (n := 1) rfl a2 (by omega)
  have e2 : vs.getD 1 undef = .int .i64 i := a1.val_inv
  rw [e0, e1, e2] at hvs
  subst hvs
  have hne : E.ρ 0 ≠ E.ρ 1 := hS.inj 0 1 _ _ rfl rfl (show 0 < E.κ 0 by omega) (show 0 < E.κ 1 by omega) (by omega)
  simp only [Nat.one_mul] at k5 k6 k7
  refine (hcall (.slice (some ⟨E.ρ 0, 0, none⟩) xs.length cap) (E.ρ 1) cap1 cur1 (cur.toList.take (xs.length * z)) (cur1.toList.take z) w ⟨g5, Or.inr ⟨_, cap, cur, rfl, Nat.zero_le _, g1, g2, g3, g4, rfl⟩⟩ k5 k1 (fun j u hj => ?_) (by simpa [Value.ownBlock] using hne) k6 g6).mono ?_
  · rw [Q15] at hj
    split at hj
    · simpa using hj
    · cases hj
  rintro e' w' ⟨v', rfl, ⟨o1, o2⟩, hgr, hfr⟩
  rcases o2 with ⟨_, h⟩ | ⟨gb, cap', cur', rfl, _, p1, p2, p3, p4, p5⟩
  · omega
  have hL := aD xs i x (by omega)
  obtain ⟨E', q1, q2, q3, q4, q5, q6, q7⟩ := jF.ofOwn (w' := w') (ys := bE xs i x) (enc := enc) (cur := cur') (g := gb) (cap := cap') (e := e) hS hz henc (by rw [o1, hL]) (by rw [hL]; exact p2) p3 p4 p1 (by rw [hL]; exact p5) hgr
    (fun k hk => by simp only [Value.ownBlock, Option.some.injEq] at hk; subst hk; exact ⟨0, _, rfl, show 0 < E.κ 0 by omega, rfl⟩)
    (by
      rcases hfr gb rfl with h | h
      · simp only [Value.ownBlock, Option.some.injEq] at h; subst h; exact Or.inl ⟨0, _, rfl, show 0 < E.κ 0 by omega, rfl⟩
      · exact Or.inr h)
    (fun u hu => by
      rcases List.mem_append.1 hu with hu | hu
      · rcases List.mem_append.1 hu with hu | hu
        · exact g6 u (List.mem_of_mem_take hu)
        · exact k6 u hu
      · exact g6 u (List.mem_of_mem_drop hu))
    (fun k j hk hj hjl => by
      rw [lay_ins _ _ xs.length i z k j g5 k5 (by omega) hj]
      have hgd := eT xs i x (by omega) k
      rw [hL] at hk
      by_cases h1 : k < i
      · rw [if_pos h1] at hgd ⊢
        have h9 := g7 k j (by omega)
        simp only [hgd]
        exact h9 (by rw [henc]; exact hj)
      · rw [if_neg h1] at hgd ⊢
        by_cases h2 : k = i
        · rw [if_pos h2] at hgd ⊢
          have h9 := k7 0 j (by omega)
          simp only [hgd]
          rw [show 0 * z + j = j by omega] at h9
          exact h9 (by rw [henc]; exact hj)
        · rw [if_neg h2] at hgd ⊢
          have h9 := g7 (k - 1) j (by omega)
          simp only [hgd]
          exact h9 (by rw [henc]; exact hj))
    [(0, none), (1, none), (2, some (aN e z enc (bE xs i x)))] (fun l b hl => by
      rw [aj] at hl
      split at hl
      · cases hl
      · rw [aj] at hl
        split at hl
        · cases hl
        · rw [aj] at hl
          split at hl
          · cases hl; exact ⟨by omega, rfl⟩
          · cases hl) (by omega) (by rw [hL])
  exact ⟨_, E', rfl, q1, q2, q3, q4, q5, q6, q7⟩
theorem delFun {C : Cx} {g e z : Nat} {α : Type} [Inhabited α] {enc : α → List D} (hz : 0 < z) (ent : dH C.P g) (henc : ∀ x, (enc x).length = z) (xs : List α) (i : Nat) (hi : i < xs.length) (hm : xs.length ≤ maxLen)
    (hcall : ∀ (v : Value) (F : List Value) (w : World), w.ownsRow 0 e z v xs.length F → (∀ u ∈ F, u.oneCell' = true) →
      Calls C.P g #[v, .int .i64 i, .int .i64 ((i : Int) + 1)] w fun e' w' => ∃ v', e' = .returned v' ∧ w'.ownsRow 0 e z v' (xs.length - 1) (F.take (i * z) ++ F.drop (i * z + z)) ∧ w.grownBy w' v.ownBlock ∧ ∃ cap, v' = .slice (v.ownBlock.map fun k => ⟨k, 0, none⟩) (xs.length - 1) cap ∧ 0 < cap) :
    Fun C g 1 [.sl 0 z 0 xs.length, .i .i64 i, .i .i64 ((i : Int) + 1)] [(0, some (aN e z enc xs))] 2 (.sl 1 z 0 (bY xs i).length) [(0, none), (1, some (aN e z enc (bY xs i)))] := by
  refine ⟨ent, by omega, fun E w vs hS hsz hargs => ?_⟩
  have a0 := hargs 0 (by simp)
  have a1 := hargs 1 (by simp)
  have a2 := hargs 2 (by simp)
  have hvs : vs = #[vs.getD 0 undef, vs.getD 1 undef, vs.getD 2 undef] := nN (n := 3) (by simpa using hsz)
  obtain ⟨cap, cur, e0, hc0, hκ, g1, g2, g3, g4, g5, g6, g7⟩ := hS.toOwn (l := 0) rfl a0 (by omega)
  have e1 : vs.getD 1 undef = .int .i64 i := a1.val_inv
  have e2 : vs.getD 2 undef = .int .i64 ((i : Int) + 1) := a2.val_inv
  rw [e0, e1, e2] at hvs
  subst hvs
  refine (hcall (.slice (some ⟨E.ρ 0, 0, none⟩) xs.length cap) (cur.toList.take (xs.length * z)) w ⟨g5, Or.inr ⟨_, cap, cur, rfl, Nat.zero_le _, g1, g2, g3, g4, rfl⟩⟩ g6).mono ?_
  rintro e' w' ⟨v', rfl, ⟨o1, o2⟩, hgr, cap2, e3, hc2⟩
  rcases o2 with ⟨h, _⟩ | ⟨gb, cap', cur', e4, _, p1, p2, p3, p4, p5⟩
  · rw [h] at e3; simp [Value.ownBlock] at e3
  rw [e4] at e3
  simp only [Value.ownBlock, Option.map_some, Value.slice.injEq, Option.some.injEq, Addr.mk.injEq, true_and, and_true] at e3
  obtain ⟨rfl, rfl⟩ := e3
  subst e4
  have hL := dj xs i hi
  have hB0 : HB E [(0, some (aN e z enc xs))] (E.ρ 0) := ⟨0, _, rfl, show 0 < E.κ 0 by omega, rfl⟩
  obtain ⟨E', q1, q2, q3, q4, q5, q6, q7⟩ := jF.ofOwn (w' := w') (ys := bY xs i) (enc := enc) (cur := cur') (g := E.ρ 0) (cap := cap') (e := e) hS hz henc (by rw [o1, hL]) (by rw [hL]; exact p2) p3 p4 p1 (by rw [hL]; exact p5) hgr
    (fun k hk => by simp only [Value.ownBlock, Option.some.injEq] at hk; subst hk; exact hB0) (Or.inl hB0)
    (fun u hu => by
      rcases List.mem_append.1 hu with hu | hu
      · exact g6 u (List.mem_of_mem_take hu)
      · exact g6 u (List.mem_of_mem_drop hu))
    (fun k j hk hj hjl => by
      rw [lay_del _ xs.length i z k j g5 hi hj]
      have hgd := nu xs i hi k
      rw [hL] at hk
      by_cases h1 : k < i
      · rw [if_pos h1] at hgd ⊢
        have h9 := g7 k j (by omega)
        simp only [hgd]
        exact h9 (by rw [henc]; exact hj)
      · rw [if_neg h1] at hgd ⊢
        have h9 := g7 (k + 1) j (by omega)
        simp only [hgd]
        exact h9 (by rw [henc]; exact hj))
    [(0, none), (1, some (aN e z enc (bY xs i)))] (fun l b hl => by
      rw [aj] at hl
      split at hl
      · cases hl
      · rw [aj] at hl
        split at hl
        · cases hl; exact ⟨by omega, rfl⟩
        · cases hl) hc2 (by rw [hL])
  exact ⟨_, E', rfl, q1, q2, q3, q4, q5, q6, q7⟩
theorem Sat.rehp {O : Org} {E : Env} {nt : NT} {nx : Nat} {fr : List (Nat × SV)} {hp hp' : List (Nat × Option Blk)} {a : Act} {w : World} (h : Sat O E ⟨nt, nx, fr, hp⟩ a w)
    (hx : ∀ k b', lkh hp' k = some b' → ∃ b, lkh hp k = some b ∧ (∀ κ, b'.real κ → b.real κ) ∧ (BS E nx w k b → BS E nx w k b')) : Sat O E ⟨nt, nx, fr, hp'⟩ a w := by
  refine ⟨h.fr, h.nt, h.df, fun l b hb => ?_, fun l b hb => ?_, fun l l' b b' hb hb' hr hr' hne => ?_, fun b hb => ⟨(h.im b hb).1, (h.im b hb).2.1, fun l x hl hr => ?_⟩, fun l b hb hr => ?_, h.kq, h.lab, h.nl, h.imo⟩
  · obtain ⟨b0, h1, _, h3⟩ := hx l b hb; exact h3 (h.hp l b0 h1)
  · obtain ⟨b0, h1, _, _⟩ := hx l b hb; exact h.nx l b0 h1
  · obtain ⟨b0, h1, h2, _⟩ := hx l b hb
    obtain ⟨b1, h3, h4, _⟩ := hx l' b' hb'
    exact h.inj l l' b0 b1 h1 h3 (h2 _ hr) (h4 _ hr') hne
  · obtain ⟨b0, h1, h2, _⟩ := hx l x hl; exact (h.im b hb).2.2 l b0 h1 (h2 _ hr)
  · obtain ⟨b0, h1, h2, _⟩ := hx l b hb; exact h.own l b0 h1 (h2 _ hr)
def pm (l nx k : Nat) : Nat := bif Nat.beq k l then nx else k
def mvH (l nx : Nat) : List (Nat × Option Blk) → List (Nat × Option Blk)
  | [] => []
  | (k, none) :: r => (k, none) :: mvH l nx r
  | (k, some b) :: r => (k, some (oa (pm l nx) b)) :: mvH l nx r
theorem fH {l nx : Nat} : ∀ (hp : List (Nat × Option Blk)) (k : Nat), lkh (mvH l nx hp) k = (lkh hp k).map (oa (pm l nx))
  | [], k => rfl
  | (j, none) :: r, k => by
    simp only [mvH, aj, fH r k]; split <;> rfl
  | (j, some b) :: r, k => by
    simp only [mvH, aj, fH r k]; split <;> rfl
theorem Sat.mv {O : Org} {E : Env} {nt : NT} {nx : Nat} {fr : List (Nat × SV)} {hp : List (Nat × Option Blk)} {a : Act} {w : World} (h : Sat O E ⟨nt, nx, fr, hp⟩ a w) {l e z n : Nat} {f : Nat → List D} (hl : lkh hp l = some (.row e z n f)) :
    Sat O (E.newrow nx (E.ρ l) (E.κ l)) ⟨nt, nx + 1, fr, (nx, some (.row e z n f)) :: (l, none) :: mvH l nx hp⟩ a w := by
  have hlx : l < nx := h.nx l _ hl
  have h0 := h.hp l _ hl
  have h1 := h.rename (w' := w) (b' := .row e z n f) hl (fun h => h) (fun _ _ _ => rfl) rfl ⟨rfl, rfl, rfl⟩ (by
    have := iY (E := E) (E' := E.newrow nx (E.ρ l) (E.κ l)) (nx := nx) (nx' := nx + 1) (w := w) (π := pm l nx) (fun j hj => ?_) (fun j hj => ?_) (fun _ h => h) (l := l) (b := .row e z n f) hlx h0
    · have e1 : pm l nx l = nx := by simp [pm]
      rw [e1] at this; exact this
    · unfold pm
      cases hb : Nat.beq j l with
      | true => obtain rfl := Q2 hb; simp [Env.newrow]
      | false => simp only [cond_false, Env.newrow]; rw [if_neg (by omega), if_neg (by omega)]; exact ⟨rfl, rfl⟩
    · unfold pm
      cases hb : Nat.beq j l with
      | true => simp
      | false => simp only [cond_false]; omega)
  refine h1.rehp fun k b' hb' => ?_
  rw [aj] at hb'
  by_cases e1 : nx = k
  · rw [if_pos e1] at hb'; cases hb'
    exact ⟨_, by rw [aj, if_pos e1], fun _ h => h, fun h => h⟩
  · rw [if_neg e1, aj] at hb'
    by_cases e2 : l = k
    · rw [if_pos e2] at hb'; cases hb'
    · rw [if_neg e2, fH] at hb'
      cases hq : lkh hp k with
      | none => rw [hq] at hb'; cases hb'
      | some b =>
        rw [hq] at hb'; cases hb'
        have hkx : k < nx := h.nx k b hq
        refine ⟨b, by rw [aj, if_neg e1, aj, if_neg e2]; exact hq, fun κ hr => (bc _ _ _).1 hr, fun hb => ?_⟩
        have := iY (E := E.newrow nx (E.ρ l) (E.κ l)) (E' := E.newrow nx (E.ρ l) (E.κ l)) (nx := nx + 1) (nx' := nx + 1) (w := w) (π := pm l nx) (fun j hj => ?_) (fun j hj => ?_) (fun _ h => h) (l := k) (b := b) (by omega) hb
        · have e3 : pm l nx k = k := by
            unfold pm
            cases hb : Nat.beq k l with
            | true => exact absurd (Q2 hb).symm e2
            | false => rfl
          rw [e3] at this; exact this
        · unfold pm
          cases hb : Nat.beq j l with
          | true =>
            obtain rfl := Q2 hb
            have e4 : ¬ j = nx := by omega
            simp [Env.newrow, e4]
          | false => exact ⟨rfl, rfl⟩
        · unfold pm
          cases hb : Nat.beq j l with
          | true => simp
          | false => simp only [cond_false]; omega
theorem HB.sub {E E1 : Env} {hp hp1 : List (Nat × Option Blk)} (h : ∀ k b, lkh hp1 k = some b → b.real (E1.κ k) → ∃ l b', lkh hp l = some b' ∧ b'.real (E.κ l) ∧ E.ρ l = E1.ρ k) : ∀ b, HB E1 hp1 b → HB E hp b := by
  rintro b ⟨k, x, hk, hr, rfl⟩
  obtain ⟨l, b', h1, h2, h3⟩ := h k x hk hr
  exact ⟨l, b', h1, h2, h3⟩
theorem aq.via {m m' nx nx1 : Nat} {nt : NT} {fr fr1 : List (Nat × SV)} {hp hp1 : List (Nat × Option Blk)} {x r : SV} {H' : List (Nat × Option Blk)} (hm : m ≤ nx) (hn : nx ≤ nx1)
    (hs : ∀ O E a w, Sat O E ⟨nt, nx, fr, hp⟩ a w → ∃ E1, Sat O E1 ⟨nt, nx1, fr1, hp1⟩ a w ∧ (∀ l, l < nx → E1.ρ l = E.ρ l ∧ E1.κ l = E.κ l) ∧ E1.Im = E.Im ∧ ∀ b, HB E1 hp1 b → HB E hp b)
    (h : aq m ⟨nt, nx1, fr1, hp1⟩ x m' r H') : aq m ⟨nt, nx, fr, hp⟩ x m' r H' := by
  refine ⟨fun O E a w v hO hs0 hv => ?_⟩
  obtain ⟨E1, h1, h2, h3, h4⟩ := hs O E a w hs0
  obtain ⟨E', k1, k2, k3, k4, k5, k6⟩ := h.out O E1 a w v hO h1 (RS.mono (E := E) h2 hn (fun b hb => by rw [h3]; exact hb) (fun _ _ => rfl) hv)
  refine ⟨E', k1, fun l hl => ?_, fun b hb => h4 b (k3 b hb), fun b hb => ?_, fun b hb => k5 b (by rw [h3]; exact hb), k6⟩
  · obtain ⟨p1, p2⟩ := k2 l hl
    obtain ⟨p3, p4⟩ := h2 l (by omega)
    exact ⟨p1.trans p3, p2.trans p4⟩
  · rcases k4 b hb with hb | hb
    · exact Or.inl (by rw [← h3]; exact hb)
    · exact Or.inr (h4 b hb)
theorem da {E : Env} {nx b c : Nat} : ∀ l, l < nx → (E.newrow nx b c).ρ l = E.ρ l ∧ (E.newrow nx b c).κ l = E.κ l := fun l hl => ⟨by simp only [Env.newrow]; rw [if_neg (by omega)], by simp only [Env.newrow]; rw [if_neg (by omega)]⟩
theorem aq.mv {m m' nx : Nat} {nt : NT} {fr : List (Nat × SV)} {hp : List (Nat × Option Blk)} {x r : SV} {H' : List (Nat × Option Blk)} (l : Nat) {e z n : Nat} {f : Nat → List D} (hl : lkh hp l = some (.row e z n f)) (hm : m ≤ nx)
    (h : aq m ⟨nt, nx + 1, fr, (nx, some (.row e z n f)) :: (l, none) :: mvH l nx hp⟩ x m' r H') : aq m ⟨nt, nx, fr, hp⟩ x m' r H' := by
  refine aq.via hm (by omega) (fun O E a w hs => ⟨_, hs.mv hl, da, rfl, HB.sub fun k b hk hr => ?_⟩) h
  rw [aj] at hk
  by_cases e1 : nx = k
  · subst e1; rw [if_pos rfl] at hk; cases hk
    exact ⟨l, _, hl, by simpa [Env.newrow] using hr, by simp [Env.newrow]⟩
  · rw [if_neg e1, aj] at hk
    by_cases e2 : l = k
    · rw [if_pos e2] at hk; cases hk
    · rw [if_neg e2, fH] at hk
      cases hq : lkh hp k with
      | none => rw [hq] at hk; cases hk
      | some b0 =>
        rw [hq] at hk; cases hk
        have hkx := hs.nx k b0 hq
        obtain ⟨p1, p2⟩ := da (E := E) (nx := nx) (b := E.ρ l) (c := E.κ l) k hkx
        rw [p2] at hr
        exact ⟨k, b0, hq, (bc _ _ _).1 hr, p1.symm⟩
theorem Sat.virtC {O : Org} {E : Env} {nt : NT} {nx : Nat} {fr : List (Nat × SV)} {hp : List (Nat × Option Blk)} {a : Act} {w : World} (h : Sat O E ⟨nt, nx, fr, hp⟩ a w) (k j : Nat) {cs : List SV} (e z : Nat) (f : Nat → List D) (hz : 0 < z) (hk : lkh hp k = some (.cells cs)) (hj : cs[j]? = some (.d (.val (.slice none 0 0)))) :
    Sat O (E.newrow nx 0 0) ⟨nt, nx + 1, fr, (k, some (.cells (cs.set j (.sl nx z 0 0)))) :: (nx, some (.row e z 0 f)) :: hp⟩ a w := by
  have hkx : k < nx := h.nx k _ hk
  have h1 := h.virt (e := e) (f := f) hz
  refine h1.rehp fun q b' hb' => ?_
  rw [aj] at hb'
  by_cases e1 : k = q
  · subst e1
    rw [if_pos rfl] at hb'; cases hb'
    refine ⟨.cells cs, by rw [aj, if_neg (show ¬ nx = k by omega)]; exact hk, fun _ h => h, fun hb => ?_⟩
    obtain ⟨vs, T, g1, g2, g3⟩ := hb
    refine ⟨vs, T, g1, by simpa using g2, fun i hi => ?_⟩
    have hi' : i < cs.length := by simpa using hi
    by_cases e2 : j = i
    · subst e2
      have := (g3 j hi').1
      have e3 : cs[j] = .d (.val (.slice none 0 0)) := by rw [Q0 hi'] at hj; exact Option.some.inj hj
      rw [e3] at this
      have hv := this.val_inv
      refine ⟨?_, (g3 j hi').2⟩
      rw [List.getElem_set_self, hv]
      exact .sl _ _ _ _ _ _ (by show nx < nx + 1; omega) (Q4 _) (by unfold maxLen; omega) (fun h => by omega) (fun _ => ⟨by simp [Env.newrow], fun h => by omega⟩)
    · rw [List.getElem_set_ne e2]; exact g3 i hi'
  · rw [if_neg e1] at hb'
    exact ⟨b', hb', fun _ h => h, fun h => h⟩
theorem aq.virtC {m m' nx : Nat} {nt : NT} {fr : List (Nat × SV)} {hp : List (Nat × Option Blk)} {x r : SV} {H' : List (Nat × Option Blk)} (k j e z : Nat) (f : Nat → List D) {cs : List SV} (hz : 0 < z) (hk : lkh hp k = some (.cells cs)) (hj : cs[j]? = some (.d (.val (.slice none 0 0)))) (hm : m ≤ nx)
    (h : aq m ⟨nt, nx + 1, fr, (k, some (.cells (cs.set j (.sl nx z 0 0)))) :: (nx, some (.row e z 0 f)) :: hp⟩ x m' r H') : aq m ⟨nt, nx, fr, hp⟩ x m' r H' := by
  refine aq.via hm (by omega) (fun O E a w hs => ⟨_, hs.virtC k j e z f hz hk hj, da, rfl, HB.sub fun q b hq hr => ?_⟩) h
  have hkx : k < nx := hs.nx k _ hk
  rw [aj] at hq
  by_cases e1 : k = q
  · subst e1; rw [if_pos rfl] at hq; cases hq
    exact ⟨k, _, hk, trivial, (da (E := E) k hkx).1.symm⟩
  · rw [if_neg e1, aj] at hq
    by_cases e2 : nx = q
    · subst e2; rw [if_pos rfl] at hq; cases hq
      simp [Blk.real, Env.newrow] at hr
    · rw [if_neg e2] at hq
      have hqx := hs.nx q b hq
      obtain ⟨p1, p2⟩ := da (E := E) (nx := nx) (b := 0) (c := 0) q hqx
      rw [p2] at hr
      exact ⟨q, b, hq, hr, p1.symm⟩
theorem Le.virtC {nx : Nat} {nt : NT} {fr : List (Nat × SV)} {hp : List (Nat × Option Blk)} (k j e z : Nat) (f : Nat → List D) {cs : List SV} (hz : 0 < z) (hk : lkh hp k = some (.cells cs)) (hj : cs[j]? = some (.d (.val (.slice none 0 0)))) :
    Le ⟨nt, nx, fr, hp⟩ ⟨nt, nx + 1, fr, (k, some (.cells (cs.set j (.sl nx z 0 0)))) :: (nx, some (.row e z 0 f)) :: hp⟩ :=
  ⟨fun _ _ _ _ hs => ⟨_, hs.virtC k j e z f hz hk hj⟩⟩
theorem aa.fn {L : List Nat} {f : Fn} {cs cs0 : List SV} (h : bB L cs cs0) : aa L (.fn f cs) (.fn f cs0) := by
  obtain ⟨h1, h2⟩ := h.out
  refine ⟨fun E nx w v hv => ?_⟩
  cases hv with
  | fn _ _ us hs hh =>
    refine .fn _ _ _ (by omega) fun j hj => ?_
    obtain ⟨x, g1, g2⟩ := h2 j _ (Q0 hj)
    obtain ⟨q1, q2⟩ := Q3 g1
    have := hh j q1
    rw [q2] at this
    exact g2.out _ _ _ _ this
theorem aq.mv2 {nx : Nat} {nt : NT} {fr : List (Nat × SV)} {hp : List (Nat × Option Blk)} {x r : SV} {H' : List (Nat × Option Blk)} {e z n : Nat} {f : Nat → List D} (hl : lkh hp 1 = some (.row e z n f)) (hm : Nat.ble 2 nx = true)
    (hx : rs2 ⟨nt, nx + 1, fr, (nx, some (.row e z n f)) :: (1, none) :: mvH 1 nx hp⟩ [0, 1, nx] x fun y => SV.Le y r) (hH : nj ⟨nt, nx + 1, fr, (nx, some (.row e z n f)) :: (1, none) :: mvH 1 nx hp⟩ [0, 1, nx] H') : aq 2 ⟨nt, nx, fr, hp⟩ x 3 r H' := by
  have h2 : 2 ≤ nx := zzb hm
  refine aq.mv 1 hl h2 (aq.of [0, 1, nx] rfl (fun i hi => by have : i = 0 ∨ i = 1 := (by omega); rcases this with h | h <;> subst h <;> rfl) ?_ hx hH)
  have e1 : Nat.beq 0 nx = false := by cases h : Nat.beq 0 nx with | true => have := Q2 h; omega | false => rfl
  have e2 : Nat.beq 1 nx = false := by cases h : Nat.beq 1 nx with | true => have := Q2 h; omega | false => rfl
  have e3 : Nat.beq 0 1 = false := rfl
  simp [cP, e1, e2, e3]
section
structure c6 (S : St) (L : List Nat) (x y : SV) : Prop where
  out : ∀ O E a w v, Sat O E S a w → RS E S.nx w x v → RS (E.end S L) L.length w y v
def lD (S : St) (L : List Nat) : List SV → List SV → Prop
  | [], [] => True
  | x :: xs, y :: ys => c6 S L x y ∧ lD S L xs ys
  | _, _ => False
theorem lD.out {S : St} {L : List Nat} : ∀ {xs ys : List SV}, lD S L xs ys → xs.length = ys.length ∧ ∀ (j : Nat) (y : SV), ys[j]? = some y → ∃ x, xs[j]? = some x ∧ c6 S L x y
  | [], [], _ => ⟨rfl, fun j y h => by simp at h⟩
  | x :: xs, y :: ys, ⟨h1, h2⟩ => by
    obtain ⟨g1, g2⟩ := lD.out h2
    refine ⟨by simp [g1], fun j z hz => ?_⟩
    cases j with
    | zero => simp at hz; subst hz; exact ⟨x, rfl, h1⟩
    | succ j => simp at hz; exact g2 j z hz
  | [], _ :: _, h => h.elim
  | _ :: _, [], h => h.elim
theorem lD.at {S : St} {L : List Nat} {xs ys : List SV} (h : lD S L xs ys) {j : Nat} (hj : j < ys.length) : ∃ hj' : j < xs.length, c6 S L xs[j] ys[j] := by
  obtain ⟨h1, h2⟩ := h.out
  obtain ⟨x, g1, g2⟩ := h2 j _ (Q0 hj)
  obtain ⟨q1, q2⟩ := Q3 g1
  exact ⟨q1, by rw [q2]; exact g2⟩
variable {S : St} {L : List Nat}
theorem c6.d {x : D} : c6 S L (.d x) (.d x) := ⟨fun O E a w v hs hv => by cases hv with | d _ _ hv => exact .d _ _ (hv.mono (fun _ hb => Or.inl hb) fun _ _ => rfl)⟩
theorem c6.pre {x y z : SV} (hl : SV.Le x y) (h : c6 S L y z) : c6 S L x z := ⟨fun O E a w v hs hv => h.out O E a w v hs (hl.out _ _ _ _ hv)⟩
theorem c6.sl {l e z o n m : Nat} {f : Nat → List D} (hi : nh L l = none) (hl : lkh S.hp l = some (.row e z m f)) (hn : o + n ≤ m) : c6 S L (.sl l z o n) (.d (.sl z n fun i => f (o + i))) := by
  refine ⟨fun O E a w v hs hv => ?_⟩
  have hI : ∀ b, E.Im b → (E.end S L).Im b := fun b hb => Or.inl hb
  obtain ⟨y, h1, h2⟩ := ii (ρ' := (E.end S L).ρ) (κ' := (E.end S L).κ) (m' := L.length) (k := fun y => y = .d (.sl z n fun i => f (o + i))) hs hI hv (fun l' b hl' hb hr => by
      have : SV.lab (.sl l z o n) = some l := rfl
      rw [this] at hl'; cases hl'; exact Or.inr ⟨l, b, hb, hr, rfl, kl hi⟩) (by simp only [f0, hl]; simp [hn])
  rw [h1] at h2; exact h2
theorem c6.tup {cs ds : List SV} (h : lD S L cs ds) : c6 S L (.tup cs) (.tup ds) := by
  refine ⟨fun O E a w v hs hv => ?_⟩
  cases hv with
  | tup _ us hsz hh => exact .tup _ us (by have := h.out.1; omega) fun j hj => by obtain ⟨q1, q2⟩ := h.at hj; exact q2.out O E a w _ hs (hh j q1)
structure DLe (x y : D) : Prop where
  out : ∀ w Im v, RD w Im x v → RD w Im y v
theorem DLe.refl (x : D) : DLe x x := ⟨fun _ _ _ h => h⟩
theorem DLe.nil {z : Nat} {f : Nat → List D} : DLe (.val (.slice none 0 0)) (.sl z 0 f) := ⟨fun w Im v h => by
  cases h with | val _ _ => exact .sl z 0 f none 0 (fun _ _ => undef) (Q4 _) (by unfold maxLen; omega) (fun i hi => by omega) (fun h => by omega) (fun i j hi => by omega)⟩
def pJ : List D → List D → Prop
  | [], [] => True
  | x :: xs, y :: ys => DLe x y ∧ pJ xs ys
  | _, _ => False
theorem pJ.refl : ∀ xs : List D, pJ xs xs
  | [] => trivial
  | x :: xs => ⟨.refl x, pJ.refl xs⟩
theorem pJ.of {xs ys : List D} (h : xs = ys) : pJ xs ys := by subst h; exact .refl _
theorem pJ.out : ∀ {xs ys : List D}, pJ xs ys → xs.length = ys.length ∧ ∀ (j : Nat) (hx : j < xs.length) (hy : j < ys.length), DLe xs[j] ys[j]
  | [], [], _ => ⟨rfl, fun j hx => by simp at hx⟩
  | x :: xs, y :: ys, ⟨h1, h2⟩ => by
    obtain ⟨g1, g2⟩ := pJ.out h2
    refine ⟨by simp [g1], fun j hx hy => ?_⟩
    cases j with
    | zero => exact h1
    | succ j => exact g2 j (by simpa using hx) (by simpa using hy)
  | [], _ :: _, h => h.elim
  | _ :: _, [], h => h.elim
theorem zA {p : Prop} (h : p := by first | ((((conv => whnf); repeat' (first | exact trivial | exact aa.rfl rfl | exact aa.ptr rfl | exact aa.sl rfl | ((with_reducible refine aa.fn ?_); (conv => whnf)) | ((refine aa.iref ?_); (conv => whnf)) | exact aa.free SV.Le.nil rfl | ((with_reducible refine And.intro ?_ ?_) <;> (conv => whnf)) | ((refine aa.free ?_ rfl); (repeat' (first | exact SV.Le.rfl _ | exact SV.Le.nil | exact SV.Le.sl (fun i hi => by (rcases i with _ | _ | _ | _ | i) <;> first | rfl | (exfalso; omega)) | with_reducible refine SV.Le.agg ?_ | exact Les.nil | with_reducible refine Les.cons ?_ ?_)))))); done) | fail "no") : p := h
theorem zH {p : Prop} (h : p := by first | ((((conv => whnf); repeat' (first | exact trivial | exact aa.rfl rfl | exact aa.ptr rfl | exact aa.sl rfl | ((with_reducible refine aa.fn ?_); (conv => whnf)) | ((refine aa.iref ?_); (conv => whnf)) | exact aa.free SV.Le.nil rfl | exact ⟨rfl, rfl, rfl⟩ | exact fun i hi => rfl | exact (fun i hi => by (rcases i with _ | i) <;> first | rfl | (exfalso; omega)) | ((with_reducible refine And.intro ?_ ?_) <;> (conv => whnf))))); done) | fail "no") : p := h
theorem zD {p : Prop} (h : p := by first | ((((conv => whnf); repeat' (first | exact trivial | exact aa.rfl rfl | exact aa.ptr rfl | exact aa.sl rfl | exact ⟨rfl, rfl, rfl⟩ | exact ⟨rfl, zzb rfl⟩ | exact dir_arg (by assumption) | exact dir_argR (by assumption) (fun l hl => by rcases l with _ | _ | _ | _ | _ | l <;> first | rfl | omega) | exact fun i hi => rfl | ((with_reducible refine And.intro ?_ ?_) <;> (conv => whnf))))); done) | fail "no") : p := h
theorem zG {p : Prop} (h : p := by first | ((((conv => whnf); repeat' (first | exact trivial | exact aa.rfl rfl | exact aa.ptr rfl | exact aa.sl5 | exact aa.sl rfl | exact ⟨rfl, rfl, rfl⟩ | exact ⟨rfl, zzb rfl⟩ | exact dir_arg4 | exact dir_argR4 (fun l hl => by rcases l with _ | _ | _ | _ | l <;> first | rfl | omega) | exact fun i hi => rfl | ((with_reducible refine And.intro ?_ ?_) <;> (conv => whnf))))); done) | fail "no") : p := h
theorem zK {p : Prop} (h : p := by first | (((conv => whnf); repeat' (first | exact trivial | ((refine And.intro rfl ?_); (conv => whnf)))); done) | fail "no") : p := h
theorem zB {p : Prop} (h : p := by first | ((first | exact ae (zzb rfl) (by omega) | omega); done) | fail "no") : p := h
theorem zO {p : Prop} (h : p := by first | ((first | exact IntWalk.i64_in _ (by omega) | exact IntWalk.u64_in _ (by omega) | exact IntWalk.u8_in _ (by omega) | exact IntWalk.u32_in _ (by omega) | exact IntWalk.i32_in _ (by omega) | exact IntWalk.u16_in _ (by omega)); done) | fail "no") : p := h
theorem zC {p : Prop} (h : p := by first | ((first | omega | exact zzb rfl); done) | fail "no") : p := h
theorem zF {p : Prop} (h : p := by first | ((first | exact trivial | exact c6.any | exact c6.d | exact c6.ptrL rfl | exact c6.slL rfl | exact c6.lt0 (SV.Lt.of rfl) | exact c6.same (by assumption) (zzb rfl) (fun i hi => id5 hi) | exact c6.le c6.d (SV.Le.i (by omega)) | exact ⟨rfl, rfl, rfl⟩ | exact ⟨rfl, zzb rfl⟩ | exact dir_seal (by assumption) | exact dir_sealR4 (fun l hl => by rcases l with _ | _ | _ | _ | l <;> first | rfl | omega) | exact dir_sealR (by assumption) (fun l hl => by rcases l with _ | _ | _ | _ | _ | l <;> first | rfl | omega) | exact fun i hi => pJ.refl _ | exact c6.le c6.d SV.Le.nil | exact c6.le (c6.sl rfl rfl (by omega)) (SV.Le.sl fun i hi => by simp only [Q19])); done) | fail "no") : p := h
theorem zE {p : Prop} (h : p := by first | ((first | exact trivial | exact c6.any | exact c6.d | exact c6.ptrL rfl | exact c6.slL rfl | exact c6.lt0 (SV.Lt.of rfl) | exact c6.same (by assumption) (zzb rfl) (fun i hi => id5 hi) | exact c6.le c6.d (SV.Le.i (by omega)) | exact ⟨rfl, rfl, rfl⟩ | exact ⟨rfl, zzb rfl⟩ | exact dir_seal (by assumption) | exact dir_sealR (by assumption) (fun l hl => by rcases l with _ | _ | _ | _ | _ | l <;> first | rfl | omega) | exact fun i hi => pJ.refl _ | exact c6.le c6.d SV.Le.nil | exact c6.le (c6.sl rfl rfl (by omega)) (SV.Le.sl fun i hi => by simp only [Q19])); done) | fail "no") : p := h
end
end Go.Proofs.YtlplngmpggkloaaGreat
