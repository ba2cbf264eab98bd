/- Lemmas of Sx30, Hi6, Hi7, Hi8, Hi9. No condition. -/
import Derived.Test.YtlplngmpggkloaaGreatMJ10
set_option linter.unusedVariables false
set_option linter.unusedSimpArgs false
set_option maxHeartbeats 80000000
set_option maxRecDepth 100000
namespace Go.Proofs.YtlplngmpggkloaaGreat
open Go.RowKit
section
def pR (es : Array Edge) (i : Nat) : Bool := es.any fun e => Region.binds .any e && Nat.beq e.on i
def usedB (l : List Oper) (o : Oper) (i : Nat) : Bool := pR o.after i || (List.range l.length).any fun j => Nat.blt i j && ((l[j]?).map fun q => pR q.after i).getD false
def lP (l : List Oper) (o : Oper) : Bool :=
  (List.range l.length).all (usedB l o) &&
  (List.range l.length).all (fun i => ((l[i]?).map fun q => (q.after.all fun e => !Region.binds .any e || Nat.blt e.on i) && (match q.guard with | none => true | some (j, _) => Nat.blt j l.length)).getD false) &&
  (o.after.all fun e => !Region.binds .any e || Nat.blt e.on l.length) && o.guard.isNone
theorem upon_q {P : Program} {o : Oper} {a : Act} {w : World} {K : Act → World → Prop} {Q Q' : Exit → Act → World → Prop} (hL : LetsOut Q → LetsOut Q') (hQ : ∀ c a w, Q (.panic c) a w → Q' (.panic c) a w) (h : o.wp P a w K Q) : o.wp P a w K Q' := by
  unfold Oper.wp at *
  generalize (execOp a.eval o).run P w = r at *
  cases r with
  | ok n w' =>
    cases n <;> simp only [Oper.upon] at h ⊢ <;>
      first
        | exact h
        | exact Calls.mono h (fun e w'' he => by cases e <;> first | exact he | exact hQ _ _ _ he | exact hL he)
  | halt x w' => cases x <;> simp only [Oper.upon] at h ⊢ <;> first | exact h | exact hQ _ _ _ h
theorem kx {listed : Array Bool} {i : Nat} (b : Bool) : (listed.push b).getD i b = listed.getD i b := by
  simp only [Q7, Array.getElem?_push]
  split
  · rename_i h; subst h; simp
  · rfl
theorem fl {listed : Array Bool} {i : Nat} (b d : Bool) (h : i < listed.size) : (listed.push b).getD i d = listed.getD i d := by
  simp only [Q7, Array.getElem?_push]
  rw [if_neg (by omega)]
section
variable {P : Program} {l : List Oper} {o : Oper} {Q : Exit → Act → World → Prop}
theorem iQ {i : Nat} (h : i < l.length) : (l ++ [o]).toArray[i]? = l.toArray[i]? := by simp [Q11 h]
theorem jO : (l ++ [o]).toArray[l.length]? = some o := by simp
theorem iZ {listed : Array Bool} (hs : listed.size = l.length) {i : Nat} (hi : i < l.length) : i ∈ Region.ready .any (l ++ [o]).toArray (listed.push false) ↔ i ∈ Region.ready .any l.toArray listed := by
  rw [mem_ready, mem_ready, iQ hi, fl false true (by omega)]
  simp only [kx]
theorem ik {listed : Array Bool} (hs : listed.size = l.length) : l.length ∈ Region.ready .any (l ++ [o]).toArray (listed.push false) ↔ ∀ e ∈ o.after, Region.binds .any e = true → listed.getD e.on false = true := by
  rw [mem_ready, jO]
  have h0 : (listed.push false).getD l.length true = false := by rw [Q7, ← hs]; simp
  rw [h0]
  simp only [kx]
  constructor
  · rintro ⟨_, q, hq, h⟩; cases hq; exact h
  · exact fun h => ⟨trivial, o, rfl, h⟩
theorem l3 {listed : Array Bool} {i : Nat} (h : i ∈ Region.ready .any (l ++ [o]).toArray (listed.push false)) : i < l.length ∨ i = l.length := by
  rw [mem_ready] at h
  obtain ⟨_, q, hq, _⟩ := h
  have := (Q17 hq).1
  simp at this; omega
theorem mX {R : Exit → Act → World → Prop} (hok : lP l o = true) (hR : ∀ a w, R .normal a w → o.wp P a w (fun a w => Q .normal a w) Q) (hP : ∀ c a w, ¬ R (.panic c) a w) (hO : ¬ LetsOut R) : ∀ (fuel : Nat) (listed : Array Bool) (a : Act) (w : World), listed.size = l.length →
    (∀ i q, l[i]? = some q → listed.getD i false = true → ∀ e ∈ q.after, Region.binds .any e = true → listed.getD e.on false = true) →
    wpAny P .any l.toArray R fuel listed a w → wpAny P .any (l ++ [o]).toArray Q (fuel + 1) (listed.push false) a w := by
  unfold lP at hok
  simp only [Q5, Q23, List.mem_range] at hok
  obtain ⟨⟨⟨hu, hp⟩, ha⟩, hg⟩ := hok
  have hgn : o.guard = none := by cases e : o.guard with | none => rfl | some _ => rw [e] at hg; cases hg
  have hpre : ∀ i q, l[i]? = some q → (∀ e ∈ q.after, Region.binds .any e = true → e.on < i) ∧ (∀ j b, q.guard = some (j, b) → j < l.length) := fun i q hq => by
    have h1 := hp i (Q3 hq).1
    rw [hq] at h1
    simp only [Option.map_some, Option.getD_some, Q5] at h1
    refine ⟨fun e he hb => ?_, fun j b hjb => ?_⟩
    · have h2 := h1.1
      rw [Array.all_eq_true'] at h2
      have := h2 e he
      rw [hb] at this
      simpa using this
    · have h2 := h1.2
      rw [hjb] at h2
      simpa using h2
  have hao : ∀ e ∈ o.after, Region.binds .any e = true → e.on < l.length := fun e he hb => by
    rw [Array.all_eq_true'] at ha
    have := ha e he
    rw [hb] at this
    simpa using this
  have cover : ∀ (listed : Array Bool), (∀ i q, l[i]? = some q → listed.getD i false = true → ∀ e ∈ q.after, Region.binds .any e = true → listed.getD e.on false = true) →
      (∀ e ∈ o.after, Region.binds .any e = true → listed.getD e.on false = true) → ∀ k i, l.length = i + k → ∀ j, i ≤ j → j < l.length → listed.getD j false = true := by
    intro listed hd hr k
    induction k with
    | zero => intro i hi j h1 h2; omega
    | succ k ih =>
      intro i hi j h1 h2
      by_cases e : i = j
      · subst e
        have h3 := hu i h2
        unfold usedB at h3
        rw [Q20] at h3
        have wt : ∀ {es : Array Edge}, pR es i = true → ∃ e ∈ es, Region.binds .any e = true ∧ e.on = i := fun {es} h => by
          unfold pR at h
          rw [Array.any_eq_true'] at h
          obtain ⟨e, h4, h5⟩ := h
          rw [Q5] at h5
          exact ⟨e, h4, h5.1, Q2 h5.2⟩
        rcases h3 with h3 | h3
        · obtain ⟨e, h4, h5, h6⟩ := wt h3
          rw [← h6]; exact hr e h4 h5
        · rw [List.any_eq_true] at h3
          obtain ⟨q, hq, h3⟩ := h3
          rw [List.mem_range] at hq
          rw [Q5, Q0 hq] at h3
          simp only [Option.map_some, Option.getD_some] at h3
          obtain ⟨h3, h4⟩ := h3
          have h3 : i < q := by simpa using h3
          obtain ⟨e, h5, h6, h7⟩ := wt h4
          have := ih (i + 1) (by omega) q (by omega) hq
          rw [← h7]; exact hd q _ (Q0 hq) this e h5 h6
      · exact ih (i + 1) (by omega) j (by omega) h2
  have allOf : ∀ (listed : Array Bool), listed.size = l.length → Region.ready .any l.toArray listed = [] → ∀ j, j < l.length → listed.getD j false = true := by
    intro listed hs hr j
    induction j using Nat.strongRecOn with
    | _ j ih =>
      intro hj
      cases hb : listed.getD j false with
      | true => rfl
      | false =>
        exfalso
        have : j ∈ Region.ready .any l.toArray listed := mem_ready.2 ⟨by
          rw [Q7] at hb ⊢
          rw [Array.getElem?_eq_getElem (by omega)] at hb ⊢
          exact hb, l[j], by simp [Q0 hj], fun e he hbe => ih e.on ((hpre j _ (Q0 hj)).1 e he hbe) (by have := (hpre j _ (Q0 hj)).1 e he hbe; omega)⟩
        rw [hr] at this; cases this
  have wtd : ∀ (a : Act), Region.wanted o (yielded (l ++ [o]).toArray a.tmps) = true := fun a => by unfold Region.wanted; rw [hgn]
  have endC : ∀ (fuel : Nat) (listed : Array Bool) (a : Act) (w : World), listed.size = l.length → Region.ready .any l.toArray listed = [] → o.wp P a w (fun a w => Q .normal a w) Q → wpAny P .any (l ++ [o]).toArray Q (fuel + 1) (listed.push false) a w := by
    intro fuel listed a w hs hr h
    have hall := allOf listed hs hr
    have hlast : l.length ∈ Region.ready .any (l ++ [o]).toArray (listed.push false) := (ik hs).2 fun e he hb => hall _ (hao e he hb)
    refine ⟨fun h0 => (by rw [h0] at hlast; cases hlast), fun i hi => ?_⟩
    rcases l3 hi with h1 | rfl
    · rw [iZ hs h1, hr] at hi; cases hi
    · unfold wpOp
      rw [jO]
      simp only
      rw [if_pos (wtd a)]
      left
      refine Oper.wp_mono (fun a' w' hQ => ?_) h
      refine wpAny_done ?_ hQ fuel
      refine List.eq_nil_iff_forall_not_mem.2 fun j hj => ?_
      have hj2 := (mem_ready.1 hj).1
      have hjl : j < l.length ∨ j = l.length := by
        obtain ⟨_, q, hq, _⟩ := mem_ready.1 hj
        have := (Q17 hq).1
        simp at this; omega
      rcases hjl with hjl | rfl
      · rw [getD_set_ne true (by omega : l.length ≠ j), fl false true (by omega)] at hj2
        have := hall j hjl
        rw [Q7, Array.getElem?_eq_getElem (by omega)] at this hj2
        simp at this hj2; rw [this] at hj2; cases hj2
      · rw [Q7] at hj2
        simp [← hs] at hj2
  intro fuel
  induction fuel with
  | zero =>
    intro listed a w hs hd h
    exact endC 0 listed a w hs h.1 (hR _ _ h.2)
  | succ fuel ih =>
    intro listed a w hs hd h
    by_cases hr : Region.ready .any l.toArray listed = []
    · exact endC (fuel + 1) listed a w hs hr (hR _ _ (h.1 hr))
    · have hnl : ¬ l.length ∈ Region.ready .any (l ++ [o]).toArray (listed.push false) := fun hin => by
        have hc := cover listed hd ((ik hs).1 hin) l.length 0 (by omega)
        apply hr
        refine List.eq_nil_iff_forall_not_mem.2 fun j hj => ?_
        obtain ⟨hj1, q, hq, _⟩ := mem_ready.1 hj
        have hjl : j < l.length := by have := (Q17 hq).1; simpa using this
        have := hc j (Nat.zero_le _) hjl
        rw [Q7, Array.getElem?_eq_getElem (by omega)] at this hj1
        simp at this hj1; rw [this] at hj1; cases hj1
      refine ⟨fun h0 => ?_, fun i hi => ?_⟩
      · exfalso
        apply hr
        refine List.eq_nil_iff_forall_not_mem.2 fun j hj => ?_
        have hjl : j < l.length := by
          obtain ⟨_, q, hq, _⟩ := mem_ready.1 hj
          have := (Q17 hq).1; simpa using this
        have := (iZ (o := o) hs hjl).2 hj
        rw [h0] at this; cases this
      · rcases l3 hi with hil | rfl
        · have hi2 := (iZ hs hil).1 hi
          have h2 := h.2 i hi2
          unfold wpOp at h2 ⊢
          rw [iQ hil]
          have hli : l.toArray[i]? = some l[i] := by simp [Q0 hil]
          rw [hli] at h2 ⊢
          simp only at h2 ⊢
          have hw : Region.wanted l[i] (yielded (l ++ [o]).toArray a.tmps) = Region.wanted l[i] (yielded l.toArray a.tmps) := by
            unfold Region.wanted
            cases hgd : l[i].guard with
            | none => rfl
            | some jb =>
              obtain ⟨j, b⟩ := jb
              have hj := (hpre i _ (Q0 hil)).2 j b hgd
              simp only
              unfold yielded
              rw [iQ hj]
          rw [hw]
          have hd' : ∀ i' q, l[i']? = some q → (listed.setIfInBounds i true).getD i' false = true → ∀ e ∈ q.after, Region.binds .any e = true → (listed.setIfInBounds i true).getD e.on false = true := by
            intro i' q hq hg' e he hb
            by_cases e1 : i' = i
            · subst e1
              obtain ⟨_, q2, hq2, hall⟩ := mem_ready.1 hi2
              rw [hli] at hq2; cases hq2
              have : q = l[i'] := by rw [Q0 hil] at hq; exact (Option.some.inj hq).symm
              subst this
              exact getD_set_true (hall e he hb)
            · rw [getD_set_ne false (Ne.symm e1)] at hg'
              exact getD_set_true (hd i' q hq hg' e he hb)
          have hpush : (listed.push false).setIfInBounds i true = (listed.setIfInBounds i true).push false := by
            refine Array.ext_getElem? fun k => ?_
            simp only [Array.getElem?_setIfInBounds, Array.getElem?_push, Array.size_push, Array.size_setIfInBounds]
            by_cases e1 : i = k
            · subst e1
              rw [if_pos rfl, if_pos (by omega), if_neg (by omega), if_pos rfl, if_pos (by omega)]
            · rw [if_neg e1, if_neg e1]
          rw [hpush]
          have step : ∀ a' w', wpAny P .any l.toArray R fuel (listed.setIfInBounds i true) a' w' → wpAny P .any (l ++ [o]).toArray Q (fuel + 1) ((listed.setIfInBounds i true).push false) a' w' := fun a' w' h' => ih _ a' w' (by simp [hs]) hd' h'
          split
          · rename_i hwt
            rw [if_pos hwt] at h2
            rcases h2 with h2 | ⟨_, h3⟩
            · left
              exact Oper.wp_mono step (upon_q (fun hl => absurd hl hO) (fun c a w hf => absurd hf (hP c a w)) h2)
            · exact absurd h3 hO
          · rename_i hwt
            rw [if_neg hwt] at h2
            exact step _ _ h2
        · exact absurd hi hnl
end
theorem gX (n : Nat) : (Array.replicate n false).push false = Array.replicate (n + 1) false := by
  rw [Array.replicate_succ]
theorem Wp.drawTail {C : Cx} {id : Nat} {l : List Oper} {o : Oper} {nt : NT} {nx : Nat} {fr : List (Nat × SV)} {hp : List (Nat × Option Blk)} {Q : Exit → St → Prop} (hm : C.P.follows .mixedOrders = true) (hok : lP l o = true)
    (h : cC C l nx l 0 ⟨nt, nx + l.length, fr, hp⟩ fun efs Sn => ah l efs nx ⟨nt, nx + l.length, fr, hp⟩ = true ∧ runK C Sn o fun S' => Q .normal S') : Wp C (.region id (l ++ [o]).toArray true) ⟨nt, nx, fr, hp⟩ Q := by
  refine ⟨fun O E a w hs => wp_region_any hm ?_⟩
  have h1 := Wp.drawAny (Q := fun e S' => match e with | .normal => runK C S' o (fun S'' => Q .normal S'') | _ => False) h hs
  have h2 := mX (P := C.P) (l := l) (o := o) (Q := fun e a' w' => ∃ S' E', Q e S' ∧ Sat O E' S' a' w') hok (fun a' w' hh => ?_) (fun c a' w' hh => ?_) (fun hh => ?_) l.length (Array.replicate l.length false) a { w with drawn := w.drawn + 1 } (by simp) (fun i q _ hi => by
    simp [Q7, Array.getElem?_replicate] at hi; split at hi <;> simp at hi) h1
  · rw [gX] at h2
    simpa using h2
  · obtain ⟨S', E', hk, hS⟩ := hh
    refine eG hS hk _ _ fun v E2 S2 w2 x g1 g2 g3 => ?_
    obtain ⟨S3, k1, k2⟩ := cN g2 g3 g1
    exact ⟨S3, E2, k1, k2⟩
  · obtain ⟨S', E', hk, _⟩ := hh; exact hk
  · obtain ⟨_, _, S', E', hk, _⟩ := hh; exact hk
def rK : List Oper → List Oper
  | [] => []
  | [_] => []
  | x :: y :: r => x :: rK (y :: r)
def lastL : List Oper → Option Oper
  | [] => none
  | [x] => some x
  | _ :: y :: r => lastL (y :: r)
theorem kj : ∀ {l : List Oper} {o : Oper}, lastL l = some o → rK l ++ [o] = l
  | [], _, h => by cases h
  | [x], _, h => by cases h; rfl
  | x :: y :: r, o, h => by
    have := kj (l := y :: r) h
    show x :: (rK (y :: r) ++ [o]) = _
    rw [this]
theorem Wp.drawTailL {C : Cx} {id : Nat} {l l1 : List Oper} {o : Oper} {nt : NT} {nx : Nat} {fr : List (Nat × SV)} {hp : List (Nat × Option Blk)} {Q : Exit → St → Prop} (hm : C.P.follows .mixedOrders = true) (ho : lastL l = some o) (hl : rK l = l1) (hok : lP l1 o = true)
    (h : cntK l1 nx fun m => cC C l1 nx l1 0 ⟨nt, m, fr, hp⟩ fun efs Sn => ah l1 efs nx ⟨nt, m, fr, hp⟩ = true ∧ runK C Sn o fun S' => Q .normal S') : Wp C (.region id l.toArray true) ⟨nt, nx, fr, hp⟩ Q := by
  subst hl
  have := Wp.drawTail (id := id) hm hok (lA _ nx _ h)
  rwa [kj ho] at this
end
section
open Hist
structure Reg (n : Nat) (p : Prop) : Prop where
  out : p
theorem Wp.reg (n : Nat) {C : Cx} {b : Array Oper} {d : Bool} {y : Code} {S : St} {Q : Exit → St → Prop} (h : Reg n (Wp C (.seq (.region n b d) y) S Q)) : Wp C (.seq (.region n b d) y) S Q := h.out
structure Tl (ps : List Pol) (l : List HD) (T : List (Nat × Option Blk)) : Prop where
  at_ : ∀ j, j < (ids ps l).length → lkh T (1000 + j) = some (.row 38 13 (grp ps l ((ids ps l).getD j default)).length fun q => HD.D ((grp ps l ((ids ps l).getD j default)).getD q default))
  rows : cH 1000 100000000000000000000 T
@[reducible] def mpG (ps : List Pol) (l : List HD) (j : Nat) : SV := .sl (1000 + j) 13 0 (grp ps l ((ids ps l).getD j default)).length
@[reducible] noncomputable def ckH (ps : List Pol) (calls : List HD) (b : Nat) (k : Nat × List (Nat × Option Blk)) : List (Nat × Option Blk) :=
  (0, some (.cells [.i .i64 (ce ps calls.length (calls.take k.1))])) :: (1, some (mpB b 100000000000000000000 (ids ps (calls.take k.1)) (mpG ps (calls.take k.1)))) :: k.2
@[reducible] noncomputable def ckI (ps : List Pol) (calls : List HD) (b : Nat) (k : Nat × List (Nat × Option Blk)) : St :=
  ⟨⟨Tryz.f11.ntmps, 0⟩, 100000000000000000000, [(0, .d (ak 4 Pol.D ps)), (6, .ptr 0 0), (7, .b (aG ps == 0)), (8, .fn (.func 19) [.ptr 0 0]), (9, mpV b), (25, .d (ak 13 HD.D calls)), (26, .i .i64 calls.length), (27, .i .i64 k.1)], ckH ps calls b k⟩
noncomputable def ckB : Code := (lpO 0 (Tryz.f11.body.getD .skip)).getD .skip
def ckP (ps : List Pol) (calls : List HD) (k : Nat × List (Nat × Option Blk)) : Prop := k.1 ≤ calls.length ∧ Tl ps (calls.take k.1) k.2
def ckQ (ps : List Pol) (calls : List HD) (b : Nat) (e : Exit) (S : St) : Prop := e = .exit 0 ∧ ∃ T, Tl ps calls T ∧ Le S (ckI ps calls b (calls.length, T))
theorem Wp.midAt {C : Cx} (id : Nat) {b : Array Oper} {d : Bool} {z y : Code} {S : St} {Q : Exit → St → Prop} (S1 : St) (h1 : Wp C (.seq (.region id b d) z) S (fun e S' => match e with | .normal => Le S' S1 | e => Q e S')) (h2 : Wp C y S1 Q) : Wp C (.seq (.seq (.region id b d) z) y) S Q :=
  Wp.seq (h1.mono fun e S' h => by
    cases e with
    | normal => exact Wp.le h h2
    | _ => exact h)
theorem Le.blks {nt : NT} {nx : Nat} {fr : List (Nat × SV)} {hp hp' : List (Nat × Option Blk)} (hhp : ∀ l b, lkh hp' l = some b → lkh hp l = some b) : Le ⟨nt, nx, fr, hp⟩ ⟨nt, nx, fr, hp'⟩ :=
  ⟨fun O E a w hs => ⟨E, hs.fr, hs.nt, hs.df, fun l b hb => hs.hp l b (hhp l b hb), fun l b hb => hs.nx l b (hhp l b hb), fun l l' b b' hb hb' => hs.inj l l' b b' (hhp l b hb) (hhp l' b' hb'), fun b hb => ⟨(hs.im b hb).1, (hs.im b hb).2.1, fun l x hl => (hs.im b hb).2.2 l x (hhp l x hl)⟩, fun l b hb => hs.own l b (hhp l b hb), hs.kq, hs.lab, hs.nl, hs.imo⟩⟩
def KFr (fr : List (Nat × SV)) : List (Nat × SV) → Prop
  | [] => True
  | p :: r => SV.Le (lk fr p.1) p.2 ∧ KFr fr r
theorem KFr.out {fr : List (Nat × SV)} : ∀ {l : List (Nat × SV)}, KFr fr l → ∀ p ∈ l, SV.Le (lk fr p.1) p.2
  | [], _, p, h => by cases h
  | q :: r, h, p, hp => by
    rcases Q22 hp with rfl | hp
    · exact h.1
    · exact KFr.out h.2 p hp
theorem Le.keep {nt : NT} {nx nx' : Nat} {fr fr' : List (Nat × SV)} {hp hp' : List (Nat × Option Blk)} (hn : nx ≤ nx') (hfr : KFr fr fr') (hhp : ∀ l b, lkh hp' l = some b → lkh hp l = some b) : Le ⟨nt, nx, fr, hp⟩ ⟨nt, nx', fr', hp'⟩ :=
  (Le.slots hfr.out).trans ((Le.blks hhp).trans (Le.nx hn))
@[reducible] noncomputable def ckF (ps : List Pol) (calls : List HD) (b k : Nat) : List (Nat × SV) := [(0, .d (ak 4 Pol.D ps)), (6, .ptr 0 0), (7, .b (aG ps == 0)), (8, .fn (.func 19) [.ptr 0 0]), (9, mpV b), (25, .d (ak 13 HD.D calls)), (26, .i .i64 calls.length), (27, .i .i64 k)]
@[reducible] noncomputable def ckM (ps : List Pol) (calls : List HD) (b k : Nat) (E1 : Int) (mp : Blk) (T : List (Nat × Option Blk)) : St :=
  ⟨⟨Tryz.f11.ntmps, 0⟩, 100000000000000000001, (11, .ptr 100000000000000000000 0) :: ckF ps calls b k, (0, some (.cells [.i .i64 E1])) :: (100000000000000000000, some (.cells ((calls.getD (k : Int).toNat default).D.map .d))) :: (1, some mp) :: T⟩
theorem ib {calls : List HD} {k : Nat} (hlt : k < calls.length) : calls.take (k + 1) = calls.take k ++ [calls.getD (k : Int).toNat default] := by
  rw [Q13, List.take_add_one, Q0 hlt, Q1, Q0 hlt]; rfl
theorem sW {ps : List Pol} {l : List HD} {d : HD} (h : bM ps d = false) : ids ps (l ++ [d]) = ids ps l := by
  rw [dw, if_neg (by rw [h]; rintro ⟨h, _⟩; cases h)]
theorem sX {ps : List Pol} {l : List HD} {d : HD} (h : bM ps d = false) (k : ByteArray) : grp ps (l ++ [d]) k = grp ps l k := by
  rw [bj, if_neg (by rw [h]; rintro ⟨h, _⟩; cases h)]
theorem Tl.no {ps : List Pol} {l : List HD} {d : HD} {T : List (Nat × Option Blk)} (h : bM ps d = false) (hT : Tl ps l T) : Tl ps (l ++ [d]) T :=
  ⟨fun j hj => by
    rw [sW h] at hj ⊢
    rw [sX h]
    exact hT.at_ j hj, hT.rows⟩
theorem kK {ps : List Pol} {calls : List HD} {b k nx mm : Nat} {T hp : List (Nat × Option Blk)} {fr : List (Nat × SV)} {E' : Int} (hl : calls.length ≤ 1048576) (hlt : k < calls.length) (hinc : bM ps (calls.getD (k : Int).toNat default) = false) (hT : Tl ps (calls.take k) T)
    (hE : bO ps (ce ps calls.length (calls.take k)) (calls.take k) (calls.getD (k : Int).toNat default) = E') (hfr : pP id 100000000000000000000 fr (ckF ps calls b (k + 1))) (h0 : lkh hp 0 = some (.cells [.i .i64 E'])) (h1 : lkh hp 1 = some (mpB b mm (ids ps (calls.take k)) (mpG ps (calls.take k))))
    (ht : ∀ l, 1000 ≤ l → l < 100000000000000000000 → lkh hp l = lkh T l) : ∃ i, ckP ps calls i ∧ (fun k => calls.length - k.1) i < calls.length - k ∧ Le ⟨⟨Tryz.f11.ntmps, 0⟩, nx, fr, hp⟩ (ckI ps calls b i) := by
  have hk1 := ib hlt
  refine ⟨(k + 1, T), ⟨hlt, by dsimp only; rw [hk1]; exact hT.no hinc⟩, by dsimp only; omega, ?_⟩
  have hi := sW (ps := ps) (l := calls.take k) hinc
  show Le _ ⟨_, 100000000000000000000, ckF ps calls b (k + 1), (0, some (.cells [.i .i64 (ce ps calls.length (calls.take (k + 1)))])) :: (1, some (mpB b 100000000000000000000 (ids ps (calls.take (k + 1))) (mpG ps (calls.take (k + 1))))) :: T⟩
  rw [hk1, hi, cD, hE]
  refine Le.maps id rfl (by decide) hfr rfl rfl h0 (aL.free rfl) h1 (fun j hj => ?_) hT.rows (fun k b hb => ?_) fun k k' _ _ _ _ e => e
  · have hl : (ids ps (calls.take k)).length ≤ calls.length := Nat.le_trans (jl ps (calls.take k) []) (by rw [Q10, List.length_nil]; omega)
    dsimp only [mpG]
    rw [hi, sX hinc]
    exact ⟨.sl _ _ _ _ (by omega), .sl rfl (by omega)⟩
  · obtain ⟨r1, r2, _⟩ := hT.rows k b hb
    refine ⟨b, by rw [id, ht k r1 r2]; exact hb, .inl rfl, ?_, ?_⟩ <;> (show k ≠ _; omega)
def sF (id : Nat) : Code → Option Code
  | .seq (.region i b d) y => if i = id then some (.seq (.region i b d) y) else sF id y
  | .seq a b => (sF id a).or (sF id b)
  | .cond _ a b => (sF id a).or (sF id b)
  | .block _ b => sF id b
  | .loop b => sF id b
  | _ => none
noncomputable def ck16 : Code := (sF 16 (Tryz.f11.body.getD .skip)).getD .skip
@[reducible] noncomputable def ck6 (ps : List Pol) (calls : List HD) (b k : Nat) (E1 : Int) (T : List (Nat × Option Blk)) : St :=
  ⟨⟨Tryz.f11.ntmps, 0⟩, 100000000000000000001, (11, .ptr 100000000000000000000 0) :: (12, .d (ak 1 (ar .u8) (aZ (calls.getD (k : Int).toNat default).pol (calls.getD (k : Int).toNat default).key))) :: ckF ps calls b k,
    (0, some (.cells [.i .i64 E1])) :: (100000000000000000000, some (.cells ((calls.getD (k : Int).toNat default).D.map .d))) :: (1, some (mpB b 100000000000000000000 (ids ps (calls.take k)) (mpG ps (calls.take k)))) :: T⟩
def ckR (ps : List Pol) (calls : List HD) (b k : Nat) (e : Exit) (S : St) : Prop := e = .normal ∧ ∃ T, Tl ps (calls.take (k + 1)) T ∧ Le S ⟨⟨Tryz.f11.ntmps, 0⟩, 100000000000000000000, ckF ps calls b k, ckH ps calls b (k + 1, T)⟩
theorem rD {l : List ByteArray} (h : l.Nodup) {j j' : Nat} (hj : j < l.length) (hj' : j' < l.length) (e : l.getD j' default = l.getD j default) : j' = j := by
  rw [Q1, Q1, Q0 hj, Q0 hj'] at e
  have e : l[j'] = l[j] := e
  have hp := List.pairwise_iff_getElem.1 h
  rcases Nat.lt_trichotomy j' j with g | g | g
  · exact absurd e (hp j' j hj' hj g)
  · exact g
  · exact absurd e.symm (hp j j' hj hj' g)
theorem sP {l : List ByteArray} {k : ByteArray} (h : k ∈ l) : ∃ j, j < l.length ∧ l.getD j default = k := by
  obtain ⟨j, hj, e⟩ := List.getElem_of_mem h
  exact ⟨j, hj, by rw [Q1, Q0 hj]; exact e⟩
theorem eE.at_ {C : Cx} {t kt et b mm : Nat} (l : Nat) {keys : List ByteArray} {g : Nat → SV} {s : ByteArray} {hp : List (Nat × Option Blk)} {k : SV → Nat → Prop} {v : SV} (h1 : C.P.underlying t = some (.map kt et)) (h2 : C.P.underlying kt = some .string) (h3 : ∀ w, (zeroValue et).run C.P w = .ok (.slice none 0 0) w)
    (hl : lkh hp l = some (mpB b mm keys g)) (j : Nat) (hj : j < keys.length) (hs : keys.getD j default = s) (hn : ∀ j', j' < keys.length → keys.getD j' default = s → j' = j) (hv : g j = v) (h : k v l) : eE C t (mpV b) (.d (.val (.string s))) hp k :=
  eE.hit h1 h2 h3 hl j hj hs hn (by rw [hv]; exact h)
theorem k9 (K : List ByteArray) (s : ByteArray) : (K ++ [s]).getD K.length default = s := by
  rw [Q1, Q12 (Q4 _), Nat.sub_self]; rfl
theorem snoc_un {K : List ByteArray} {s : ByteArray} (h : ∀ j, j < K.length → K.getD j default ≠ s) (j : Nat) (hj : j < (K ++ [s]).length) (e : (K ++ [s]).getD j default = s) : j = K.length := by
  by_cases hl : j < K.length
  · rw [Q1, Q11 hl, ← Q1] at e
    exact absurd e (h j hl)
  · rw [Q9, List.length_singleton] at hj; omega
theorem u53 : TC.P.underlying 44 = some (.map 9 25) := rfl
theorem u9 : TC.P.underlying 9 = some .string := rfl
theorem z24 (w : World) : (zeroValue 25).run TC.P w = .ok (.slice none 0 0) w := rfl
theorem mr {ps : List Pol} {d : HD} (h : bM ps d = true) : dD ps d = false := by
  unfold bM at h
  rw [Q5, Bool.not_eq_true'] at h
  exact h.1
theorem Tl.miss {ps : List Pol} {l : List HD} {d : HD} {T : List (Nat × Option Blk)} (hT : Tl ps l T) (hi : bM ps d = true) (hm : ¬ kb d ∈ ids ps l) (hl : (ids ps l).length ≤ 1048576) :
    Tl ps (l ++ [d]) ((1000 + (ids ps l).length, some (.row 38 13 1 fun q => HD.D (([d] : List HD).getD q default))) :: T) := by
  refine ⟨fun j hj => ?_, fun k b h => ?_⟩
  · rw [dw, if_pos ⟨hi, hm⟩] at hj ⊢
    rw [Q9, List.length_singleton] at hj
    rw [aj]
    by_cases e : j = (ids ps l).length
    · subst e
      rw [if_pos rfl, k9, bj, if_pos ⟨hi, rfl⟩, jn ps l _ hm]
      rfl
    · have hj' : j < (ids ps l).length := by omega
      rw [if_neg (by omega), hT.at_ j hj']
      have e2 : (ids ps l ++ [kb d]).getD j default = (ids ps l).getD j default := by
        rw [Q1, Q11 hj', ← Q1]
      rw [e2, bj, if_neg]
      rintro ⟨_, h⟩
      refine hm ?_
      rw [h, Q1, Q0 hj']
      exact Q14 hj'
  · rw [aj] at h
    by_cases e : 1000 + (ids ps l).length = k
    · rw [if_pos e] at h
      cases h
      exact ⟨by omega, by omega, _, _, _, _, rfl⟩
    · rw [if_neg e] at h
      exact hT.rows k b h
theorem rG {ps : List Pol} {l : List HD} {d : HD} (hi : bM ps d = true) (hm : ¬ kb d ∈ ids ps l) : mpG ps (l ++ [d]) (ids ps l).length = .sl (1000 + (ids ps l).length) 13 0 1 ∧ ∀ j, j < (ids ps l).length → mpG ps (l ++ [d]) j = .sl (1000 + j) 13 0 (grp ps l ((ids ps l).getD j default)).length := by
  have e2 : ids ps (l ++ [d]) = ids ps l ++ [kb d] := by rw [dw, if_pos ⟨hi, hm⟩]
  refine ⟨?_, fun j hj => ?_⟩
  · dsimp only [mpG]
    rw [e2, k9, bj, if_pos (show bM ps d = true ∧ kb d = kb d from ⟨hi, rfl⟩), jn ps l _ hm]
    rfl
  · dsimp only [mpG]
    rw [e2, Q1, Q11 hj, ← Q1, bj, if_neg]
    rintro ⟨_, h⟩
    refine hm ?_
    rw [h, Q1, Q0 hj]
    exact Q14 hj
theorem cH.off {lo hi : Nat} {T : List (Nat × Option Blk)} (h : cH lo hi T) (l : Nat) : cH lo hi ((l, Option.none) :: T) := fun k b hb => by
  rw [aj] at hb
  by_cases e : l = k
  · rw [if_pos e] at hb; cases hb
  · rw [if_neg e] at hb; exact h k b hb
theorem jC.freeD {π : Nat → Nat} {nx' : Nat} : ∀ ds : List D, jC π nx' (ds.map .d) (ds.map .d)
  | [] => trivial
  | _ :: r => ⟨aL.free rfl, jC.freeD r⟩
theorem sf {ps : List Pol} {calls : List HD} {b k : Nat} {E1 : Int} {T : List (Nat × Option Blk)} {d : HD} (hT : Tl ps (calls.take k) T) (hl : (ids ps (calls.take k)).length ≤ 1048576) {j : Nat} (hj : j < (ids ps (calls.take k)).length) :
    Le ⟨⟨Tryz.f11.ntmps, 0⟩, 100000000000000000001, (11, .ptr 100000000000000000000 0) :: (12, .d (ak 1 (ar .u8) (aZ d.pol d.key))) :: ckF ps calls b k,
      (0, some (.cells [.i .i64 E1])) :: (100000000000000000000, some (.cells (d.D.map .d))) :: (1, some (mpB b 100000000000000000000 (ids ps (calls.take k)) (mpG ps (calls.take k)))) :: T⟩
      ⟨⟨Tryz.f11.ntmps, 0⟩, 100000000000000000001, (11, .ptr 100000000000000000000 0) :: (12, .d (ak 1 (ar .u8) (aZ d.pol d.key))) :: ckF ps calls b k,
      (0, some (.cells [.i .i64 E1])) :: (100000000000000000000, some (.cells (d.D.map .d))) :: (1, some (mpB b 100000000000000000000 (ids ps (calls.take k)) fun q => if q = j then .sl 98 13 0 (grp ps (calls.take k) ((ids ps (calls.take k)).getD j default)).length else mpG ps (calls.take k) q)) ::
        (98, some (.row 38 13 (grp ps (calls.take k) ((ids ps (calls.take k)).getD j default)).length fun q => HD.D ((grp ps (calls.take k) ((ids ps (calls.take k)).getD j default)).getD q default))) :: (1000 + j, none) :: T⟩ := by
  have p0 : (fun l => if l = 98 then 1000 + j else l) 0 = 0 := rfl
  have p1 : (fun l => if l = 98 then 1000 + j else l) 1 = 1 := rfl
  have pN : (fun l => if l = 98 then 1000 + j else l) 100000000000000000000 = 100000000000000000000 := rfl
  have p98 : (fun l => if l = 98 then 1000 + j else l) 98 = 1000 + j := rfl
  have pn : ∀ l, ¬ 98 = l → (fun l => if l = 98 then 1000 + j else l) l = l := fun l h => if_neg (Ne.symm h)
  have key : ∀ {l b'}, lkh ((0, some (Blk.cells [.i .i64 E1])) :: (100000000000000000000, some (.cells (d.D.map .d))) :: (1, some (mpB b 100000000000000000000 (ids ps (calls.take k)) fun q => if q = j then .sl 98 13 0 (grp ps (calls.take k) ((ids ps (calls.take k)).getD j default)).length else mpG ps (calls.take k) q)) ::
        (98, some (.row 38 13 (grp ps (calls.take k) ((ids ps (calls.take k)).getD j default)).length fun q => HD.D ((grp ps (calls.take k) ((ids ps (calls.take k)).getD j default)).getD q default))) :: (1000 + j, none) :: T) l = some b' →
      l = 0 ∨ l = 100000000000000000000 ∨ l = 1 ∨ l = 98 ∨ (1000 ≤ l ∧ l < 100000000000000000000 ∧ ¬ l = 1000 + j ∧ lkh T l = some b') := fun {l b'} h => by
    by_cases e0 : 0 = l
    · exact .inl e0.symm
    by_cases eN : 100000000000000000000 = l
    · exact .inr (.inl eN.symm)
    by_cases e1 : 1 = l
    · exact .inr (.inr (.inl e1.symm))
    by_cases e98 : 98 = l
    · exact .inr (.inr (.inr (.inl e98.symm)))
    by_cases ej : 1000 + j = l
    · simp only [aj, if_neg e0, if_neg e1, if_neg eN, if_neg e98, if_pos ej] at h; cases h
    simp only [aj, if_neg e0, if_neg e1, if_neg eN, if_neg e98, if_neg ej] at h
    obtain ⟨r1, r2, _⟩ := hT.rows l b' h
    exact .inr (.inr (.inr (.inr ⟨r1, r2, Ne.symm ej, h⟩)))
  refine Le.pi (fun l => if l = 98 then 1000 + j else l) rfl (pP.out (by ((conv => whnf); repeat' (first | exact trivial | exact aL.free rfl | exact aL.ptr p0 (by decide) | exact aL.ptr pN (by decide) | exact aL.fn1 (aL.ptr p0 (by decide)) | ((with_reducible refine And.intro ?_ ?_) <;> (conv => whnf)))))) (fun l b' h => ?_) fun l l' b1 b2 h h' e => ?_
  · rcases key h with rfl | rfl | rfl | rfl | ⟨r1, r2, r3, h3⟩
    · obtain rfl := Option.some.inj (show some _ = some b' from h)
      exact ⟨by omega, _, rfl, cI.cells ⟨aL.free rfl, trivial⟩⟩
    · obtain rfl := Option.some.inj (show some _ = some b' from h)
      exact ⟨by omega, _, rfl, cI.cells (jC.freeD _)⟩
    · obtain rfl := Option.some.inj (show some _ = some b' from h)
      refine ⟨by omega, _, rfl, cI.obj (by omega) fun q hq => ?_⟩
      by_cases e : q = j
      · rw [if_pos e, e]
        exact ⟨.sl _ _ _ _ (by omega), .sl p98 (by omega)⟩
      · rw [if_neg e]
        exact ⟨.sl _ _ _ _ (by omega), .sl (pn _ (by omega)) (by omega)⟩
    · obtain rfl := Option.some.inj (show some _ = some b' from h)
      refine ⟨by omega, _, (congrArg (lkh _) p98).trans ?_, cI.row⟩
      simp only [aj, if_neg (show ¬ 0 = 1000 + j by omega), if_neg (show ¬ 100000000000000000000 = 1000 + j by omega), if_neg (show ¬ 1 = 1000 + j by omega)]
      exact hT.at_ j hj
    · obtain ⟨_, _, e, z, n, f, rfl⟩ := hT.rows l b' h3
      refine ⟨by omega, _, (congrArg (lkh _) (pn l (by omega))).trans ?_, cI.row⟩
      simp only [aj, if_neg (show ¬ 0 = l by omega), if_neg (show ¬ 100000000000000000000 = l by omega), if_neg (show ¬ 1 = l by omega)]
      exact h3
  · rcases key h with rfl | rfl | rfl | rfl | ⟨r1, r2, r3, h3⟩ <;> rcases key h' with rfl | rfl | rfl | rfl | ⟨r1', r2', r3', h3'⟩ <;> first | rfl | (exfalso; split at e <;> first | omega | (split at e <;> omega)) | (split at e <;> split at e <;> omega)
theorem Tl.hit {ps : List Pol} {l : List HD} {d : HD} {T : List (Nat × Option Blk)} (hT : Tl ps l T) (hi : bM ps d = true) {j : Nat} (hj : j < (ids ps l).length) (hjk : (ids ps l).getD j default = kb d) (hn : ∀ j', j' < (ids ps l).length → (ids ps l).getD j' default = kb d → j' = j) (hl : (ids ps l).length ≤ 1048576) :
    Tl ps (l ++ [d]) ((1000 + j, some (.row 38 13 ((grp ps l (kb d)).length + 1) fun q => HD.D ((grp ps l (kb d) ++ [d]).getD q default))) :: T) := by
  have hm : kb d ∈ ids ps l := by
    rw [← hjk, Q1, Q0 hj]
    exact Q14 hj
  have e2 : ids ps (l ++ [d]) = ids ps l := by rw [dw, if_neg (fun h => h.2 hm)]
  refine ⟨fun q hq => ?_, fun k b h => ?_⟩
  · rw [e2] at hq ⊢
    rw [aj]
    by_cases e : q = j
    · subst e
      rw [if_pos rfl, hjk, bj, if_pos (show bM ps d = true ∧ kb d = kb d from ⟨hi, rfl⟩), Q9, List.length_singleton]
    · rw [if_neg (by omega), hT.at_ q hq, bj, if_neg (fun h => e (hn q hq h.2.symm))]
  · rw [aj] at h
    by_cases e : 1000 + j = k
    · rw [if_pos e] at h
      cases h
      exact ⟨by omega, by omega, _, _, _, _, rfl⟩
    · rw [if_neg e] at h
      exact hT.rows k b h
theorem mM {ps : List Pol} {calls : List HD} {b k nx mm : Nat} {E1 E' : Int} {T hp : List (Nat × Option Blk)} {fr : List (Nat × SV)} {d : HD} {j : Nat} {g : Nat → SV} {f : Nat → List D} (hT : Tl ps (calls.take k) T) (hinc : bM ps d = true) (hj : j < (ids ps (calls.take k)).length) (hjk : (ids ps (calls.take k)).getD j default = kb d)
    (hn : ∀ j', j' < (ids ps (calls.take k)).length → (ids ps (calls.take k)).getD j' default = kb d → j' = j) (hl : (ids ps (calls.take k)).length ≤ 1048576) (hk1 : calls.take (k + 1) = calls.take k ++ [d]) (hE1 : (if d.last < d.first then aU (ce ps calls.length (calls.take k)) 1 else ce ps calls.length (calls.take k)) = E1)
    (hE : (if 8 < (grp ps (calls.take k) (kb d)).length + 1 then aU E1 2 else E1) = E') (hfr : pP (fun l => if l = 1000 + j then 100000000000000000010 else l) 100000000000000000000 fr (ckF ps calls b k)) (h0 : lkh hp 0 = some (.cells [.i .i64 E'])) (h1 : lkh hp 1 = some (mpB b mm (ids ps (calls.take k)) g))
    (hg : ∀ q, g q = if q = j then .sl 100000000000000000010 13 0 ((grp ps (calls.take k) (kb d)).length + 1) else mpG ps (calls.take k) q) (hr : lkh hp 100000000000000000010 = some (.row 38 13 ((grp ps (calls.take k) (kb d)).length + 1) f)) (hf : ∀ i, i < (grp ps (calls.take k) (kb d)).length + 1 → f i = HD.D ((grp ps (calls.take k) (kb d) ++ [d]).getD i default))
    (ho : outB 1000 100000000000000000000 hp = true) : ckR ps calls b k .normal ⟨⟨Tryz.f11.ntmps, 0⟩, nx, fr, hp ++ ((1000 + j, none) :: T)⟩ := by
  have hm : kb d ∈ ids ps (calls.take k) := by
    rw [← hjk, Q1, Q0 hj]
    exact Q14 hj
  have hH := hT.hit hinc hj hjk hn hl
  have e2 : ids ps (calls.take (k + 1)) = ids ps (calls.take k) := by rw [hk1, dw, if_neg (fun h => h.2 hm)]
  have eg : grp ps (calls.take k ++ [d]) (kb d) = grp ps (calls.take k) (kb d) ++ [d] := by rw [bj, if_pos (show bM ps d = true ∧ kb d = kb d from ⟨hinc, rfl⟩)]
  have e1 : ce ps calls.length (calls.take (k + 1)) = E' := by
    rw [hk1, cD]
    unfold bO
    rw [hE1, if_neg (by rw [mr hinc]; decide), if_pos hinc, eg, Q9, List.length_singleton]
    exact hE
  refine ⟨rfl, _, by rw [hk1]; exact hH, ?_⟩
  show Le _ ⟨_, 100000000000000000000, ckF ps calls b k, (0, some (.cells [.i .i64 (ce ps calls.length (calls.take (k + 1)))])) :: (1, some (mpB b 100000000000000000000 (ids ps (calls.take (k + 1))) (mpG ps (calls.take (k + 1))))) :: _⟩
  rw [e1, e2]
  have hA : ∀ l bb, lkh hp l = some bb → lkh (hp ++ ((1000 + j, none) :: T)) l = some bb := fun l bb h => ax h
  refine Le.maps (fun l => if l = 1000 + j then 100000000000000000010 else l) rfl (by decide) hfr (if_neg (by omega)) (if_neg (by omega)) (hA _ _ h0) (aL.free rfl) (hA _ _ h1) (fun q hq => ?_) hH.rows (fun l bb hb => ?_) (fun l l' bb bb' hb hb' e => ?_)
  · rw [hg q]
    by_cases e : q = j
    · rw [if_pos e, e]
      have : mpG ps (calls.take (k + 1)) j = .sl (1000 + j) 13 0 ((grp ps (calls.take k) (kb d)).length + 1) := by
        dsimp only [mpG]
        rw [e2, hjk, hk1, eg, Q9, List.length_singleton]
      rw [this]
      exact ⟨.sl _ _ _ _ (by omega), .sl (if_pos rfl) (by omega)⟩
    · rw [if_neg e]
      have : mpG ps (calls.take (k + 1)) q = mpG ps (calls.take k) q := by
        dsimp only [mpG]
        rw [e2, hk1, bj, if_neg (fun h => e (hn q hq h.2.symm))]
      rw [this]
      exact ⟨.sl _ _ _ _ (by omega), .sl (if_neg (by omega)) (by omega)⟩
  · rw [aj] at hb
    by_cases e : 1000 + j = l
    · rw [if_pos e] at hb
      cases hb
      refine ⟨_, (congrArg (lkh _) (if_pos e.symm)).trans (hA _ _ hr), .inr ⟨_, _, _, _, _, rfl, rfl, hf⟩, by rw [if_pos e.symm]; decide, by rw [if_pos e.symm]; decide⟩
    · rw [if_neg e] at hb
      obtain ⟨r1, r2, _⟩ := hT.rows l bb hb
      refine ⟨bb, ?_, .inl rfl, ?_, ?_⟩
      · rw [if_neg (Ne.symm e), (db ho r1 r2).2, aj, if_neg e]
        exact hb
      all_goals (rw [if_neg (Ne.symm e)]; omega)
  · obtain ⟨r1, r2, _⟩ := hH.rows l bb hb
    obtain ⟨r3, r4, _⟩ := hH.rows l' bb' hb'
    split at e <;> split at e <;> omega
theorem ck_16 {ps : List Pol} {calls : List HD} (hk : ∀ d ∈ calls, IsB d.key) (hl : calls.length ≤ 1048576) {b k : Nat} {E1 : Int} {T : List (Nat × Option Blk)} (hlt : k < calls.length) (hinc : bM ps (calls.getD (k : Int).toNat default) = true)
    (hE1 : (if (calls.getD (k : Int).toNat default).last < (calls.getD (k : Int).toNat default).first then aU (ce ps calls.length (calls.take k)) 1 else ce ps calls.length (calls.take k)) = E1) (hT : Tl ps (calls.take k) T) : Wp TC ck16 (ck6 ps calls b k E1 T) (ckR ps calls b k) := by
  conv => (arg 2; whnf)
  have hk1 := ib hlt
  unfold ck6
  generalize hd : calls.getD (k : Int).toNat default = d at *
  have hKl : (ids ps (calls.take k)).length ≤ 1048576 := Nat.le_trans (jl ps (calls.take k) []) (by rw [Q10, List.length_nil]; omega)
  by_cases hm : kb d ∈ ids ps (calls.take k)
  · obtain ⟨j, hj, hjk⟩ := sP hm
    have hn : ∀ j', j' < (ids ps (calls.take k)).length → (ids ps (calls.take k)).getD j' default = kb d → j' = j := fun j' hj' e => rD (oO ps _) hj hj' (e.trans hjk.symm)
    have hgl := oS ps (calls.take k) ((ids ps (calls.take k)).getD j default)
    rw [Q10] at hgl
    refine Wp.le (sf hT hKl hj) ?_
    refine Wp.frame (nx := 100000000000000000001) (lo := 1000) (m := 100000000000000000000) (T := (1000 + j, none) :: T) (hp := [(0, some (.cells [.i .i64 E1])), (100000000000000000000, some (.cells (d.D.map .d))), (1, some (mpB b 100000000000000000000 (ids ps (calls.take k)) fun q => if q = j then .sl 98 13 0 (grp ps (calls.take k) ((ids ps (calls.take k)).getD j default)).length else mpG ps (calls.take k) q)),
        (98, some (.row 38 13 (grp ps (calls.take k) ((ids ps (calls.take k)).getD j default)).length fun q => HD.D ((grp ps (calls.take k) ((ids ps (calls.take k)).getD j default)).getD q default)))]) (by decide) (hT.rows.off _) rfl ?_
    rw [hjk] at hgl ⊢
    (repeat' (first
    | ((with_reducible refine Wp.drawTailL ac rfl rfl (by kernel_rfl) ?_); conv => whnf)
    | ((refine pH.mk' (aZ d.pol d.key) rfl (fun i hi => rfl) ?_); (conv => whnf))
    | ((refine eE.at_ 1 u53 u9 z24 rfl j hj hjk hn (if_pos rfl) ?_); (conv => whnf))
    | with_reducible refine Wp.seq ?_
    | with_reducible refine Wp.block ?_
    | ((with_reducible first | refine Wp.region ?_ | refine Wp.drawL ac ?_ | refine Wp.cond ?_ | refine Wp.ret ?_ | refine Wp.skip ?_ | refine Wp.exit ?_ | refine Go.mk ?_ | apply ao.of); conv => whnf)
    | with_reducible exact rfl
    | ((with_reducible refine Ov.ok zO ?_); conv => whnf)
    | (with_reducible refine Ov.sh1 (by with_unfolding_all exact rfl) ?_)
    | ((with_reducible refine Ov.quo (by omega) (by omega) (by omega) (fun _ _ => ?_)); conv => whnf)
    | ((with_reducible refine And.intro (show ah _ _ _ _ = true by kernel_rfl) ?_); conv => whnf)
    | ((with_reducible refine And.intro zC ?_); conv => whnf)
    | ((with_reducible refine And.intro ?hb ?_); (case hb => exact ae (zzb rfl) (by omega)); (conv => whnf))
    | ((refine af.a rfl rfl rfl rfl rfl rfl ?hb ?_); (case hb => exact zB); (conv => whnf))
    | ((refine af.b rfl rfl rfl rfl rfl rfl rfl rfl ?hb ?ho ?_); (case hb => exact zB); (case ho => omega); (conv => whnf))
    | ((refine af.c rfl rfl rfl rfl rfl ?hb ?_); (case hb => exact zB); (conv => whnf))
    | ((refine af.d rfl rfl rfl rfl rfl rfl ?hb ?ho ?_); (case hb => exact zB); (case ho => omega); (conv => whnf))
    | (with_reducible refine Or.inl ?_)
    | ((with_reducible refine IxA.ptr ?_); conv => whnf)
    | ((with_reducible refine nil_no (by omega) ?_); (conv => whnf))
    | ((with_reducible refine ag ?_ (fun hn0 => ?_)) <;> (conv => whnf))
    | ((refine bg.mapUp (l := 1) u53 u9 rfl rfl rfl rfl (.sl _ _ _ _ (by omega)) rfl (Or.inl ⟨j, hj, hjk, hn, ?_⟩)); (conv => whnf))
    | ((refine bg.look (eE.at_ 1 u53 u9 z24 rfl j hj hjk hn (if_pos rfl) ?_)); (conv => whnf))
    | (with_reducible refine ab.inline Tryz.func19 rfl rfl rfl (zzb rfl) ?_)
    | ((refine ap (fun hc => ?_) (fun hc => ?_)) <;> (try simp only [decide_eq_true_eq, decide_eq_false_iff_not, Q5, Q20, Bool.and_eq_false_iff, Bool.or_eq_false_iff, Bool.not_eq_true', Bool.not_eq_false', beq_iff_eq, bne_iff_ne, ne_eq, beq_eq_false_iff_ne, bne_eq_false_iff_eq, Bool.not_eq_true, Bool.not_eq_false] at hc) <;> (try (exfalso; omega)) <;> (conv => whnf))))
    all_goals have p0 : (fun l => if l = 1000 + j then 100000000000000000010 else l) 0 = 0 := if_neg (by omega)
    · refine ⟨_, _, _, rfl, rfl, mM hT hinc hj hjk hn hKl hk1 hE1 (E' := 2) ?_ (by ((conv => whnf); repeat' (first | exact trivial | exact aL.free rfl | exact aL.ptr p0 (by decide) | exact aL.fn1 (aL.ptr p0 (by decide)) | ((with_reducible refine And.intro ?_ ?_) <;> (conv => whnf))))) rfl rfl (fun q => ?_) rfl (fun i hi => ?_) rfl⟩
      · unfold aU; (repeat' split) <;> omega
      · by_cases e : q = j
        · rw [if_pos e]; exact (if_pos e).symm
        · rw [if_neg e]; exact (if_neg e).trans (if_neg e).symm
      · exact bN HD.D 13 (grp ps (calls.take k) (kb d)) d _ rfl i hi
    · refine ⟨_, _, _, rfl, rfl, mM hT hinc hj hjk hn hKl hk1 hE1 (E' := 2) ?_ (by ((conv => whnf); repeat' (first | exact trivial | exact aL.free rfl | exact aL.ptr p0 (by decide) | exact aL.fn1 (aL.ptr p0 (by decide)) | ((with_reducible refine And.intro ?_ ?_) <;> (conv => whnf))))) rfl rfl (fun q => ?_) rfl (fun i hi => ?_) rfl⟩
      · unfold aU; (repeat' split) <;> omega
      · by_cases e : q = j
        · rw [if_pos e]; exact (if_pos e).symm
        · rw [if_neg e]; exact (if_neg e).trans (if_neg e).symm
      · exact bN HD.D 13 (grp ps (calls.take k) (kb d)) d _ rfl i hi
    · refine ⟨_, _, _, rfl, rfl, mM hT hinc hj hjk hn hKl hk1 hE1 (E' := E1) ?_ (by ((conv => whnf); repeat' (first | exact trivial | exact aL.free rfl | exact aL.ptr p0 (by decide) | exact aL.fn1 (aL.ptr p0 (by decide)) | ((with_reducible refine And.intro ?_ ?_) <;> (conv => whnf))))) rfl rfl (fun q => ?_) rfl (fun i hi => ?_) rfl⟩
      · unfold aU; (repeat' split) <;> omega
      · by_cases e : q = j
        · rw [if_pos e]; exact (if_pos e).symm
        · rw [if_neg e]; exact (if_neg e).trans (if_neg e).symm
      · exact bN HD.D 13 (grp ps (calls.take k) (kb d)) d _ rfl i hi
    · refine ⟨_, _, _, rfl, rfl, mM hT hinc hj hjk hn hKl hk1 hE1 (E' := E1) ?_ (by ((conv => whnf); repeat' (first | exact trivial | exact aL.free rfl | exact aL.ptr p0 (by decide) | exact aL.fn1 (aL.ptr p0 (by decide)) | ((with_reducible refine And.intro ?_ ?_) <;> (conv => whnf))))) rfl rfl (fun q => ?_) rfl (fun i hi => ?_) rfl⟩
      · unfold aU; (repeat' split) <;> omega
      · by_cases e : q = j
        · rw [if_pos e]; exact (if_pos e).symm
        · rw [if_neg e]; exact (if_neg e).trans (if_neg e).symm
      · exact bN HD.D 13 (grp ps (calls.take k) (kb d)) d _ rfl i hi
  · have hno : ∀ j, j < (ids ps (calls.take k)).length → (ids ps (calls.take k)).getD j default ≠ kb d := fun j hj e => hm (by rw [← e, Q1, Q0 hj]; exact Q14 hj)
    refine Wp.frame (nx := 100000000000000000001) (lo := 1000) (m := 100000000000000000000) (T := T) (hp := [(0, some (.cells [.i .i64 E1])), (100000000000000000000, some (.cells (d.D.map .d))), (1, some (mpB b 100000000000000000000 (ids ps (calls.take k)) (mpG ps (calls.take k))))]) (by decide) hT.rows rfl ?_
    have a1 : (ids ps (calls.take k)).length < (ids ps (calls.take k) ++ [kb d]).length := by rw [Q9, List.length_singleton]; omega
    have a2 := k9 (ids ps (calls.take k)) (kb d)
    have a3 := snoc_un hno
    (repeat' (first
    | ((with_reducible refine Wp.drawTailL ac rfl rfl (by kernel_rfl) ?_); conv => whnf)
    | ((refine pH.mk' (aZ d.pol d.key) rfl (fun i hi => rfl) ?_); (conv => whnf))
    | ((refine eE.miss (l := 1) u53 u9 z24 rfl hno ?_); (conv => whnf))
    | with_reducible refine Wp.seq ?_
    | with_reducible refine Wp.block ?_
    | ((with_reducible first | refine Wp.region ?_ | refine Wp.drawL ac ?_ | refine Wp.cond ?_ | refine Wp.ret ?_ | refine Wp.skip ?_ | refine Wp.exit ?_ | refine Go.mk ?_ | apply ao.of); conv => whnf)
    | with_reducible exact rfl
    | ((with_reducible refine Ov.ok zO ?_); conv => whnf)
    | (with_reducible refine Ov.sh1 (by with_unfolding_all exact rfl) ?_)
    | ((with_reducible refine Ov.quo (by omega) (by omega) (by omega) (fun _ _ => ?_)); conv => whnf)
    | ((with_reducible refine And.intro (show ah _ _ _ _ = true by kernel_rfl) ?_); conv => whnf)
    | ((with_reducible refine And.intro zC ?_); conv => whnf)
    | ((with_reducible refine And.intro ?hb ?_); (case hb => exact ae (zzb rfl) (by omega)); (conv => whnf))
    | ((refine af.a rfl rfl rfl rfl rfl rfl ?hb ?_); (case hb => exact zB); (conv => whnf))
    | ((refine af.b rfl rfl rfl rfl rfl rfl rfl rfl ?hb ?ho ?_); (case hb => exact zB); (case ho => omega); (conv => whnf))
    | ((refine af.c rfl rfl rfl rfl rfl ?hb ?_); (case hb => exact zB); (conv => whnf))
    | ((refine af.d rfl rfl rfl rfl rfl rfl ?hb ?ho ?_); (case hb => exact zB); (case ho => omega); (conv => whnf))
    | (with_reducible refine Or.inl ?_)
    | ((with_reducible refine IxA.ptr ?_); conv => whnf)
    | ((with_reducible refine nil_no (by omega) ?_); (conv => whnf))
    | ((with_reducible refine ag ?_ (fun hn0 => ?_)) <;> (conv => whnf))
    | ((refine bg.mapUp (l := 1) u53 u9 rfl rfl rfl rfl (.sl _ _ _ _ (by omega)) rfl (Or.inr ⟨hno, ?_⟩)); (conv => whnf))
    | ((refine bg.look (eE.at_ 1 u53 u9 z24 rfl _ a1 a2 a3 (if_pos rfl) ?_)); (conv => whnf))
    | (with_reducible refine ab.inline Tryz.func19 rfl rfl rfl (zzb rfl) ?_)
    | ((refine ap (fun hc => ?_) (fun hc => ?_)) <;> (try simp only [decide_eq_true_eq, decide_eq_false_iff_not, Q5, Q20, Bool.and_eq_false_iff, Bool.or_eq_false_iff, Bool.not_eq_true', Bool.not_eq_false', beq_iff_eq, bne_iff_ne, ne_eq, beq_eq_false_iff_ne, bne_eq_false_iff_eq, Bool.not_eq_true, Bool.not_eq_false] at hc) <;> (try (exfalso; omega)) <;> (conv => whnf))))
    refine ⟨_, _, _, rfl, rfl, rfl, (1000 + (ids ps (calls.take k)).length, some (.row 38 13 1 fun q => HD.D (([d] : List HD).getD q default))) :: T, ?_, ?_⟩
    · rw [hk1]
      exact hT.miss hinc hm hKl
    · have p0 : (fun l => if l = 1000 + (ids ps (calls.take k)).length then 100000000000000000010 else l) 0 = 0 := if_neg (by omega)
      have eg : grp ps (calls.take k ++ [d]) (kb d) = [d] := by rw [bj, if_pos (show bM ps d = true ∧ kb d = kb d from ⟨hinc, rfl⟩), jn ps _ _ hm]; rfl
      have e1 : ce ps calls.length (calls.take (k + 1)) = E1 := by
        rw [hk1, cD]
        unfold bO
        rw [hE1, if_neg (by rw [mr hinc]; decide), if_pos hinc, eg]
        exact if_neg (by show ¬ 8 < 1; decide)
      have e2 : ids ps (calls.take (k + 1)) = ids ps (calls.take k) ++ [kb d] := by rw [hk1, dw, if_pos ⟨hinc, hm⟩]
      show Le _ ⟨_, 100000000000000000000, ckF ps calls b k, (0, some (.cells [.i .i64 (ce ps calls.length (calls.take (k + 1)))])) :: (1, some (mpB b 100000000000000000000 (ids ps (calls.take (k + 1))) (mpG ps (calls.take (k + 1))))) :: _⟩
      rw [e1, e2]
      refine Le.maps (fun l => if l = 1000 + (ids ps (calls.take k)).length then 100000000000000000010 else l) rfl (by decide) (by ((conv => whnf); repeat' (first | exact trivial | exact aL.free rfl | exact aL.ptr p0 (by decide) | exact aL.fn1 (aL.ptr p0 (by decide)) | ((with_reducible refine And.intro ?_ ?_) <;> (conv => whnf))))) p0 (if_neg (by omega)) rfl (aL.free rfl) rfl (fun j hj => ?_) ?_ (fun l bb hb => ?_) (fun l l' bb bb' hb hb' e => ?_)
      · rw [Q9, List.length_singleton] at hj
        obtain ⟨m1, m2⟩ := rG (ps := ps) (l := calls.take k) hinc hm
        by_cases e : j = (ids ps (calls.take k)).length
        · rw [e, hk1, m1]
          refine ⟨.sl _ _ _ _ (by omega), ?_⟩
          show aL _ _ (if _ = _ then _ else _) _
          rw [if_pos rfl]
          exact .sl (if_pos rfl) (by omega)
        · rw [hk1, m2 j (by omega)]
          refine ⟨.sl _ _ _ _ (by omega), ?_⟩
          show aL _ _ (if _ = _ then _ else _) _
          rw [if_neg e]
          exact .sl (if_neg (by omega)) (by omega)
      · exact (hT.miss hinc hm hKl).rows
      · rw [aj] at hb
        by_cases e : 1000 + (ids ps (calls.take k)).length = l
        · rw [if_pos e] at hb
          cases hb
          refine ⟨_, (congrArg (lkh _) (if_pos e.symm)).trans rfl, .inr ⟨_, _, _, _, _, rfl, rfl, fun i hi => ?_⟩, by rw [if_pos e.symm]; decide, by rw [if_pos e.symm]; decide⟩
          obtain rfl : i = 0 := by omega
          rfl
        · rw [if_neg e] at hb
          obtain ⟨r1, r2, _⟩ := hT.rows l bb hb
          refine ⟨bb, ?_, .inl rfl, ?_, ?_⟩
          · rw [if_neg (Ne.symm e)]
            exact (db (lo := 1000) (hi := 100000000000000000000) (by rfl) r1 r2).2.trans hb
          all_goals (rw [if_neg (Ne.symm e)]; omega)
      · obtain ⟨r1, r2, _⟩ := (hT.miss hinc hm hKl).rows l bb hb
        obtain ⟨r3, r4, _⟩ := (hT.miss hinc hm hKl).rows l' bb' hb'
        split at e <;> split at e <;> omega
end
section
open Hist
theorem se {ps : List Pol} {calls : List HD} (hk : ∀ d ∈ calls, IsB d.key) (hl : calls.length ≤ 1048576) (b : Nat) (k) (hp : ckP ps calls k) :
    Wp TC ckB (ckI ps calls b k) (sE (ckP ps calls) (ckI ps calls b) (fun k => calls.length - k.1) (calls.length - k.1) (ckQ ps calls b)) := by
  obtain ⟨k, T⟩ := k
  obtain ⟨hk1, hT⟩ := hp
  dsimp only at hk1 hT ⊢
  conv => (arg 2; whnf)
  dsimp only [ckI, ckH]
  by_cases hlt : k < calls.length
  · generalize hE : ce ps calls.length (calls.take k) = E
    have hC := fc ps (calls.getD (k : Int).toNat default).op (calls.getD (k : Int).toNat default).pol (calls.getD (k : Int).toNat default).key (calls.getD (k : Int).toNat default).n
    have hN := ls (calls.getD (k : Int).toNat default)
    have hI := eV (calls.getD (k : Int).toNat default).pol (calls.getD (k : Int).toNat default).key
    obtain ⟨E1, hE1⟩ : ∃ E1, (if (calls.getD (k : Int).toNat default).last < (calls.getD (k : Int).toNat default).first then aU E 1 else E) = E1 := ⟨_, rfl⟩
    generalize hz : mpB b 100000000000000000000 (ids ps (calls.take k)) (mpG ps (calls.take k)) = mp
    (repeat' (first
    | (with_reducible refine Wp.midAt 10 (ckM ps calls b k E1 mp T) ?_ ?_)
    | (with_reducible refine Wp.reg 16 ?_)
    | with_reducible refine Wp.seq ?_
    | with_reducible refine Wp.block ?_
    | ((with_reducible first | refine Wp.region ?_ | refine Wp.drawL ac ?_ | refine Wp.cond ?_ | refine Wp.ret ?_ | refine Wp.skip ?_ | refine Wp.exit ?_ | refine Go.mk ?_ | apply ao.of); conv => whnf)
    | with_reducible exact rfl
    | ((with_reducible refine Ov.ok zO ?_); conv => whnf)
    | (with_reducible refine Ov.sh1 (by with_unfolding_all exact rfl) ?_)
    | ((with_reducible refine Ov.quo (by omega) (by omega) (by omega) (fun _ _ => ?_)); conv => whnf)
    | ((with_reducible refine And.intro (show ah _ _ _ _ = true by kernel_rfl) ?_); conv => whnf)
    | ((with_reducible refine And.intro zC ?_); conv => whnf)
    | ((with_reducible refine And.intro ?hb ?_); (case hb => exact ae (zzb rfl) (by omega)); (conv => whnf))
    | ((refine af.a rfl rfl rfl rfl rfl rfl ?hb ?_); (case hb => exact zB); (conv => whnf))
    | ((refine af.b rfl rfl rfl rfl rfl rfl rfl rfl ?hb ?ho ?_); (case hb => exact zB); (case ho => omega); (conv => whnf))
    | ((refine af.c rfl rfl rfl rfl rfl ?hb ?_); (case hb => exact zB); (conv => whnf))
    | ((refine af.d rfl rfl rfl rfl rfl rfl ?hb ?ho ?_); (case hb => exact zB); (case ho => omega); (conv => whnf))
    | (with_reducible refine Or.inl ?_)
    | ((with_reducible refine IxA.ptr ?_); conv => whnf)
    | ((with_reducible refine nil_no (by omega) ?_); (conv => whnf))
    | ((with_reducible refine ag ?_ (fun hn0 => ?_)) <;> (conv => whnf))
    | ((with_reducible refine ab.pure (hC) rfl rfl ?_); conv => whnf) | ((with_reducible refine ai.pure (hC) rfl rfl ?_); conv => whnf)
    | ((with_reducible refine ab.pure (hI) rfl rfl ?_); conv => whnf) | ((with_reducible refine ai.pure (hI) rfl rfl ?_); conv => whnf)
    | ((with_reducible refine ab.pure (hN) rfl rfl ?_); conv => whnf) | ((with_reducible refine ai.pure (hN) rfl rfl ?_); conv => whnf)
    | (with_reducible refine ab.inline Tryz.func19 rfl rfl rfl (zzb rfl) ?_)
    | ((refine ap (fun hc => ?_) (fun hc => ?_)) <;> (try simp only [decide_eq_true_eq, decide_eq_false_iff_not, Q5, Q20, Bool.and_eq_false_iff, Bool.or_eq_false_iff, Bool.not_eq_true', Bool.not_eq_false', beq_iff_eq, bne_iff_ne, ne_eq, beq_eq_false_iff_ne, bne_eq_false_iff_eq, Bool.not_eq_true, Bool.not_eq_false] at hc) <;> (try (exfalso; omega)) <;> (conv => whnf))))
    · refine Le.keep (Q4 _) (by ((conv => whnf); repeat' (first | exact trivial | exact SV.Le.rfl _ | ((with_reducible refine And.intro ?_ ?_) <;> (conv => whnf))))) (fun l bb hb => ?_)
      have e9 : E1 = 1 := (by rw [← hE1]; unfold aU; (repeat' split) <;> omega)
      rw [e9] at hb
      by_cases e0 : 0 = l
      · subst e0; exact hb
      by_cases e1 : 1 = l
      · subst e1; exact hb
      by_cases e2 : 100000000000000000000 = l
      · subst e2; exact hb
      simp only [aj, if_neg e0, if_neg e1, if_neg e2] at hb ⊢
      exact hb
    · refine Le.keep (Q4 _) (by ((conv => whnf); repeat' (first | exact trivial | exact SV.Le.rfl _ | ((with_reducible refine And.intro ?_ ?_) <;> (conv => whnf))))) (fun l bb hb => ?_)
      have e9 : E1 = 1 := (by rw [← hE1]; unfold aU; (repeat' split) <;> omega)
      rw [e9] at hb
      by_cases e0 : 0 = l
      · subst e0; exact hb
      by_cases e1 : 1 = l
      · subst e1; exact hb
      by_cases e2 : 100000000000000000000 = l
      · subst e2; exact hb
      simp only [aj, if_neg e0, if_neg e1, if_neg e2] at hb ⊢
      exact hb
    · refine Le.keep (Q4 _) (by ((conv => whnf); repeat' (first | exact trivial | exact SV.Le.rfl _ | ((with_reducible refine And.intro ?_ ?_) <;> (conv => whnf))))) (fun l bb hb => ?_)
      have e9 : E1 = E := (by rw [← hE1]; unfold aU; (repeat' split) <;> omega)
      rw [e9] at hb
      by_cases e0 : 0 = l
      · subst e0; exact hb
      by_cases e1 : 1 = l
      · subst e1; exact hb
      by_cases e2 : 100000000000000000000 = l
      · subst e2; exact hb
      simp only [aj, if_neg e0, if_neg e1, if_neg e2] at hb ⊢
      exact hb
    · refine Le.keep (Q4 _) (by ((conv => whnf); repeat' (first | exact trivial | exact SV.Le.rfl _ | ((with_reducible refine And.intro ?_ ?_) <;> (conv => whnf))))) (fun l bb hb => ?_)
      have e9 : E1 = E := (by rw [← hE1]; unfold aU; (repeat' split) <;> omega)
      rw [e9] at hb
      by_cases e0 : 0 = l
      · subst e0; exact hb
      by_cases e1 : 1 = l
      · subst e1; exact hb
      by_cases e2 : 100000000000000000000 = l
      · subst e2; exact hb
      simp only [aj, if_neg e0, if_neg e1, if_neg e2] at hb ⊢
      exact hb
    · subst hz
      subst hE
      refine kK (E' := 3) hl hlt ?a hT ?b (by ((conv => whnf); repeat' (first | exact trivial | exact aL.free rfl | exact aL.ptr rfl (by decide) | exact aL.fn1 (aL.ptr rfl (by decide)) | ((with_reducible refine And.intro ?_ ?_) <;> (conv => whnf))))) rfl rfl ?c
      case a => generalize calls.getD (k : Int).toNat default = d at *; unfold bM dD; simp [*]
      case b => generalize calls.getD (k : Int).toNat default = d at *; unfold bO; rw [hE1, if_pos (by unfold dD; simp [*])]; unfold aU; (repeat' split) <;> first | rfl | (exfalso; omega)
      case c => intro l h1 h2; simp only [aj, if_neg (show ¬ 0 = l by omega), if_neg (show ¬ 1 = l by omega), if_neg (show ¬ 100000000000000000000 = l by omega)]
    · subst hz
      subst hE
      refine kK (E' := 3) hl hlt ?a hT ?b (by ((conv => whnf); repeat' (first | exact trivial | exact aL.free rfl | exact aL.ptr rfl (by decide) | exact aL.fn1 (aL.ptr rfl (by decide)) | ((with_reducible refine And.intro ?_ ?_) <;> (conv => whnf))))) rfl rfl ?c
      case a => generalize calls.getD (k : Int).toNat default = d at *; unfold bM dD; simp [*]
      case b => generalize calls.getD (k : Int).toNat default = d at *; unfold bO; rw [hE1, if_pos (by unfold dD; simp [*])]; unfold aU; (repeat' split) <;> first | rfl | (exfalso; omega)
      case c => intro l h1 h2; simp only [aj, if_neg (show ¬ 0 = l by omega), if_neg (show ¬ 1 = l by omega), if_neg (show ¬ 100000000000000000000 = l by omega)]
    · subst hz
      subst hE
      refine kK (E' := E1) hl hlt ?a hT ?b (by ((conv => whnf); repeat' (first | exact trivial | exact aL.free rfl | exact aL.ptr rfl (by decide) | exact aL.fn1 (aL.ptr rfl (by decide)) | ((with_reducible refine And.intro ?_ ?_) <;> (conv => whnf))))) rfl rfl ?c
      case a => generalize calls.getD (k : Int).toNat default = d at *; unfold bM dD; simp [*]
      case b => generalize calls.getD (k : Int).toNat default = d at *; unfold bO; rw [hE1, if_pos (by unfold dD; simp [*])]; unfold aU; (repeat' split) <;> first | rfl | (exfalso; omega)
      case c => intro l h1 h2; simp only [aj, if_neg (show ¬ 0 = l by omega), if_neg (show ¬ 1 = l by omega), if_neg (show ¬ 100000000000000000000 = l by omega)]
    iterate 2
      · subst hz
        subst hE
        refine kK (E' := E1) hl hlt ?a hT ?b (by ((conv => whnf); repeat' (first | exact trivial | exact aL.free rfl | exact aL.ptr rfl (by decide) | exact aL.fn1 (aL.ptr rfl (by decide)) | ((with_reducible refine And.intro ?_ ?_) <;> (conv => whnf))))) rfl rfl ?c
        case a => generalize calls.getD (k : Int).toNat default = d at *; unfold bM dD; simp [*]
        case b => generalize calls.getD (k : Int).toNat default = d at *; unfold bO; rw [hE1, if_neg (by unfold dD; simp [*]), if_neg (by unfold bM dD; simp [*])]
        case c => intro l h1 h2; simp only [aj, if_neg (show ¬ 0 = l by omega), if_neg (show ¬ 1 = l by omega), if_neg (show ¬ 100000000000000000000 = l by omega)]
    · subst hE
      subst hz
      refine ⟨Wp.le (S' := ck6 ps calls b k E1 T) ?_ ((ck_16 hk hl (b := b) hlt ?_ hE1 hT).mono ?_)⟩
      · exact Le.keep (Q4 _) (by ((conv => whnf); repeat' (first | exact trivial | exact SV.Le.rfl _ | ((with_reducible refine And.intro ?_ ?_) <;> (conv => whnf))))) (fun l bb hb => hb)
      · generalize calls.getD (k : Int).toNat default = d at *; unfold bM dD; simp [*]
      · rintro e S' ⟨rfl, T', h1, h2⟩
        refine (show Wp _ _ _ _ from Wp.le h2 ?_)
        (repeat' (first
    | with_reducible refine Wp.seq ?_
    | with_reducible refine Wp.block ?_
    | ((with_reducible first | refine Wp.region ?_ | refine Wp.drawL ac ?_ | refine Wp.cond ?_ | refine Wp.ret ?_ | refine Wp.skip ?_ | refine Wp.exit ?_ | refine Go.mk ?_ | apply ao.of); conv => whnf)
    | with_reducible exact rfl
    | ((with_reducible refine Ov.ok zO ?_); conv => whnf)
    | (with_reducible refine Ov.sh1 (by with_unfolding_all exact rfl) ?_)
    | ((with_reducible refine Ov.quo (by omega) (by omega) (by omega) (fun _ _ => ?_)); conv => whnf)
    | ((with_reducible refine And.intro (show ah _ _ _ _ = true by kernel_rfl) ?_); conv => whnf)
    | ((with_reducible refine And.intro zC ?_); conv => whnf)
    | ((with_reducible refine And.intro ?hb ?_); (case hb => exact ae (zzb rfl) (by omega)); (conv => whnf))
    | ((refine af.a rfl rfl rfl rfl rfl rfl ?hb ?_); (case hb => exact zB); (conv => whnf))
    | ((refine af.b rfl rfl rfl rfl rfl rfl rfl rfl ?hb ?ho ?_); (case hb => exact zB); (case ho => omega); (conv => whnf))
    | ((refine af.c rfl rfl rfl rfl rfl ?hb ?_); (case hb => exact zB); (conv => whnf))
    | ((refine af.d rfl rfl rfl rfl rfl rfl ?hb ?ho ?_); (case hb => exact zB); (case ho => omega); (conv => whnf))
    | (with_reducible refine Or.inl ?_)
    | ((with_reducible refine IxA.ptr ?_); conv => whnf)
    | ((with_reducible refine nil_no (by omega) ?_); (conv => whnf))
    | ((with_reducible refine ag ?_ (fun hn0 => ?_)) <;> (conv => whnf))
    
    | ((refine ap (fun hc => ?_) (fun hc => ?_)) <;> (try simp only [decide_eq_true_eq, decide_eq_false_iff_not, Q5, Q20, Bool.and_eq_false_iff, Bool.or_eq_false_iff, Bool.not_eq_true', Bool.not_eq_false', beq_iff_eq, bne_iff_ne, ne_eq, beq_eq_false_iff_ne, bne_eq_false_iff_eq, Bool.not_eq_true, Bool.not_eq_false] at hc) <;> (try (exfalso; omega)) <;> (conv => whnf))))
        exact ⟨(k + 1, T'), ⟨hlt, h1⟩, by dsimp only; omega, Le.keep (Q4 _) (by ((conv => whnf); repeat' (first | exact trivial | exact SV.Le.rfl _ | ((with_reducible refine And.intro ?_ ?_) <;> (conv => whnf))))) fun l b h => h⟩
    iterate 2
      · subst hz
        subst hE
        refine kK (E' := E1) hl hlt ?a hT ?b (by ((conv => whnf); repeat' (first | exact trivial | exact aL.free rfl | exact aL.ptr rfl (by decide) | exact aL.fn1 (aL.ptr rfl (by decide)) | ((with_reducible refine And.intro ?_ ?_) <;> (conv => whnf))))) rfl rfl ?c
        case a => generalize calls.getD (k : Int).toNat default = d at *; unfold bM dD; simp [*]
        case b => generalize calls.getD (k : Int).toNat default = d at *; unfold bO; rw [hE1, if_neg (by unfold dD; simp [*]), if_neg (by unfold bM dD; simp [*])]
        case c => intro l h1 h2; simp only [aj, if_neg (show ¬ 0 = l by omega), if_neg (show ¬ 1 = l by omega), if_neg (show ¬ 100000000000000000000 = l by omega)]
    · subst hE
      subst hz
      refine ⟨Wp.le (S' := ck6 ps calls b k E1 T) ?_ ((ck_16 hk hl (b := b) hlt ?_ hE1 hT).mono ?_)⟩
      · exact Le.keep (Q4 _) (by ((conv => whnf); repeat' (first | exact trivial | exact SV.Le.rfl _ | ((with_reducible refine And.intro ?_ ?_) <;> (conv => whnf))))) (fun l bb hb => hb)
      · generalize calls.getD (k : Int).toNat default = d at *; unfold bM dD; simp [*]
      · rintro e S' ⟨rfl, T', h1, h2⟩
        refine (show Wp _ _ _ _ from Wp.le h2 ?_)
        (repeat' (first
    | with_reducible refine Wp.seq ?_
    | with_reducible refine Wp.block ?_
    | ((with_reducible first | refine Wp.region ?_ | refine Wp.drawL ac ?_ | refine Wp.cond ?_ | refine Wp.ret ?_ | refine Wp.skip ?_ | refine Wp.exit ?_ | refine Go.mk ?_ | apply ao.of); conv => whnf)
    | with_reducible exact rfl
    | ((with_reducible refine Ov.ok zO ?_); conv => whnf)
    | (with_reducible refine Ov.sh1 (by with_unfolding_all exact rfl) ?_)
    | ((with_reducible refine Ov.quo (by omega) (by omega) (by omega) (fun _ _ => ?_)); conv => whnf)
    | ((with_reducible refine And.intro (show ah _ _ _ _ = true by kernel_rfl) ?_); conv => whnf)
    | ((with_reducible refine And.intro zC ?_); conv => whnf)
    | ((with_reducible refine And.intro ?hb ?_); (case hb => exact ae (zzb rfl) (by omega)); (conv => whnf))
    | ((refine af.a rfl rfl rfl rfl rfl rfl ?hb ?_); (case hb => exact zB); (conv => whnf))
    | ((refine af.b rfl rfl rfl rfl rfl rfl rfl rfl ?hb ?ho ?_); (case hb => exact zB); (case ho => omega); (conv => whnf))
    | ((refine af.c rfl rfl rfl rfl rfl ?hb ?_); (case hb => exact zB); (conv => whnf))
    | ((refine af.d rfl rfl rfl rfl rfl rfl ?hb ?ho ?_); (case hb => exact zB); (case ho => omega); (conv => whnf))
    | (with_reducible refine Or.inl ?_)
    | ((with_reducible refine IxA.ptr ?_); conv => whnf)
    | ((with_reducible refine nil_no (by omega) ?_); (conv => whnf))
    | ((with_reducible refine ag ?_ (fun hn0 => ?_)) <;> (conv => whnf))
    
    | ((refine ap (fun hc => ?_) (fun hc => ?_)) <;> (try simp only [decide_eq_true_eq, decide_eq_false_iff_not, Q5, Q20, Bool.and_eq_false_iff, Bool.or_eq_false_iff, Bool.not_eq_true', Bool.not_eq_false', beq_iff_eq, bne_iff_ne, ne_eq, beq_eq_false_iff_ne, bne_eq_false_iff_eq, Bool.not_eq_true, Bool.not_eq_false] at hc) <;> (try (exfalso; omega)) <;> (conv => whnf))))
        exact ⟨(k + 1, T'), ⟨hlt, h1⟩, by dsimp only; omega, Le.keep (Q4 _) (by ((conv => whnf); repeat' (first | exact trivial | exact SV.Le.rfl _ | ((with_reducible refine And.intro ?_ ?_) <;> (conv => whnf))))) fun l b h => h⟩
  · obtain rfl : k = calls.length := by omega
    (repeat' (first
    | with_reducible refine Wp.seq ?_
    | with_reducible refine Wp.block ?_
    | ((with_reducible first | refine Wp.region ?_ | refine Wp.drawL ac ?_ | refine Wp.cond ?_ | refine Wp.ret ?_ | refine Wp.skip ?_ | refine Wp.exit ?_ | refine Go.mk ?_ | apply ao.of); conv => whnf)
    | with_reducible exact rfl
    | ((with_reducible refine Ov.ok zO ?_); conv => whnf)
    | (with_reducible refine Ov.sh1 (by with_unfolding_all exact rfl) ?_)
    | ((with_reducible refine Ov.quo (by omega) (by omega) (by omega) (fun _ _ => ?_)); conv => whnf)
    | ((with_reducible refine And.intro (show ah _ _ _ _ = true by kernel_rfl) ?_); conv => whnf)
    | ((with_reducible refine And.intro zC ?_); conv => whnf)
    | ((with_reducible refine And.intro ?hb ?_); (case hb => exact ae (zzb rfl) (by omega)); (conv => whnf))
    | ((refine af.a rfl rfl rfl rfl rfl rfl ?hb ?_); (case hb => exact zB); (conv => whnf))
    | ((refine af.b rfl rfl rfl rfl rfl rfl rfl rfl ?hb ?ho ?_); (case hb => exact zB); (case ho => omega); (conv => whnf))
    | ((refine af.c rfl rfl rfl rfl rfl ?hb ?_); (case hb => exact zB); (conv => whnf))
    | ((refine af.d rfl rfl rfl rfl rfl rfl ?hb ?ho ?_); (case hb => exact zB); (case ho => omega); (conv => whnf))
    | (with_reducible refine Or.inl ?_)
    | ((with_reducible refine IxA.ptr ?_); conv => whnf)
    | ((with_reducible refine nil_no (by omega) ?_); (conv => whnf))
    | ((with_reducible refine ag ?_ (fun hn0 => ?_)) <;> (conv => whnf))
    
    | ((refine ap (fun hc => ?_) (fun hc => ?_)) <;> (try simp only [decide_eq_true_eq, decide_eq_false_iff_not, Q5, Q20, Bool.and_eq_false_iff, Bool.or_eq_false_iff, Bool.not_eq_true', Bool.not_eq_false', beq_iff_eq, bne_iff_ne, ne_eq, beq_eq_false_iff_ne, bne_eq_false_iff_eq, Bool.not_eq_true, Bool.not_eq_false] at hc) <;> (try (exfalso; omega)) <;> (conv => whnf))))
    refine ⟨rfl, T, by rw [List.take_length] at hT; exact hT, Le.keep (Q4 _) (by ((conv => whnf); repeat' (first | exact trivial | exact SV.Le.rfl _ | ((with_reducible refine And.intro ?_ ?_) <;> (conv => whnf))))) fun l b h => h⟩
theorem rW (ps : List Pol) (n : Nat) : ce ps n [] = err0 ps n := rfl
theorem sd {ps : List Pol} {calls : List HD} {b nx mm : Nat} {V : Int} {fr : List (Nat × SV)} {hp : List (Nat × Option Blk)} {g : Nat → SV} (hE : err0 ps calls.length = V) (hfr : pP id 100000000000000000000 fr (ckF ps calls b 0)) (h0 : lkh hp 0 = some (.cells [.i .i64 V])) (h1 : lkh hp 1 = some (mpB b mm [] g)) :
    Le ⟨⟨Tryz.f11.ntmps, 0⟩, nx, fr, hp⟩ (ckI ps calls b (0, [])) := by
  show Le _ ⟨_, 100000000000000000000, ckF ps calls b 0, (0, some (.cells [.i .i64 (ce ps calls.length [])])) :: (1, some (mpB b 100000000000000000000 [] (mpG ps []))) :: []⟩
  rw [rW, hE]
  exact Le.maps id rfl (by decide) hfr rfl rfl h0 (aL.free rfl) h1 (fun j hj => absurd hj (Nat.not_lt_zero _)) (fun k b h => by cases h) (fun k b h => by cases h) fun k k' _ _ h => by cases h
@[reducible] noncomputable def ckD (ps : List Pol) (calls : List HD) (b : Nat) : Blk := mpB b 0 (ids ps calls) fun j => .d (ak 13 HD.D (grp ps calls ((ids ps calls).getD j default)))
theorem ck_stop {ps : List Pol} {calls : List HD} {b : Nat} {T : List (Nat × Option Blk)} (hl : calls.length ≤ 1048576) (hT : Tl ps calls T) : Le (ckI ps calls b (calls.length, T)) ⟨⟨Tryz.f11.ntmps, 0⟩, 100000000000000000000, [(6, .ptr 0 0), (9, mpV b)], [(0, some (.cells [.i .i64 (ce ps calls.length calls)])), (1, some (ckD ps calls b))]⟩ := by
  have hz := Nat.le_trans (jl ps calls []) (show _ ≤ calls.length by rw [List.length_nil]; omega)
  have h := Le.frzT (nt := ⟨Tryz.f11.ntmps, 0⟩) (nx := 100000000000000000000) (lm := 1) (b := b) (mm := 100000000000000000000) (z := 13) (hi := 100000000000000000000) (e := 38) (fr := ckF ps calls b calls.length) (hp := [(0, some (.cells [.i .i64 (ce ps calls.length calls)])), (1, some (mpB b 100000000000000000000 (ids ps calls) (mpG ps calls)))]) (T := T) (keys := ids ps calls) (g := mpG ps calls)
    (fun j => (grp ps calls ((ids ps calls).getD j default)).length) (fun j q => HD.D ((grp ps calls ((ids ps calls).getD j default)).getD q default)) hT.at_ rfl (by unfold ids; omega) rfl (fun j _ => rfl)
  have e : ckI ps calls b (calls.length, T) = ⟨⟨Tryz.f11.ntmps, 0⟩, 100000000000000000000, ckF ps calls b calls.length, [(0, some (.cells [.i .i64 (ce ps calls.length calls)])), (1, some (mpB b 100000000000000000000 (ids ps calls) (mpG ps calls)))] ++ T⟩ := by
    show (⟨_, _, _, (0, some (.cells [.i .i64 (ce ps calls.length (calls.take calls.length))])) :: (1, some (mpB b 100000000000000000000 (ids ps (calls.take calls.length)) (mpG ps (calls.take calls.length)))) :: T⟩ : St) = _
    rw [List.take_length]; rfl
  rw [e]
  refine h.trans (Le.keep (Q4 _) (by ((conv => whnf); repeat' (first | exact trivial | exact SV.Le.rfl _ | ((with_reducible refine And.intro ?_ ?_) <;> (conv => whnf))))) fun l bb hb => ?_)
  by_cases e0 : 0 = l
  · subst e0; exact hb
  by_cases e1 : 1 = l
  · subst e1; exact hb
  simp only [aj, if_neg e0, if_neg e1] at hb ⊢
  exact hb
theorem nw {ps : List Pol} {calls : List HD} (hk : ∀ d ∈ calls, IsB d.key) (hl : calls.length ≤ 1048576) {nt : NT} {fr : List (Nat × SV)} {k : St → SV → Prop}
    (h : ∀ b, k ⟨nt, 100000000000000000000 + 1 + 1 + 1 + 1, fr, [(0, some (.cells [.i .i64 (ce ps calls.length calls)])), (1, some (ckD ps calls b))]⟩ (.tup [mpV b, .i .i64 (ce ps calls.length calls)])) :
    ab TC ⟨nt, 0, fr, []⟩ 11 [.d (ak 4 Pol.D ps), .d (ak 13 HD.D calls)] k := by
  refine ab.inline Tryz.func11 rfl rfl rfl (zzb rfl) ?_
  have hP := bz ps
  (repeat' (first
    | with_reducible refine Wp.seq ?_
    | with_reducible refine Wp.block ?_
    | ((with_reducible first | refine Wp.region ?_ | refine Wp.drawL ac ?_ | refine Wp.cond ?_ | refine Wp.ret ?_ | refine Wp.skip ?_ | refine Wp.exit ?_ | refine Go.mk ?_ | apply ao.of); conv => whnf)
    | with_reducible exact rfl
    | ((with_reducible refine Ov.ok zO ?_); conv => whnf)
    | (with_reducible refine Ov.sh1 (by with_unfolding_all exact rfl) ?_)
    | ((with_reducible refine Ov.quo (by omega) (by omega) (by omega) (fun _ _ => ?_)); conv => whnf)
    | ((with_reducible refine And.intro (show ah _ _ _ _ = true by kernel_rfl) ?_); conv => whnf)
    | ((with_reducible refine And.intro zC ?_); conv => whnf)
    | ((with_reducible refine And.intro ?hb ?_); (case hb => exact ae (zzb rfl) (by omega)); (conv => whnf))
    | ((refine af.a rfl rfl rfl rfl rfl rfl ?hb ?_); (case hb => exact zB); (conv => whnf))
    | ((refine af.b rfl rfl rfl rfl rfl rfl rfl rfl ?hb ?ho ?_); (case hb => exact zB); (case ho => omega); (conv => whnf))
    | ((refine af.c rfl rfl rfl rfl rfl ?hb ?_); (case hb => exact zB); (conv => whnf))
    | ((refine af.d rfl rfl rfl rfl rfl rfl ?hb ?ho ?_); (case hb => exact zB); (case ho => omega); (conv => whnf))
    | (with_reducible refine Or.inl ?_)
    | ((with_reducible refine IxA.ptr ?_); conv => whnf)
    | ((with_reducible refine nil_no (by omega) ?_); (conv => whnf))
    | ((with_reducible refine ag ?_ (fun hn0 => ?_)) <;> (conv => whnf))
    | ((with_reducible refine ab.pure (hP) rfl rfl ?_); conv => whnf) | ((with_reducible refine ai.pure (hP) rfl rfl ?_); conv => whnf)
    | (with_reducible refine ab.inline Tryz.func19 rfl rfl rfl (zzb rfl) ?_)
    | ((with_reducible refine bg.makeMap (fun b => ?_)); conv => whnf)
    | ((refine ap (fun hc => ?_) (fun hc => ?_)) <;> (try simp only [decide_eq_true_eq, decide_eq_false_iff_not, Q5, Q20, Bool.and_eq_false_iff, Bool.or_eq_false_iff, Bool.not_eq_true', Bool.not_eq_false', beq_iff_eq, bne_iff_ne, ne_eq, beq_eq_false_iff_ne, bne_eq_false_iff_eq, Bool.not_eq_true, Bool.not_eq_false] at hc) <;> (try (exfalso; omega)) <;> (conv => whnf))))
  all_goals
    refine Wp.midE 0 (ι := List (Nat × Option Blk)) (fun T => Tl ps calls T) (fun T => ckI ps calls b (calls.length, T)) (Wp.le (S' := ckI ps calls b (0, [])) (sd ?_ (by ((conv => whnf); repeat' (first | exact trivial | exact aL.free rfl | exact aL.ptr rfl (by decide) | exact aL.fn1 (aL.ptr rfl (by decide)) | ((with_reducible refine And.intro ?_ ?_) <;> (conv => whnf))))) rfl rfl) (Wp.loopP (c := ckB) (ckP ps calls) (ckI ps calls b) (fun k => calls.length - k.1) (0, []) ?_ (Le.blks fun _ _ h => h) fun k hp => se hk hl b k hp)) ?_
  all_goals first
    | (unfold err0 aU; (repeat' split) <;> omega)
    | exact ⟨Nat.zero_le _, ⟨fun j hj => absurd hj (Nat.not_lt_zero j), fun k b h => by cases h⟩⟩
    | skip
  all_goals
    intro T hT
    refine Wp.le (ck_stop hl hT) ?_
    (repeat' (first
    | with_reducible refine Wp.seq ?_
    | with_reducible refine Wp.block ?_
    | ((with_reducible first | refine Wp.region ?_ | refine Wp.drawL ac ?_ | refine Wp.cond ?_ | refine Wp.ret ?_ | refine Wp.skip ?_ | refine Wp.exit ?_ | refine Go.mk ?_ | apply ao.of); conv => whnf)
    | with_reducible exact rfl
    | ((with_reducible refine Ov.ok zO ?_); conv => whnf)
    | (with_reducible refine Ov.sh1 (by with_unfolding_all exact rfl) ?_)
    | ((with_reducible refine Ov.quo (by omega) (by omega) (by omega) (fun _ _ => ?_)); conv => whnf)
    | ((with_reducible refine And.intro (show ah _ _ _ _ = true by kernel_rfl) ?_); conv => whnf)
    | ((with_reducible refine And.intro zC ?_); conv => whnf)
    | ((with_reducible refine And.intro ?hb ?_); (case hb => exact ae (zzb rfl) (by omega)); (conv => whnf))
    | ((refine af.a rfl rfl rfl rfl rfl rfl ?hb ?_); (case hb => exact zB); (conv => whnf))
    | ((refine af.b rfl rfl rfl rfl rfl rfl rfl rfl ?hb ?ho ?_); (case hb => exact zB); (case ho => omega); (conv => whnf))
    | ((refine af.c rfl rfl rfl rfl rfl ?hb ?_); (case hb => exact zB); (conv => whnf))
    | ((refine af.d rfl rfl rfl rfl rfl rfl ?hb ?ho ?_); (case hb => exact zB); (case ho => omega); (conv => whnf))
    | (with_reducible refine Or.inl ?_)
    | ((with_reducible refine IxA.ptr ?_); conv => whnf)
    | ((with_reducible refine nil_no (by omega) ?_); (conv => whnf))
    | ((with_reducible refine ag ?_ (fun hn0 => ?_)) <;> (conv => whnf))
    
    | ((refine ap (fun hc => ?_) (fun hc => ?_)) <;> (try simp only [decide_eq_true_eq, decide_eq_false_iff_not, Q5, Q20, Bool.and_eq_false_iff, Bool.or_eq_false_iff, Bool.not_eq_true', Bool.not_eq_false', beq_iff_eq, bne_iff_ne, ne_eq, beq_eq_false_iff_ne, bne_eq_false_iff_eq, Bool.not_eq_true, Bool.not_eq_false] at hc) <;> (try (exfalso; omega)) <;> (conv => whnf))))
  all_goals exact h b
end
section
namespace Hist
def pF (ps : List Pol) (l : List HD) : Bool := srch ps l (spI l) l.length (2 ^ l.length - 1) []
def kW (ps : List Pol) (calls : List HD) : Bool := decide (ce ps calls.length calls = 0) && (ids ps calls).all fun k => pF ps (grp ps calls k)
theorem cJ {e f : Int} (h : f ≠ 0) : aU e f ≠ 0 := by unfold aU; split <;> omega
theorem stepE_0 {ps : List Pol} {e : Int} {pre : List HD} {d : HD} (h : bO ps e pre d = 0) : e = 0 ∧ ¬ d.last < d.first ∧ dD ps d = false ∧ (bM ps d = true → (grp ps (pre ++ [d]) (kb d)).length ≤ 8) := by
  unfold bO at h
  by_cases h1 : d.last < d.first
  · rw [if_pos h1] at h
    dsimp only at h
    split at h
    · exact absurd h (cJ (by decide))
    · split at h
      · split at h
        · exact absurd h (cJ (by decide))
        · exact absurd h (cJ (by decide))
      · exact absurd h (cJ (by decide))
  · rw [if_neg h1] at h
    dsimp only at h
    split at h
    · exact absurd h (cJ (by decide))
    · rename_i hb
      split at h
      · split at h
        · exact absurd h (cJ (by decide))
        · exact ⟨h, h1, by simpa using hb, fun _ => by omega⟩
      · rename_i hi
        exact ⟨h, h1, by simpa using hb, fun h9 => absurd h9 hi⟩
theorem o9 {ps : List Pol} {n : Nat} (l : List HD) : ∀ m, m ≤ l.length → ce ps n (l.take m) = 0 → err0 ps n = 0 ∧ (∀ d ∈ l.take m, ¬ d.last < d.first ∧ dD ps d = false) ∧ ∀ k, (grp ps (l.take m) k).length ≤ 8
  | 0, _, h => ⟨h, fun d hd => by simp at hd, fun k => by simp [grp]⟩
  | m + 1, hm, h => by
    have ht : l.take (m + 1) = l.take m ++ [l[m]] := by rw [List.take_add_one, Q0 (by omega)]; rfl
    rw [ht, cD] at h
    obtain ⟨h1, h2, h3, h4⟩ := stepE_0 h
    obtain ⟨g1, g2, g3⟩ := o9 l m (by omega) h1
    rw [ht]
    refine ⟨g1, fun d hd => ?_, fun k => ?_⟩
    · rcases List.mem_append.1 hd with hd | hd
      · exact g2 d hd
      · rw [List.mem_singleton.1 hd]; exact ⟨h2, h3⟩
    · rw [bj]
      split
      · rename_i hi
        have := h4 hi.1
        rw [bj, if_pos (show bM ps l[m] = true ∧ kb l[m] = kb l[m] from ⟨hi.1, rfl⟩), hi.2] at this
        exact this
      · exact g3 k
theorem s6 {ps : List Pol} {l : List HD} (h : ce ps l.length l = 0) : aG ps = 0 ∧ l.length ≤ 4096 ∧ (∀ d ∈ l, ¬ d.last < d.first ∧ dD ps d = false) ∧ ∀ k, (grp ps l k).length ≤ 8 := by
  have := o9 (ps := ps) (n := l.length) l l.length (Q4 _)
  rw [List.take_length] at this
  obtain ⟨h1, h2, h3⟩ := this h
  unfold err0 at h1
  split at h1
  · exact absurd h1 (cJ (by decide))
  · exact ⟨h1, by omega, h2, h3⟩
def lf (n : Nat) (seen : List Nat) : Nat := ((List.range n).filter fun j => !seen.contains j).length
theorem s0 {p q : Nat → Bool} (h : ∀ x, p x = true → q x = true) : ∀ l : List Nat, (l.filter p).length ≤ (l.filter q).length
  | [] => Q4 _
  | x :: l => by
    have := s0 h l
    rw [List.filter_cons, List.filter_cons]
    by_cases hp : p x = true
    · rw [if_pos hp, if_pos (h x hp), List.length_cons, List.length_cons]; omega
    · rw [if_neg hp]; split
      · rw [List.length_cons]; omega
      · exact this
theorem sZ {p q : Nat → Bool} (h : ∀ x, p x = true → q x = true) {j : Nat} (hp : p j = false) (hq : q j = true) : ∀ l : List Nat, j ∈ l → (l.filter p).length < (l.filter q).length
  | x :: l, hj => by
    have hle := s0 h l
    rw [List.filter_cons, List.filter_cons]
    by_cases e : x = j
    · rw [e, if_neg (by rw [hp]; decide), if_pos hq, List.length_cons]; omega
    · have hj' : j ∈ l := by
        rcases Q22 hj with hj | hj
        · exact absurd hj.symm e
        · exact hj
      have := sZ h hp hq l hj'
      by_cases hp' : p x = true
      · rw [if_pos hp', if_pos (h x hp'), List.length_cons, List.length_cons]; omega
      · rw [if_neg hp']; split
        · rw [List.length_cons]; omega
        · exact this
theorem lf_lt {n j : Nat} {seen : List Nat} (hj : j < n) (hs : ¬ j ∈ seen) : lf n (seen ++ [j]) < lf n seen := by
  refine sZ (j := j) (fun x hx => ?_) ?_ ?_ _ (List.mem_range.2 hj)
  · simp at hx ⊢; exact hx.1
  · simp
  · simpa using hs
end Hist
open Hist
theorem ml : ∀ n : Nat, n ≤ 8 → IntKind.i64.wrap (1 * 2 ^ min (n : Int).toNat IntKind.i64.bits) - 1 = ((2 ^ n - 1 : Nat) : Int) ∧ popc (2 ^ n - 1) ≤ n ∧ 2 ^ n - 1 < 256 := by decide +kernel
theorem grp_mem {ps : List Pol} {l : List HD} {k : ByteArray} {d : HD} (h : d ∈ grp ps l k) : d ∈ l := (List.mem_filter.1 h).1
theorem hk_end {ps : List Pol} {calls : List HD} {b r nx : Nat} {seen : List Nat} {fr : List (Nat × SV)} {hp : List (Nat × Option Blk)} (hfr : pP id 100000000000000000005 fr [(0, .d (ak 4 Pol.D ps)), (21, itV r)]) (h0 : lkh hp 100000000000000000004 = some (itB r b (ids ps calls).length seen)) (h1 : lkh hp 1 = some (ckD ps calls b)) :
    Le ⟨⟨Tryz.f6.ntmps, 0⟩, nx, fr, hp⟩ ⟨⟨Tryz.f6.ntmps, 0⟩, 100000000000000000005, [(0, .d (ak 4 Pol.D ps)), (21, itV r)], [(100000000000000000004, some (itB r b (ids ps calls).length seen)), (1, some (ckD ps calls b))]⟩ := by
  refine Le.pi id rfl hfr.out (fun l b' h => ?_) fun l l' _ _ _ _ e => e
  by_cases e0 : 100000000000000000004 = l
  · subst e0
    obtain rfl := Option.some.inj (show some _ = some b' from h)
    exact ⟨by omega, _, h0, cI.obj (Nat.zero_le _) fun j hj => absurd hj (Nat.not_lt_zero j)⟩
  by_cases e1 : 1 = l
  · subst e1
    obtain rfl := Option.some.inj (show some _ = some b' from h)
    exact ⟨by omega, _, h1, cI.obj (Nat.zero_le _) fun j hj => ⟨.d _, aL.free rfl⟩⟩
  simp only [aj, if_neg e0, if_neg e1] at h
  cases h
theorem eU {ps : List Pol} {calls : List HD} (hk : ∀ d ∈ calls, IsB d.key) (hl : calls.length ≤ 1048576) :
    Pure TC 6 [.d (ak 4 Pol.D ps), .d (ak 13 HD.D calls)] (.tup [.b (kW ps calls), .i .i64 (ce ps calls.length calls)]) := by
  refine Pure.mk' Tryz.func6 rfl rfl (zzb rfl) ?_
  (repeat' (first
    | with_reducible refine Wp.seq ?_
    | with_reducible refine Wp.block ?_
    | ((with_reducible first | refine Wp.region ?_ | refine Wp.drawL ac ?_ | refine Wp.cond ?_ | refine Wp.ret ?_ | refine Wp.skip ?_ | refine Wp.exit ?_ | refine Go.mk ?_ | apply ao.of); conv => whnf)
    | with_reducible exact rfl
    | ((with_reducible refine Ov.ok zO ?_); conv => whnf)
    | (with_reducible refine Ov.sh1 (by with_unfolding_all exact rfl) ?_)
    | ((with_reducible refine Ov.quo (by omega) (by omega) (by omega) (fun _ _ => ?_)); conv => whnf)
    | ((with_reducible refine And.intro (show ah _ _ _ _ = true by kernel_rfl) ?_); conv => whnf)
    | ((with_reducible refine And.intro zC ?_); conv => whnf)
    | ((with_reducible refine And.intro ?hb ?_); (case hb => exact ae (zzb rfl) (by omega)); (conv => whnf))
    | ((refine af.a rfl rfl rfl rfl rfl rfl ?hb ?_); (case hb => exact zB); (conv => whnf))
    | ((refine af.b rfl rfl rfl rfl rfl rfl rfl rfl ?hb ?ho ?_); (case hb => exact zB); (case ho => omega); (conv => whnf))
    | ((refine af.c rfl rfl rfl rfl rfl ?hb ?_); (case hb => exact zB); (conv => whnf))
    | ((refine af.d rfl rfl rfl rfl rfl rfl ?hb ?ho ?_); (case hb => exact zB); (case ho => omega); (conv => whnf))
    | (with_reducible refine Or.inl ?_)
    | ((with_reducible refine IxA.ptr ?_); conv => whnf)
    | ((with_reducible refine nil_no (by omega) ?_); (conv => whnf))
    | ((with_reducible refine ag ?_ (fun hn0 => ?_)) <;> (conv => whnf))
    | ((refine nw hk hl (fun b => ?_)); conv => whnf)
    | ((refine bg.range (l := 1) u53 rfl rfl (fun r => ?_)); conv => whnf)
    | ((refine ap (fun hc => ?_) (fun hc => ?_)) <;> (try simp only [decide_eq_true_eq, decide_eq_false_iff_not, Q5, Q20, Bool.and_eq_false_iff, Bool.or_eq_false_iff, Bool.not_eq_true', Bool.not_eq_false', beq_iff_eq, bne_iff_ne, ne_eq, beq_eq_false_iff_ne, bne_eq_false_iff_eq, Bool.not_eq_true, Bool.not_eq_false] at hc) <;> (try (exfalso; omega)) <;> (conv => whnf))))
  · unfold kW; rw [decide_eq_false hc]; exact .rfl _
  obtain ⟨hp, h4096, hord, h8⟩ := s6 hc
  have hF : ∀ j : Nat, Pure TC 13 [sesS ps (grp ps calls ((ids ps calls).getD j default)) (spI (grp ps calls ((ids ps calls).getD j default))), .i .i64 (IntKind.i64.wrap (1 * 2 ^ min ((grp ps calls ((ids ps calls).getD j default)).length : Int).toNat IntKind.i64.bits) - 1), .d (.val (.slice none 0 0))] (.b (pF ps (grp ps calls ((ids ps calls).getD j default)))) := fun j => by
    have h9 := h8 ((ids ps calls).getD j default)
    obtain ⟨g1, g2, g3⟩ := ml _ h9
    exact (kv hp _ (spI (grp ps calls ((ids ps calls).getD j default))) h9 (fun e he => hk e (grp_mem he)) _ _ [] g3 g2 (by rw [List.length_nil]; omega) (fun e he => by cases he)).leX (.cons (.rfl _) (.cons (.i g1) (.cons .nil .nil)))
  have hS : ∀ j : Nat, Pure TC 12 [.d (ak 13 HD.D (grp ps calls ((ids ps calls).getD j default)))] (.i .i64 (spI (grp ps calls ((ids ps calls).getD j default)))) := fun j => ni _ (Nat.le_trans (oS _ _ _) h4096)
  have hO : ∀ j : Nat, IntKind.i64.wrap (1 * 2 ^ min ((grp ps calls ((ids ps calls).getD j default)).length : Int).toNat IntKind.i64.bits) - 1 = ((2 ^ (grp ps calls ((ids ps calls).getD j default)).length - 1 : Nat) : Int) ∧ 2 ^ (grp ps calls ((ids ps calls).getD j default)).length - 1 < 256 := fun j => ⟨(ml _ (h8 _)).1, (ml _ (h8 _)).2.2⟩
  refine Wp.loopP (ι := List Nat) (fun seen => ∀ j ∈ seen, j < (ids ps calls).length ∧ pF ps (grp ps calls ((ids ps calls).getD j default)) = true)
    (fun seen => ⟨⟨Tryz.f6.ntmps, 0⟩, 100000000000000000005, [(0, .d (ak 4 Pol.D ps)), (21, itV r)], [(100000000000000000004, some (itB r b (ids ps calls).length seen)), (1, some (ckD ps calls b))]⟩) (fun seen => lf (ids ps calls).length seen) [] (fun j hj => by cases hj) ?_ ?_
  · refine Le.keep (Q4 _) (by ((conv => whnf); repeat' (first | exact trivial | exact SV.Le.rfl _ | ((with_reducible refine And.intro ?_ ?_) <;> (conv => whnf))))) fun l bb hb => ?_
    by_cases e0 : 100000000000000000004 = l
    · subst e0; exact hb
    by_cases e1 : 1 = l
    · subst e1; exact hb
    simp only [aj, if_neg e0, if_neg e1] at hb
    cases hb
  · intro seen hseen
    (repeat' (first
    | with_reducible refine Wp.seq ?_
    | with_reducible refine Wp.block ?_
    | ((with_reducible first | refine Wp.region ?_ | refine Wp.drawL ac ?_ | refine Wp.cond ?_ | refine Wp.ret ?_ | refine Wp.skip ?_ | refine Wp.exit ?_ | refine Go.mk ?_ | apply ao.of); conv => whnf)
    | with_reducible exact rfl
    | ((with_reducible refine Ov.ok zO ?_); conv => whnf)
    | (with_reducible refine Ov.sh1 (by with_unfolding_all exact rfl) ?_)
    | ((with_reducible refine Ov.quo (by omega) (by omega) (by omega) (fun _ _ => ?_)); conv => whnf)
    | ((with_reducible refine And.intro (show ah _ _ _ _ = true by kernel_rfl) ?_); conv => whnf)
    | ((with_reducible refine And.intro zC ?_); conv => whnf)
    | ((with_reducible refine And.intro ?hb ?_); (case hb => exact ae (zzb rfl) (by omega)); (conv => whnf))
    | ((refine af.a rfl rfl rfl rfl rfl rfl ?hb ?_); (case hb => exact zB); (conv => whnf))
    | ((refine af.b rfl rfl rfl rfl rfl rfl rfl rfl ?hb ?ho ?_); (case hb => exact zB); (case ho => omega); (conv => whnf))
    | ((refine af.c rfl rfl rfl rfl rfl ?hb ?_); (case hb => exact zB); (conv => whnf))
    | ((refine af.d rfl rfl rfl rfl rfl rfl ?hb ?ho ?_); (case hb => exact zB); (case ho => omega); (conv => whnf))
    | (with_reducible refine Or.inl ?_)
    | ((with_reducible refine IxA.ptr ?_); conv => whnf)
    | ((with_reducible refine nil_no (by omega) ?_); (conv => whnf))
    | ((with_reducible refine ag ?_ (fun hn0 => ?_)) <;> (conv => whnf))
    | ((refine bg.next (li := 100000000000000000004) (lm := 1) rfl rfl rfl rfl (by decide) (fun j hj hjs => ?_) (fun hall => ?_)) <;> (conv => whnf))
    | ((refine bg.entry (li := 100000000000000000004) (lm := 1) rfl rfl rfl rfl (by assumption) ?_); conv => whnf)
    | ((with_reducible refine ab.pure (hS _) rfl rfl ?_); conv => whnf) | ((with_reducible refine ai.pure (hS _) rfl rfl ?_); conv => whnf)
    | ((with_reducible refine ab.pure (hF _) rfl rfl ?_); conv => whnf) | ((with_reducible refine ai.pure (hF _) rfl rfl ?_); conv => whnf)
    | ((with_reducible refine Ov.ok (IntWalk.i64_in _ (by have := hO j; omega)) ?_); (conv => whnf))
    | ((refine ap (fun hc => ?_) (fun hc => ?_)) <;> (try simp only [decide_eq_true_eq, decide_eq_false_iff_not, Q5, Q20, Bool.and_eq_false_iff, Bool.or_eq_false_iff, Bool.not_eq_true', Bool.not_eq_false', beq_iff_eq, bne_iff_ne, ne_eq, beq_eq_false_iff_ne, bne_eq_false_iff_eq, Bool.not_eq_true, Bool.not_eq_false] at hc) <;> (try (exfalso; omega)) <;> (conv => whnf))))
    · have hf : kW ps calls = false := by
        unfold kW
        rw [Bool.and_eq_false_iff]
        right
        rw [List.all_eq_false]
        refine ⟨_, ?_, by rw [‹pF ps (grp ps calls ((ids ps calls).getD _ default)) = false›]; decide⟩
        rw [Q1, Q0 ‹_ < (ids ps calls).length›]
        exact Q14 _
      rw [hf, ‹ce ps calls.length calls = 0›]; exact .rfl _
    · refine ⟨seen ++ [_], fun q hq => ?_, lf_lt ‹_› ‹_›, hk_end (by ((conv => whnf); repeat' (first | exact trivial | exact aL.free rfl | ((with_reducible refine And.intro ?_ ?_) <;> (conv => whnf))))) rfl rfl⟩
      rcases List.mem_append.1 hq with hq | hq
      · exact hseen q hq
      · rw [List.mem_singleton.1 hq]
        exact ⟨‹_›, ‹_›⟩
    · have hf : kW ps calls = true := by
        unfold kW
        rw [Q5, Q23]
        refine ⟨decide_eq_true ‹_›, fun k hk => ?_⟩
        obtain ⟨j, hj, e⟩ := sP hk
        rw [← e]
        exact (hseen j (hall j hj)).2
      rw [hf, ‹ce ps calls.length calls = 0›]; exact .rfl _
end
namespace Hist
structure Sm (d e : HD) : Prop where
  who : e.who = d.who
  op : e.op = d.op
  pol : e.pol = d.pol
  key : e.key = d.key
  n : e.n = d.n
  r : e.r = d.r
inductive ct (P : HD → HD → Prop) : List HD → List HD → Prop
  | nil : ct P [] []
  | cons {d e : HD} {l w : List HD} (h : P d e) (t : ct P l w) : ct P (d :: l) (e :: w)
theorem ct.len {P : HD → HD → Prop} {l w : List HD} (h : ct P l w) : w.length = l.length := by
  induction h with
  | nil => rfl
  | cons _ _ ih => rw [List.length_cons, List.length_cons, ih]
theorem ct.mono {P Q : HD → HD → Prop} (hPQ : ∀ d e, P d e → Q d e) {l w : List HD} (h : ct P l w) : ct Q l w := by
  induction h with
  | nil => exact .nil
  | cons h _ ih => exact .cons (hPQ _ _ h) ih
theorem ct.app {P : HD → HD → Prop} {l w l' w' : List HD} (h : ct P l w) (h' : ct P l' w') : ct P (l ++ l') (w ++ w') := by
  induction h with
  | nil => exact h'
  | cons h _ ih => exact .cons h ih
theorem ct.at_ {P : HD → HD → Prop} {l w : List HD} (h : ct P l w) : ∀ i, i < l.length → P (l.getD i default) (w.getD i default) := by
  induction h with
  | nil => intro i hi; exact absurd hi (Nat.not_lt_zero i)
  | cons h _ ih =>
    intro i hi
    cases i with
    | zero => exact h
    | succ i => exact ih i (by rw [List.length_cons] at hi; omega)
theorem Sm.bad {d e : HD} (h : Sm d e) (ps : List Pol) : dD ps e = dD ps d := by unfold dD; rw [h.op, h.pol, h.key, h.n]
theorem Sm.cnt {d e : HD} (h : Sm d e) : cp e = cp d := by unfold cp; rw [h.op, h.r]
theorem Sm.inc {d e : HD} (h : Sm d e) (ps : List Pol) : bM ps e = bM ps d := by unfold bM; rw [h.bad, h.cnt, h.pol, h.key]
theorem Sm.kb {d e : HD} (h : Sm d e) : kb e = kb d := by unfold Hist.kb; rw [h.pol, h.key]
theorem ct.ids {l w : List HD} (h : ct Sm l w) (ps : List Pol) : ids ps w = ids ps l := by
  unfold Hist.ids
  have : ∀ ks, lr ps ks w = lr ps ks l := by
    induction h with
    | nil => intro ks; rfl
    | cons h _ ih => intro ks; unfold lr; rw [ih, h.inc ps, h.kb]
  exact this []
theorem ct.grp {P : HD → HD → Prop} (hP : ∀ d e, P d e → Sm d e) {l w : List HD} (h : ct P l w) (ps : List Pol) (k : ByteArray) : ct P (grp ps l k) (grp ps w k) := by
  unfold Hist.grp
  induction h with
  | nil => exact .nil
  | cons h _ ih =>
    have h' := hP _ _ h
    rw [List.filter_cons, List.filter_cons, h'.inc ps, h'.kb]
    split
    · exact .cons h ih
    · exact ih
theorem ct.used {l w : List HD} (h : ct Sm l w) (n : Int) : usedB w n = usedB l n := by
  unfold usedB
  induction h with
  | nil => rfl
  | cons h _ ih => rw [List.any_cons, List.any_cons, ih, h.r, h.n]
theorem ct.maps {α : Type} {f : HD → α} (hf : ∀ d e, Sm d e → f e = f d) {l w : List HD} (h : ct Sm l w) : w.map f = l.map f := by
  induction h with
  | nil => rfl
  | cons h _ ih => rw [List.map_cons, List.map_cons, ih, hf _ _ h]
theorem ct.mu {l w : List HD} (h : ct Sm l w) (n : Int) : mu w n = mu l n := by
  unfold Hist.mu
  rw [h.maps (f := fun d => d.r.serial) (fun d e h => by rw [h.r]), h.maps (f := fun d => d.n) (fun d e h => h.n)]
theorem ct.spF {l w : List HD} (h : ct Sm l w) : ∀ (f : Nat) (n : Int), spF w f n = spF l f n
  | 0, _ => rfl
  | f + 1, n => by unfold Hist.spF; rw [h.used, h.spF f]
theorem Sm.doH {d e : HD} (h : Sm d e) (ps : List Pol) (spare : Int) (xs : List Cel) : doH ps spare xs e = doH ps spare xs d := by
  unfold Hist.doH ser
  rw [h.op, h.pol, h.key, h.n, h.r]
theorem ct.play {l w : List HD} (h : ct Sm l w) (ps : List Pol) (spare : Int) : play ps spare w = play ps spare l := by
  unfold Hist.play
  have : ∀ xs, w.foldl (fun xs d => (Hist.doH ps spare xs d).2) xs = l.foldl (fun xs d => (Hist.doH ps spare xs d).2) xs := by
    induction h with
    | nil => intro xs; rfl
    | cons h _ ih => intro xs; rw [List.foldl_cons, List.foldl_cons, h.doH, ih]
  exact this []
theorem ct.rpl {done done' : List HD} (h : ct Sm done done') {d e : HD} (hd : Sm d e) (ps : List Pol) (spare : Int) : lZ ps spare done' e = lZ ps spare done d := by
  unfold lZ
  rw [h.play, hd.doH, hd.r]
theorem ct.try_ {P : HD → HD → Prop} (hP : ∀ d e, P d e → Sm d e) (hT : ∀ d d' e e', P d d' → P e e' → d'.last < e'.first → d.last < e.first) {l w : List HD} (h : ct P l w) {done done' : List HD} (hd : ct Sm done done') {ps : List Pol} {spare : Int} {left i : Nat} (hi : i < l.length) (ht : mZ ps l spare left done i = true) : mZ ps w spare left done' i = true := by
  unfold mZ at ht ⊢
  rw [Q5, Q5, Q23] at ht ⊢
  obtain ⟨⟨h1, h2⟩, h3⟩ := ht
  refine ⟨⟨h1, fun j hj => ?_⟩, by rw [hd.rpl (hP _ _ (h.at_ i hi))]; exact h3⟩
  rw [h.len] at hj
  have h4 := h2 j hj
  rw [Bool.not_eq_true', Bool.and_eq_false_iff] at h4 ⊢
  rcases h4 with h4 | h4
  · exact .inl h4
  · right
    rw [decide_eq_false_iff_not] at h4 ⊢
    exact fun h5 => h4 (hT _ _ _ _ (h.at_ j (List.mem_range.1 hj)) (h.at_ i hi) h5)
theorem ct.srch {P : HD → HD → Prop} (hP : ∀ d e, P d e → Sm d e) (hT : ∀ d d' e e', P d d' → P e e' → d'.last < e'.first → d.last < e.first) {l w : List HD} (h : ct P l w) {ps : List Pol} {spare : Int} : ∀ (f left : Nat) {done done' : List HD}, ct Sm done done' → srch ps l spare f left done = true → srch ps w spare f left done' = true
  | 0, left, _, _, _, hs => hs
  | f + 1, left, done, done', hd, hs => by
    unfold Hist.srch at hs ⊢
    rw [Q20] at hs ⊢
    rcases hs with hs | hs
    · exact .inl hs
    · right
      rw [List.any_eq_true] at hs ⊢
      obtain ⟨i, hi, hs⟩ := hs
      rw [Q5] at hs
      refine ⟨i, by rw [h.len]; exact hi, ?_⟩
      rw [Q5]
      have hi' := List.mem_range.1 hi
      exact ⟨h.try_ hP hT hd hi' hs.1, h.srch hP hT f _ (hd.app (.cons (hP _ _ (h.at_ i hi')) .nil)) hs.2⟩
theorem ct.step {P : HD → HD → Prop} (hP : ∀ d e, P d e → Sm d e) {l w : List HD} (h : ct P l w) {d e : HD} (hd : P d e) {ps : List Pol} {v : Int} (ht : e.last < e.first ↔ d.last < d.first) : bO ps v w e = bO ps v l d := by
  have hS := hP _ _ hd
  have hg := ((h.app (.cons hd .nil)).grp hP ps (kb d)).len
  unfold bO
  rw [hS.bad, hS.inc, hS.kb, hg]
  by_cases h1 : d.last < d.first
  · rw [if_pos h1, if_pos (ht.2 h1)]
  · rw [if_neg h1, if_neg (fun h2 => h1 (ht.1 h2))]
theorem ct.err0 {P : HD → HD → Prop} (hP : ∀ d e, P d e → Sm d e) (ht : ∀ d e, P d e → e.last < e.first → d.last < d.first) {ps : List Pol} {l w : List HD} (h : ct P l w) : ∀ {pre pre' : List HD} {v : Int}, ct P pre pre' → (∀ d ∈ l, ¬ d.last < d.first) → o7 ps v pre' w = o7 ps v pre l := by
  induction h with
  | nil => intro _ _ _ _ _; rfl
  | cons h _ ih =>
    intro pre pre' v hp hl
    unfold o7
    rw [hp.step hP h ⟨ht _ _ h, fun h9 => absurd h9 (hl _ (List.mem_cons_self ..))⟩]
    exact ih (hp.app (.cons h .nil)) fun d hd => hl d (List.mem_cons_of_mem _ hd)
end Hist
end Go.Proofs.YtlplngmpggkloaaGreat
