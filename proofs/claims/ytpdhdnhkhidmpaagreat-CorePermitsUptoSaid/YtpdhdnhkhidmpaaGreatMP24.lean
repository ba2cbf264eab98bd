/- Parts of the proof, one behind the other: Cu3, Cw2, Cw3. Lemmas and contracts of functions; no condition of its own. -/
import Derived.Test.YtpdhdnhkhidmpaaGreatMP23
set_option linter.unusedVariables false
set_option linter.unusedSimpArgs false
namespace Go.Proofs.YtpdhdnhkhidmpaaGreat
open Go.RowKit
set_option maxRecDepth 100000
set_option maxHeartbeats 80000000
theorem SV.Le.any {x : SV} : SV.Le x .any := ⟨fun _ _ _ _ _ => .any _⟩
def lh (q : Nat → Int × Int) (S : Nat → Core.Wk) : Prop := ∀ w, isC (S w).s = true → q w = ((S w).x.op, (S w).x.n)
def pU (p : Pick) (S : Nat → Core.Wk) (q : Nat → Int × Int) : Nat → Int × Int := if p.kind = 1 ∧ isC (S p.who.toNat).s = false then Dir.upd q p.who.toNat (p.op, p.n) else q
theorem lh.play {P : Core.Ops} {M : Core.Mc} {S : Nat → Core.Wk} {p : Pick} {q : Nat → Int × Int} (h : lh q S) : lh (pU p S q) (ck P M S p).S := by
 unfold ck pU
 by_cases e0 : p.kind = 0
 ·rw [if_pos e0, if_neg (fun h9 => by have := h9.1; omega)]
  cases hc : isC (S p.who.toNat).s with
  | true =>
   rw [if_pos rfl]
   intro w hw
   have hw : isC (Core.nx P M S p.who.toNat w).s = true := hw
   show q w = ((Core.nx P M S p.who.toNat w).x.op, (Core.nx P M S p.who.toNat w).x.n)
   by_cases e : w = p.who.toNat
   ·subst e
    rw [h _ hc, Core.nx, Dir.upd_same]
    dsimp only
    rw [Core.step_op, (Core.step_kn M (S _).x (S _).s).2.2]
   ·rw [Core.nx, Dir.upd_ne _ _ e] at hw ⊢
    exact h w hw
  | false => rw [if_neg (by decide)]; exact h
 ·rw [if_neg e0]
  by_cases e1 : p.kind = 1
  ·rw [if_pos e1]
   cases hc : isC (S p.who.toNat).s with
   | true => rw [if_pos rfl, if_neg (fun h9 => by cases h9.2)]; exact h
   | false =>
    rw [if_neg (show ¬ (false = true) by decide), if_pos (show p.kind = 1 ∧ false = false from ⟨e1, rfl⟩)]
    intro w hw
    by_cases e : w = p.who.toNat
    ·subst e
     show Dir.upd q _ _ _ = ((Dir.upd S _ (nQ p) _).x.op, (Dir.upd S _ (nQ p) _).x.n)
     rw [Dir.upd_same, Dir.upd_same]; rfl
    ·replace hw : isC (Dir.upd S p.who.toNat (nQ p) w).s = true := hw
     show Dir.upd q _ _ w = ((Dir.upd S _ (nQ p) w).x.op, (Dir.upd S _ (nQ p) w).x.n)
     rw [Dir.upd_ne _ _ e] at hw ⊢
     rw [Dir.upd_ne _ _ e]
     exact h w hw
  ·rw [if_neg e1, if_neg (fun h9 => e1 h9.1)]; exact h
set_option maxRecDepth 100000
theorem px (ps : List Pol) (room : Int) : Core.OpsR2 (aa ps room) where
 allow := (cn ps room).allow
 rel := (cn ps room).rel
 peek := (cn ps room).peek
 acq p c n hn := by
  show (gp p c n).serial ≠ 0 ↔ (gp p c n).e = 0
  unfold gp
  split
  ·exact ⟨fun _ => rfl, fun _ => hn⟩
  ·rename_i h0
   constructor
   ·intro h; exact absurd rfl h
   ·intro h; exact absurd h h0
structure OI (O : List Int) (A : Int) (R : List Int) : Prop where
 p : ((O.filter fun s => decide (0 < s)).length : Int) = A
 n : O.filter (fun s => decide (s ≤ 0)) = R.reverse.map fun x => -x
theorem OI.zero : OI [] 0 [] := ⟨rfl, rfl⟩
theorem OI.acq {O : List Int} {A : Int} {R : List Int} (h : OI O A R) {s : Int} (hs : 0 < s) : OI (O ++ [s]) (A + 1) R := by
 refine ⟨?_, ?_⟩
 ·rw [List.filter_append, List.length_append]
  simp only [List.filter_cons, hs, decide_true, if_true, List.filter_nil, List.length_cons, List.length_nil]
  have := h.p; omega
 ·rw [List.filter_append, h.n]
  have : ¬ s ≤ 0 := by omega
  simp [this]
theorem OI.rel {O : List Int} {A : Int} {R : List Int} (h : OI O A R) {n : Int} (hn : 0 < n) : OI (O ++ [-n]) A (n :: R) := by
 refine ⟨?_, ?_⟩
 ·have : ¬ 0 < -n := by omega
  have e : ([-n].filter fun s => decide (0 < s)) = [] := List.filter_cons_of_neg (by simpa using this)
  rw [List.filter_append, e, List.append_nil]
  exact h.p
 ·rw [List.filter_append, h.n]
  have : -n ≤ 0 := by omega
  simp [this]
structure PI (room : Int) (M : Core.Mc) (S : Nat → Core.Wk) (q : Nat → Int × Int) (G O : List Int) : Prop where
 ex : ∃ A R n, PmI room M S A R G n ∧ OI O A R
 sr : ∀ i, Core.Sr2 (S i).x (S i).s
 cl : lh q S
theorem PI.zero (room : Int) : PI room Core.M0 S0 (fun _ => (0, 0)) [] [] := ⟨⟨0, [], 0, .zero room, .zero⟩, fun _ => trivial, fun w h => by cases h⟩
def p0 (w : Nat) : Pick := ⟨0, w, 5, 0, [], 0, 0⟩
theorem p0_fit {w : Nat} (hw : w < 5) : (p0 w).Fit :=
 ⟨⟨Int.le_refl _, by show (0 : Int) ≤ 2; decide⟩, ⟨by show (0 : Int) ≤ w; omega, by show (w : Int) < 5; omega⟩, ⟨by show (1 : Int) ≤ 5; decide, by show (5 : Int) ≤ 6; decide⟩, by show jH am 5 0 [] 0 = 0; decide, by show (0 : Nat) ≤ 2; omega, fun h => absurd rfl h, ⟨Int.le_refl _, by show (0 : Int) < 40; decide⟩⟩
theorem PI.step {room : Int} {k : Nat} {c : Cst} (h : ca am room k c.M c.S c.xs c.nl ((k : Int) + 1)) (hk : k ≤ 500000) {w : Nat} (hw : w < 5) (hc : isC (c.S w).s = true) {q : Nat → Int × Int} {G O : List Int} (hp : PI room c.M c.S q G O) {r : Core.Rs} (hr : (Core.step (aa am room) c.M (c.S w).x (c.S w).s).r = r) :
  (r.done = true ∧ r.r.e = 0 ∧ (c.S w).x.op = 2 → (1 ≤ r.r.serial ∧ r.r.serial ∉ G) ∧ PI room (Core.mx (aa am room) c.M c.S w) (Core.nx (aa am room) c.M c.S w) q (G ++ [r.r.serial]) (O ++ [r.r.serial])) ∧
  (r.done = true ∧ r.r.e = 0 ∧ (c.S w).x.op = 3 → (1 ≤ (c.S w).x.n ∧ (c.S w).x.n ≤ (Core.mx (aa am room) c.M c.S w).W 33) ∧ PI room (Core.mx (aa am room) c.M c.S w) (Core.nx (aa am room) c.M c.S w) q G (O ++ [-(c.S w).x.n])) ∧
  (¬ (r.done = true ∧ r.r.e = 0 ∧ ((c.S w).x.op = 2 ∨ (c.S w).x.op = 3)) → PI room (Core.mx (aa am room) c.M c.S w) (Core.nx (aa am room) c.M c.S w) q G O) := by
 obtain ⟨⟨A, R, n, hpm, ho⟩, hsr, hcl⟩ := hp
 have hf := p0_fit hw
 have hQ : ck (aa am room) c.M c.S (p0 w) = ⟨Core.mx (aa am room) c.M c.S w, Core.nx (aa am room) c.M c.S w, r, 0⟩ := by
  unfold ck
  have e : (p0 w).who.toNat = w := by show ((w : Int)).toNat = w; omega
  rw [if_pos (show (p0 w).kind = 0 from rfl), e, hc, if_pos rfl, hr]
 have e : (p0 w).who.toNat = w := by show ((w : Int)).toNat = w; omega
 have h1 := nL h hk hf hpm hQ
 have h2 := nK h hk hf hpm.s hQ
 have h3 := hcl.play (P := aa am room) (M := c.M) (p := p0 w)
 rw [hQ] at h3
 have et : pU (p0 w) c.S q = q := if_neg (fun h9 => by have := h9.1; cases this)
 rw [et] at h3
 dsimp only at h1 h2 h3
 unfold pP pO at h1
 rw [e] at h1
 rw [if_pos ⟨rfl, hc⟩, if_pos ⟨rfl, hc⟩] at h1
 dsimp only at h1
 have hs2 := Core.step_s2 (px am room) h.all.inv.c33 (hpm.p.fr w) (hsr w)
 rw [hr] at hs2
 have hs3 : ∀ i, Core.Sr2 (Core.nx (aa am room) c.M c.S w i).x (Core.nx (aa am room) c.M c.S w i).s := fun i => by
  by_cases e : i = w
  ·subst e; unfold Core.nx; rw [Dir.upd_same]; exact hs2.1
  ·unfold Core.nx; rw [Dir.upd_ne _ _ e]; exact hsr i
 have hr0 : r.done = false → r.r.serial = 0 := fun hd => by
  rw [← hr] at hd ⊢
  rw [Core.step_r0 hd]; rfl
 have hR2 := hs2.2
 unfold Core.R2 at hR2
 rw [Core.step_op] at hR2
 generalize Core.mx (aa am room) c.M c.S w = M' at *
 generalize Core.nx (aa am room) c.M c.S w = S' at *
 refine ⟨fun ⟨a1, a2, a3⟩ => ?_, fun ⟨a1, a2, a3⟩ => ?_, fun a => ?_⟩
 ·have b1 : r.r.serial ≠ 0 := by have := hR2 a1; rw [if_pos a3] at this; exact this.2 a2
  rw [if_neg b1] at h1
  have hok : Core.okD r = true := by unfold Core.okD; rw [a1, a2]; rfl
  have eA : Core.tellA (c.S w).x r A = A + 1 := if_pos ⟨a3, hok⟩
  have eR : Core.tellR (c.S w).x r R = R := if_neg (fun h9 => by have := h9.1; omega)
  rw [eA, eR] at h1
  rcases h2 with ⟨g, _⟩ | ⟨_, ⟨g1, _⟩, g2, _, _⟩
  ·exact absurd g b1
  ·exact ⟨⟨g1, g2⟩, ⟨_, _, _, h1, ho.acq (by omega)⟩, hs3, h3⟩
 ·have b1 : r.r.serial = 0 := by have := hR2 a1; rw [if_neg (by omega)] at this; exact this
  rw [if_pos b1] at h1
  have hok : Core.okD r = true := by unfold Core.okD; rw [a1, a2]; rfl
  have eA : Core.tellA (c.S w).x r A = A := if_neg (fun h9 => by have := h9.1; omega)
  have eR : Core.tellR (c.S w).x r R = (c.S w).x.n :: R := if_pos ⟨a3, hok⟩
  rw [eA, eR] at h1
  have := (h1.p.rl (c.S w).x.n (List.mem_cons_self ..)).1
  exact ⟨this, ⟨_, _, _, h1, ho.rel (by omega)⟩, hs3, h3⟩
 ·have b1 : r.r.serial = 0 := by
   cases hd : r.done with
   | false => exact hr0 hd
   | true =>
    have := hR2 hd
    by_cases e2 : (c.S w).x.op = 2
    ·rw [if_pos e2] at this
     apply Classical.byContradiction
     intro h9
     exact a ⟨hd, this.1 h9, .inl e2⟩
    ·rw [if_neg e2] at this; exact this
  rw [if_pos b1] at h1
  have hno : ∀ {o : Int}, (o = 2 ∨ o = 3) → ¬ ((c.S w).x.op = o ∧ Core.okD r = true) := fun {o} h8 h9 => by
   have h7 := h9.2
   unfold Core.okD at h7
   simp only [Bool.and_eq_true, beq_iff_eq, decide_eq_true_eq] at h7
   refine a ⟨h7.1, h7.2, ?_⟩
   rw [h9.1]; exact h8
  have eA : Core.tellA (c.S w).x r A = A := if_neg (hno (.inl rfl))
  have eR : Core.tellR (c.S w).x r R = R := if_neg (hno (.inr rfl))
  rw [eA, eR] at h1
  exact ⟨⟨_, _, _, h1, ho⟩, hs3, h3⟩
set_option maxRecDepth 100000
theorem PI.play {room : Int} {k : Nat} {c : Cst} (h : ca am room k c.M c.S c.xs c.nl ((k : Int) + 1)) (hk : k ≤ 500000) {p : Pick} (hf : p.Fit) (h0 : p.kind ≠ 0) {q : Nat → Int × Int} {G O : List Int} (hp : PI room c.M c.S q G O) :
  PI room (ck (aa am room) c.M c.S p).M (ck (aa am room) c.M c.S p).S (pU p c.S q) G O := by
 obtain ⟨⟨A, R, n, hpm, ho⟩, hsr, hcl⟩ := hp
 have h1 := nL h hk hf hpm rfl
 have h3 := hcl.play (P := aa am room) (M := c.M) (p := p)
 rw [jR (fun h9 => h0 h9.1), jQ (fun h9 => h0 h9.1)] at h1
 have hr : (ck (aa am room) c.M c.S p).r.r.serial = 0 := by
  unfold ck
  rw [if_neg h0]
  split
  ·split <;> rfl
  ·rfl
 rw [if_pos hr] at h1
 refine ⟨⟨A, R, _, h1, ho⟩, fun i => ?_, h3⟩
 unfold ck
 rw [if_neg h0]
 split
 ·split
  ·exact hsr i
  ·show Core.Sr2 (Dir.upd c.S p.who.toNat (nQ p) i).x (Dir.upd c.S p.who.toNat (nQ p) i).s
   by_cases e : i = p.who.toNat
   ·rw [e, Dir.upd_same]
    show Core.Sr2 (aI p.op p.pol p.key p.n) (Core.first (aI p.op p.pol p.key p.n))
    unfold Core.first; (repeat' split) <;> trivial
   ·rw [Dir.upd_ne _ _ e]; exact hsr i
 ·exact hsr i
def cnt (O : List Int) (j : Nat) : Int := ((O.take j).filter fun s => decide (0 < s)).length - ((O.take j).filter fun s => decide (s ≤ 0)).length
theorem ub (O : List Int) : cnt O 0 = 0 := by unfold cnt; simp
theorem cnt_bd (O : List Int) (j : Nat) : -(O.length : Int) ≤ cnt O j ∧ cnt O j ≤ O.length := by
 have h1 := List.length_filter_le (fun s => decide (0 < s)) (O.take j)
 have h2 := List.length_filter_le (fun s => decide (s ≤ 0)) (O.take j)
 have h3 := List.length_take_le' j O
 unfold cnt; omega
theorem uc {O : List Int} {j : Nat} (h : j < O.length) : cnt O (j + 1) = if 0 < O.getD (j : Int).toNat default then cnt O j + 1 else cnt O j - 1 := by
 rw [gI0 h]
 unfold cnt
 rw [List.take_succ_eq_append_getElem h, List.filter_append, List.filter_append, List.length_append, List.length_append]
 split
 ·rename_i e
  have e2 : ¬ O[j] ≤ 0 := by omega
  rw [List.filter_cons_of_pos (by simpa using e), List.filter_cons_of_neg (by simpa using e2)]
  simp; omega
 ·rename_i e
  have e2 : O[j] ≤ 0 := by omega
  rw [List.filter_cons_of_neg (by simpa using e), List.filter_cons_of_pos (by simpa using e2)]
  simp; omega
theorem PI.neg {room : Int} {M : Core.Mc} {S : Nat → Core.Wk} {q : Nat → Int × Int} {G O : List Int} (hp : PI room M S q G O) {j : Nat} (h : j < O.length) (hs : ¬ 0 < O.getD (j : Int).toNat default) : O.getD (j : Int).toNat default ∉ O.take j := by
 obtain ⟨⟨A, R, n, hpm, ho⟩, _, _⟩ := hp
 rw [gI0 h] at hs ⊢
 have hs2 : O[j] ≤ 0 := by omega
 have hnd : (O.filter fun s => decide (s ≤ 0)).Nodup := by
  rw [ho.n]
  have h1 : R.reverse.Nodup := (List.reverse_perm R).nodup_iff.2 hpm.p.rn
  exact List.Pairwise.map _ (fun a b hab e => hab (by omega)) h1
 have e : O = O.take j ++ (O[j] :: O.drop (j + 1)) := by rw [List.getElem_cons_drop, List.take_append_drop]
 intro hm
 have h2 : O.filter (fun s => decide (s ≤ 0)) = (O.take j).filter (fun s => decide (s ≤ 0)) ++ (O[j] :: (O.drop (j + 1)).filter (fun s => decide (s ≤ 0))) := by
  have h3 : ∀ (a b : List Int) (x : Int), x ≤ 0 → (a ++ (x :: b)).filter (fun s => decide (s ≤ 0)) = a.filter (fun s => decide (s ≤ 0)) ++ (x :: b.filter (fun s => decide (s ≤ 0))) := fun a b x hx => by
   rw [List.filter_append, List.filter_cons_of_pos (by simpa using hx)]
  have := h3 (O.take j) (O.drop (j + 1)) O[j] hs2
  rwa [← e] at this
 rw [h2] at hnd
 exact (List.nodup_append.1 hnd).2.2 _ (List.mem_filter.2 ⟨hm, by simpa using hs2⟩) _ (List.mem_cons_self ..) rfl
theorem PI.fin {room : Int} {M : Core.Mc} {S : Nat → Core.Wk} {q : Nat → Int × Int} {G O : List Int} (hp : PI room M S q G O) (hn : ∀ j, (S j).s = .none) : ((Core.hel (aa am room) M).length : Int) = cnt O O.length := by
 obtain ⟨⟨A, R, n, hpm, ho⟩, _, _⟩ := hp
 have h1 := hpm.p.cnt
 have h2 : (fun i => Core.b1 (Core.swB (S i).x (S i).s)) = fun _ => 0 := by funext i; rw [hn i]; rfl
 rw [h2, Core.sumI_zero] at h1
 have h3 := ho.p
 have h4 := congrArg List.length ho.n
 rw [List.length_map, List.length_reverse] at h4
 unfold cnt
 rw [List.take_length]
 omega
theorem PI.held {room : Int} {k : Nat} {c : Cst} (h : ca am room k c.M c.S c.xs c.nl ((k : Int) + 1)) (hk : k ≤ 1000000) (hr : room ≤ 12) {q : Nat → Int × Int} {G O : List Int} (hp : PI room c.M c.S q G O) (q' : Nat → Int × Int) (G' O' : List Int) :
  Fun TC 16 17 [.ptr 14 0] (ah am room (gOf (aa am room) 4 c.S) c.M c.xs c.nl c.f ((k : Int) + 1) ++ cL q' G' O') 17 (.tup [.i .i64 ((Core.hel (aa am room) c.M).length : Nat), .b true]) (ah am room (gOf (aa am room) 4 c.S) c.M c.xs c.nl c.f ((k : Int) + 1) ++ cL q' G' O') := by
 obtain ⟨⟨A, R, n, hpm, ho⟩, _, _⟩ := hp
 obtain ⟨a1, a2, a3, a4, a5⟩ := o4 h hr hpm
 have := held_T (f := c.f) h.xl (dk am room c.M) a1 a2 a3 a5 q' G' O' (ra h hk hr)
 rw [a4.length_eq] at this
 exact this
end Go.Proofs.YtpdhdnhkhidmpaaGreat
