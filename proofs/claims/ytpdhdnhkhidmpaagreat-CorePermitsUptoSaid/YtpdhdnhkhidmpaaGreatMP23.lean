/- Parts of the proof, one behind the other: Ce8b, Ce9, Cf0, Cf4, Cu1, Rf1, Cf4b, Cw1, Rs1. Lemmas and contracts of functions; no condition of its own. -/
import Derived.Test.YtpdhdnhkhidmpaaGreatMP22
set_option linter.unusedVariables false
set_option linter.unusedSimpArgs false
set_option maxHeartbeats 1000000
namespace Go.Proofs.YtpdhdnhkhidmpaaGreat
open Go.RowKit
set_option maxRecDepth 100000
set_option maxHeartbeats 8000000
theorem aw1_r : iY (aa am 2) (itC (aa am 2) 5 aw1) = ⟨true, ⟨0, true, 2, 0, 0, 100⟩⟩ := by kernel_rfl
theorem aw2_r : iY (aa am 2) (itC (aa am 2) 6 aw2) = ⟨true, ⟨0, true, 1, 0, 1, 0⟩⟩ := by kernel_rfl
theorem aw2_c : (itC (aa am 2) 7 aw2).1.W 32 = 2 := by decide +kernel
theorem fitA : Pick.Fit ⟨0, 0, 1, 0, [97], 1, 0⟩ :=
 ⟨by decide, by decide, by decide, by decide, by decide, fun _ _ => ⟨by intro x hx; have hx2 : x ∈ [97] := hx; simp at hx2; omega, by decide, by decide, by decide⟩, by decide⟩
theorem fitB : Pick.Fit ⟨0, 1, 2, 1, [107], 0, 0⟩ :=
 ⟨by decide, by decide, by decide, by decide, by decide, fun _ _ => ⟨by intro x hx; have hx2 : x ∈ [107] := hx; simp at hx2; omega, by decide, by decide, by decide⟩, by decide⟩
theorem aw_runs : ∃ (c1 c2 c3 : Cst), (∀ i j, SV.Lt 1 ((c1.xs i).f j)) ∧ (∀ i j, SV.Lt 1 ((c2.xs i).f j)) ∧ (∀ i j, SV.Lt 1 ((c3.xs i).f j)) ∧
  Fun TC 10 0 [.d (ax 4 Pol.D am), .i .i64 2] [] 14 (.tup [.ptr 0 0, .i .i64 0]) (ah am 2 (gOf (aa am 2) 4 S0) Core.M0 xs0 (au 0) f0' 1) ∧
  Fun TC 27 14 [.ptr 0 0, .i .i64 100] (ah am 2 (gOf (aa am 2) 4 S0) Core.M0 xs0 (au 0) f0' 1) 14 (.tup [.i .i64 100, .i .i64 0]) (ah am 2 (gOf (aa am 2) 4 c1.S) c1.M c1.xs c1.nl c1.f 1) ∧
  Fun TC 28 14 [.ptr 0 0, .i .i64 0, dv 1 0 [97] 1, .i .i64 9] (ah am 2 (gOf (aa am 2) 4 c1.S) c1.M c1.xs c1.nl c1.f 1) 24 (.tup [Rpl.S ⟨0, true, 2, 0, 0, 100⟩, .i .i64 6, .b true]) (bz am 2 c2.S c2.M c2.xs c2.nl c2.f 7) ∧
  Fun TC 28 14 [.ptr 0 0, .i .i64 1, dv 2 1 [107] 0, .i .i64 9] (ah am 2 (gOf (aa am 2) 4 c2.S) c2.M c2.xs c2.nl c2.f 7) 24 (.tup [Rpl.S ⟨0, true, 1, 0, 1, 0⟩, .i .i64 7, .b true]) (bz am 2 c3.S c3.M c3.xs c3.nl c3.f 14) ∧
  Fun TC 29 14 [.ptr 0 0] (ah am 2 (gOf (aa am 2) 4 c3.S) c3.M c3.xs c3.nl c3.f 14) 14 (.i .i64 2) (ah am 2 (gOf (aa am 2) 4 c3.S) c3.M c3.xs c3.nl c3.f 14) ∧
  Fun TC 30 14 [.ptr 0 0] (ah am 2 (gOf (aa am 2) 4 c3.S) c3.M c3.xs c3.nl c3.f 14) 14 (.i .i64 13) (ah am 2 (gOf (aa am 2) 4 c3.S) c3.M c3.xs c3.nl c3.f 14) := by
 have L0 : ca am 2 0 Core.M0 S0 xs0 (au 0) 1 := ca.zero jW (by decide)
 have hT := mb (f := f0') (cnt := 1) (nl := au 0) (L0.cok (by decide) 0 (by decide)) (by decide) (by decide) 100 (by decide) (by decide)
 have L1 : ca am 2 0 aw1.1 S0 xs0 (au 0) 1 := L0.tick (t := min (Core.M0.clk + 100) 4611686018427387903) (by decide)
 obtain ⟨xs1, L2, hS⟩ := il (f := f0') L1 (by decide) (w := 0) (.inl (by decide)) rfl 1 0 [97] 1 fitA.chk (by decide) fitA.kx
 obtain ⟨n, tr, rs, hn, A⟩ := oI (ps := am) (room := 2) (w := 0) (.inl (by decide)) 165 0 ⟨aw1.1, Dir.upd S0 0 aw1.2, xs1, au 0, f0'⟩ (by decide) L2 rfl (Core.T_le (L2.all.inv.cw 0))
 have e := A.count 5 aw1_no aw1_yes
 subst e
 have hr5 := A.rs_it 5 (by decide)
 have hr5 : rs 5 = ⟨true, ⟨0, true, 2, 0, 0, 100⟩⟩ := hr5.trans aw1_r
 have R1 := qZ (cnt := 0) (c := ⟨aw1.1, S0, xs0, au 0, f0'⟩) 1 0 [97] 1 9 (by decide) hS L1.xl A (by decide)
 rw [show rs (5 + 1 - 1) = rs 5 from rfl, hr5] at R1
 obtain ⟨i1, i2, i3⟩ := A.it 6 (by decide)
 have L6 := A.law 6 (by decide)
 have i1 : (tr 6).M = aw2.1 := i1
 have hS1 : ((tr 6).S 1).s = .none := by rw [i3 1 (by decide)]; rfl
 obtain ⟨xs2, L7, hS2⟩ := il (f := (tr 6).f) L6 (by decide) (w := 1) (.inl (by decide)) hS1 2 1 [107] 0 fitB.chk (by decide) fitB.kx
 obtain ⟨n2, tr2, rs2, hn2, B⟩ := oI (ps := am) (room := 2) (w := 1) (.inl (by decide)) 165 6 ⟨(tr 6).M, Dir.upd (tr 6).S 1 aw2.2, xs2, (tr 6).nl, (tr 6).f⟩ (by decide) L7 rfl (Core.T_le (L7.all.inv.cw 1))
 have hz : (((⟨(tr 6).M, Dir.upd (tr 6).S 1 aw2.2, xs2, (tr 6).nl, (tr 6).f⟩ : Cst).M, (⟨(tr 6).M, Dir.upd (tr 6).S 1 aw2.2, xs2, (tr 6).nl, (tr 6).f⟩ : Cst).S 1) : Core.Mc × Core.Wk) = aw2 := by
  show ((tr 6).M, Dir.upd (tr 6).S 1 aw2.2 1) = aw2
  rw [i1, Dir.upd_same]
 have e := B.count 6 (by rw [hz]; exact aw2_no) (by rw [hz]; exact aw2_yes)
 subst e
 have hr6 := B.rs_it 6 (by decide)
 rw [hz] at hr6
 have hr6 : rs2 6 = ⟨true, ⟨0, true, 1, 0, 1, 0⟩⟩ := hr6.trans aw2_r
 have R2 := qZ (cnt := 0) (c := tr 6) 2 1 [107] 0 9 (by decide) hS2 L6.xl B (by decide)
 rw [show rs2 (6 + 1 - 1) = rs2 6 from rfl, hr6] at R2
 obtain ⟨j1, _, _⟩ := B.it 7 (by decide)
 rw [hz] at j1
 have L13 := B.law 7 (by decide)
 have hC := pq (f := (tr2 7).f) (nl := (tr2 7).nl) (cnt := 14) (L13.cok (by decide) 0 (by decide))
 rw [show (tr2 7).M.W 32 = 2 by rw [j1]; exact aw2_c] at hC
 have hP := pl (f := (tr2 7).f) (nl := (tr2 7).nl) (cnt := 14) (L13.cok (by decide) 0 (by decide)) (by decide) (by decide)
 exact ⟨⟨aw1.1, S0, xs0, au 0, f0'⟩, tr 6, tr2 7, L1.xl, L6.xl, L13.xl, oA (nr (by decide)), hT, R1, R2, hC, hP⟩
set_option maxRecDepth 100000
set_option maxHeartbeats 8000000
theorem awake_T : Pure TC 9 [] (.b true) := by
 obtain ⟨c1, c2, c3, x1, x2, x3, hN, hT, hR, hR2, hC, hP⟩ := aw_runs
 have x0 : ∀ i j, SV.Lt 1 ((xs0 i).f j) := fun _ _ => .any
 refine Pure.mk' Tryz.func9 rfl rfl zN ?_
 (repeat' (first | ((first | refine Wp.any ac rfl ?_ | (with_reducible first | refine Go.mk ?_ | apply aj.of | refine ab.pure (lL) rfl rfl ?_)); conv => whnf) | ((refine ab.fn (hN) [] rfl rfl rfl rfl rfl ?ha ?hh ?_); (case ha => exact zA); (case hh => exact zH); (conv => whnf)) | ((refine ab.fn (hT) [0,1,2,3,4,5,6,7,8,9,10,11,12,13] rfl rfl rfl rfl rfl ?ha ?hh ?_); (case ha => exact zA); (case hh => exact oM); (conv => whnf)) | ((refine ab.fn (hR) [0,1,2,3,4,5,6,7,8,9,10,11,12,13] rfl rfl rfl rfl rfl ?ha ?hh ?_); (case ha => exact zA); (case hh => exact oM); (conv => whnf)) | ((refine ab.fn (hR2) [0,1,2,3,15,16,17,18,19,20,21,22,23,24] rfl rfl rfl rfl rfl ?ha ?hh ?_); (case ha => exact zA); (case hh => exact oM); (conv => whnf)) | ((refine ab.fn (hC) [0,1,2,3,27,28,29,30,31,32,33,34,35,36] rfl rfl rfl rfl rfl ?ha ?hh ?_); (case ha => exact zA); (case hh => exact oM); (conv => whnf)) | ((refine ab.fn (hP) [0,1,2,3,27,28,29,30,31,32,33,34,35,36] rfl rfl rfl rfl rfl ?ha ?hh ?_); (case ha => exact zA); (case hh => exact oM); (conv => whnf))))
 exact .b (by decide)
end Go.Proofs.YtpdhdnhkhidmpaaGreat

namespace Go.Proofs.YtpdhdnhkhidmpaaGreat
open Go.RowKit
set_option maxRecDepth 100000
set_option maxHeartbeats 4000000
theorem tA {P : Core.Ops} {M : Core.Mc} {S : Nat → Core.Wk} {p : Pick} (hp : p.Fit) : ∀ j, 5 ≤ j → (ck P M S p).S j = S j := by
 intro j hj
 have hw : j ≠ p.who.toNat := by have := hp.who; omega
 unfold ck
 split
 ·split
  ·show Core.nx P M S p.who.toNat j = S j
   unfold Core.nx; rw [Dir.upd_ne _ _ hw]
  ·rfl
 ·split
  ·split
   ·rfl
   ·show Dir.upd S p.who.toNat (nQ p) j = S j
    rw [Dir.upd_ne _ _ hw]
  ·rfl
variable {ps : List Pol} {room : Int} {w k : Nat} {c0 : Cst} {n : Nat} {tr : Nat → Cst} {rs : Nat → Core.Rs}
@[reducible] def cst0 : Cst := ⟨Core.M0, S0, xs0, au 0, f0'⟩
theorem law0 {room : Int} (h : 1 ≤ room ∧ room ≤ 4096) : ca am room 0 cst0.M cst0.S cst0.xs cst0.nl (((0 : Nat) : Int) + 1) := ca.zero jW h
end Go.Proofs.YtpdhdnhkhidmpaaGreat

namespace Go.Proofs.YtpdhdnhkhidmpaaGreat
open Go.RowKit
set_option maxRecDepth 100000
set_option maxHeartbeats 4000000
structure SerI (M : Core.Mc) (S : Nat → Core.Wk) (L : List Int) (n : Int) : Prop where
 s : Core.Sers M S L.reverse
 le : M.W 33 + Core.pend S ≤ n
theorem pend_ge (S : Nat → Core.Wk) : 0 ≤ Core.pend S := by
 have := Core.sumI_ge (f := fun i => Core.pd (S i)) (n := 64) fun j _ => (Core.pd_bd _).1
 exact this
theorem SerI.zero : SerI Core.M0 S0 [] 0 :=
 ⟨⟨fun _ => Int.le_refl _, fun i _ _ h => absurd rfl h, fun _ h => by simp at h, by simp, fun _ => trivial⟩, by decide⟩
@[reducible] def lp (p : Pick) (e n : Int) : Int := if p.kind = 1 ∧ p.op = 2 ∧ e = 0 then n + 1 else n
theorem nK {room : Int} {k : Nat} {c : Cst} (h : ca am room k c.M c.S c.xs c.nl ((k : Int) + 1)) (hk : k ≤ 500000) {p : Pick} (hp : p.Fit) {L : List Int} {n : Int} (hs : SerI c.M c.S L n) {Q : Pl} (hQ : ck (aa am room) c.M c.S p = Q) :
  (Q.r.r.serial = 0 ∧ SerI Q.M Q.S L (lp p Q.e n)) ∨
  (Q.r.r.serial ≠ 0 ∧ (1 ≤ Q.r.r.serial ∧ Q.r.r.serial ≤ lp p Q.e n) ∧ Q.r.r.serial ∉ L ∧ Q.r.r.g = true ∧ SerI Q.M Q.S (L ++ [Q.r.r.serial]) (lp p Q.e n)) := by
 have hw := hp.who
 have hB : ((k : Int) + 1) + 1 < Dir.FZ := by unfold Dir.FZ; omega
 unfold ck at hQ
 by_cases e0 : p.kind = 0
 ·rw [if_pos e0] at hQ
  have hwant : ∀ e, lp p e n = n := fun e => if_neg (by omega)
  cases hc : isC (c.S p.who.toNat).s with
  | true =>
   rw [hc, if_pos rfl] at hQ
   subst hQ
   rw [hwant]
   have hn := f5 hc
   have h1 := hs.s.step (cn am room) h.all.inv hB p.who.toNat hn (fun hd => by rw [Core.step_r0 hd]; rfl)
   have h2 := Core.pend_step (P := aa am room) h.all.inv hB (i := p.who.toNat) (by omega) hn (h.all.rx _)
   have h3 := (Core.step_sr (cn am room) (M := c.M) (hs.s.sr p.who.toNat)).2
   have h4 := hs.le
   dsimp only
   generalize Core.mx (aa am room) c.M c.S p.who.toNat = M' at h1 h2 ⊢
   generalize Core.nx (aa am room) c.M c.S p.who.toNat = S' at h1 h2 ⊢
   generalize (Core.step (aa am room) c.M (c.S p.who.toNat).x (c.S p.who.toNat).s).r = r at h1 h3 ⊢
   by_cases e : r.r.serial = 0
   ·refine .inl ⟨e, ?_, by omega⟩
    unfold Core.give at h1
    rwa [if_pos e] at h1
   ·have hx := h1.gv r.r.serial (by unfold Core.give; rw [if_neg e]; simp)
    have hg := pend_ge S'
    have hnd := h1.nd
    unfold Core.give at h1 hnd
    rw [if_neg e] at h1 hnd
    refine .inr ⟨e, ⟨hx.1, by omega⟩, ?_, (h3 e).2, ?_, by omega⟩
    ·have := (List.nodup_cons.1 hnd).1
     simpa using this
    ·rw [List.reverse_append]; exact h1
  | false =>
   rw [hc, if_neg (by decide)] at hQ
   subst hQ
   rw [hwant]
   exact .inl ⟨rfl, hs⟩
 ·rw [if_neg e0] at hQ
  by_cases e1 : p.kind = 1
  ·rw [if_pos e1] at hQ
   cases hc : isC (c.S p.who.toNat).s with
   | true =>
    rw [hc, if_pos rfl] at hQ
    subst hQ
    exact .inl ⟨rfl, by rw [show lp p 9 n = n from if_neg (by omega)]; exact hs⟩
   | false =>
    rw [hc, if_neg (by decide)] at hQ
    subst hQ
    have hno := lO hc
    refine .inl ⟨rfl, hs.s.start h.all.inv.c33 (k := nQ p) rfl ?_, ?_⟩
    ·show Core.Sr (aI p.op p.pol p.key p.n) (Core.first (aI p.op p.pol p.key p.n))
     unfold Core.first; (repeat' split) <;> trivial
    ·show c.M.W 33 + Core.pend (Dir.upd c.S p.who.toNat (nQ p)) ≤ lp p 0 n
     rw [Core.pend_start (by omega) hno]
     have hf : (nQ p).s ≠ .none := by
      show Core.first (aI p.op p.pol p.key p.n) ≠ .none
      unfold Core.first; (repeat' split) <;> simp
     rw [Core.pd_some hf]
     have h4 := hs.le
     show c.M.W 33 + (Core.pend c.S + if p.op = 2 ∧ (0 : Int) = 0 then 1 else 0) ≤ if p.kind = 1 ∧ p.op = 2 ∧ (0 : Int) = 0 then n + 1 else n
     split <;> split <;> omega
  ·rw [if_neg e1] at hQ
   subst hQ
   rw [show lp p 0 n = n from if_neg (by omega)]
   exact .inl ⟨rfl, ⟨hs.s.le, hs.s.ne, hs.s.gv, hs.s.nd, hs.s.sr⟩, hs.le⟩
end Go.Proofs.YtpdhdnhkhidmpaaGreat

namespace Go.Proofs.YtpdhdnhkhidmpaaGreat
open Go.RowKit
set_option maxRecDepth 100000
set_option maxHeartbeats 4000000
section
variable {ps : List Pol} {room : Int} {k : Nat} {M : Core.Mc} {S : Nat → Core.Wk} {xs : Nat → XB} {nl : Nat} {f : Nat → List D} {cnt : Int}
theorem ca.all_cel (h : ca ps room k M S xs nl cnt) {c : Cel} (hc : c ∈ Core.allE (aa ps room) M) : eE ps c ∧ gw c.pol c.key := by
 have h1 := ((Core.all_ok (cT ps room) h.all.inv.iw h.all.ih).2 c).1 hc
 have h2 := (bV h1).1
 have h3 := (h.hd _).cel c h2
 have h4 := eL h.ps
 exact ⟨h3, by have := h3.pol; exact ⟨by omega, by omega, h3.key⟩⟩
theorem ra (h : ca ps room k M S xs nl cnt) (hk : k ≤ 1000000) (hr : room ≤ 12) :
  Fun TC 39 14 [.ptr 0 0] (ah ps room (gOf (aa ps room) 4 S) M xs nl f cnt) 14 (.d (ax 4 Cel.D (dk ps room M))) (ah ps room (gOf (aa ps room) 4 S) M xs nl f cnt) := by
 refine pu (h.cok hk 0 (by decide)) ?_ (Core.all_ok (cT ps room) h.all.inv.iw h.all.ih).1 fun c hc => h.all_cel hc
 have h1 := h.all.ge
 have h2 := h.all.room
 have h3 : (aa ps room).room = room := rfl
 omega
end
structure PmI (room : Int) (M : Core.Mc) (S : Nat → Core.Wk) (A : Int) (R L : List Int) (n : Int) : Prop where
 s : SerI M S L n
 p : Core.Pm mq (aa am room) Vt Qt M S A R
theorem kA (P : Core.Ops) : Core.hel P Core.M0 = [] := rfl
theorem PmI.zero (room : Int) : PmI room Core.M0 S0 0 [] [] 0 := by
 refine ⟨.zero, ⟨fun k c h => ?_, fun s h => ?_, ?_, fun i h => absurd rfl h, fun i h => absurd rfl h, fun i => trivial, fun s h => absurd h (by simp), List.nodup_nil, ?_⟩⟩
 ·have : Core.own mq Core.M0 k = none := rfl
  rw [this] at h; cases h
 ·rw [kA] at h; simp at h
 ·rw [kA]; exact List.nodup_nil
 ·rw [kA]
  show (0 : Int) = 0 + Core.sumI 64 (fun _ => 0) - 0
  rw [Core.sumI_zero]; rfl
@[reducible] def pP (p : Pick) (c : Cst) (Q : Pl) (A : Int) : Int := if p.kind = 0 ∧ isC (c.S p.who.toNat).s = true then Core.tellA (c.S p.who.toNat).x Q.r A else A
@[reducible] def pO (p : Pick) (c : Cst) (Q : Pl) (R : List Int) : List Int := if p.kind = 0 ∧ isC (c.S p.who.toNat).s = true then Core.tellR (c.S p.who.toNat).x Q.r R else R
theorem jR {p : Pick} {c : Cst} {Q : Pl} {A : Int} (h : ¬ (p.kind = 0 ∧ isC (c.S p.who.toNat).s = true)) : pP p c Q A = A := if_neg h
theorem jQ {p : Pick} {c : Cst} {Q : Pl} {R : List Int} (h : ¬ (p.kind = 0 ∧ isC (c.S p.who.toNat).s = true)) : pO p c Q R = R := if_neg h
theorem fit_Q {p : Pick} (hp : p.Fit) : Qt p.op p.pol p.key := by
 have hE := hp.chk
 have ho := hp.op
 unfold jH at hE
 split at hE
 ·cases hE
 split at hE
 ·cases hE
 split at hE
 ·rename_i h9; exact absurd hE h9
 split at hE
 ·cases hE
 rename_i h9
 have hl : ((am.length : Nat) : Int) = 2 := rfl
 rw [hl] at h9
 have h0 : p.op ≤ 4 → p.pol = 0 ∨ p.pol = 1 := fun h => by
  have a1 : ¬ p.pol < 0 := fun e => h9 ⟨h, .inl e⟩
  have a2 : ¬ 2 ≤ p.pol := fun e => h9 ⟨h, .inr (.inl e)⟩
  omega
 refine ⟨h0, fun h => ?_⟩
 rcases h0 (by omega) with e | e
 ·exfalso
  apply h9
  refine ⟨by omega, .inr (.inr ?_)⟩
  have hk : mT p.op = 2 := by unfold mT; rw [if_neg (by omega), if_pos h]
  rw [hk, e]; decide
 ·exact e
theorem play_pm {room : Int} {k : Nat} {c : Cst} (h : ca am room k c.M c.S c.xs c.nl ((k : Int) + 1)) (hk : k ≤ 500000) {p : Pick} (hp : p.Fit) {A : Int} {R L : List Int} {n : Int} (hs : PmI room c.M c.S A R L n) {Q : Pl} (hQ : ck (aa am room) c.M c.S p = Q) :
  Core.Pm mq (aa am room) Vt Qt Q.M Q.S (pP p c Q A) (pO p c Q R) := by
 have hw := hp.who
 have hB : ((k : Int) + 1) + 1 < Dir.FZ := by unfold Dir.FZ; omega
 unfold ck at hQ
 by_cases e0 : p.kind = 0
 ·rw [if_pos e0] at hQ
  cases hc : isC (c.S p.who.toNat).s with
  | true =>
   rw [hc, if_pos rfl] at hQ
   have eA : pP p c Q A = Core.tellA (c.S p.who.toNat).x Q.r A := if_pos ⟨e0, hc⟩
   have eR : pO p c Q R = Core.tellR (c.S p.who.toNat).x Q.r R := if_pos ⟨e0, hc⟩
   rw [eA, eR]
   subst hQ
   exact hs.p.step (cT am room) (pW room) (pv am room) h.all hB hs.s.s (by have := h.c33; have : Core.MAX = 4611686018427387903 := rfl; omega) (by omega) (f5 hc)
  | false =>
   rw [jR (by rw [hc]; simp), jQ (by rw [hc]; simp)]
   rw [hc, if_neg (by decide)] at hQ
   subst hQ
   exact hs.p
 ·rw [jR (fun h9 => e0 h9.1), jQ (fun h9 => e0 h9.1)]
  rw [if_neg e0] at hQ
  by_cases e1 : p.kind = 1
  ·rw [if_pos e1] at hQ
   cases hc : isC (c.S p.who.toNat).s with
   | true =>
    rw [hc, if_pos rfl] at hQ
    subst hQ
    exact hs.p
   | false =>
    rw [hc, if_neg (by decide)] at hQ
    subst hQ
    exact hs.p.start (pW room) (by omega) (lO hc) (x := aI p.op p.pol p.key p.n) rfl (fit_Q hp) hp.op
  ·rw [if_neg e1] at hQ
   subst hQ
   exact ⟨hs.p.v, hs.p.b, hs.p.nd, hs.p.pr, hs.p.q, hs.p.fr, hs.p.rl, hs.p.rn, hs.p.cnt⟩
theorem nL {room : Int} {k : Nat} {c : Cst} (h : ca am room k c.M c.S c.xs c.nl ((k : Int) + 1)) (hk : k ≤ 500000) {p : Pick} (hp : p.Fit) {A : Int} {R L : List Int} {n : Int} (hs : PmI room c.M c.S A R L n) {Q : Pl} (hQ : ck (aa am room) c.M c.S p = Q) :
  PmI room Q.M Q.S (pP p c Q A) (pO p c Q R) (if Q.r.r.serial = 0 then L else L ++ [Q.r.r.serial]) (lp p Q.e n) := by
 have h1 := play_pm h hk hp hs hQ
 rcases nK h hk hp hs.s hQ with ⟨e, h2⟩ | ⟨e, _, _, _, h2⟩
 ·rw [if_pos e]; exact ⟨h2, h1⟩
 ·rw [if_neg e]; exact ⟨h2, h1⟩
end Go.Proofs.YtpdhdnhkhidmpaaGreat

namespace Go.Proofs.YtpdhdnhkhidmpaaGreat
open Go.RowKit
set_option maxRecDepth 100000
theorem gI {ys : List Int} {k : Nat} (h : k < ys.length) : ys.getD (0 + (k : Int).toNat) default = ys[k] := by
 rw [Nat.zero_add, Int.toNat_natCast, List.getD_eq_getElem?_getD, List.getElem?_eq_getElem h]; rfl
theorem gI0 {ys : List Int} {k : Nat} (h : k < ys.length) : ys.getD (k : Int).toNat default = ys[k] := by
 rw [Int.toNat_natCast, List.getD_eq_getElem?_getD, List.getElem?_eq_getElem h]; rfl
theorem gN (zs : List Int) (t : Int) : ∀ k, k < zs.length + 1 → b6 zs.length (fun i => aR IntKind.i64 (zs.getD i default)) (fun i => dK [D.val (.int .i64 t)] 1 (0 + i)) k = aR .i64 ((zs ++ [t]).getD k default) := fun k hk => by
 simp only [b6]
 by_cases e : k < zs.length
 ·rw [if_pos e, List.getD_eq_getElem?_getD, List.getD_eq_getElem?_getD, List.getElem?_append_left e]
 ·rw [if_neg e]
  obtain rfl : k = zs.length := by omega
  have : (zs ++ [t]).getD zs.length default = t := by simp
  rw [Nat.sub_self, this]; rfl
set_option maxRecDepth 100000
set_option maxHeartbeats 16000000
theorem has_R (xs : List Int) (n : Int) (ha : xs.length ≤ 16777216) : Fun TC 37 1 [.sl 0 1 0 xs.length, .i .i64 n] [(0, some (aG 2 1 (aR .i64) xs))] 1 (.b (decide (n ∈ xs))) [(0, some (aG 2 1 (aR .i64) xs))] := by
 refine Fun.mk' Tryz.func37 rfl rfl zN (by decide) ?_
 (repeat' (first | ((first | refine Wp.any ac rfl ?_ | (with_reducible first | refine Go.mk ?_ | apply aj.of)); conv => whnf)))
 refine Wp.loopP (ι := Nat) (fun j => j ≤ xs.length ∧ n ∉ xs.take j) (fun j => ⟨⟨Tryz.f37.ntmps, 1⟩, 1, [(1, .i .i64 n), (7, .sl 0 1 0 xs.length), (8, .i .i64 xs.length), (9, .i .i64 j)], [(0, some (aG 2 1 (aR .i64) xs))]⟩) (fun j => xs.length - j) 0 ⟨Nat.zero_le _, by simp⟩ ?_ ?_
 ·(refine Le.by [0] rfl rfl rfl rfl ?_ ?_ <;> (conv => whnf) <;> (repeat' (first | exact trivial | exact ae.rfl rfl | exact ae.sl rfl | exact ⟨rfl, rfl, rfl⟩ | exact fun i hi => rfl | ((with_reducible refine And.intro ?_ ?_) <;> (conv => whnf)))))
 ·rintro j ⟨h1, h2⟩
  (repeat' (first | ((first | refine Wp.any ac rfl ?_ | (with_reducible first | refine Go.mk ?_ | apply aj.of | refine Ov.ok zO ?_ | refine And.intro zC ?_)); conv => whnf) | ((refine ap (fun hc => ?_) (fun hc => ?_)) <;> (try simp only [wz9] at hc) <;> (try (exfalso; omega)) <;> (conv => whnf))))
  ·have hj : j < xs.length := by omega
   rw [gI hj] at hc
   rw [decide_eq_true (show n ∈ xs by rw [← hc]; exact List.getElem_mem hj)]
   (refine af.sealB [0] rfl rfl rfl ?_ ?_); (focus ((conv => whnf); (repeat' (first | exact zE)))); (focus ((conv => whnf); (repeat' (first | exact zE | ((refine And.intro ?_ ?_) <;> (conv => whnf))))))
  ·refine ⟨j + 1, ⟨by omega, ?_⟩, by dsimp only; omega, ?_⟩
   ·have hj : j < xs.length := by omega
    rw [gI hj] at hc
    rw [List.take_succ_eq_append_getElem hj, List.mem_append, List.mem_singleton]
    rintro (h | h)
    ·exact h2 h
    ·exact hc h.symm
   ·(refine Le.by [0] rfl rfl rfl rfl ?_ ?_ <;> (conv => whnf) <;> (repeat' (first | exact trivial | exact ae.rfl rfl | exact ae.sl rfl | exact ⟨rfl, rfl, rfl⟩ | exact fun i hi => rfl | ((with_reducible refine And.intro ?_ ?_) <;> (conv => whnf)))))
  ·obtain rfl : j = xs.length := by omega
   rw [List.take_length] at h2
   rw [decide_eq_false h2]
   (refine af.sealB [0] rfl rfl rfl ?_ ?_); (focus ((conv => whnf); (repeat' (first | exact zE)))); (focus ((conv => whnf); (repeat' (first | exact zE | ((refine And.intro ?_ ?_) <;> (conv => whnf))))))
set_option maxRecDepth 100000
set_option maxHeartbeats 8000000
@[reducible] def mJ (q : Nat → Int × Int) (g o : Nat) : Blk := .cells [.ptr 0 0, .i .u8 (q 0).1, .any, .any, .i .i64 (q 0).2, .i .u8 (q 1).1, .any, .any, .i .i64 (q 1).2, .i .u8 (q 2).1, .any, .any, .i .i64 (q 2).2, .i .u8 (q 3).1, .any, .any, .i .i64 (q 3).2, .i .u8 (q 4).1, .any, .any, .i .i64 (q 4).2, .sl 15 1 0 g, .sl 16 1 0 o]
@[reducible] def cL (q : Nat → Int × Int) (G O : List Int) : List (Nat × Option Blk) := [(14, some (mJ q G.length O.length)), (15, some (aG 2 1 (aR .i64) G)), (16, some (aG 2 1 (aR .i64) O))]
theorem qY {St' : St} {ps : List Pol} {room : Int} {S : Nat → Core.Wk} {L : List Nat} (hm : 13 ≤ L.length) (hid : ∀ i, i < 13 → L.getD i 0 = i) :
  ∀ j, j < 67 → ai St' L (aq ps room (gOf (aa ps room) 4 S) j) (aq ps room (gOf (aa ps room) 4 S) j) ∧ SV.Lt 13 (aq ps room (gOf (aa ps room) 4 S) j) := fun j _ =>
 ⟨ai.same (aF (fM _ S) j) hm hid, aF (fM _ S) j⟩
def hs (l : List Cel) (j : Nat) : List Int := (l.take j).flatMap (·.held)
theorem rm {l : List Cel} {j : Nat} (h : j < l.length) : hs l (j + 1) = hs l j ++ (l.getD (j : Int).toNat default).held := by
 have e : l.getD (j : Int).toNat default = l[j] := by rw [Int.toNat_natCast, List.getD_eq_getElem?_getD, List.getElem?_eq_getElem h]; rfl
 rw [e]; unfold hs
 rw [List.take_succ_eq_append_getElem h, List.flatMap_append]; simp
theorem hs_len {l : List Cel} (h2 : ∀ c ∈ l, c.held.length ≤ 2) (j : Nat) : (hs l j).length ≤ 2 * l.length := by
 have h : ∀ ys : List Cel, (∀ c ∈ ys, c.held.length ≤ 2) → (ys.flatMap (·.held)).length ≤ 2 * ys.length := by
  intro ys
  induction ys with
  | nil => intro _; simp
  | cons y ys ih =>
   intro hh
   rw [List.flatMap_cons, List.length_append, List.length_cons]
   have := ih fun c hc => hh c (List.mem_cons_of_mem _ hc)
   have := hh y (List.mem_cons_self ..)
   omega
 have := h (l.take j) fun c hc => h2 c (List.mem_of_mem_take hc)
 have := List.length_take_le' j l
 unfold hs; omega
theorem hs_all (l : List Cel) : hs l l.length = l.flatMap (·.held) := by unfold hs; rw [List.take_length]
theorem hs_pre (l : List Cel) (j : Nat) : ∃ r, l.flatMap (·.held) = hs l j ++ r := ⟨(l.drop j).flatMap (·.held), by unfold hs; rw [← List.flatMap_append, List.take_append_drop]⟩
theorem hs_new {l : List Cel} (hn : (l.flatMap (·.held)).Nodup) {j : Nat} (h : j < l.length) {i : Nat} (hi : i < (l.getD (j : Int).toNat default).held.length) :
  (l.getD (j : Int).toNat default).held.getD (i : Int).toNat default ∉ hs l j ++ (l.getD (j : Int).toNat default).held.take i := by
 obtain ⟨r, hr⟩ := hs_pre l (j + 1)
 rw [rm h] at hr
 generalize l.getD (j : Int).toNat default = c at hi hr ⊢
 have e : c.held.getD (i : Int).toNat default = c.held[i] := by rw [Int.toNat_natCast, List.getD_eq_getElem?_getD, List.getElem?_eq_getElem hi]; rfl
 rw [e]
 rw [hr] at hn
 have h1 : c.held = c.held.take i ++ (c.held[i] :: c.held.drop (i + 1)) := by rw [List.getElem_cons_drop, List.take_append_drop]
 rw [h1, ← List.append_assoc, List.append_assoc _ _ r] at hn
 intro hm
 have := (List.nodup_append.1 hn).2.2 _ hm _ (List.mem_append_left _ (List.mem_cons_self ..))
 exact this rfl
theorem held_T {room : Int} {S : Nat → Core.Wk} {M : Core.Mc} {xs : Nat → XB} {nl : Nat} {f : Nat → List D} {cnt : Int} (xl : ∀ i j, SV.Lt 1 ((xs i).f j)) (l : List Cel) (hl : l.length ≤ 4096) (h0 : ∀ c ∈ l, c.pol ≠ 1 → c.held = []) (h2 : ∀ c ∈ l, c.held.length ≤ 2) (hn : (l.flatMap (·.held)).Nodup) (q : Nat → Int × Int) (G O : List Int)
  (hC : Fun TC 39 14 [.ptr 0 0] (ah am room (gOf (aa am room) 4 S) M xs nl f cnt) 14 (.d (ax 4 Cel.D l)) (ah am room (gOf (aa am room) 4 S) M xs nl f cnt)) :
  Fun TC 16 17 [.ptr 14 0] (ah am room (gOf (aa am room) 4 S) M xs nl f cnt ++ cL q G O) 17 (.tup [.i .i64 (l.flatMap (·.held)).length, .b true]) (ah am room (gOf (aa am room) 4 S) M xs nl f cnt ++ cL q G O) := by
 refine Fun.mk' Tryz.func16 rfl rfl zN (by decide) ?_
 (repeat' (first | ((first | refine Wp.any ac rfl ?_ | (with_reducible first | refine Go.mk ?_ | apply aj.of)); conv => whnf) | ((refine ab.fn (hC) [0,1,2,3,4,5,6,7,8,9,10,11,12,13] rfl rfl rfl rfl rfl ?ha ?hh ?_); (case ha => exact zA); (case hh => ((conv => whnf); repeat' (first | exact trivial | exact aH (by decide) (by decide) (fun l hl => by rcases l with _ | _ | _ | _ | l <;> first | exact ⟨zzb rfl, rfl⟩ | exact ⟨zzb rfl, rfl, rfl⟩ | omega) (fun q hq => by rcases q with _ | _ | _ | _ | _ | _ | _ | _ | _ | q <;> first | exact ⟨zzb rfl, rfl⟩ | omega) | exact ae.rfl rfl | exact ae.sl rfl | exact ⟨rfl, rfl, rfl⟩ | exact ⟨rfl, zzb rfl⟩ | exact bF (by assumption) | exact fun i hi => rfl | ((with_reducible refine And.intro ?_ ?_) <;> (conv => whnf))))); (conv => whnf))))
 refine Wp.le (Le.virt 5 2 1 (fun i => aR .i64 (([] : List Int).getD i default)) (by decide) rfl) ?_
 refine Wp.loopP (ι := Nat) (fun j => j ≤ l.length)
  (fun j => ⟨⟨Tryz.f16.ntmps, 17⟩, 18, [(4, .i .i64 (hs l j).length), (5, .sl 17 1 0 (hs l j).length), (14, .d (ax 4 Cel.D l)), (15, .i .i64 l.length), (16, .i .i64 j)],
   ah am room (gOf (aa am room) 4 S) M xs nl f cnt ++ cL q G O ++ [(17, some (aG 2 1 (aR .i64) (hs l j)))]⟩)
  (fun j => l.length - j) 0 (Nat.zero_le _) ?_ ?_
 ·(refine Le.by [0,1,2,3,4,5,6,7,8,9,10,11,12,13,14,15,16,17] rfl rfl rfl rfl ?_ ?_ <;> ((conv => whnf); repeat' (first | exact trivial | exact az (by decide) (fun l hl => by rcases l with _ | _ | _ | _ | l <;> first | exact ⟨zzb rfl, rfl⟩ | exact ⟨zzb rfl, rfl, rfl⟩ | omega) (fun q hq => by rcases q with _ | _ | _ | _ | _ | _ | _ | _ | _ | q <;> first | exact ⟨zzb rfl, rfl⟩ | omega) | exact ae.rfl rfl | exact ae.ptr rfl | exact ae.sl rfl | exact ⟨rfl, rfl, rfl⟩ | exact ⟨rfl, zzb rfl⟩ | exact aM (by assumption) rfl | exact fun i hi => rfl | ((with_reducible refine And.intro ?_ ?_) <;> (conv => whnf)))))
 ·rintro j h1
  have hcm : j < l.length → l.getD (j : Int).toNat default ∈ l := fun h => cx (by rw [Int.toNat_natCast]; exact h)
  have hsl : (hs l j).length ≤ 8192 := by
   have := hs_len (l := l) h2 j
   omega
  have hs1 := @rm l j
  have hnew := @hs_new l hn j
  have hle2 : j < l.length → (l.getD (j : Int).toNat default).held.length ≤ 2 := fun h => h2 _ (hcm h)
  have hz : j < l.length → (l.getD (j : Int).toNat default).pol ≠ 1 → (l.getD (j : Int).toNat default).held = [] := fun h => h0 _ (hcm h)
  (repeat' (first | ((first | refine Wp.any ac rfl ?_ | (with_reducible first | refine Go.mk ?_ | apply aj.of | refine Ov.ok zO ?_ | refine And.intro zC ?_)); conv => whnf) | ((refine ap (fun hc => ?_) (fun hc => ?_)) <;> (try simp only [wz9] at hc) <;> (try (exfalso; omega)) <;> (conv => whnf))))
  ·have hj : j < l.length := by omega
   refine ⟨j + 1, by dsimp only; omega, by dsimp only; omega, ?_⟩
   dsimp only
   rw [hs1 hj, hz hj (by assumption), List.append_nil]
   (refine Le.by [0,1,2,3,4,5,6,7,8,9,10,11,12,13,14,15,16,17] rfl rfl rfl rfl ?_ ?_ <;> ((conv => whnf); repeat' (first | exact trivial | exact aH (by decide) (by decide) (fun l hl => by rcases l with _ | _ | _ | _ | l <;> first | exact ⟨zzb rfl, rfl⟩ | exact ⟨zzb rfl, rfl, rfl⟩ | omega) (fun q hq => by rcases q with _ | _ | _ | _ | _ | _ | _ | _ | _ | q <;> first | exact ⟨zzb rfl, rfl⟩ | omega) | exact ae.rfl rfl | exact ae.ptr rfl | exact ae.sl rfl | exact ⟨rfl, rfl, rfl⟩ | exact ⟨rfl, zzb rfl⟩ | exact bF (by assumption) | exact fun i hi => rfl | ((with_reducible refine And.intro ?_ ?_) <;> (conv => whnf)))))
  ·have hj : j < l.length := by omega
   have hle3 := hle2 hj
   have hs2 := hs1 hj
   refine Wp.loopP (ι := Nat) (fun i => i ≤ (l.getD (j : Int).toNat default).held.length)
    (fun i => ⟨⟨Tryz.f16.ntmps, 17⟩, 19, [(4, .i .i64 (hs l j).length), (5, .sl 17 1 0 (hs l j ++ (l.getD (j : Int).toNat default).held.take i).length), (7, .ptr 18 0), (14, .d (ax 4 Cel.D l)), (15, .i .i64 l.length), (16, .i .i64 j), (28, .d (ax 1 (aR .i64) (l.getD (j : Int).toNat default).held)), (29, .i .i64 (l.getD (j : Int).toNat default).held.length), (30, .i .i64 i)],
     ah am room (gOf (aa am room) 4 S) M xs nl f cnt ++ cL q G O ++ [(17, some (aG 2 1 (aR .i64) (hs l j ++ (l.getD (j : Int).toNat default).held.take i))), (18, some (.cells [.i .i64 (l.getD (j : Int).toNat default).pol, .d (ax 1 (aR .u8) (l.getD (j : Int).toNat default).key), .i .i64 (l.getD (j : Int).toNat default).tat, .d (ax 1 (aR .i64) (l.getD (j : Int).toNat default).held)]))]⟩)
    (fun i => (l.getD (j : Int).toNat default).held.length - i) 0 (Nat.zero_le _) ?_ ?_
   ·rw [List.take_zero, List.append_nil]
    (refine Le.by [0,1,2,3,4,5,6,7,8,9,10,11,12,13,14,15,16,17,18] rfl rfl rfl rfl ?_ ?_ <;> ((conv => whnf); repeat' (first | exact trivial | exact aH (by decide) (by decide) (fun l hl => by rcases l with _ | _ | _ | _ | l <;> first | exact ⟨zzb rfl, rfl⟩ | exact ⟨zzb rfl, rfl, rfl⟩ | omega) (fun q hq => by rcases q with _ | _ | _ | _ | _ | _ | _ | _ | _ | q <;> first | exact ⟨zzb rfl, rfl⟩ | omega) | exact ae.rfl rfl | exact ae.ptr rfl | exact ae.sl rfl | exact ⟨rfl, rfl, rfl⟩ | exact ⟨rfl, zzb rfl⟩ | exact bF (by assumption) | exact fun i hi => rfl | ((with_reducible refine And.intro ?_ ?_) <;> (conv => whnf)))))
   ·rintro i h3
    by_cases hi : i < (l.getD (j : Int).toNat default).held.length
    ·have hH := has_R (hs l j ++ (l.getD (j : Int).toNat default).held.take i) ((l.getD (j : Int).toNat default).held.getD (i : Int).toNat default) (by rw [List.length_append, List.length_take]; omega)
     rw [decide_eq_false (hnew hj hi)] at hH
     have hti : (l.getD (j : Int).toNat default).held.take (i + 1) = (l.getD (j : Int).toNat default).held.take i ++ [(l.getD (j : Int).toNat default).held.getD (i : Int).toNat default] := by rw [List.take_succ_eq_append_getElem hi, gI0 hi]
     have hlt : (hs l j ++ (l.getD (j : Int).toNat default).held.take i).length = (hs l j).length + i := by rw [List.length_append, List.length_take]; omega
     have hln : (hs l j ++ (l.getD (j : Int).toNat default).held.take i ++ [(l.getD (j : Int).toNat default).held.getD (i : Int).toNat default]).length = (hs l j ++ (l.getD (j : Int).toNat default).held.take i).length + 1 := by rw [List.length_append, List.length_singleton]
     (repeat' (first | ((first | refine Wp.any ac rfl ?_ | (with_reducible first | refine Go.mk ?_ | apply aj.of | refine Ov.ok zO ?_ | refine And.intro zC ?_)); conv => whnf) | ((with_reducible refine And.intro ?hb ?_); (case hb => exact zz9); (conv => whnf)) | ((refine ab.fn (hH) [17] rfl rfl rfl rfl rfl ?ha ?hh ?_); (case ha => exact zA); (case hh => exact zH); (conv => whnf)) | ((refine ap (fun hc => ?_) (fun hc => ?_)) <;> (try simp only [wz9] at hc) <;> (try (exfalso; omega)) <;> (conv => whnf))))
     refine ⟨i + 1, by dsimp only; omega, by dsimp only; omega, ?_⟩
     dsimp only [aG]
     rw [hti, ← List.append_assoc, hln]
     (refine Le.by [0,1,2,3,4,5,6,7,8,9,10,11,12,13,14,15,16,20,18] rfl rfl rfl rfl ?_ ?_ <;> ((conv => whnf); repeat' (first | exact trivial | exact aH (by decide) (by decide) (fun l hl => by rcases l with _ | _ | _ | _ | l <;> first | exact ⟨zzb rfl, rfl⟩ | exact ⟨zzb rfl, rfl, rfl⟩ | omega) (fun q hq => by rcases q with _ | _ | _ | _ | _ | _ | _ | _ | _ | q <;> first | exact ⟨zzb rfl, rfl⟩ | omega) | exact ae.rfl rfl | exact ae.ptr rfl | exact ae.sl rfl | exact ⟨rfl, rfl, rfl⟩ | exact ⟨rfl, zzb rfl⟩ | exact bF (by assumption) | exact fun i hi => rfl | ((with_reducible refine And.intro ?_ ?_) <;> (conv => whnf)))))
     all_goals exact gN _ _
    ·obtain rfl : i = (l.getD (j : Int).toNat default).held.length := by omega
     rw [List.take_length] at *
     have hcast : ((hs l (j + 1)).length : Int) = (hs l j).length + (l.getD (j : Int).toNat default).held.length := by rw [hs2, List.length_append]; omega
     (repeat' (first | ((first | refine Wp.any ac rfl ?_ | (with_reducible first | refine Go.mk ?_ | apply aj.of | refine Ov.ok zO ?_)); conv => whnf) | ((refine ap (fun hc => ?_) (fun hc => ?_)) <;> (try simp only [wz9] at hc) <;> (try (exfalso; omega)) <;> (conv => whnf))))
     refine ⟨j + 1, by dsimp only; omega, by dsimp only; omega, ?_⟩
     dsimp only
     rw [hcast, hs2]
     (refine Le.by [0,1,2,3,4,5,6,7,8,9,10,11,12,13,14,15,16,17] rfl rfl rfl rfl ?_ ?_ <;> ((conv => whnf); repeat' (first | exact trivial | exact aH (by decide) (by decide) (fun l hl => by rcases l with _ | _ | _ | _ | l <;> first | exact ⟨zzb rfl, rfl⟩ | exact ⟨zzb rfl, rfl, rfl⟩ | omega) (fun q hq => by rcases q with _ | _ | _ | _ | _ | _ | _ | _ | _ | q <;> first | exact ⟨zzb rfl, rfl⟩ | omega) | exact ae.rfl rfl | exact ae.ptr rfl | exact ae.sl rfl | exact ⟨rfl, rfl, rfl⟩ | exact ⟨rfl, zzb rfl⟩ | exact bF (by assumption) | exact fun i hi => rfl | ((with_reducible refine And.intro ?_ ?_) <;> (conv => whnf)))))
  ·obtain rfl : j = l.length := by omega
   rw [hs_all]
   ((refine af.sealB [0, 1, 2, 3, 4, 5, 6, 7, 8, 9, 10, 11, 12, 13, 14, 15, 16] rfl rfl rfl ?_ ?_); (focus ((conv => whnf); (repeat' (first | exact trivial | exact ai.d | ((refine ai.tup ?_); (conv => whnf)) | ((refine And.intro ?_ ?_) <;> (conv => whnf)))))); (focus ((conv => whnf); (repeat' (first | exact trivial | exact ai.any | exact ai.d | exact qY zN (by decide) | exact ai.ptrL rfl | exact ai.slL rfl | exact ⟨rfl, rfl, rfl⟩ | exact ⟨rfl, zzb rfl⟩ | exact x_sealA (by assumption) | exact fun i hi => gO.refl _ | ((refine And.intro ?_ ?_) <;> (conv => whnf)))))))
theorem o4 {room : Int} {k : Nat} {c : Cst} (h : ca am room k c.M c.S c.xs c.nl ((k : Int) + 1)) (hr : room ≤ 12) {A : Int} {R L : List Int} {n : Int} (hp : PmI room c.M c.S A R L n) :
  (dk am room c.M).length ≤ 4096 ∧ (∀ x ∈ dk am room c.M, x.pol ≠ 1 → x.held = []) ∧ (∀ x ∈ dk am room c.M, x.held.length ≤ 2) ∧ ((dk am room c.M).flatMap (·.held)).Perm (Core.hel (aa am room) c.M) ∧ ((dk am room c.M).flatMap (·.held)).Nodup := by
 have hpm : (dk am room c.M).Perm (Core.allE (aa am room) c.M) := Core.sortC_perm _
 have hv : ∀ x ∈ dk am room c.M, Vt x := fun x hx => by
  have h1 := (Core.all_ok (cT am room) h.all.inv.iw h.all.ih).2 x
  exact hp.p.v _ x (h1.1 (hpm.mem_iff.1 hx))
 have hf : ((dk am room c.M).flatMap (·.held)).Perm (Core.hel (aa am room) c.M) := hpm.flatMap_right _
 refine ⟨?_, fun x hx h1 => ?_, fun x hx => ?_, hf, hf.nodup_iff.2 hp.p.nd⟩
 ·have h1 := h.all.ge
  have h2 := h.all.room
  have h3 : (aa am room).room = room := rfl
  rw [hpm.length_eq]; omega
 ·rcases hv x hx with ⟨_, e⟩ | ⟨e, _⟩
  ·exact e
  ·exact absurd e h1
 ·rcases hv x hx with ⟨_, e⟩ | ⟨_, e⟩
  ·rw [e]; simp
  ·have := (eI.1 e).2.2.1; omega
set_option maxRecDepth 100000
instance : DecidableEq Cel := fun a b => decidable_of_iff (a.pol = b.pol ∧ a.key = b.key ∧ a.tat = b.tat ∧ a.held = b.held) (by
 cases a; cases b; simp)
end Go.Proofs.YtpdhdnhkhidmpaaGreat
