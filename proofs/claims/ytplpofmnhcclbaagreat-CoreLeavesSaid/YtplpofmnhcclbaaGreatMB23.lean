/- Parts of the proof, one behind the other: Ce8b, Ce9, Cf0, Cf4, Cu1, Rs1. Lemmas and contracts of functions; no condition of its own. -/
import Derived.Test.YtplpofmnhcclbaaGreatMB22
set_option linter.unusedVariables false
set_option linter.unusedSimpArgs false
set_option maxHeartbeats 1000000
namespace Go.Proofs.YtplpofmnhcclbaaGreat
open Go.RowKit
set_option maxRecDepth 100000
set_option maxHeartbeats 8000000
theorem aw1_r : doneC (coreOps tab2 2) (itC (coreOps tab2 2) 5 aw1) = ⟨true, ⟨0, true, 2, 0, 0, 100⟩⟩ := by kernel_rfl
theorem aw2_r : doneC (coreOps tab2 2) (itC (coreOps tab2 2) 6 aw2) = ⟨true, ⟨0, true, 1, 0, 1, 0⟩⟩ := by kernel_rfl
theorem aw2_c : (itC (coreOps tab2 2) 7 aw2).1.W 32 = 2 := by decide +kernel
theorem fitA : Pick.Fit ⟨0, 0, 1, 0, [97], 1, 0⟩ :=
 ⟨by decide, by decide, by decide, by decide, by decide, fun _ _ => ⟨by intro x hx; have hx2 : x ∈ [97] := hx; simp at hx2; omega, by decide, by decide, by decide⟩, by decide⟩
theorem fitB : Pick.Fit ⟨0, 1, 2, 1, [107], 0, 0⟩ :=
 ⟨by decide, by decide, by decide, by decide, by decide, fun _ _ => ⟨by intro x hx; have hx2 : x ∈ [107] := hx; simp at hx2; omega, by decide, by decide, by decide⟩, by decide⟩
theorem aw_runs : ∃ (c1 c2 c3 : Cst), (∀ i j, SV.Lt 1 ((c1.xs i).f j)) ∧ (∀ i j, SV.Lt 1 ((c2.xs i).f j)) ∧ (∀ i j, SV.Lt 1 ((c3.xs i).f j)) ∧
  Fun TC 15 0 [.d (slOf 4 Pol.D tab2), .i .i64 2] [] 14 (.tup [.ptr 0 0, .i .i64 0]) (coreH tab2 2 (gOf (coreOps tab2 2) 4 S0) Core.M0 xs0 (noteN 0) f0' 1) ∧
  Fun TC 26 14 [.ptr 0 0, .i .i64 100] (coreH tab2 2 (gOf (coreOps tab2 2) 4 S0) Core.M0 xs0 (noteN 0) f0' 1) 14 (.tup [.i .i64 100, .i .i64 0]) (coreH tab2 2 (gOf (coreOps tab2 2) 4 c1.S) c1.M c1.xs c1.nl c1.f 1) ∧
  Fun TC 22 14 [.ptr 0 0, .i .i64 0, callS 1 0 [97] 1, .i .i64 9] (coreH tab2 2 (gOf (coreOps tab2 2) 4 c1.S) c1.M c1.xs c1.nl c1.f 1) 24 (.tup [Rpl.S ⟨0, true, 2, 0, 0, 100⟩, .i .i64 6, .b true]) (coreS tab2 2 c2.S c2.M c2.xs c2.nl c2.f 7) ∧
  Fun TC 22 14 [.ptr 0 0, .i .i64 1, callS 2 1 [107] 0, .i .i64 9] (coreH tab2 2 (gOf (coreOps tab2 2) 4 c2.S) c2.M c2.xs c2.nl c2.f 7) 24 (.tup [Rpl.S ⟨0, true, 1, 0, 1, 0⟩, .i .i64 7, .b true]) (coreS tab2 2 c3.S c3.M c3.xs c3.nl c3.f 14) ∧
  Fun TC 27 14 [.ptr 0 0] (coreH tab2 2 (gOf (coreOps tab2 2) 4 c3.S) c3.M c3.xs c3.nl c3.f 14) 14 (.i .i64 2) (coreH tab2 2 (gOf (coreOps tab2 2) 4 c3.S) c3.M c3.xs c3.nl c3.f 14) ∧
  Fun TC 43 14 [.ptr 0 0] (coreH tab2 2 (gOf (coreOps tab2 2) 4 c3.S) c3.M c3.xs c3.nl c3.f 14) 14 (.i .i64 13) (coreH tab2 2 (gOf (coreOps tab2 2) 4 c3.S) c3.M c3.xs c3.nl c3.f 14) := by
 have L0 : LawC tab2 2 0 Core.M0 S0 xs0 (noteN 0) 1 := LawC.zero tab2_ok (by decide)
 have hT := core_Tick (f := f0') (cnt := 1) (nl := noteN 0) (L0.cok (by decide) 0 (by decide)) (by decide) (by decide) 100 (by decide) (by decide)
 have L1 : LawC tab2 2 0 aw1.1 S0 xs0 (noteN 0) 1 := L0.tick (t := min (Core.M0.clk + 100) 4611686018427387903) (by decide)
 obtain ⟨xs1, L2, hS⟩ := law_Start (f := f0') L1 (by decide) (w := 0) (.inl (by decide)) rfl 1 0 [97] 1 fitA.chk (by decide) fitA.kx
 obtain ⟨n, tr, rs, hn, A⟩ := alone_ex (ps := tab2) (room := 2) (w := 0) (.inl (by decide)) 165 0 ⟨aw1.1, Dir.upd S0 0 aw1.2, xs1, noteN 0, f0'⟩ (by decide) L2 rfl (Core.T_le (L2.all.inv.cw 0))
 have e := A.count 5 aw1_no aw1_yes
 subst e
 have hr5 := A.rs_it 5 (by decide)
 have hr5 : rs 5 = ⟨true, ⟨0, true, 2, 0, 0, 100⟩⟩ := hr5.trans aw1_r
 have R1 := law_run (cnt := 0) (c := ⟨aw1.1, S0, xs0, noteN 0, f0'⟩) 1 0 [97] 1 9 (by decide) hS L1.xl A (by decide)
 rw [show rs (5 + 1 - 1) = rs 5 from rfl, hr5] at R1
 obtain ⟨i1, i2, i3⟩ := A.it 6 (by decide)
 have L6 := A.law 6 (by decide)
 have i1 : (tr 6).M = aw2.1 := i1
 have hS1 : ((tr 6).S 1).s = .none := by rw [i3 1 (by decide)]; rfl
 obtain ⟨xs2, L7, hS2⟩ := law_Start (f := (tr 6).f) L6 (by decide) (w := 1) (.inl (by decide)) hS1 2 1 [107] 0 fitB.chk (by decide) fitB.kx
 obtain ⟨n2, tr2, rs2, hn2, B⟩ := alone_ex (ps := tab2) (room := 2) (w := 1) (.inl (by decide)) 165 6 ⟨(tr 6).M, Dir.upd (tr 6).S 1 aw2.2, xs2, (tr 6).nl, (tr 6).f⟩ (by decide) L7 rfl (Core.T_le (L7.all.inv.cw 1))
 have hz : (((⟨(tr 6).M, Dir.upd (tr 6).S 1 aw2.2, xs2, (tr 6).nl, (tr 6).f⟩ : Cst).M, (⟨(tr 6).M, Dir.upd (tr 6).S 1 aw2.2, xs2, (tr 6).nl, (tr 6).f⟩ : Cst).S 1) : Core.Mc × Core.Wk) = aw2 := by
  show ((tr 6).M, Dir.upd (tr 6).S 1 aw2.2 1) = aw2
  rw [i1, Dir.upd_same]
 have e := B.count 6 (by rw [hz]; exact aw2_no) (by rw [hz]; exact aw2_yes)
 subst e
 have hr6 := B.rs_it 6 (by decide)
 rw [hz] at hr6
 have hr6 : rs2 6 = ⟨true, ⟨0, true, 1, 0, 1, 0⟩⟩ := hr6.trans aw2_r
 have R2 := law_run (cnt := 0) (c := tr 6) 2 1 [107] 0 9 (by decide) hS2 L6.xl B (by decide)
 rw [show rs2 (6 + 1 - 1) = rs2 6 from rfl, hr6] at R2
 obtain ⟨j1, _, _⟩ := B.it 7 (by decide)
 rw [hz] at j1
 have L13 := B.law 7 (by decide)
 have hC := core_Count (f := (tr2 7).f) (nl := (tr2 7).nl) (cnt := 14) (L13.cok (by decide) 0 (by decide))
 rw [show (tr2 7).M.W 32 = 2 by rw [j1]; exact aw2_c] at hC
 have hP := core_Steps (f := (tr2 7).f) (nl := (tr2 7).nl) (cnt := 14) (L13.cok (by decide) 0 (by decide)) (by decide) (by decide)
 exact ⟨⟨aw1.1, S0, xs0, noteN 0, f0'⟩, tr 6, tr2 7, L1.xl, L6.xl, L13.xl, core_New (tab2_new (by decide)), hT, R1, R2, hC, hP⟩
set_option maxRecDepth 100000
set_option maxHeartbeats 8000000
theorem awake_T : Pure TC 14 [] (.b true) := by
 obtain ⟨c1, c2, c3, x1, x2, x3, hN, hT, hR, hR2, hC, hP⟩ := aw_runs
 have x0 : ∀ i j, SV.Lt 1 ((xs0 i).f j) := fun _ _ => .any
 refine Pure.mk' Tryz.func14 rfl rfl zN ?_
 (repeat' (first | ((first | refine Wp.any TC_mixed rfl ?_ | (with_reducible first | refine Go.mk ?_ | apply Eff1.of | refine CallStop.pure (law_table) rfl rfl ?_)); conv => whnf) | ((refine CallStop.fn (hN) [] rfl rfl rfl rfl rfl ?ha ?hh ?_); (case ha => exact zA); (case hh => exact zH); (conv => whnf)) | ((refine CallStop.fn (hT) [0,1,2,3,4,5,6,7,8,9,10,11,12,13] rfl rfl rfl rfl rfl ?ha ?hh ?_); (case ha => exact zA); (case hh => exact zz10); (conv => whnf)) | ((refine CallStop.fn (hR) [0,1,2,3,4,5,6,7,8,9,10,11,12,13] rfl rfl rfl rfl rfl ?ha ?hh ?_); (case ha => exact zA); (case hh => exact zz10); (conv => whnf)) | ((refine CallStop.fn (hR2) [0,1,2,3,15,16,17,18,19,20,21,22,23,24] rfl rfl rfl rfl rfl ?ha ?hh ?_); (case ha => exact zA); (case hh => exact zz10); (conv => whnf)) | ((refine CallStop.fn (hC) [0,1,2,3,27,28,29,30,31,32,33,34,35,36] rfl rfl rfl rfl rfl ?ha ?hh ?_); (case ha => exact zA); (case hh => exact zz10); (conv => whnf)) | ((refine CallStop.fn (hP) [0,1,2,3,27,28,29,30,31,32,33,34,35,36] rfl rfl rfl rfl rfl ?ha ?hh ?_); (case ha => exact zA); (case hh => exact zz10); (conv => whnf))))
 exact .b (by decide)
end Go.Proofs.YtplpofmnhcclbaaGreat

namespace Go.Proofs.YtplpofmnhcclbaaGreat
open Go.RowKit
set_option maxRecDepth 100000
set_option maxHeartbeats 4000000
theorem play_oth {P : Core.Ops} {M : Core.Mc} {S : Nat → Core.Wk} {p : Pick} (hp : p.Fit) : ∀ j, 5 ≤ j → (playC P M S p).S j = S j := by
 intro j hj
 have hw : j ≠ p.who.toNat := by have := hp.who; omega
 unfold playC
 split
 ·split
  ·show Core.nx P M S p.who.toNat j = S j
   unfold Core.nx; rw [Dir.upd_ne _ _ hw]
  ·rfl
 ·split
  ·split
   ·rfl
   ·show Dir.upd S p.who.toNat (newW p) j = S j
    rw [Dir.upd_ne _ _ hw]
  ·rfl
variable {ps : List Pol} {room : Int} {w k : Nat} {c0 : Cst} {n : Nat} {tr : Nat → Cst} {rs : Nat → Core.Rs}
theorem AloneC.ends (A : AloneC ps room w k c0 n tr rs) : ((tr n).S w).s = .none := by
 have hp := A.pos
 obtain ⟨m, rfl⟩ : ∃ m, n = m + 1 := ⟨n - 1, by omega⟩
 obtain ⟨d, e, g⟩ := A.mx m (by omega)
 have hy := A.yes
 rw [show m + 1 - 1 = m by omega, g] at hy
 rw [e, Core.nx, Dir.upd_same]
 exact Core.step_none hy
@[reducible] def cst0 : Cst := ⟨Core.M0, S0, xs0, noteN 0, f0'⟩
theorem law0 {room : Int} (h : 1 ≤ room ∧ room ≤ 4096) : LawC tab2 room 0 cst0.M cst0.S cst0.xs cst0.nl (((0 : Nat) : Int) + 1) := LawC.zero tab2_ok h
theorem law_alone {room : Int} {k : Nat} {c : Cst} (h : LawC tab2 room k c.M c.S c.xs c.nl ((k : Int) + 1)) (hk : k ≤ 500000) {w : Nat} (hw : w < 8 ∨ w = 9) (hn : (c.S w).s = .none) (op pol : Int) (key : List Int) (m : Int) (hE : chkE tab2 op pol key m = 0) (hkl : key.length ≤ 16777216) (hkx : op ≠ 5 → op ≠ 6 → Core.Kx tab2 (newX op pol key m)) (most : Int) (h1 : 165 ≤ most) (h2 : most ≤ 1000) :
  ∃ (xs' : Nat → XB) (n : Nat) (tr : Nat → Cst) (rs : Nat → Core.Rs), n ≤ 165 ∧ AloneC tab2 room w k ⟨c.M, Dir.upd c.S w ⟨newX op pol key m, Core.first (newX op pol key m)⟩, xs', c.nl, c.f⟩ n tr rs ∧
   Fun TC 22 14 [.ptr 0 0, .i .i64 w, callS op pol key m, .i .i64 most] (coreH tab2 room (gOf (coreOps tab2 room) 4 c.S) c.M c.xs c.nl c.f ((k : Int) + 1))
    24 (.tup [(rs (n - 1)).r.S, .i .i64 n, .b true]) (coreS tab2 room (tr n).S (tr n).M (tr n).xs (tr n).nl (tr n).f ((k : Int) + n + 1)) := by
 obtain ⟨xs', hL, hS⟩ := law_Start (f := c.f) h (by omega) hw hn op pol key m hE hkl hkx
 obtain ⟨n, tr, rs, hn', A⟩ := alone_ex hw 165 k ⟨c.M, Dir.upd c.S w ⟨newX op pol key m, Core.first (newX op pol key m)⟩, xs', c.nl, c.f⟩ (by omega) hL
  (by
   show isC (Dir.upd c.S w _ w).s = true
   rw [Dir.upd_same]
   show isC (Core.first (newX op pol key m)) = true
   unfold Core.first; (repeat' split) <;> rfl)
  (Core.T_le (hL.all.inv.cw w))
 exact ⟨xs', n, tr, rs, hn', A, law_run (cnt := 0) op pol key m most h2 hS h.xl A (by omega)⟩
end Go.Proofs.YtplpofmnhcclbaaGreat

namespace Go.Proofs.YtplpofmnhcclbaaGreat
open Go.RowKit
set_option maxRecDepth 100000
set_option maxHeartbeats 4000000
structure SerI (M : Core.Mc) (S : Nat → Core.Wk) (L : List Int) (n : Int) : Prop where
 s : Core.Sers M S L.reverse
 le : M.W 33 + Core.pend S ≤ n
theorem pend_ge (S : Nat → Core.Wk) : 0 ≤ Core.pend S := by
 have := Core.sumI_ge (f := fun i => Core.pd (S i)) (n := 64) fun j _ => (Core.pd_bd _).1
 exact this
theorem SerI.zero : SerI Core.M0 S0 [] 0 :=
 ⟨⟨fun _ => Int.le_refl _, fun i _ _ h => absurd rfl h, fun _ h => by simp at h, by simp, fun _ => trivial⟩, by decide⟩
@[reducible] def wantC (p : Pick) (e n : Int) : Int := if p.kind = 1 ∧ p.op = 2 ∧ e = 0 then n + 1 else n
theorem play_ser {room : Int} {k : Nat} {c : Cst} (h : LawC tab2 room k c.M c.S c.xs c.nl ((k : Int) + 1)) (hk : k ≤ 500000) {p : Pick} (hp : p.Fit) {L : List Int} {n : Int} (hs : SerI c.M c.S L n) {Q : Pl} (hQ : playC (coreOps tab2 room) c.M c.S p = Q) :
  (Q.r.r.serial = 0 ∧ SerI Q.M Q.S L (wantC p Q.e n)) ∨
  (Q.r.r.serial ≠ 0 ∧ (1 ≤ Q.r.r.serial ∧ Q.r.r.serial ≤ wantC p Q.e n) ∧ Q.r.r.serial ∉ L ∧ Q.r.r.g = true ∧ SerI Q.M Q.S (L ++ [Q.r.r.serial]) (wantC p Q.e n)) := by
 have hw := hp.who
 have hB : ((k : Int) + 1) + 1 < Dir.FZ := by unfold Dir.FZ; omega
 unfold playC at hQ
 by_cases e0 : p.kind = 0
 ·rw [if_pos e0] at hQ
  have hwant : ∀ e, wantC p e n = n := fun e => if_neg (by omega)
  cases hc : isC (c.S p.who.toNat).s with
  | true =>
   rw [hc, if_pos rfl] at hQ
   subst hQ
   rw [hwant]
   have hn := isC_ne hc
   have h1 := hs.s.step (coreOps_ser tab2 room) h.all.inv hB p.who.toNat hn (fun hd => by rw [Core.step_r0 hd]; rfl)
   have h2 := Core.pend_step (P := coreOps tab2 room) h.all.inv hB (i := p.who.toNat) (by omega) hn (h.all.rx _)
   have h3 := (Core.step_sr (coreOps_ser tab2 room) (M := c.M) (hs.s.sr p.who.toNat)).2
   have h4 := hs.le
   dsimp only
   generalize Core.mx (coreOps tab2 room) c.M c.S p.who.toNat = M' at h1 h2 ⊢
   generalize Core.nx (coreOps tab2 room) c.M c.S p.who.toNat = S' at h1 h2 ⊢
   generalize (Core.step (coreOps tab2 room) c.M (c.S p.who.toNat).x (c.S p.who.toNat).s).r = r at h1 h3 ⊢
   by_cases e : r.r.serial = 0
   ·refine .inl ⟨e, ?_, by omega⟩
    unfold Core.give at h1
    rwa [if_pos e] at h1
   ·have hx := h1.gv r.r.serial (by unfold Core.give; rw [if_neg e]; simp)
    have hg := pend_ge S'
    have hnd := h1.nd
    unfold Core.give at h1 hnd
    rw [if_neg e] at h1 hnd
    refine .inr ⟨e, ⟨hx.1, by omega⟩, ?_, (h3 e).2, ?_, by omega⟩
    ·have := (List.nodup_cons.1 hnd).1
     simpa using this
    ·rw [List.reverse_append]; exact h1
  | false =>
   rw [hc, if_neg (by decide)] at hQ
   subst hQ
   rw [hwant]
   exact .inl ⟨rfl, hs⟩
 ·rw [if_neg e0] at hQ
  by_cases e1 : p.kind = 1
  ·rw [if_pos e1] at hQ
   cases hc : isC (c.S p.who.toNat).s with
   | true =>
    rw [hc, if_pos rfl] at hQ
    subst hQ
    exact .inl ⟨rfl, by rw [show wantC p 9 n = n from if_neg (by omega)]; exact hs⟩
   | false =>
    rw [hc, if_neg (by decide)] at hQ
    subst hQ
    have hno := isC_no hc
    refine .inl ⟨rfl, hs.s.start h.all.inv.c33 (k := newW p) rfl ?_, ?_⟩
    ·show Core.Sr (newX p.op p.pol p.key p.n) (Core.first (newX p.op p.pol p.key p.n))
     unfold Core.first; (repeat' split) <;> trivial
    ·show c.M.W 33 + Core.pend (Dir.upd c.S p.who.toNat (newW p)) ≤ wantC p 0 n
     rw [Core.pend_start (by omega) hno]
     have hf : (newW p).s ≠ .none := by
      show Core.first (newX p.op p.pol p.key p.n) ≠ .none
      unfold Core.first; (repeat' split) <;> simp
     rw [Core.pd_some hf]
     have h4 := hs.le
     show c.M.W 33 + (Core.pend c.S + if p.op = 2 ∧ (0 : Int) = 0 then 1 else 0) ≤ if p.kind = 1 ∧ p.op = 2 ∧ (0 : Int) = 0 then n + 1 else n
     split <;> split <;> omega
  ·rw [if_neg e1] at hQ
   subst hQ
   rw [show wantC p 0 n = n from if_neg (by omega)]
   exact .inl ⟨rfl, ⟨hs.s.le, hs.s.ne, hs.s.gv, hs.s.nd, hs.s.sr⟩, hs.le⟩
end Go.Proofs.YtplpofmnhcclbaaGreat

namespace Go.Proofs.YtplpofmnhcclbaaGreat
open Go.RowKit
set_option maxRecDepth 100000
set_option maxHeartbeats 4000000
section
variable {ps : List Pol} {room : Int} {k : Nat} {M : Core.Mc} {S : Nat → Core.Wk} {xs : Nat → XB} {nl : Nat} {f : Nat → List D} {cnt : Int}
theorem LawC.all_cel (h : LawC ps room k M S xs nl cnt) {c : Cel} (hc : c ∈ Core.allE (coreOps ps room) M) : CelK ps c ∧ okId c.pol c.key := by
 have h1 := ((Core.all_ok (coreOps_ok ps room) h.all.inv.iw h.all.ih).2 c).1 hc
 have h2 := (look_mem h1).1
 have h3 := (h.hd _).cel c h2
 have h4 := polsE_len h.ps
 exact ⟨h3, by have := h3.pol; exact ⟨by omega, by omega, h3.key⟩⟩
theorem law_Cells (h : LawC ps room k M S xs nl cnt) (hk : k ≤ 1000000) (hr : room ≤ 12) :
  Fun TC 28 14 [.ptr 0 0] (coreH ps room (gOf (coreOps ps room) 4 S) M xs nl f cnt) 14 (.d (slOf 4 Cel.D (cellsC ps room M))) (coreH ps room (gOf (coreOps ps room) 4 S) M xs nl f cnt) := by
 refine core_Cells (h.cok hk 0 (by decide)) ?_ (Core.all_ok (coreOps_ok ps room) h.all.inv.iw h.all.ih).1 fun c hc => h.all_cel hc
 have h1 := h.all.ge
 have h2 := h.all.room
 have h3 : (coreOps ps room).room = room := rfl
 omega
theorem law_Count (h : LawC ps room k M S xs nl cnt) (hk : k ≤ 1000000) :
  Fun TC 27 14 [.ptr 0 0] (coreH ps room (gOf (coreOps ps room) 4 S) M xs nl f cnt) 14 (.i .i64 (M.W 32)) (coreH ps room (gOf (coreOps ps room) 4 S) M xs nl f cnt) :=
 core_Count (h.cok hk 0 (by decide))
theorem cells_len (ps : List Pol) (room : Int) (M : Core.Mc) : (cellsC ps room M).length = (Core.allE (coreOps ps room) M).length := (Core.sortC_perm _).length_eq
theorem cells_same {M M' : Core.Mc} {B B' : Int} (h : Dir.Iw M.W B) (hI : Core.Ih sumK M) (h' : Dir.Iw M'.W B') (hI' : Core.Ih sumK M') (ho : ∀ q, Core.own sumK M' q = Core.own sumK M q) : cellsC ps room M' = cellsC ps room M := by
 have hP := coreOps_ok ps room
 have p := Core.all_same hP h hI h' hI' ho
 exact Core.srt_uniq (Core.sortC_srt (Core.all_ok hP h' hI').1) (Core.sortC_srt (Core.all_ok hP h hI).1) ((Core.sortC_perm _).trans (p.trans (Core.sortC_perm _).symm))
end
structure PmI (room : Int) (M : Core.Mc) (S : Nat → Core.Wk) (A : Int) (R L : List Int) (n : Int) : Prop where
 s : SerI M S L n
 p : Core.Pm sumK (coreOps tab2 room) Vt Qt M S A R
theorem hel_zero (P : Core.Ops) : Core.hel P Core.M0 = [] := rfl
theorem PmI.zero (room : Int) : PmI room Core.M0 S0 0 [] [] 0 := by
 refine ⟨.zero, ⟨fun k c h => ?_, fun s h => ?_, ?_, fun i h => absurd rfl h, fun i h => absurd rfl h, fun i => trivial, fun s h => absurd h (by simp), List.nodup_nil, ?_⟩⟩
 ·have : Core.own sumK Core.M0 k = none := rfl
  rw [this] at h; cases h
 ·rw [hel_zero] at h; simp at h
 ·rw [hel_zero]; exact List.nodup_nil
 ·rw [hel_zero]
  show (0 : Int) = 0 + Core.sumI 64 (fun _ => 0) - 0
  rw [Core.sumI_zero]; rfl
@[reducible] def wantA (p : Pick) (c : Cst) (Q : Pl) (A : Int) : Int := if p.kind = 0 ∧ isC (c.S p.who.toNat).s = true then Core.tellA (c.S p.who.toNat).x Q.r A else A
@[reducible] def wantR (p : Pick) (c : Cst) (Q : Pl) (R : List Int) : List Int := if p.kind = 0 ∧ isC (c.S p.who.toNat).s = true then Core.tellR (c.S p.who.toNat).x Q.r R else R
theorem wantA_no {p : Pick} {c : Cst} {Q : Pl} {A : Int} (h : ¬ (p.kind = 0 ∧ isC (c.S p.who.toNat).s = true)) : wantA p c Q A = A := if_neg h
theorem wantR_no {p : Pick} {c : Cst} {Q : Pl} {R : List Int} (h : ¬ (p.kind = 0 ∧ isC (c.S p.who.toNat).s = true)) : wantR p c Q R = R := if_neg h
theorem fit_Q {p : Pick} (hp : p.Fit) : Qt p.op p.pol p.key := by
 have hE := hp.chk
 have ho := hp.op
 unfold chkE at hE
 split at hE
 ·cases hE
 split at hE
 ·cases hE
 split at hE
 ·rename_i h9; exact absurd hE h9
 split at hE
 ·cases hE
 rename_i h9
 have hl : ((tab2.length : Nat) : Int) = 2 := rfl
 rw [hl] at h9
 have h0 : p.op ≤ 4 → p.pol = 0 ∨ p.pol = 1 := fun h => by
  have a1 : ¬ p.pol < 0 := fun e => h9 ⟨h, .inl e⟩
  have a2 : ¬ 2 ≤ p.pol := fun e => h9 ⟨h, .inr (.inl e)⟩
  omega
 refine ⟨h0, fun h => ?_⟩
 rcases h0 (by omega) with e | e
 ·exfalso
  apply h9
  refine ⟨by omega, .inr (.inr ?_)⟩
  have hk : kindE p.op = 2 := by unfold kindE; rw [if_neg (by omega), if_pos h]
  rw [hk, e]; decide
 ·exact e
theorem play_pm {room : Int} {k : Nat} {c : Cst} (h : LawC tab2 room k c.M c.S c.xs c.nl ((k : Int) + 1)) (hk : k ≤ 500000) {p : Pick} (hp : p.Fit) {A : Int} {R L : List Int} {n : Int} (hs : PmI room c.M c.S A R L n) {Q : Pl} (hQ : playC (coreOps tab2 room) c.M c.S p = Q) :
  Core.Pm sumK (coreOps tab2 room) Vt Qt Q.M Q.S (wantA p c Q A) (wantR p c Q R) := by
 have hw := hp.who
 have hB : ((k : Int) + 1) + 1 < Dir.FZ := by unfold Dir.FZ; omega
 unfold playC at hQ
 by_cases e0 : p.kind = 0
 ·rw [if_pos e0] at hQ
  cases hc : isC (c.S p.who.toNat).s with
  | true =>
   rw [hc, if_pos rfl] at hQ
   have eA : wantA p c Q A = Core.tellA (c.S p.who.toNat).x Q.r A := if_pos ⟨e0, hc⟩
   have eR : wantR p c Q R = Core.tellR (c.S p.who.toNat).x Q.r R := if_pos ⟨e0, hc⟩
   rw [eA, eR]
   subst hQ
   exact hs.p.step (coreOps_ok tab2 room) (tab2_pm room) (coreOps_re tab2 room) h.all hB hs.s.s (by have := h.c33; have : Core.MAX = 4611686018427387903 := rfl; omega) (by omega) (isC_ne hc)
  | false =>
   rw [wantA_no (by rw [hc]; simp), wantR_no (by rw [hc]; simp)]
   rw [hc, if_neg (by decide)] at hQ
   subst hQ
   exact hs.p
 ·rw [wantA_no (fun h9 => e0 h9.1), wantR_no (fun h9 => e0 h9.1)]
  rw [if_neg e0] at hQ
  by_cases e1 : p.kind = 1
  ·rw [if_pos e1] at hQ
   cases hc : isC (c.S p.who.toNat).s with
   | true =>
    rw [hc, if_pos rfl] at hQ
    subst hQ
    exact hs.p
   | false =>
    rw [hc, if_neg (by decide)] at hQ
    subst hQ
    exact hs.p.start (tab2_pm room) (by omega) (isC_no hc) (x := newX p.op p.pol p.key p.n) rfl (fit_Q hp) hp.op
  ·rw [if_neg e1] at hQ
   subst hQ
   exact ⟨hs.p.v, hs.p.b, hs.p.nd, hs.p.pr, hs.p.q, hs.p.fr, hs.p.rl, hs.p.rn, hs.p.cnt⟩
theorem play_full {room : Int} {k : Nat} {c : Cst} (h : LawC tab2 room k c.M c.S c.xs c.nl ((k : Int) + 1)) {p : Pick} {A : Int} {R L : List Int} {n : Int} (hs : PmI room c.M c.S A R L n) {Q : Pl} (hQ : playC (coreOps tab2 room) c.M c.S p = Q) (hr : Q.r.r.e = 10) : c.M.W 32 = room ∧ Q.M = c.M := by
 unfold playC at hQ
 have z : ∀ {q : Prop}, Core.r0.r.e = 10 → q := fun e => absurd e (by decide)
 split at hQ
 ·split at hQ
  ·subst hQ
   exact (Core.step_fr (coreOps_re tab2 room) (h.all.inv.cw _) (hs.p.fr _) (h.all.rx _)).2 hr
  ·subst hQ; exact z hr
 ·split at hQ
  ·split at hQ
   ·subst hQ; exact z hr
   ·subst hQ; exact z hr
  ·subst hQ; exact z hr
theorem play_still {room : Int} {k : Nat} {c : Cst} (h : LawC tab2 room k c.M c.S c.xs c.nl ((k : Int) + 1)) (hk : k ≤ 500000) {p : Pick} (hp : p.Fit) {A : Int} {R L : List Int} {n : Int} (hs : PmI room c.M c.S A R L n) {Q : Pl} (hQ : playC (coreOps tab2 room) c.M c.S p = Q)
  (hst : p.kind ≠ 0 ∨ isC (c.S p.who.toNat).s = false ∨ (c.S p.who.toNat).x.op = 4 ∨ (c.S p.who.toNat).x.op = 6 ∨ Q.r.done = true ∧ (Q.r.r.e ≠ 0 ∨ (c.S p.who.toNat).x.op = 1 ∧ (Q.r.r.g = false ∨ (c.S p.who.toNat).x.n = 0))) (q : List Int) : Core.own sumK Q.M q = Core.own sumK c.M q := by
 have hB : ((k : Int) + 1) + 1 < Dir.FZ := by unfold Dir.FZ; omega
 unfold playC at hQ
 by_cases e0 : p.kind = 0
 ·rw [if_pos e0] at hQ
  cases hc : isC (c.S p.who.toNat).s with
  | true =>
   rw [hc, if_pos rfl] at hQ
   subst hQ
   have hI := h.all.inv
   have hn := isC_ne hc
   refine Core.step_still (coreOps_ok tab2 room) hI.iw ⟨hI.b, hB⟩ (hI.cw _) h.all.ih (h.all.ch _) (hs.p.fr _) (fun h2 hh => ?_) (fun _ _ _ _ => rfl) ?_ q
   ·have sw0 : ∀ i, Core.hit c.M (c.S i).s = true → Core.swB (c.S i).x (c.S i).s = false := fun i hh => by
     cases e : Core.swB (c.S i).x (c.S i).s with
     | false => rfl
     | true => rw [(Core.swB_b e c.M).1] at hh; cases hh
    have hle := hs.s.s.le p.who.toNat
    have h33 := h.c33
    have hM : Core.MAX = 4611686018427387903 := rfl
    have hpe := (Core.step_pm (coreOps_ok tab2 room) (tab2_pm room) hI.iw ⟨hI.b, hB⟩ (hI.ser p.who.toNat) hI.c33 (hI.cw p.who.toNat) h.all.ih (h.all.ch p.who.toNat) (hs.p.fr p.who.toNat) hs.p.v (hs.p.q p.who.toNat) (by omega) (fun h2 hh => hs.p.pr p.who.toNat hn h2 (sw0 _ hh))).2
    exact Core.hit_acq hpe h2 hh
   ·rcases hst with a | a | a
    ·exact absurd e0 a
    ·rw [hc] at a; cases a
    ·exact a
  | false =>
   rw [hc, if_neg (by decide)] at hQ
   subst hQ; rfl
 ·rw [if_neg e0] at hQ
  split at hQ
  ·split at hQ <;> (subst hQ; rfl)
  ·subst hQ; rfl
theorem play_pmi {room : Int} {k : Nat} {c : Cst} (h : LawC tab2 room k c.M c.S c.xs c.nl ((k : Int) + 1)) (hk : k ≤ 500000) {p : Pick} (hp : p.Fit) {A : Int} {R L : List Int} {n : Int} (hs : PmI room c.M c.S A R L n) {Q : Pl} (hQ : playC (coreOps tab2 room) c.M c.S p = Q) :
  PmI room Q.M Q.S (wantA p c Q A) (wantR p c Q R) (if Q.r.r.serial = 0 then L else L ++ [Q.r.r.serial]) (wantC p Q.e n) := by
 have h1 := play_pm h hk hp hs hQ
 rcases play_ser h hk hp hs.s hQ with ⟨e, h2⟩ | ⟨e, _, _, _, h2⟩
 ·rw [if_pos e]; exact ⟨h2, h1⟩
 ·rw [if_neg e]; exact ⟨h2, h1⟩
end Go.Proofs.YtplpofmnhcclbaaGreat

namespace Go.Proofs.YtplpofmnhcclbaaGreat
open Go.RowKit
set_option maxRecDepth 100000
theorem eq_of_getD {a b : List Int} (hl : a.length = b.length) (h : ∀ j, j < a.length → a.getD j default = b.getD j default) : a = b := by
 refine List.ext_getElem hl fun j h1 h2 => ?_
 have := h j h1
 rw [List.getD_eq_getElem?_getD, List.getD_eq_getElem?_getD, List.getElem?_eq_getElem h1, List.getElem?_eq_getElem h2] at this
 simpa using this
theorem r1_SameBytes (a b : List Int) : Pure TC 61 [.d (slOf 1 (encI .u8) a), .d (slOf 1 (encI .u8) b)] (.b (decide (a = b))) := by
 refine Pure.lens (.mk Tryz.func61 rfl rfl) fun hlen => ?_
 have ha := hlen a.length (by simp [lensOf, slOf])
 refine Pure.mk' Tryz.func61 rfl rfl zN ?_
 (repeat' (first | ((first | refine Wp.any TC_mixed rfl ?_ | (with_reducible first | refine Go.mk ?_ | apply Eff1.of)); conv => whnf) | ((refine ways (fun hc => ?_) (fun hc => ?_)) <;> (try simp only [wz9] at hc) <;> (try (exfalso; omega)) <;> (conv => whnf))))
 ·exact .b (decide_eq_false fun e => by subst e; omega).symm
 refine Wp.loopP (ι := Nat) (fun i => i ≤ a.length ∧ ∀ j, j < i → a.getD j default = b.getD j default) (fun i => ⟨⟨Tryz.f61.ntmps, 0⟩, 0, [(0, .d (slOf 1 (encI .u8) a)), (1, .d (slOf 1 (encI .u8) b)), (12, .i .i64 a.length), (13, .i .i64 i)], []⟩) (fun i => a.length - i) 0 ⟨by simp, by simp⟩ ?_ ?_
 ·(refine Le.by [] rfl rfl rfl rfl ?_ ?_ <;> (conv => whnf) <;> (repeat' (first | exact trivial | exact ArgLe.rfl rfl | ((with_reducible refine And.intro ?_ ?_) <;> (conv => whnf)))))
 ·rintro i ⟨h1, h2⟩
  (repeat' (first | ((first | refine Wp.any TC_mixed rfl ?_ | (with_reducible first | refine Go.mk ?_ | apply Eff1.of | refine Ov.ok zO ?_) | refine zV ?_ | with_reducible refine And.intro zC ?_); conv => whnf) | ((refine ways (fun hc => ?_) (fun hc => ?_)) <;> (try simp only [wz9] at hc) <;> (try (exfalso; omega)) <;> (conv => whnf))))
  all_goals try simp only [Int.toNat_natCast] at *
  ·exact .b (decide_eq_false fun e => by subst e; exact hc rfl).symm
  ·refine ⟨i + 1, ⟨by omega, fun j hj => ?_⟩, by first | omega | (dsimp only; omega), ?_⟩
   ·by_cases e : j = i
    ·subst e; exact hc
    ·exact h2 j (by omega)
   ·(refine Le.by [] rfl rfl rfl rfl ?_ ?_ <;> (conv => whnf) <;> (repeat' (first | exact trivial | exact ArgLe.rfl rfl | ((with_reducible refine And.intro ?_ ?_) <;> (conv => whnf)))))
  ·exact .b (decide_eq_true (eq_of_getD (by omega) fun j hj => h2 j (by omega))).symm
theorem r1_SameInts (a b : List Int) : Pure TC 62 [.d (slOf 1 (encI .i64) a), .d (slOf 1 (encI .i64) b)] (.b (decide (a = b))) := by
 refine Pure.lens (.mk Tryz.func62 rfl rfl) fun hlen => ?_
 have ha := hlen a.length (by simp [lensOf, slOf])
 refine Pure.mk' Tryz.func62 rfl rfl zN ?_
 (repeat' (first | ((first | refine Wp.any TC_mixed rfl ?_ | (with_reducible first | refine Go.mk ?_ | apply Eff1.of)); conv => whnf) | ((refine ways (fun hc => ?_) (fun hc => ?_)) <;> (try simp only [wz9] at hc) <;> (try (exfalso; omega)) <;> (conv => whnf))))
 ·exact .b (decide_eq_false fun e => by subst e; omega).symm
 refine Wp.loopP (ι := Nat) (fun i => i ≤ a.length ∧ ∀ j, j < i → a.getD j default = b.getD j default) (fun i => ⟨⟨Tryz.f62.ntmps, 0⟩, 0, [(0, .d (slOf 1 (encI .i64) a)), (1, .d (slOf 1 (encI .i64) b)), (12, .i .i64 a.length), (13, .i .i64 i)], []⟩) (fun i => a.length - i) 0 ⟨by simp, by simp⟩ ?_ ?_
 ·(refine Le.by [] rfl rfl rfl rfl ?_ ?_ <;> (conv => whnf) <;> (repeat' (first | exact trivial | exact ArgLe.rfl rfl | ((with_reducible refine And.intro ?_ ?_) <;> (conv => whnf)))))
 ·rintro i ⟨h1, h2⟩
  (repeat' (first | ((first | refine Wp.any TC_mixed rfl ?_ | (with_reducible first | refine Go.mk ?_ | apply Eff1.of | refine Ov.ok zO ?_) | refine zV ?_ | with_reducible refine And.intro zC ?_); conv => whnf) | ((refine ways (fun hc => ?_) (fun hc => ?_)) <;> (try simp only [wz9] at hc) <;> (try (exfalso; omega)) <;> (conv => whnf))))
  all_goals try simp only [Int.toNat_natCast] at *
  ·exact .b (decide_eq_false fun e => by subst e; exact hc rfl).symm
  ·refine ⟨i + 1, ⟨by omega, fun j hj => ?_⟩, by first | omega | (dsimp only; omega), ?_⟩
   ·by_cases e : j = i
    ·subst e; exact hc
    ·exact h2 j (by omega)
   ·(refine Le.by [] rfl rfl rfl rfl ?_ ?_ <;> (conv => whnf) <;> (repeat' (first | exact trivial | exact ArgLe.rfl rfl | ((with_reducible refine And.intro ?_ ?_) <;> (conv => whnf)))))
  ·exact .b (decide_eq_true (eq_of_getD (by omega) fun j hj => h2 j (by omega))).symm
instance : DecidableEq Cel := fun a b => decidable_of_iff (a.pol = b.pol ∧ a.key = b.key ∧ a.tat = b.tat ∧ a.held = b.held) (by
 cases a; cases b; simp)
theorem r16_Same (xs ys : List Cel) : Pure TC 29 [.d (slOf 4 Cel.D xs), .d (slOf 4 Cel.D ys)] (.b (decide (xs = ys))) := by
 refine Pure.lens (.mk Tryz.func29 rfl rfl) fun hlen => ?_
 have ha := hlen xs.length (by simp [lensOf, slOf])
 refine Pure.mk' Tryz.func29 rfl rfl zN ?_
 (repeat' (first | ((first | refine Wp.any TC_mixed rfl ?_ | (with_reducible first | refine Go.mk ?_ | apply Eff1.of)); conv => whnf) | ((refine ways (fun hc => ?_) (fun hc => ?_)) <;> (try simp only [wz9] at hc) <;> (try (exfalso; omega)) <;> (conv => whnf))))
 ·exact .b (decide_eq_false fun e => by subst e; omega).symm
 refine Wp.loopP (ι := Nat) (fun i => i ≤ xs.length ∧ ∀ j, j < i → xs.getD j default = ys.getD j default) (fun i => ⟨⟨Tryz.f29.ntmps, 0⟩, 0, [(0, .d (slOf 4 Cel.D xs)), (1, .d (slOf 4 Cel.D ys)), (12, .i .i64 xs.length), (13, .i .i64 i)], []⟩) (fun i => xs.length - i) 0 ⟨by simp, by simp⟩ ?_ ?_
 ·(refine Le.by [] rfl rfl rfl rfl ?_ ?_ <;> (conv => whnf) <;> (repeat' (first | exact trivial | exact ArgLe.rfl rfl | ((with_reducible refine And.intro ?_ ?_) <;> (conv => whnf)))))
 ·rintro i ⟨h1, h2⟩
  (repeat' (first | ((first | refine Wp.any TC_mixed rfl ?_ | (with_reducible first | refine Go.mk ?_ | apply Eff1.of | refine Ov.ok zO ?_) | refine zV ?_ | (with_reducible first | refine And.intro zC ?_ | refine DCall.pure (r1_SameBytes _ _) rfl rfl ?_ | refine DCall.pure (r1_SameInts _ _) rfl rfl ?_)); conv => whnf) | ((refine ways (fun hc => ?_) (fun hc => ?_)) <;> (try simp only [wz9] at hc) <;> (try (exfalso; omega)) <;> (conv => whnf))))
  all_goals try simp only [Int.toNat_natCast] at *
  ·exact .b (decide_eq_false fun e => by subst e; exact hc rfl).symm
  ·exact .b (decide_eq_false fun e => by subst e; exact hc rfl).symm
  ·exact .b (decide_eq_false fun e => by subst e; exact hc rfl).symm
  ·exact .b (decide_eq_false fun e => by subst e; exact hc rfl).symm
  ·rename_i q1 q2 q3
   refine ⟨i + 1, ⟨by omega, fun j hj => ?_⟩, by first | omega | (dsimp only; omega), ?_⟩
   ·by_cases e : j = i
    ·subst e
     cases hx : xs.getD j default with | mk a1 a2 a3 a4 =>
     cases hy : ys.getD j default with | mk b1 b2 b3 b4 =>
     rw [hx, hy] at q1 q2 q3 hc
     simp only at q1 q2 q3 hc
     subst q1 q2 q3 hc; rfl
    ·exact h2 j (by omega)
   ·(refine Le.by [] rfl rfl rfl rfl ?_ ?_ <;> (conv => whnf) <;> (repeat' (first | exact trivial | exact ArgLe.rfl rfl | ((with_reducible refine And.intro ?_ ?_) <;> (conv => whnf)))))
  ·refine .b (decide_eq_true (List.ext_getElem (by omega) fun j g1 g2 => ?_)).symm
   have := h2 j (by omega)
   rw [List.getD_eq_getElem?_getD, List.getD_eq_getElem?_getD, List.getElem?_eq_getElem g1, List.getElem?_eq_getElem g2] at this
   simpa using this
end Go.Proofs.YtplpofmnhcclbaaGreat
