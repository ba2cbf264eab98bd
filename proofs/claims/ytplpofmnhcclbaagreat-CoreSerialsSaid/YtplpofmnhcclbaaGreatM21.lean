/- Parts of the proof, one behind the other: Ce9, Cf0, Cf3, Cf4, Rf1. Lemmas and contracts of functions; no condition of its own. -/
import Derived.Test.YtplpofmnhcclbaaGreatM20
set_option linter.unusedVariables false
set_option linter.unusedSimpArgs false
set_option maxHeartbeats 1000000
namespace Go.Proofs.YtplpofmnhcclbaaGreat
open Go.RowKit
set_option maxRecDepth 100000
set_option maxHeartbeats 8000000
theorem awake_T : Pure TC 14 [] (.b true) := by
 obtain ⟨c1, c2, c3, x1, x2, x3, hN, hT, hR, hR2, hC, hP⟩ := aw_runs
 have x0 : ∀ i j, SV.Lt 1 ((xs0 i).f j) := fun _ _ => .any
 refine Pure.mk' Tryz.func14 rfl rfl zN ?_
 (repeat' (first | ((first | refine Wp.any TC_mixed rfl ?_ | (with_reducible first | refine Go.mk ?_ | apply Eff1.of | refine CallStop.pure (law_table) rfl rfl ?_)); conv => whnf) | ((refine CallStop.fn (hN) [] rfl rfl rfl rfl rfl ?ha ?hh ?_); (case ha => exact zA); (case hh => exact zH); (conv => whnf)) | ((refine CallStop.fn (hT) [0,1,2,3,4,5,6,7,8,9,10,11,12,13] rfl rfl rfl rfl rfl ?ha ?hh ?_); (case ha => exact zA); (case hh => exact zz2); (conv => whnf)) | ((refine CallStop.fn (hR) [0,1,2,3,4,5,6,7,8,9,10,11,12,13] rfl rfl rfl rfl rfl ?ha ?hh ?_); (case ha => exact zA); (case hh => exact zz2); (conv => whnf)) | ((refine CallStop.fn (hR2) [0,1,2,3,15,16,17,18,19,20,21,22,23,24] rfl rfl rfl rfl rfl ?ha ?hh ?_); (case ha => exact zA); (case hh => exact zz2); (conv => whnf)) | ((refine CallStop.fn (hC) [0,1,2,3,27,28,29,30,31,32,33,34,35,36] rfl rfl rfl rfl rfl ?ha ?hh ?_); (case ha => exact zA); (case hh => exact zz2); (conv => whnf)) | ((refine CallStop.fn (hP) [0,1,2,3,27,28,29,30,31,32,33,34,35,36] rfl rfl rfl rfl rfl ?ha ?hh ?_); (case ha => exact zA); (case hh => exact zz2); (conv => whnf))))
 exact .b (by decide)
end Go.Proofs.YtplpofmnhcclbaaGreat

namespace Go.Proofs.YtplpofmnhcclbaaGreat
open Go.RowKit
set_option maxRecDepth 100000
set_option maxHeartbeats 4000000
theorem play_oth {P : Core.Ops} {M : Core.Mc} {S : Nat → Core.Wk} {p : Pick} (hp : p.Fit) : ∀ j, 5 ≤ j → (playC P M S p).S j = S j := by
 intro j hj
 have hw : j ≠ p.who.toNat := by have := hp.who; omega
 unfold playC
 split
 ·split
  ·show Core.nx P M S p.who.toNat j = S j
   unfold Core.nx; rw [Dir.upd_ne _ _ hw]
  ·rfl
 ·split
  ·split
   ·rfl
   ·show Dir.upd S p.who.toNat (newW p) j = S j
    rw [Dir.upd_ne _ _ hw]
  ·rfl
variable {ps : List Pol} {room : Int} {w k : Nat} {c0 : Cst} {n : Nat} {tr : Nat → Cst} {rs : Nat → Core.Rs}
theorem AloneC.ends (A : AloneC ps room w k c0 n tr rs) : ((tr n).S w).s = .none := by
 have hp := A.pos
 obtain ⟨m, rfl⟩ : ∃ m, n = m + 1 := ⟨n - 1, by omega⟩
 obtain ⟨d, e, g⟩ := A.mx m (by omega)
 have hy := A.yes
 rw [show m + 1 - 1 = m by omega, g] at hy
 rw [e, Core.nx, Dir.upd_same]
 exact Core.step_none hy
theorem isC_none {s : Core.CS} (h : s = .none) : isC s = false := by rw [h]; rfl
@[reducible] def cst0 : Cst := ⟨Core.M0, S0, xs0, noteN 0, f0'⟩
theorem law0 {room : Int} (h : 1 ≤ room ∧ room ≤ 4096) : LawC tab2 room 0 cst0.M cst0.S cst0.xs cst0.nl (((0 : Nat) : Int) + 1) := LawC.zero tab2_ok h
theorem law_alone {room : Int} {k : Nat} {c : Cst} (h : LawC tab2 room k c.M c.S c.xs c.nl ((k : Int) + 1)) (hk : k ≤ 500000) {w : Nat} (hw : w < 8 ∨ w = 9) (hn : (c.S w).s = .none) (op pol : Int) (key : List Int) (m : Int) (hE : chkE tab2 op pol key m = 0) (hkl : key.length ≤ 16777216) (hkx : op ≠ 5 → op ≠ 6 → Core.Kx tab2 (newX op pol key m)) (most : Int) (h1 : 165 ≤ most) (h2 : most ≤ 1000) :
  ∃ (xs' : Nat → XB) (n : Nat) (tr : Nat → Cst) (rs : Nat → Core.Rs), n ≤ 165 ∧ AloneC tab2 room w k ⟨c.M, Dir.upd c.S w ⟨newX op pol key m, Core.first (newX op pol key m)⟩, xs', c.nl, c.f⟩ n tr rs ∧
   Fun TC 22 14 [.ptr 0 0, .i .i64 w, callS op pol key m, .i .i64 most] (coreH tab2 room (gOf (coreOps tab2 room) 4 c.S) c.M c.xs c.nl c.f ((k : Int) + 1))
    24 (.tup [(rs (n - 1)).r.S, .i .i64 n, .b true]) (coreS tab2 room (tr n).S (tr n).M (tr n).xs (tr n).nl (tr n).f ((k : Int) + n + 1)) := by
 obtain ⟨xs', hL, hS⟩ := law_Start (f := c.f) h (by omega) hw hn op pol key m hE hkl hkx
 obtain ⟨n, tr, rs, hn', A⟩ := alone_ex hw 165 k ⟨c.M, Dir.upd c.S w ⟨newX op pol key m, Core.first (newX op pol key m)⟩, xs', c.nl, c.f⟩ (by omega) hL
  (by
   show isC (Dir.upd c.S w _ w).s = true
   rw [Dir.upd_same]
   show isC (Core.first (newX op pol key m)) = true
   unfold Core.first; (repeat' split) <;> rfl)
  (Core.T_le (hL.all.inv.cw w))
 exact ⟨xs', n, tr, rs, hn', A, law_run (cnt := 0) op pol key m most h2 hS h.xl A (by omega)⟩
end Go.Proofs.YtplpofmnhcclbaaGreat

namespace Go.Proofs.YtplpofmnhcclbaaGreat
open Go.RowKit
set_option maxRecDepth 100000
set_option maxHeartbeats 8000000
theorem word_c {ps : List Pol} {room who : Int} {S : Nat → Core.Wk} {M : Core.Mc} {xs : Nat → XB} {nl nl0 : Nat} {f : Nat → List D} {cnt cnt0 : Int} (hM : COK ps room who (gOf (coreOps ps room) 4 S) M xs nl0 cnt0) (h8 : M.W 0 ≤ 8) :
  Fun TC 23 14 [.ptr 0 0] (coreH ps room (gOf (coreOps ps room) 4 S) M xs nl f cnt) 14 (.i .i64 (M.W 0)) (coreH ps room (gOf (coreOps ps room) 4 S) M xs nl f cnt) := by
 have q5 := hM.g; have qo := hM.o; have q6 := hM.d0
 have hL := core_Level (nl := nl) (f := f) (cnt := cnt) hM
 generalize hb : decide (M.W 0 % 2 = 1) = b at hL
 cases b with
 | true =>
  have hb := of_decide_eq_true hb
  refine Fun.mk' Tryz.func23 rfl rfl zN (by decide) ?_
  (repeat' (first | ((first | refine Wp.any TC_mixed rfl ?_ | (with_reducible first | refine Go.mk ?_ | apply Eff1.of | refine Ov.ok zO ?_)); conv => whnf) | ((apply CallStop.fn14 (h := hL)); (case hh => exact zz0); (case ha => exact zA); (case hd => exact rfl); (case hlive => exact rfl); (case hkeys => exact rfl); (case hlt => exact rfl); (conv => whnf))))
  rw [show 2 * (M.W 0 / 2) + 1 = M.W 0 by omega]
  ((refine FinLe.sealB [0, 1, 2, 3, 4, 5, 6, 7, 8, 9, 10, 11, 12, 13] rfl rfl rfl ?_ ?_); (focus ((conv => whnf); (repeat' (first | exact Seal.d)))); (focus ((conv => whnf); (repeat' (first | exact zC9 | exact x_sealR (qo _) rfl | ((refine And.intro ?_ ?_) <;> (conv => whnf)))))))
 | false =>
  have hb := of_decide_eq_false hb
  refine Fun.mk' Tryz.func23 rfl rfl zN (by decide) ?_
  (repeat' (first | ((first | refine Wp.any TC_mixed rfl ?_ | (with_reducible first | refine Go.mk ?_ | apply Eff1.of | refine Ov.ok zO ?_)); conv => whnf) | ((apply CallStop.fn14 (h := hL)); (case hh => exact zz0); (case ha => exact zA); (case hd => exact rfl); (case hlive => exact rfl); (case hkeys => exact rfl); (case hlt => exact rfl); (conv => whnf))))
  rw [show 2 * (M.W 0 / 2) = M.W 0 by omega]
  ((refine FinLe.sealB [0, 1, 2, 3, 4, 5, 6, 7, 8, 9, 10, 11, 12, 13] rfl rfl rfl ?_ ?_); (focus ((conv => whnf); (repeat' (first | exact Seal.d)))); (focus ((conv => whnf); (repeat' (first | exact zC9 | exact x_sealR (qo _) rfl | ((refine And.intro ?_ ?_) <;> (conv => whnf)))))))
set_option maxRecDepth 100000
set_option maxHeartbeats 4000000
structure SerI (M : Core.Mc) (S : Nat → Core.Wk) (L : List Int) (n : Int) : Prop where
 s : Core.Sers M S L.reverse
 le : M.W 33 + Core.pend S ≤ n
theorem pend_ge (S : Nat → Core.Wk) : 0 ≤ Core.pend S := by
 have := Core.sumI_ge (f := fun i => Core.pd (S i)) (n := 64) fun j _ => (Core.pd_bd _).1
 exact this
theorem SerI.zero : SerI Core.M0 S0 [] 0 :=
 ⟨⟨fun _ => Int.le_refl _, fun i _ _ h => absurd rfl h, fun _ h => by simp at h, by simp, fun _ => trivial⟩, by decide⟩
@[reducible] def wantC (p : Pick) (e n : Int) : Int := if p.kind = 1 ∧ p.op = 2 ∧ e = 0 then n + 1 else n
theorem play_ser {room : Int} {k : Nat} {c : Cst} (h : LawC tab2 room k c.M c.S c.xs c.nl ((k : Int) + 1)) (hk : k ≤ 500000) {p : Pick} (hp : p.Fit) {L : List Int} {n : Int} (hs : SerI c.M c.S L n) {Q : Pl} (hQ : playC (coreOps tab2 room) c.M c.S p = Q) :
  (Q.r.r.serial = 0 ∧ SerI Q.M Q.S L (wantC p Q.e n)) ∨
  (Q.r.r.serial ≠ 0 ∧ (1 ≤ Q.r.r.serial ∧ Q.r.r.serial ≤ wantC p Q.e n) ∧ Q.r.r.serial ∉ L ∧ Q.r.r.g = true ∧ SerI Q.M Q.S (L ++ [Q.r.r.serial]) (wantC p Q.e n)) := by
 have hw := hp.who
 have hB : ((k : Int) + 1) + 1 < Dir.FZ := by unfold Dir.FZ; omega
 unfold playC at hQ
 by_cases e0 : p.kind = 0
 ·rw [if_pos e0] at hQ
  have hwant : ∀ e, wantC p e n = n := fun e => if_neg (by omega)
  cases hc : isC (c.S p.who.toNat).s with
  | true =>
   rw [hc, if_pos rfl] at hQ
   subst hQ
   rw [hwant]
   have hn := isC_ne hc
   have h1 := hs.s.step (coreOps_ser tab2 room) h.all.inv hB p.who.toNat hn (fun hd => by rw [Core.step_r0 hd]; rfl)
   have h2 := Core.pend_step (P := coreOps tab2 room) h.all.inv hB (i := p.who.toNat) (by omega) hn (h.all.rx _)
   have h3 := (Core.step_sr (coreOps_ser tab2 room) (M := c.M) (hs.s.sr p.who.toNat)).2
   have h4 := hs.le
   dsimp only
   generalize Core.mx (coreOps tab2 room) c.M c.S p.who.toNat = M' at h1 h2 ⊢
   generalize Core.nx (coreOps tab2 room) c.M c.S p.who.toNat = S' at h1 h2 ⊢
   generalize (Core.step (coreOps tab2 room) c.M (c.S p.who.toNat).x (c.S p.who.toNat).s).r = r at h1 h3 ⊢
   by_cases e : r.r.serial = 0
   ·refine .inl ⟨e, ?_, by omega⟩
    unfold Core.give at h1
    rwa [if_pos e] at h1
   ·have hx := h1.gv r.r.serial (by unfold Core.give; rw [if_neg e]; simp)
    have hg := pend_ge S'
    have hnd := h1.nd
    unfold Core.give at h1 hnd
    rw [if_neg e] at h1 hnd
    refine .inr ⟨e, ⟨hx.1, by omega⟩, ?_, (h3 e).2, ?_, by omega⟩
    ·have := (List.nodup_cons.1 hnd).1
     simpa using this
    ·rw [List.reverse_append]; exact h1
  | false =>
   rw [hc, if_neg (by decide)] at hQ
   subst hQ
   rw [hwant]
   exact .inl ⟨rfl, hs⟩
 ·rw [if_neg e0] at hQ
  by_cases e1 : p.kind = 1
  ·rw [if_pos e1] at hQ
   cases hc : isC (c.S p.who.toNat).s with
   | true =>
    rw [hc, if_pos rfl] at hQ
    subst hQ
    exact .inl ⟨rfl, by rw [show wantC p 9 n = n from if_neg (by omega)]; exact hs⟩
   | false =>
    rw [hc, if_neg (by decide)] at hQ
    subst hQ
    have hno := isC_no hc
    refine .inl ⟨rfl, hs.s.start h.all.inv.c33 (k := newW p) rfl ?_, ?_⟩
    ·show Core.Sr (newX p.op p.pol p.key p.n) (Core.first (newX p.op p.pol p.key p.n))
     unfold Core.first; (repeat' split) <;> trivial
    ·show c.M.W 33 + Core.pend (Dir.upd c.S p.who.toNat (newW p)) ≤ wantC p 0 n
     rw [Core.pend_start (by omega) hno]
     have hf : (newW p).s ≠ .none := by
      show Core.first (newX p.op p.pol p.key p.n) ≠ .none
      unfold Core.first; (repeat' split) <;> simp
     rw [Core.pd_some hf]
     have h4 := hs.le
     show c.M.W 33 + (Core.pend c.S + if p.op = 2 ∧ (0 : Int) = 0 then 1 else 0) ≤ if p.kind = 1 ∧ p.op = 2 ∧ (0 : Int) = 0 then n + 1 else n
     split <;> split <;> omega
  ·rw [if_neg e1] at hQ
   subst hQ
   rw [show wantC p 0 n = n from if_neg (by omega)]
   exact .inl ⟨rfl, ⟨hs.s.le, hs.s.ne, hs.s.gv, hs.s.nd, hs.s.sr⟩, hs.le⟩
set_option maxRecDepth 100000
theorem gI {ys : List Int} {k : Nat} (h : k < ys.length) : ys.getD (0 + (k : Int).toNat) default = ys[k] := by
 rw [Nat.zero_add, Int.toNat_natCast, List.getD_eq_getElem?_getD, List.getElem?_eq_getElem h]; rfl
theorem app_rowI (zs : List Int) (t : Int) : ∀ k, k < zs.length + 1 → catF zs.length (fun i => encI IntKind.i64 (zs.getD i default)) (fun i => chunkD [D.val (.int .i64 t)] 1 (0 + i)) k = encI .i64 ((zs ++ [t]).getD k default) := fun k hk => by
 simp only [catF]
 by_cases e : k < zs.length
 ·rw [if_pos e, List.getD_eq_getElem?_getD, List.getD_eq_getElem?_getD, List.getElem?_append_left e]
 ·rw [if_neg e]
  obtain rfl : k = zs.length := by omega
  have : (zs ++ [t]).getD zs.length default = t := by simp
  rw [Nat.sub_self, this]; rfl
end Go.Proofs.YtplpofmnhcclbaaGreat
