/- Parts of the proof, one behind the other: Cu3. Lemmas and contracts of functions; no condition of its own. -/
import Derived.Test.YtplpofmnhcclbaaGreatMB23
set_option linter.unusedVariables false
set_option linter.unusedSimpArgs false
set_option maxHeartbeats 1000000
namespace Go.Proofs.YtplpofmnhcclbaaGreat
open Go.RowKit
set_option maxRecDepth 100000
set_option maxHeartbeats 80000000
theorem SV.Le.any {x : SV} : SV.Le x .any := ⟨fun _ _ _ _ _ => .any _⟩
@[reducible] def callsB (q : Nat → Int × Int) : Blk := .cells [.i .u8 (q 0).1, .any, .any, .i .i64 (q 0).2, .i .u8 (q 1).1, .any, .any, .i .i64 (q 1).2, .i .u8 (q 2).1, .any, .any, .i .i64 (q 2).2, .i .u8 (q 3).1, .any, .any, .i .i64 (q 3).2, .i .u8 (q 4).1, .any, .any, .i .i64 (q 4).2]
def CallsOf (q : Nat → Int × Int) (S : Nat → Core.Wk) : Prop := ∀ w, isC (S w).s = true → q w = ((S w).x.op, (S w).x.n)
def tellQ (p : Pick) (S : Nat → Core.Wk) (q : Nat → Int × Int) : Nat → Int × Int := if p.kind = 1 ∧ isC (S p.who.toNat).s = false then Dir.upd q p.who.toNat (p.op, p.n) else q
theorem CallsOf.play {P : Core.Ops} {M : Core.Mc} {S : Nat → Core.Wk} {p : Pick} {q : Nat → Int × Int} (h : CallsOf q S) : CallsOf (tellQ p S q) (playC P M S p).S := by
 unfold playC tellQ
 by_cases e0 : p.kind = 0
 ·rw [if_pos e0, if_neg (fun h9 => by have := h9.1; omega)]
  cases hc : isC (S p.who.toNat).s with
  | true =>
   rw [if_pos rfl]
   intro w hw
   have hw : isC (Core.nx P M S p.who.toNat w).s = true := hw
   show q w = ((Core.nx P M S p.who.toNat w).x.op, (Core.nx P M S p.who.toNat w).x.n)
   by_cases e : w = p.who.toNat
   ·subst e
    rw [h _ hc, Core.nx, Dir.upd_same]
    dsimp only
    rw [Core.step_op, (Core.step_kn M (S _).x (S _).s).2.2]
   ·rw [Core.nx, Dir.upd_ne _ _ e] at hw ⊢
    exact h w hw
  | false => rw [if_neg (by decide)]; exact h
 ·rw [if_neg e0]
  by_cases e1 : p.kind = 1
  ·rw [if_pos e1]
   cases hc : isC (S p.who.toNat).s with
   | true => rw [if_pos rfl, if_neg (fun h9 => by cases h9.2)]; exact h
   | false =>
    rw [if_neg (show ¬ (false = true) by decide), if_pos (show p.kind = 1 ∧ false = false from ⟨e1, rfl⟩)]
    intro w hw
    by_cases e : w = p.who.toNat
    ·subst e
     show Dir.upd q _ _ _ = ((Dir.upd S _ (newW p) _).x.op, (Dir.upd S _ (newW p) _).x.n)
     rw [Dir.upd_same, Dir.upd_same]; rfl
    ·replace hw : isC (Dir.upd S p.who.toNat (newW p) w).s = true := hw
     show Dir.upd q _ _ w = ((Dir.upd S _ (newW p) w).x.op, (Dir.upd S _ (newW p) w).x.n)
     rw [Dir.upd_ne _ _ e] at hw ⊢
     rw [Dir.upd_ne _ _ e]
     exact h w hw
  ·rw [if_neg e1, if_neg (fun h9 => e1 h9.1)]; exact h
theorem Wp.midAt {C : Cx} (id : Nat) {b : Array Oper} {d : Bool} {z y : Code} {S : St} {Q : Exit → St → Prop} (S1 : St) (h1 : Wp C (.seq (.region id b d) z) S (fun e S' => match e with | .normal => Le S' S1 | e => Q e S')) (h2 : Wp C y S1 Q) : Wp C (.seq (.seq (.region id b d) z) y) S Q :=
 Wp.seq (h1.mono fun e S' h => by
  cases e with
  | normal => exact Wp.le h h2
  | _ => exact h)
theorem Wp.midI {C : Cx} {ι : Type} (id : Nat) {b : Array Oper} {d : Bool} {y : Code} {S : St} {Q : Exit → St → Prop} (p : ι → Prop) (I : ι → St) (h1 : Wp C (.region id b d) S (fun e S' => match e with | .normal => ∃ i, p i ∧ Le S' (I i) | e => Q e S')) (h2 : ∀ i, p i → Wp C y (I i) Q) : Wp C (.seq (.region id b d) y) S Q :=
 Wp.seq (h1.mono fun e S' h => by
  cases e with
  | normal => obtain ⟨i, hi, hl⟩ := h; exact Wp.le hl (h2 i hi)
  | _ => exact h)
theorem CoreLeaves_holds (wk : Int) (b0 : 0 ≤ wk) (b1 : wk ≤ 255) (script : List Pick) (hs : ∀ a ∈ script, a.ok) : Pure TC 10 [.i .u8 wk, .d (slOf 7 Pick.D script)] (.b true) := by
 refine Pure.lens (.mk Tryz.func10 rfl rfl) fun hlen => ?_
 have hl0 := hlen script.length (by simp [lensOf, slOf])
 clear hlen
 have hm : wk.tmod 6 = wk % 6 := Int.tmod_eq_emod_of_nonneg b0
 have hroom : 1 ≤ 1 + wk.tmod 6 ∧ 1 + wk.tmod 6 ≤ 4096 := by omega
 have hr12 : 1 + wk.tmod 6 ≤ 12 := by omega
 have hN := core_New (ps := tab2) (room := 1 + wk.tmod 6) (tab2_new hroom)
 have x0 : ∀ i j, SV.Lt 1 ((xs0 i).f j) := fun _ _ => .any
 have L0 := law0 hroom
 refine Pure.mk' Tryz.func10 rfl rfl zN ?_
 (repeat' (first | ((first | refine Wp.any TC_mixed rfl ?_ | (with_reducible first | refine Go.mk ?_ | apply Eff1.of)); conv => whnf) | with_reducible exact rfl | ((with_reducible refine Ov.ok zO ?_); conv => whnf) | (with_reducible refine Ov.sh1 (by with_unfolding_all exact rfl) ?_) | ((first | with_reducible refine Ov.quo (by omega) (by omega) (by omega) (fun _ _ => ?_) | refine zV ?_ | with_reducible refine And.intro zC ?_); conv => whnf) | ((with_reducible refine And.intro ?hb ?_); (case hb => exact zz3); (conv => whnf)) | ((refine DApp.a rfl rfl rfl rfl rfl rfl ?hb ?_); (case hb => exact zB); (conv => whnf)) | ((refine DApp.b rfl rfl rfl rfl rfl rfl rfl rfl ?hb ?ho ?_); (case hb => exact zB); (case ho => omega); (conv => whnf)) | ((refine DApp.c rfl rfl rfl rfl rfl ?hb ?_); (case hb => exact zB); (conv => whnf)) | ((refine DApp.d rfl rfl rfl rfl rfl rfl ?hb ?ho ?_); (case hb => exact zB); (case ho => omega); (conv => whnf)) | ((with_reducible refine nil_no (by omega) ?_); (conv => whnf)) | ((with_reducible refine nil_any ?_ (fun hn0 => ?_)) <;> (conv => whnf)) | ((with_reducible first | refine CallStop.pure (awake_T) rfl rfl ?_ | refine DCall.pure (awake_T) rfl rfl ?_ | refine CallStop.pure (law_table) rfl rfl ?_ | refine DCall.pure (law_table) rfl rfl ?_); conv => whnf) | ((refine CallStop.fn (hN) [] rfl rfl rfl rfl rfl ?ha ?hh ?_); (case ha => exact zA); (case hh => exact zH); (conv => whnf)) | ((refine DCall.fn (hN) [] [] rfl rfl rfl rfl rfl ?ha ?hh ?hs ?_); (case ha => exact zA); (case hh => exact zH); (case hs => exact zK); (conv => whnf)) | ((refine DCall.new (hN) [] [] rfl rfl rfl rfl rfl rfl ?ha ?hh ?hs ?_); (case ha => exact zA); (case hh => exact zH); (case hs => exact zK); (conv => whnf)) | ((refine ways (fun hc => ?_) (fun hc => ?_)) <;> (try simp only [wz9] at hc) <;> (try (exfalso; omega)) <;> (conv => whnf))))
 refine Wp.loopP (ι := Nat × Nat × Cst × (Nat → Int × Int))
  (fun k => k.1 ≤ script.length ∧ k.1 ≤ 300 ∧ k.2.1 ≤ k.1 ∧ LawC tab2 (1 + wk.tmod 6) k.2.1 k.2.2.1.M k.2.2.1.S k.2.2.1.xs k.2.2.1.nl ((k.2.1 : Int) + 1) ∧ (∃ A R L n, PmI (1 + wk.tmod 6) k.2.2.1.M k.2.2.1.S A R L n) ∧ CallsOf k.2.2.2 k.2.2.1.S)
  (fun k => ⟨⟨Tryz.f10.ntmps, 0⟩, 15, [(5, .ptr 0 0), (7, .ptr 14 0), (32, .d (slOf 7 Pick.D script)), (33, .i .i64 script.length), (34, .i .i64 k.1)], coreH tab2 (1 + wk.tmod 6) (gOf (coreOps tab2 (1 + wk.tmod 6)) 4 k.2.2.1.S) k.2.2.1.M k.2.2.1.xs k.2.2.1.nl k.2.2.1.f ((k.2.1 : Int) + 1) ++ [(14, some (callsB k.2.2.2))]⟩)
  (fun k => script.length - k.1) (0, 0, cst0, fun _ => (0, 0))
  ⟨Nat.zero_le _, Nat.zero_le _, Nat.le_refl _, L0, ⟨0, [], [], 0, .zero _⟩, fun w h => by cases h⟩ ?_ ?_
 ·(refine Le.by [0,1,2,3,4,5,6,7,8,9,10,11,12,13,14] rfl rfl rfl rfl ?_ ?_ <;> ((conv => whnf); repeat' (first | exact trivial | exact law_argR (by decide) (fun l hl => by rcases l with _ | _ | _ | _ | l <;> first | exact ⟨Nat.le_of_ble_eq_true rfl, rfl⟩ | exact ⟨Nat.le_of_ble_eq_true rfl, rfl, rfl⟩ | omega) (fun q hq => by rcases q with _ | _ | _ | _ | _ | _ | _ | _ | _ | q <;> first | exact ⟨Nat.le_of_ble_eq_true rfl, rfl⟩ | omega) | exact law_argI (by decide) (by decide) (fun l hl => by rcases l with _ | _ | _ | _ | l <;> first | exact ⟨Nat.le_of_ble_eq_true rfl, rfl⟩ | exact ⟨Nat.le_of_ble_eq_true rfl, rfl, rfl⟩ | omega) (fun q hq => by rcases q with _ | _ | _ | _ | _ | _ | _ | _ | _ | q <;> first | exact ⟨Nat.le_of_ble_eq_true rfl, rfl⟩ | omega) | exact ArgLe.rfl rfl | exact ArgLe.ptr rfl | exact ArgLe.sl rfl | exact ⟨rfl, rfl, rfl⟩ | exact ⟨rfl, Nat.le_of_ble_eq_true rfl⟩ | exact x_argRA (by assumption) rfl | exact x_argA (by assumption) | exact fun i hi => rfl | ((with_reducible refine And.intro ?_ ?_) <;> (conv => whnf)))))
  all_goals exact ArgLe.free SV.Le.any rfl
 ·rintro ⟨i, k, c, q⟩ ⟨h1, h2, h3, h4, ⟨A, R, L, n, h5⟩, h6⟩
  dsimp only at h1 h2 h3 h4 h5 h6 ⊢
  have xc := h4.xl
  by_cases hi : i < script.length ∧ i < 300
  ·have hok := Pick.at hs (i : Int).toNat
   have hfit := law_fit _ hok
   have hF := fitP_Fit hok
   generalize fitP (script.getD (i : Int).toNat default) = p at hfit hF
   obtain ⟨k', c', hk', e1, e2, hL, hP⟩ := law_play h4 (by omega) p hF
   have xc' := hL.xl
   have hpm := play_pmi h4 (by omega) hF h5 rfl
   have hst := play_still h4 (by omega) hF h5 rfl
   have hcl := h6.play (P := coreOps tab2 (1 + wk.tmod 6)) (M := c.M) (p := p)
   rw [← e1, ← e2] at hpm
   rw [← e1] at hst
   rw [← e2] at hcl
   have hPd := law_Pending (f := c.f) h4 (by omega) (w := p.who.toNat) (by have := hF.who; omega)
   rw [show ((p.who.toNat : Nat) : Int) = p.who by have := hF.who; omega] at hPd
   have hC1 := law_Cells (f := c.f) h4 (by omega) hr12
   have hC3 := law_Cells (f := c'.f) hL (by omega) hr12
   have hSm : Pure TC 29 [.d (slOf 4 Cel.D (cellsC tab2 (1 + wk.tmod 6) c'.M)), .d (slOf 4 Cel.D (cellsC tab2 (1 + wk.tmod 6) c.M))] (.b (decide (cellsC tab2 (1 + wk.tmod 6) c'.M = cellsC tab2 (1 + wk.tmod 6) c.M))) := r16_Same _ _
   have hG : (p.kind ≠ 0 ∨ (q p.who.toNat).1 = 4 ∨ (q p.who.toNat).1 = 6 ∨ (playC (coreOps tab2 (1 + wk.tmod 6)) c.M c.S p).r.done = true ∧ ((playC (coreOps tab2 (1 + wk.tmod 6)) c.M c.S p).r.r.e ≠ 0 ∨ (q p.who.toNat).1 = 1 ∧ ((playC (coreOps tab2 (1 + wk.tmod 6)) c.M c.S p).r.r.g = false ∨ (q p.who.toNat).2 = 0))) → decide (cellsC tab2 (1 + wk.tmod 6) c'.M = cellsC tab2 (1 + wk.tmod 6) c.M) = true := fun hq => by
    refine decide_eq_true (cells_same h4.all.inv.iw h4.all.ih hL.all.inv.iw hL.all.ih (hst ?_))
    cases hc : isC (c.S p.who.toNat).s with
    | false => exact .inr (.inl rfl)
    | true =>
     rw [h6 _ hc] at hq
     rcases hq with hq | hq | hq | hq
     ·exact .inl hq
     ·exact .inr (.inr (.inl hq))
     ·exact .inr (.inr (.inr (.inl hq)))
     ·exact .inr (.inr (.inr (.inr hq)))
   have hT : tellQ p c.S q = if p.kind = 1 ∧ isC (c.S p.who.toNat).s = false then Dir.upd q p.who.toNat (p.op, p.n) else q := rfl
   generalize tellQ p c.S q = q' at hcl hT
   generalize (playC (coreOps tab2 (1 + wk.tmod 6)) c.M c.S p).r = r at hP hpm hG
   generalize (playC (coreOps tab2 (1 + wk.tmod 6)) c.M c.S p).e = er at hP hpm
   generalize isC (c.S p.who.toNat).s = pd at hPd hT
   generalize decide (cellsC tab2 (1 + wk.tmod 6) c'.M = cellsC tab2 (1 + wk.tmod 6) c.M) = sm at hSm hG
   generalize cellsC tab2 (1 + wk.tmod 6) c'.M = l' at *
   generalize cellsC tab2 (1 + wk.tmod 6) c.M = l0 at *
   have hw := hF.who
   have ho := hF.op
   obtain ⟨pk, pw, po, pp, pky, pn, pt⟩ := p
   obtain ⟨dn, ⟨re, rg, rl, rw', rs', rn⟩⟩ := r
   dsimp only at hw hT hG hPd hP ho
   clear hst e1 e2 hF hok h6
   replace hfit : Pure TC 17 [(script.getD (i : Int).toNat default).S] (.agg [.i .u8 pk, .i .i64 pw, .i .u8 po, .i .i64 pp, .d (slOf 1 (encI .u8) pky), .i .i64 pn, .i .i64 pt]) := hfit
   replace hP : Fun TC 21 14 [.ptr 0 0, .agg [.i .u8 pk, .i .i64 pw, .i .u8 po, .i .i64 pp, .d (slOf 1 (encI .u8) pky), .i .i64 pn, .i .i64 pt]] (coreH tab2 (1 + wk.tmod 6) (gOf (coreOps tab2 (1 + wk.tmod 6)) 4 c.S) c.M c.xs c.nl c.f ((k : Int) + 1))
    24 (.tup [.agg [.b dn, .i .i64 re, .b rg, .i .i64 rl, .i .i64 rw', .i .i64 rs', .i .i64 rn], .i .i64 er]) (coreS tab2 (1 + wk.tmod 6) c'.S c'.M c'.xs c'.nl c'.f ((k' : Int) + 1)) := hP
   have hw5 : pw = 0 ∨ pw = 1 ∨ pw = 2 ∨ pw = 3 ∨ pw = 4 := by omega
   clear hw
   have hG' : (pk ≠ 0 ∨ (q' pw.toNat).1 = 4 ∨ (q' pw.toNat).1 = 6 ∨ dn = true ∧ (re ≠ 0 ∨ (q' pw.toNat).1 = 1 ∧ (rg = false ∨ (q' pw.toNat).2 = 0))) → sm = true := fun h9 => by
    by_cases e : pk = 0
    ·rw [if_neg (fun h8 => by have := h8.1; omega)] at hT
     subst hT; exact hG h9
    ·exact hG (.inl e)
   clear hG
   obtain ⟨S1, hS1⟩ : ∃ S1 : St, S1 = ⟨⟨Tryz.f10.ntmps, 0⟩, 16, [(5, .ptr 0 0), (7, .ptr 14 0), (9, .ptr 15 0), (32, .d (slOf 7 Pick.D script)), (33, .i .i64 script.length), (34, .i .i64 i)], coreH tab2 (1 + wk.tmod 6) (gOf (coreOps tab2 (1 + wk.tmod 6)) 4 c.S) c.M c.xs c.nl c.f ((k : Int) + 1) ++ [(14, some (callsB q')), (15, some (.cells [.i .u8 pk, .i .i64 pw, .i .u8 po, .i .i64 pp, .d (slOf 1 (encI .u8) pky), .i .i64 pn, .i .i64 pt]))]⟩ := ⟨_, rfl⟩
   obtain ⟨S2, hS2⟩ : ∃ S2 : Bool → St, S2 = fun st => ⟨⟨Tryz.f10.ntmps, 0⟩, 15, [(5, .ptr 0 0), (7, .ptr 14 0), (10, .d (slOf 4 Cel.D l0)), (14, .b st), (32, .d (slOf 7 Pick.D script)), (33, .i .i64 script.length), (34, .i .i64 i)], coreH tab2 (1 + wk.tmod 6) (gOf (coreOps tab2 (1 + wk.tmod 6)) 4 c'.S) c'.M c'.xs c'.nl c'.f ((k' : Int) + 1) ++ [(14, some (callsB q'))]⟩ := ⟨_, rfl⟩
   obtain ⟨lst, hlst⟩ : ∃ b : Bool, b = ((q' pw.toNat).2 == 0) := ⟨_, rfl⟩
   have hG2 : dn = true → (q' pw.toNat).1 = 1 → lst = true → sm = true := fun a b h9 => hG' (.inr (.inr (.inr ⟨a, .inr ⟨b, .inr (by rw [hlst] at h9; simpa using h9)⟩⟩)))
   rcases hw5 with rfl | rfl | rfl | rfl | rfl
   all_goals
    (repeat' (first | ((refine Wp.midAt 12 S1 ?_ ?_) <;> subst hS1) | ((refine Wp.midI 17 (fun st => st = true → sm = true) S2 ?_ (fun st hst => ?_)) <;> subst hS2) | ((first | refine Wp.any TC_mixed rfl ?_ | (with_reducible first | refine Go.mk ?_ | apply Eff1.of)); conv => whnf) | with_reducible exact rfl | ((with_reducible refine Ov.ok zO ?_); conv => whnf) | (with_reducible refine Ov.sh1 (by with_unfolding_all exact rfl) ?_) | ((first | with_reducible refine Ov.quo (by omega) (by omega) (by omega) (fun _ _ => ?_) | refine zV ?_ | with_reducible refine And.intro zC ?_); conv => whnf) | ((with_reducible refine And.intro ?hb ?_); (case hb => exact zz3); (conv => whnf)) | ((refine DApp.a rfl rfl rfl rfl rfl rfl ?hb ?_); (case hb => exact zB); (conv => whnf)) | ((refine DApp.b rfl rfl rfl rfl rfl rfl rfl rfl ?hb ?ho ?_); (case hb => exact zB); (case ho => omega); (conv => whnf)) | ((refine DApp.c rfl rfl rfl rfl rfl ?hb ?_); (case hb => exact zB); (conv => whnf)) | ((refine DApp.d rfl rfl rfl rfl rfl rfl ?hb ?ho ?_); (case hb => exact zB); (case ho => omega); (conv => whnf)) | ((with_reducible refine nil_no (by omega) ?_); (conv => whnf)) | ((with_reducible refine nil_any ?_ (fun hn0 => ?_)) <;> (conv => whnf)) | ((with_reducible first | refine CallStop.pure (hfit) rfl rfl ?_ | refine DCall.pure (hfit) rfl rfl ?_ | refine CallStop.pure (hSm) rfl rfl ?_ | refine DCall.pure (hSm) rfl rfl ?_); conv => whnf) | ((refine CallStop.fn (hPd) [0,1,2,3,4,5,6,7,8,9,10,11,12,13] rfl rfl rfl rfl rfl ?ha ?hh ?_); (case ha => exact zA); (case hh => exact zz9); (conv => whnf)) | ((refine CallStop.fn (hC1) [0,1,2,3,4,5,6,7,8,9,10,11,12,13] rfl rfl rfl rfl rfl ?ha ?hh ?_); (case ha => exact zA); (case hh => exact zz9); (conv => whnf)) | ((refine CallStop.fn (hP) [0,1,2,3,4,5,6,7,8,9,10,11,12,13] rfl rfl rfl rfl rfl ?ha ?hh ?_); (case ha => exact zA); (case hh => exact zz9); (conv => whnf)) | ((refine CallStop.fn (hC3) [0,1,2,3,4,5,6,7,8,9,10,11,12,13] rfl rfl rfl rfl rfl ?ha ?hh ?_); (case ha => exact zA); (case hh => exact zz9); (conv => whnf)) | ((refine ways (fun hc => ?_) (fun hc => ?_)) <;> (try simp only [wz9] at hc) <;> (try (exfalso; omega)) <;> (conv => whnf))))
    all_goals first
     | ((first | rw [if_pos ⟨by assumption, by assumption⟩] at hT | rw [if_neg (fun h9 => absurd h9.1 (by assumption))] at hT | rw [if_neg (fun h9 => Bool.noConfusion ((show pd = true by assumption).symm.trans h9.2))] at hT); subst hT; (refine Le.by [0,1,2,3,4,5,6,7,8,9,10,11,12,13,14,15] rfl rfl rfl rfl ?_ ?_ <;> ((conv => whnf); repeat' (first | exact trivial | exact law_argR (by decide) (fun l hl => by rcases l with _ | _ | _ | _ | l <;> first | exact ⟨Nat.le_of_ble_eq_true rfl, rfl⟩ | exact ⟨Nat.le_of_ble_eq_true rfl, rfl, rfl⟩ | omega) (fun q hq => by rcases q with _ | _ | _ | _ | _ | _ | _ | _ | _ | q <;> first | exact ⟨Nat.le_of_ble_eq_true rfl, rfl⟩ | omega) | exact law_argI (by decide) (by decide) (fun l hl => by rcases l with _ | _ | _ | _ | l <;> first | exact ⟨Nat.le_of_ble_eq_true rfl, rfl⟩ | exact ⟨Nat.le_of_ble_eq_true rfl, rfl, rfl⟩ | omega) (fun q hq => by rcases q with _ | _ | _ | _ | _ | _ | _ | _ | _ | q <;> first | exact ⟨Nat.le_of_ble_eq_true rfl, rfl⟩ | omega) | exact ArgLe.rfl rfl | exact ArgLe.ptr rfl | exact ArgLe.sl rfl | exact ⟨rfl, rfl, rfl⟩ | exact ⟨rfl, Nat.le_of_ble_eq_true rfl⟩ | exact x_argRA (by assumption) rfl | exact x_argA (by assumption) | exact fun i hi => rfl | ((with_reducible refine And.intro ?_ ?_) <;> (conv => whnf))))); (all_goals exact ArgLe.free SV.Le.any rfl); done)
     | (refine ⟨true, fun _ => hG' ?_, ?_⟩; (first | exact .inl (by assumption) | exact .inr (.inl (by assumption)) | exact .inr (.inr (.inl (by assumption))) | exact .inr (.inr (.inr ⟨by assumption, .inl (by assumption)⟩)) | exact .inr (.inr (.inr ⟨by assumption, .inr ⟨by assumption, .inl (by assumption)⟩⟩)) | exact .inr (.inr (.inr ⟨by assumption, .inr ⟨by assumption, .inr (by assumption)⟩⟩))); (refine Le.by [0,1,2,3,16,17,18,19,20,21,22,23,24,25,14] rfl rfl rfl rfl ?_ ?_ <;> ((conv => whnf); repeat' (first | exact trivial | exact law_argR (by decide) (fun l hl => by rcases l with _ | _ | _ | _ | l <;> first | exact ⟨Nat.le_of_ble_eq_true rfl, rfl⟩ | exact ⟨Nat.le_of_ble_eq_true rfl, rfl, rfl⟩ | omega) (fun q hq => by rcases q with _ | _ | _ | _ | _ | _ | _ | _ | _ | q <;> first | exact ⟨Nat.le_of_ble_eq_true rfl, rfl⟩ | omega) | exact law_argI (by decide) (by decide) (fun l hl => by rcases l with _ | _ | _ | _ | l <;> first | exact ⟨Nat.le_of_ble_eq_true rfl, rfl⟩ | exact ⟨Nat.le_of_ble_eq_true rfl, rfl, rfl⟩ | omega) (fun q hq => by rcases q with _ | _ | _ | _ | _ | _ | _ | _ | _ | q <;> first | exact ⟨Nat.le_of_ble_eq_true rfl, rfl⟩ | omega) | exact ArgLe.rfl rfl | exact ArgLe.ptr rfl | exact ArgLe.sl rfl | exact ⟨rfl, rfl, rfl⟩ | exact ⟨rfl, Nat.le_of_ble_eq_true rfl⟩ | exact x_argRA (by assumption) rfl | exact x_argA (by assumption) | exact fun i hi => rfl | ((with_reducible refine And.intro ?_ ?_) <;> (conv => whnf))))); done)
     | (refine ⟨lst, hG2 (by assumption) (by assumption), ?_⟩; subst hlst; (refine Le.by [0,1,2,3,16,17,18,19,20,21,22,23,24,25,14] rfl rfl rfl rfl ?_ ?_ <;> ((conv => whnf); repeat' (first | exact trivial | exact law_argR (by decide) (fun l hl => by rcases l with _ | _ | _ | _ | l <;> first | exact ⟨Nat.le_of_ble_eq_true rfl, rfl⟩ | exact ⟨Nat.le_of_ble_eq_true rfl, rfl, rfl⟩ | omega) (fun q hq => by rcases q with _ | _ | _ | _ | _ | _ | _ | _ | _ | q <;> first | exact ⟨Nat.le_of_ble_eq_true rfl, rfl⟩ | omega) | exact law_argI (by decide) (by decide) (fun l hl => by rcases l with _ | _ | _ | _ | l <;> first | exact ⟨Nat.le_of_ble_eq_true rfl, rfl⟩ | exact ⟨Nat.le_of_ble_eq_true rfl, rfl, rfl⟩ | omega) (fun q hq => by rcases q with _ | _ | _ | _ | _ | _ | _ | _ | _ | q <;> first | exact ⟨Nat.le_of_ble_eq_true rfl, rfl⟩ | omega) | exact ArgLe.rfl rfl | exact ArgLe.ptr rfl | exact ArgLe.sl rfl | exact ⟨rfl, rfl, rfl⟩ | exact ⟨rfl, Nat.le_of_ble_eq_true rfl⟩ | exact x_argRA (by assumption) rfl | exact x_argA (by assumption) | exact fun i hi => rfl | ((with_reducible refine And.intro ?_ ?_) <;> (conv => whnf))))); done)
     | (refine ⟨false, fun h9 => Bool.noConfusion h9, ?_⟩; (refine Le.by [0,1,2,3,16,17,18,19,20,21,22,23,24,25,14] rfl rfl rfl rfl ?_ ?_ <;> ((conv => whnf); repeat' (first | exact trivial | exact law_argR (by decide) (fun l hl => by rcases l with _ | _ | _ | _ | l <;> first | exact ⟨Nat.le_of_ble_eq_true rfl, rfl⟩ | exact ⟨Nat.le_of_ble_eq_true rfl, rfl, rfl⟩ | omega) (fun q hq => by rcases q with _ | _ | _ | _ | _ | _ | _ | _ | _ | q <;> first | exact ⟨Nat.le_of_ble_eq_true rfl, rfl⟩ | omega) | exact law_argI (by decide) (by decide) (fun l hl => by rcases l with _ | _ | _ | _ | l <;> first | exact ⟨Nat.le_of_ble_eq_true rfl, rfl⟩ | exact ⟨Nat.le_of_ble_eq_true rfl, rfl, rfl⟩ | omega) (fun q hq => by rcases q with _ | _ | _ | _ | _ | _ | _ | _ | _ | q <;> first | exact ⟨Nat.le_of_ble_eq_true rfl, rfl⟩ | omega) | exact ArgLe.rfl rfl | exact ArgLe.ptr rfl | exact ArgLe.sl rfl | exact ⟨rfl, rfl, rfl⟩ | exact ⟨rfl, Nat.le_of_ble_eq_true rfl⟩ | exact x_argRA (by assumption) rfl | exact x_argA (by assumption) | exact fun i hi => rfl | ((with_reducible refine And.intro ?_ ?_) <;> (conv => whnf))))); done)
     | (refine ⟨(i + 1, k', c', q'), ⟨by dsimp only; omega, by dsimp only; omega, by dsimp only; omega, hL, ⟨_, _, _, _, hpm⟩, hcl⟩, by dsimp only; omega, ?_⟩; dsimp only; (refine Le.by [0,1,2,3,4,5,6,7,8,9,10,11,12,13,14] rfl rfl rfl rfl ?_ ?_ <;> ((conv => whnf); repeat' (first | exact trivial | exact law_argR (by decide) (fun l hl => by rcases l with _ | _ | _ | _ | l <;> first | exact ⟨Nat.le_of_ble_eq_true rfl, rfl⟩ | exact ⟨Nat.le_of_ble_eq_true rfl, rfl, rfl⟩ | omega) (fun q hq => by rcases q with _ | _ | _ | _ | _ | _ | _ | _ | _ | q <;> first | exact ⟨Nat.le_of_ble_eq_true rfl, rfl⟩ | omega) | exact law_argI (by decide) (by decide) (fun l hl => by rcases l with _ | _ | _ | _ | l <;> first | exact ⟨Nat.le_of_ble_eq_true rfl, rfl⟩ | exact ⟨Nat.le_of_ble_eq_true rfl, rfl, rfl⟩ | omega) (fun q hq => by rcases q with _ | _ | _ | _ | _ | _ | _ | _ | _ | q <;> first | exact ⟨Nat.le_of_ble_eq_true rfl, rfl⟩ | omega) | exact ArgLe.rfl rfl | exact ArgLe.ptr rfl | exact ArgLe.sl rfl | exact ⟨rfl, rfl, rfl⟩ | exact ⟨rfl, Nat.le_of_ble_eq_true rfl⟩ | exact x_argRA (by assumption) rfl | exact x_argA (by assumption) | exact fun i hi => rfl | ((with_reducible refine And.intro ?_ ?_) <;> (conv => whnf))))); done)
     | (exfalso; simp_all; done)
  ·(repeat' (first | ((first | refine Wp.any TC_mixed rfl ?_ | (with_reducible first | refine Go.mk ?_ | apply Eff1.of)); conv => whnf) | with_reducible exact rfl | ((with_reducible refine Ov.ok zO ?_); conv => whnf) | (with_reducible refine Ov.sh1 (by with_unfolding_all exact rfl) ?_) | ((first | with_reducible refine Ov.quo (by omega) (by omega) (by omega) (fun _ _ => ?_) | refine zV ?_ | with_reducible refine And.intro zC ?_); conv => whnf) | ((with_reducible refine And.intro ?hb ?_); (case hb => exact zz3); (conv => whnf)) | ((refine DApp.a rfl rfl rfl rfl rfl rfl ?hb ?_); (case hb => exact zB); (conv => whnf)) | ((refine DApp.b rfl rfl rfl rfl rfl rfl rfl rfl ?hb ?ho ?_); (case hb => exact zB); (case ho => omega); (conv => whnf)) | ((refine DApp.c rfl rfl rfl rfl rfl ?hb ?_); (case hb => exact zB); (conv => whnf)) | ((refine DApp.d rfl rfl rfl rfl rfl rfl ?hb ?ho ?_); (case hb => exact zB); (case ho => omega); (conv => whnf)) | ((with_reducible refine nil_no (by omega) ?_); (conv => whnf)) | ((with_reducible refine nil_any ?_ (fun hn0 => ?_)) <;> (conv => whnf)) | ((refine ways (fun hc => ?_) (fun hc => ?_)) <;> (try simp only [wz9] at hc) <;> (try (exfalso; omega)) <;> (conv => whnf))))
   all_goals exact .b rfl
end Go.Proofs.YtplpofmnhcclbaaGreat
