/- Parts of the proof, one behind the other: Cx1, Cx2, Cx3, Cx4, Cx5, Cx6, Cx7, Cx8, Cx9. Lemmas and contracts of functions; no condition of its own. -/
import Derived.Test.YtpdhdnhkhidmpaaGreatMP24
set_option linter.unusedVariables false
set_option linter.unusedSimpArgs false
set_option maxHeartbeats 1000000
namespace Go.Proofs.YtpdhdnhkhidmpaaGreat
open Go.RowKit
set_option maxRecDepth 100000
set_option maxHeartbeats 80000000
theorem Wp.midE {C : Cx} {ι : Type} (id : Nat) {c y : Code} {S : St} {Q : Exit → St → Prop} (p : ι → Prop) (I : ι → St) (h1 : Wp C c S (fun e S' => e = .exit id ∧ ∃ i, p i ∧ Le S' (I i))) (h2 : ∀ i, p i → Wp C y (I i) Q) : Wp C c S (mj id (thenQ C y Q)) :=
 h1.mono fun e S' ⟨he, i, hi, hl⟩ => by
  subst he
  show if id = id then _ else _
  rw [if_pos rfl]
  exact Wp.le hl (h2 i hi)
def lpO (id : Nat) : Code → Option Code
 | .block i b => if i = id then (match b with | .loop c => some c | _ => none) else lpO id b
 | .seq a b => (lpO id a).or (lpO id b)
 | .cond _ a b => (lpO id a).or (lpO id b)
 | .loop b => lpO id b
 | _ => none
@[reducible] noncomputable def PP1 (room : Int) (script : List Pick) : Nat × Nat × Cst × (Nat → Int × Int) × List Int × List Int → Prop :=
 fun k => k.1 ≤ script.length ∧ k.1 ≤ 300 ∧ k.2.1 ≤ k.1 ∧ ca am room k.2.1 k.2.2.1.M k.2.2.1.S k.2.2.1.xs k.2.2.1.nl ((k.2.1 : Int) + 1) ∧ PI room k.2.2.1.M k.2.2.1.S k.2.2.2.1 k.2.2.2.2.1 k.2.2.2.2.2 ∧ k.2.2.2.2.1.length ≤ k.1 ∧ k.2.2.2.2.2.length ≤ k.1 ∧ ∀ j, 5 ≤ j → (k.2.2.1.S j).s = .none
@[reducible] noncomputable def PI1 (room : Int) (script : List Pick) : Nat × Nat × Cst × (Nat → Int × Int) × List Int × List Int → St :=
 fun k => ⟨⟨Tryz.f3.ntmps, 0⟩, 17, [(5, .ptr 0 0), (7, .ptr 14 0), (41, .d (ax 7 Pick.D script)), (42, .i .i64 script.length), (43, .i .i64 k.1)], ah am room (gOf (aa am room) 4 k.2.2.1.S) k.2.2.1.M k.2.2.1.xs k.2.2.1.nl k.2.2.1.f ((k.2.1 : Int) + 1) ++ cL k.2.2.2.1 k.2.2.2.2.1 k.2.2.2.2.2⟩
@[reducible] noncomputable def PE1 (room : Int) : Nat × Cst × (Nat → Int × Int) × List Int × List Int → Prop :=
 fun k => k.1 ≤ 300 ∧ ca am room k.1 k.2.1.M k.2.1.S k.2.1.xs k.2.1.nl ((k.1 : Int) + 1) ∧ PI room k.2.1.M k.2.1.S k.2.2.1 k.2.2.2.1 k.2.2.2.2 ∧ k.2.2.2.1.length ≤ 300 ∧ k.2.2.2.2.length ≤ 300 ∧ ∀ j, 5 ≤ j → (k.2.1.S j).s = .none
@[reducible] noncomputable def PJ1 (room : Int) : Nat × Cst × (Nat → Int × Int) × List Int × List Int → St :=
 fun k => ⟨⟨Tryz.f3.ntmps, 0⟩, 17, [(5, .ptr 0 0), (7, .ptr 14 0)], ah am room (gOf (aa am room) 4 k.2.1.S) k.2.1.M k.2.1.xs k.2.1.nl k.2.1.f ((k.1 : Int) + 1) ++ cL k.2.2.1 k.2.2.2.1 k.2.2.2.2⟩
noncomputable def pb1 : Code := (lpO 0 (Tryz.f3.body.getD .skip)).getD .skip
@[reducible] noncomputable def PQ1 (room : Int) : Exit → St → Prop := fun e S' => e = .exit 0 ∧ ∃ i, PE1 room i ∧ Le S' (PJ1 room i)
set_option maxRecDepth 100000
set_option maxHeartbeats 80000000
theorem mI (room : Int) (hr12 : 1 ≤ room ∧ room ≤ 12) (script : List Pick) (hs : ∀ a ∈ script, a.ok) (hl0 : script.length ≤ 9223372036854775807) (x) (hx : PP1 room script x) (hk0 : x.1 < script.length ∧ x.1 < 300 → (eF (script.getD (x.1 : Int).toNat default)).kind = 0) (hi : x.1 < script.length ∧ x.1 < 300) : Wp TC pb1 (PI1 room script x) (fY (PP1 room script) (PI1 room script) (fun k => script.length - k.1) (script.length - x.1) (PQ1 room)) := by
 obtain ⟨hr1, hr12⟩ := hr12
 revert hx hk0 hi
 obtain ⟨i, k, c, q, G, O⟩ := x
 rintro ⟨h1, h2, h3, h4, h5, h6, h7, h8⟩ hk0 hi
 dsimp only at hk0 hi
 replace hk0 := hk0 hi
 dsimp only [PI1] at h1 h2 h3 h4 h5 h6 h7 h8 ⊢
 conv => (arg 2; whnf)
 have xc := h4.xl
 have hok := Pick.at hs (i : Int).toNat
 have hfit := q9 _ hok
 have hF := oo hok
 generalize eF (script.getD (i : Int).toNat default) = p at hfit hF hk0
 have hw := hF.who
 obtain ⟨w, hw5, hww⟩ : ∃ w : Nat, w < 5 ∧ p.who = w := ⟨p.who.toNat, by omega, by omega⟩
 have hPd := cZ (f := c.f) h4 (by omega) (w := w) (by omega)
 obtain ⟨pk, pw, po, pp, pky, pn, pt⟩ := p
 dsimp only at hww
 subst hww
 have h0 : pk = 0 := hk0
 subst h0
 cases hc : isC (c.S w).s with
 | false =>
  rw [hc] at hPd
  have hS := jD (nl := c.nl) (f := c.f) (cnt := (k : Int) + 1) w (by omega) (h4.cok (by omega) w (by omega)) hc
  have hH := h5.held h4 (by omega) hr12 q G O
  (repeat' (first | ((first | refine Wp.any ac rfl ?_ | (with_reducible first | refine Go.mk ?_ | apply aj.of | refine Ov.ok zO ?_ | refine And.intro zC ?_ | refine ab.pure (hfit) rfl rfl ?_)); conv => whnf) | (with_reducible refine ab.inline Tryz.func14 rfl rfl rfl (zzb rfl) ?_) | ((refine ab.fn (hS) [0,1,2,3,4,5,6,7,8,9,10,11,12,13] rfl rfl rfl rfl rfl ?ha ?hh ?_); (case ha => exact zA); (case hh => exact zz2); (conv => whnf)) | ((refine ab.fn (hH) [0,1,2,3,4,5,6,7,8,9,10,11,12,13,14,15,16] rfl rfl rfl rfl rfl ?ha ?hh ?_); (case ha => exact zA); (case hh => exact zz2); (conv => whnf)) | ((refine ap (fun hc => ?_) (fun hc => ?_)) <;> (try simp only [wz9] at hc) <;> (try (exfalso; omega)) <;> (conv => whnf))))
  refine ⟨(i + 1, k, c, q, G, O), ⟨by dsimp only; omega, by dsimp only; omega, by dsimp only; omega, h4, h5, by dsimp only; omega, by dsimp only; omega, h8⟩, by dsimp only; omega, ?_⟩
  (try dsimp only [PI1])
  (refine Le.by [0,1,2,3,4,5,6,7,8,9,10,11,12,13,14,15,16] rfl rfl rfl rfl ?_ ?_ <;> ((conv => whnf); repeat' (first | exact trivial | exact az (by decide) (fun l hl => by rcases l with _ | _ | _ | _ | l <;> first | exact ⟨zzb rfl, rfl⟩ | exact ⟨zzb rfl, rfl, rfl⟩ | omega) (fun q hq => by rcases q with _ | _ | _ | _ | _ | _ | _ | _ | _ | q <;> first | exact ⟨zzb rfl, rfl⟩ | omega) | exact ae.rfl rfl | exact ae.ptr rfl | exact ae.sl rfl | exact ⟨rfl, rfl, rfl⟩ | exact ⟨rfl, zzb rfl⟩ | exact aM (by assumption) rfl | exact fun i hi => rfl | ((with_reducible refine And.intro ?_ ?_) <;> (conv => whnf)))))
 | true =>
  rw [hc] at hPd
  obtain ⟨xs', f', hL, hS⟩ := gH (f := c.f) h4 (by omega) (.inl (by omega)) hc
  have ek : (k : Int) + 1 + 1 = ((k + 1 : Nat) : Int) + 1 := by omega
  rw [ek] at hL hS
  obtain ⟨r, hr⟩ : ∃ r, (Core.step (aa am room) c.M (c.S w).x (c.S w).s).r = r := ⟨_, rfl⟩
  obtain ⟨g2, g3, g4⟩ := h5.step h4 (by omega) hw5 hc hr
  have hq := h5.cl w hc
  have h9 : ∀ j, 5 ≤ j → (Core.nx (aa am room) c.M c.S w j).s = .none := fun j hj => by unfold Core.nx; rw [Dir.upd_ne _ _ (by omega)]; exact h8 j hj
  rw [hr] at hS
  generalize Core.mx (aa am room) c.M c.S w = M' at *
  generalize Core.nx (aa am room) c.M c.S w = S' at *
  generalize (c.S w).x.op = o at *
  generalize (c.S w).x.n = n at *
  have xl' := hL.xl
  clear hr
  obtain ⟨dn, re, rg, rl, rw', rs', rn⟩ := r
  dsimp only at g2 g3 g4
  by_cases hd : dn = true ∧ re = 0
  ·obtain ⟨rfl, rfl⟩ := hd
   by_cases o2 : o = 2
   ·subst o2
    obtain ⟨⟨a1, a2⟩, hp⟩ := g2 ⟨rfl, rfl, rfl⟩
    have hH := hp.held (c := ⟨M', S', xs', au c.nl, f'⟩) hL (by omega) hr12 q (G ++ [rs']) (O ++ [rs'])
    have hHas := has_R G rs' (by omega)
    rw [decide_eq_false a2] at hHas
    have hlG : (G ++ [rs']).length = G.length + 1 := by rw [List.length_append, List.length_singleton]
    have hlO : (O ++ [rs']).length = O.length + 1 := by rw [List.length_append, List.length_singleton]
    dsimp only [cL, mJ, aG] at hH
    rw [hlG, hlO] at hH
    have hq1 := congrArg Prod.fst hq
    dsimp only at hq1
    have hw6 : w = 0 ∨ w = 1 ∨ w = 2 ∨ w = 3 ∨ w = 4 := by omega
    rcases hw6 with rfl | rfl | rfl | rfl | rfl
    all_goals
     (repeat' (first | ((first | refine Wp.any ac rfl ?_ | (with_reducible first | refine Go.mk ?_ | apply aj.of | refine Ov.ok zO ?_) | refine zV ?_ | with_reducible refine And.intro zC ?_); conv => whnf) | ((refine i5.b rfl rfl rfl rfl rfl rfl rfl rfl ?hb ?ho ?_); (case hb => exact zB); (case ho => omega); (conv => whnf)) | ((with_reducible refine ab.pure (hfit) rfl rfl ?_); conv => whnf) | (with_reducible refine ab.inline Tryz.func14 rfl rfl rfl (zzb rfl) ?_) | ((refine ab.fn (hS) [0,1,2,3,4,5,6,7,8,9,10,11,12,13] rfl rfl rfl rfl rfl ?ha ?hh ?_); (case ha => exact zA); (case hh => exact zz2); (conv => whnf)) | ((refine ag.fn (hHas) [15] [15] rfl rfl rfl rfl rfl ?ha ?hh ?hs ?_); (case ha => exact zA); (case hh => exact zH); (case hs => exact zK); (conv => whnf)) | ((refine ab.fn (hH) [0,1,2,3,18,19,20,21,22,23,24,25,26,27,14,53,62] rfl rfl rfl rfl rfl ?ha ?hh ?_); (case ha => exact zA); (case hh => exact zz2); (conv => whnf)) | ((refine ap (fun hc => ?_) (fun hc => ?_)) <;> (try simp only [wz9] at hc) <;> (try (exfalso; omega)) <;> (conv => whnf))))
     refine ⟨(i + 1, k + 1, ⟨M', S', xs', au c.nl, f'⟩, q, G ++ [rs'], O ++ [rs']), ⟨by dsimp only; omega, by dsimp only; omega, by dsimp only; omega, hL, hp, by dsimp only; omega, by dsimp only; omega, h9⟩, by dsimp only; omega, ?_⟩
     dsimp only [PI1, cL, mJ, aG]
     rw [hlG, hlO]
     (refine Le.by [0,1,2,3,18,19,20,21,22,23,24,25,26,27,14,53,62] rfl rfl rfl rfl ?_ ?_ <;> ((conv => whnf); repeat' (first | exact trivial | exact az (by decide) (fun l hl => by rcases l with _ | _ | _ | _ | l <;> first | exact ⟨zzb rfl, rfl⟩ | exact ⟨zzb rfl, rfl, rfl⟩ | omega) (fun q hq => by rcases q with _ | _ | _ | _ | _ | _ | _ | _ | _ | q <;> first | exact ⟨zzb rfl, rfl⟩ | omega) | exact ae.rfl rfl | exact ae.ptr rfl | exact ae.sl rfl | exact ⟨rfl, rfl, rfl⟩ | exact ⟨rfl, zzb rfl⟩ | exact aM (by assumption) rfl | exact fun i hi => rfl | ((with_reducible refine And.intro ?_ ?_) <;> (conv => whnf)))))
   ·by_cases o3 : o = 3
    ·subst o3
     obtain ⟨⟨n1, n2⟩, hp⟩ := g3 ⟨rfl, rfl, rfl⟩
     have n3 := hL.c33
     rw [show -n = 0 - n by omega] at hp
     have hH := hp.held (c := ⟨M', S', xs', au c.nl, f'⟩) hL (by omega) hr12 q G (O ++ [0 - n])
     have hlO : (O ++ [0 - n]).length = O.length + 1 := by rw [List.length_append, List.length_singleton]
     dsimp only [cL, mJ, aG] at hH
     rw [hlO] at hH
     have hq1 := congrArg Prod.fst hq
     have hq2 := congrArg Prod.snd hq
     dsimp only at hq1 hq2
     subst hq2
     have hw6 : w = 0 ∨ w = 1 ∨ w = 2 ∨ w = 3 ∨ w = 4 := by omega
     rcases hw6 with rfl | rfl | rfl | rfl | rfl
     all_goals
      (repeat' (first | ((first | refine Wp.any ac rfl ?_ | (with_reducible first | refine Go.mk ?_ | apply aj.of | refine Ov.ok zO ?_) | refine zV ?_ | with_reducible refine And.intro zC ?_); conv => whnf) | ((refine i5.b rfl rfl rfl rfl rfl rfl rfl rfl ?hb ?ho ?_); (case hb => exact zB); (case ho => omega); (conv => whnf)) | ((with_reducible refine ab.pure (hfit) rfl rfl ?_); conv => whnf) | (with_reducible refine ab.inline Tryz.func14 rfl rfl rfl (zzb rfl) ?_) | ((refine ab.fn (hS) [0,1,2,3,4,5,6,7,8,9,10,11,12,13] rfl rfl rfl rfl rfl ?ha ?hh ?_); (case ha => exact zA); (case hh => exact zz2); (conv => whnf)) | ((refine ab.fn (hH) [0,1,2,3,18,19,20,21,22,23,24,25,26,27,14,15,43] rfl rfl rfl rfl rfl ?ha ?hh ?_); (case ha => exact zA); (case hh => exact zz2); (conv => whnf)) | ((refine ap (fun hc => ?_) (fun hc => ?_)) <;> (try simp only [wz9] at hc) <;> (try (exfalso; omega)) <;> (conv => whnf))))
      refine ⟨(i + 1, k + 1, ⟨M', S', xs', au c.nl, f'⟩, q, G, O ++ [0 - (q _).2]), ⟨by dsimp only; omega, by dsimp only; omega, by dsimp only; omega, hL, hp, by dsimp only; omega, by dsimp only; omega, h9⟩, by dsimp only; omega, ?_⟩
      dsimp only [PI1, cL, mJ, aG]
      rw [hlO]
      (refine Le.by [0,1,2,3,18,19,20,21,22,23,24,25,26,27,14,15,43] rfl rfl rfl rfl ?_ ?_ <;> ((conv => whnf); repeat' (first | exact trivial | exact az (by decide) (fun l hl => by rcases l with _ | _ | _ | _ | l <;> first | exact ⟨zzb rfl, rfl⟩ | exact ⟨zzb rfl, rfl, rfl⟩ | omega) (fun q hq => by rcases q with _ | _ | _ | _ | _ | _ | _ | _ | _ | q <;> first | exact ⟨zzb rfl, rfl⟩ | omega) | exact ae.rfl rfl | exact ae.ptr rfl | exact ae.sl rfl | exact ⟨rfl, rfl, rfl⟩ | exact ⟨rfl, zzb rfl⟩ | exact aM (by assumption) rfl | exact fun i hi => rfl | ((with_reducible refine And.intro ?_ ?_) <;> (conv => whnf)))))
    ·have hp := g4 (fun h9 => by have := h9.2.2; omega)
     have hH := hp.held (c := ⟨M', S', xs', au c.nl, f'⟩) hL (by omega) hr12 q G O
     have hq1 := congrArg Prod.fst hq
     dsimp only at hq1
     have hw6 : w = 0 ∨ w = 1 ∨ w = 2 ∨ w = 3 ∨ w = 4 := by omega
     rcases hw6 with rfl | rfl | rfl | rfl | rfl
     all_goals
      (repeat' (first | ((first | refine Wp.any ac rfl ?_ | (with_reducible first | refine Go.mk ?_ | apply aj.of | refine Ov.ok zO ?_ | refine And.intro zC ?_ | refine ab.pure (hfit) rfl rfl ?_)); conv => whnf) | (with_reducible refine ab.inline Tryz.func14 rfl rfl rfl (zzb rfl) ?_) | ((refine ab.fn (hS) [0,1,2,3,4,5,6,7,8,9,10,11,12,13] rfl rfl rfl rfl rfl ?ha ?hh ?_); (case ha => exact zA); (case hh => exact zz2); (conv => whnf)) | ((refine ab.fn (hH) [0,1,2,3,18,19,20,21,22,23,24,25,26,27,14,15,16] rfl rfl rfl rfl rfl ?ha ?hh ?_); (case ha => exact zA); (case hh => exact zz2); (conv => whnf)) | ((refine ap (fun hc => ?_) (fun hc => ?_)) <;> (try simp only [wz9] at hc) <;> (try (exfalso; omega)) <;> (conv => whnf))))
      refine ⟨(i + 1, k + 1, ⟨M', S', xs', au c.nl, f'⟩, q, G, O), ⟨by dsimp only; omega, by dsimp only; omega, by dsimp only; omega, hL, hp, by dsimp only; omega, by dsimp only; omega, h9⟩, by dsimp only; omega, ?_⟩
      (try dsimp only [PI1])
      (refine Le.by [0,1,2,3,18,19,20,21,22,23,24,25,26,27,14,15,16] rfl rfl rfl rfl ?_ ?_ <;> ((conv => whnf); repeat' (first | exact trivial | exact az (by decide) (fun l hl => by rcases l with _ | _ | _ | _ | l <;> first | exact ⟨zzb rfl, rfl⟩ | exact ⟨zzb rfl, rfl, rfl⟩ | omega) (fun q hq => by rcases q with _ | _ | _ | _ | _ | _ | _ | _ | _ | q <;> first | exact ⟨zzb rfl, rfl⟩ | omega) | exact ae.rfl rfl | exact ae.ptr rfl | exact ae.sl rfl | exact ⟨rfl, rfl, rfl⟩ | exact ⟨rfl, zzb rfl⟩ | exact aM (by assumption) rfl | exact fun i hi => rfl | ((with_reducible refine And.intro ?_ ?_) <;> (conv => whnf)))))
  ·have hp := g4 (fun h9 => hd ⟨h9.1, h9.2.1⟩)
   have hH := hp.held (c := ⟨M', S', xs', au c.nl, f'⟩) hL (by omega) hr12 q G O
   cases dn with
   | false =>
    (repeat' (first | ((first | refine Wp.any ac rfl ?_ | (with_reducible first | refine Go.mk ?_ | apply aj.of | refine Ov.ok zO ?_ | refine And.intro zC ?_ | refine ab.pure (hfit) rfl rfl ?_)); conv => whnf) | (with_reducible refine ab.inline Tryz.func14 rfl rfl rfl (zzb rfl) ?_) | ((refine ab.fn (hS) [0,1,2,3,4,5,6,7,8,9,10,11,12,13] rfl rfl rfl rfl rfl ?ha ?hh ?_); (case ha => exact zA); (case hh => exact zz2); (conv => whnf)) | ((refine ab.fn (hH) [0,1,2,3,18,19,20,21,22,23,24,25,26,27,14,15,16] rfl rfl rfl rfl rfl ?ha ?hh ?_); (case ha => exact zA); (case hh => exact zz2); (conv => whnf)) | ((refine ap (fun hc => ?_) (fun hc => ?_)) <;> (try simp only [wz9] at hc) <;> (try (exfalso; omega)) <;> (conv => whnf))))
    refine ⟨(i + 1, k + 1, ⟨M', S', xs', au c.nl, f'⟩, q, G, O), ⟨by dsimp only; omega, by dsimp only; omega, by dsimp only; omega, hL, hp, by dsimp only; omega, by dsimp only; omega, h9⟩, by dsimp only; omega, ?_⟩
    (try dsimp only [PI1])
    (refine Le.by [0,1,2,3,18,19,20,21,22,23,24,25,26,27,14,15,16] rfl rfl rfl rfl ?_ ?_ <;> ((conv => whnf); repeat' (first | exact trivial | exact az (by decide) (fun l hl => by rcases l with _ | _ | _ | _ | l <;> first | exact ⟨zzb rfl, rfl⟩ | exact ⟨zzb rfl, rfl, rfl⟩ | omega) (fun q hq => by rcases q with _ | _ | _ | _ | _ | _ | _ | _ | _ | q <;> first | exact ⟨zzb rfl, rfl⟩ | omega) | exact ae.rfl rfl | exact ae.ptr rfl | exact ae.sl rfl | exact ⟨rfl, rfl, rfl⟩ | exact ⟨rfl, zzb rfl⟩ | exact aM (by assumption) rfl | exact fun i hi => rfl | ((with_reducible refine And.intro ?_ ?_) <;> (conv => whnf)))))
   | true =>
    have hre : re ≠ 0 := fun e => hd ⟨rfl, e⟩
    (repeat' (first | ((first | refine Wp.any ac rfl ?_ | (with_reducible first | refine Go.mk ?_ | apply aj.of | refine Ov.ok zO ?_ | refine And.intro zC ?_ | refine ab.pure (hfit) rfl rfl ?_)); conv => whnf) | (with_reducible refine ab.inline Tryz.func14 rfl rfl rfl (zzb rfl) ?_) | ((refine ab.fn (hS) [0,1,2,3,4,5,6,7,8,9,10,11,12,13] rfl rfl rfl rfl rfl ?ha ?hh ?_); (case ha => exact zA); (case hh => exact zz2); (conv => whnf)) | ((refine ab.fn (hH) [0,1,2,3,18,19,20,21,22,23,24,25,26,27,14,15,16] rfl rfl rfl rfl rfl ?ha ?hh ?_); (case ha => exact zA); (case hh => exact zz2); (conv => whnf)) | ((refine ap (fun hc => ?_) (fun hc => ?_)) <;> (try simp only [wz9] at hc) <;> (try (exfalso; omega)) <;> (conv => whnf))))
    refine ⟨(i + 1, k + 1, ⟨M', S', xs', au c.nl, f'⟩, q, G, O), ⟨by dsimp only; omega, by dsimp only; omega, by dsimp only; omega, hL, hp, by dsimp only; omega, by dsimp only; omega, h9⟩, by dsimp only; omega, ?_⟩
    (try dsimp only [PI1])
    (refine Le.by [0,1,2,3,18,19,20,21,22,23,24,25,26,27,14,15,16] rfl rfl rfl rfl ?_ ?_ <;> ((conv => whnf); repeat' (first | exact trivial | exact az (by decide) (fun l hl => by rcases l with _ | _ | _ | _ | l <;> first | exact ⟨zzb rfl, rfl⟩ | exact ⟨zzb rfl, rfl, rfl⟩ | omega) (fun q hq => by rcases q with _ | _ | _ | _ | _ | _ | _ | _ | _ | q <;> first | exact ⟨zzb rfl, rfl⟩ | omega) | exact ae.rfl rfl | exact ae.ptr rfl | exact ae.sl rfl | exact ⟨rfl, rfl, rfl⟩ | exact ⟨rfl, zzb rfl⟩ | exact aM (by assumption) rfl | exact fun i hi => rfl | ((with_reducible refine And.intro ?_ ?_) <;> (conv => whnf)))))
set_option maxRecDepth 100000
set_option maxHeartbeats 80000000
theorem mH (room : Int) (hr12 : 1 ≤ room ∧ room ≤ 12) (script : List Pick) (hs : ∀ a ∈ script, a.ok) (hl0 : script.length ≤ 9223372036854775807) (x) (hx : PP1 room script x) (hk0 : x.1 < script.length ∧ x.1 < 300 → (eF (script.getD (x.1 : Int).toNat default)).kind ≠ 0) (hi : x.1 < script.length ∧ x.1 < 300) : Wp TC pb1 (PI1 room script x) (fY (PP1 room script) (PI1 room script) (fun k => script.length - k.1) (script.length - x.1) (PQ1 room)) := by
 obtain ⟨hr1, hr12⟩ := hr12
 revert hx hk0 hi
 obtain ⟨i, k, c, q, G, O⟩ := x
 rintro ⟨h1, h2, h3, h4, h5, h6, h7, h8⟩ hk0 hi
 dsimp only at hk0 hi
 replace hk0 := hk0 hi
 dsimp only at h1 h2 h3 h4 h5 h6 h7 h8 ⊢
 conv => (arg 2; whnf)
 have xc := h4.xl
 have hok := Pick.at hs (i : Int).toNat
 have hfit := q9 _ hok
 have hF := oo hok
 generalize eF (script.getD (i : Int).toNat default) = p at hfit hF hk0
 have hw := hF.who
 obtain ⟨w, hw5, hww⟩ : ∃ w : Nat, w < 5 ∧ p.who = w := ⟨p.who.toNat, by omega, by omega⟩
 have hPd := cZ (f := c.f) h4 (by omega) (w := w) (by omega)
 obtain ⟨pk, pw, po, pp, pky, pn, pt⟩ := p
 dsimp only at hww
 subst hww
 have h0 : ¬ pk = 0 := hk0
 obtain ⟨k', c', hk', e1, e2, hL, hP⟩ := tM h4 (by omega) _ hF
 have hp := h5.play h4 (by omega) hF h0
 have h9 : ∀ j, 5 ≤ j → (c'.S j).s = .none := fun j hj => by rw [e2, tA hF j hj]; exact h8 j hj
 rw [← e1, ← e2] at hp
 have xl' := hL.xl
 have hT : pU ⟨pk, (w : Int), po, pp, pky, pn, pt⟩ c.S q = if pk = 1 ∧ isC (c.S w).s = false then Dir.upd q w (po, pn) else q := rfl
 rw [hT] at hp
 generalize (ck (aa am room) c.M c.S ⟨pk, (w : Int), po, pp, pky, pn, pt⟩).r = r at hP
 generalize (ck (aa am room) c.M c.S ⟨pk, (w : Int), po, pp, pky, pn, pt⟩).e = er at hP
 generalize isC (c.S w).s = pd at *
 clear e1 e2 hT
 by_cases hs1 : pk = 1 ∧ pd = false
 ·rw [if_pos hs1] at hp
  obtain ⟨rfl, rfl⟩ := hs1
  have hH := hp.held hL (by omega) hr12 (Dir.upd q w (po, pn)) G O
  have hw6 : w = 0 ∨ w = 1 ∨ w = 2 ∨ w = 3 ∨ w = 4 := by omega
  rcases hw6 with rfl | rfl | rfl | rfl | rfl
  all_goals
   (repeat' (first | ((first | refine Wp.any ac rfl ?_ | (with_reducible first | refine Go.mk ?_ | apply aj.of | refine Ov.ok zO ?_) | refine zV ?_ | (with_reducible first | refine And.intro zC ?_ | refine ab.pure (hfit) rfl rfl ?_)); conv => whnf) | ((refine ab.fn (hPd) [0,1,2,3,4,5,6,7,8,9,10,11,12,13] rfl rfl rfl rfl rfl ?ha ?hh ?_); (case ha => exact zA); (case hh => exact zz2); (conv => whnf)) | ((refine ab.fn (hP) [0,1,2,3,4,5,6,7,8,9,10,11,12,13] rfl rfl rfl rfl rfl ?ha ?hh ?_); (case ha => exact zA); (case hh => exact zz2); (conv => whnf)) | ((refine ab.fn (hH) [0,1,2,3,27,28,29,30,31,32,33,34,35,36,14,15,16] rfl rfl rfl rfl rfl ?ha ?hh ?_); (case ha => exact zA); (case hh => exact zz2); (conv => whnf)) | ((refine ap (fun hc => ?_) (fun hc => ?_)) <;> (try simp only [wz9] at hc) <;> (try (exfalso; omega)) <;> (conv => whnf))))
   refine ⟨(i + 1, k', c', Dir.upd q _ (po, pn), G, O), ⟨by dsimp only; omega, by dsimp only; omega, by dsimp only; omega, hL, hp, by dsimp only; omega, by dsimp only; omega, h9⟩, by dsimp only; omega, ?_⟩
   dsimp only
   (refine Le.by [0,1,2,3,27,28,29,30,31,32,33,34,35,36,14,15,16] rfl rfl rfl rfl ?_ ?_ <;> ((conv => whnf); repeat' (first | exact trivial | exact az (by decide) (fun l hl => by rcases l with _ | _ | _ | _ | l <;> first | exact ⟨zzb rfl, rfl⟩ | exact ⟨zzb rfl, rfl, rfl⟩ | omega) (fun q hq => by rcases q with _ | _ | _ | _ | _ | _ | _ | _ | _ | q <;> first | exact ⟨zzb rfl, rfl⟩ | omega) | exact ae.rfl rfl | exact ae.ptr rfl | exact ae.sl rfl | exact ⟨rfl, rfl, rfl⟩ | exact ⟨rfl, zzb rfl⟩ | exact aM (by assumption) rfl | exact fun i hi => rfl | ((with_reducible refine And.intro ?_ ?_) <;> (conv => whnf)))))
 ·rw [if_neg hs1] at hp
  have hH := hp.held hL (by omega) hr12 q G O
  have hk2 : (pk = 1 ∧ pd = true) ∨ pk = 2 := by
   have h10 := hF.kind
   have h11 : ¬ pk = 0 := h0
   dsimp only at h10
   by_cases e : pk = 1
   ·refine .inl ⟨e, ?_⟩
    cases pd with
    | true => rfl
    | false => exact absurd ⟨e, rfl⟩ hs1
   ·exact .inr (by omega)
  rcases hk2 with ⟨rfl, rfl⟩ | rfl
  all_goals
   (repeat' (first | ((first | refine Wp.any ac rfl ?_ | (with_reducible first | refine Go.mk ?_ | apply aj.of | refine Ov.ok zO ?_ | refine And.intro zC ?_ | refine ab.pure (hfit) rfl rfl ?_)); conv => whnf) | ((refine ab.fn (hPd) [0,1,2,3,4,5,6,7,8,9,10,11,12,13] rfl rfl rfl rfl rfl ?ha ?hh ?_); (case ha => exact zA); (case hh => exact zz2); (conv => whnf)) | ((refine ab.fn (hP) [0,1,2,3,4,5,6,7,8,9,10,11,12,13] rfl rfl rfl rfl rfl ?ha ?hh ?_); (case ha => exact zA); (case hh => exact zz2); (conv => whnf)) | ((refine ab.fn (hH) [0,1,2,3,18,19,20,21,22,23,24,25,26,27,14,15,16] rfl rfl rfl rfl rfl ?ha ?hh ?_); (case ha => exact zA); (case hh => exact zz2); (conv => whnf)) | ((refine ap (fun hc => ?_) (fun hc => ?_)) <;> (try simp only [wz9] at hc) <;> (try (exfalso; omega)) <;> (conv => whnf))))
   refine ⟨(i + 1, k', c', q, G, O), ⟨by dsimp only; omega, by dsimp only; omega, by dsimp only; omega, hL, hp, by dsimp only; omega, by dsimp only; omega, h9⟩, by dsimp only; omega, ?_⟩
   dsimp only
   (refine Le.by [0,1,2,3,18,19,20,21,22,23,24,25,26,27,14,15,16] rfl rfl rfl rfl ?_ ?_ <;> ((conv => whnf); repeat' (first | exact trivial | exact az (by decide) (fun l hl => by rcases l with _ | _ | _ | _ | l <;> first | exact ⟨zzb rfl, rfl⟩ | exact ⟨zzb rfl, rfl, rfl⟩ | omega) (fun q hq => by rcases q with _ | _ | _ | _ | _ | _ | _ | _ | _ | q <;> first | exact ⟨zzb rfl, rfl⟩ | omega) | exact ae.rfl rfl | exact ae.ptr rfl | exact ae.sl rfl | exact ⟨rfl, rfl, rfl⟩ | exact ⟨rfl, zzb rfl⟩ | exact aM (by assumption) rfl | exact fun i hi => rfl | ((with_reducible refine And.intro ?_ ?_) <;> (conv => whnf)))))
theorem mG (room : Int) (hr12 : 1 ≤ room ∧ room ≤ 12) (script : List Pick) (hs : ∀ a ∈ script, a.ok) (hl0 : script.length ≤ 9223372036854775807) (x) (hx : PP1 room script x) (hi : ¬ (x.1 < script.length ∧ x.1 < 300)) : Wp TC pb1 (PI1 room script x) (fY (PP1 room script) (PI1 room script) (fun k => script.length - k.1) (script.length - x.1) (PQ1 room)) := by
 obtain ⟨hr1, hr12⟩ := hr12
 revert hx hi
 obtain ⟨i, k, c, q, G, O⟩ := x
 rintro ⟨h1, h2, h3, h4, h5, h6, h7, h8⟩ hi
 dsimp only at hi
 dsimp only at h1 h2 h3 h4 h5 h6 h7 h8 ⊢
 conv => (arg 2; whnf)
 have xc := h4.xl
 (repeat' (first | ((first | refine Wp.any ac rfl ?_ | (with_reducible first | refine Go.mk ?_ | apply aj.of | refine And.intro zC ?_)); conv => whnf) | ((refine ap (fun hc => ?_) (fun hc => ?_)) <;> (try simp only [wz9] at hc) <;> (try (exfalso; omega)) <;> (conv => whnf))))
 all_goals
  refine ⟨rfl, (k, c, q, G, O), ⟨by dsimp only; omega, h4, h5, by dsimp only; omega, by dsimp only; omega, h8⟩, ?_⟩
  dsimp only
  (refine Le.by [0,1,2,3,4,5,6,7,8,9,10,11,12,13,14,15,16] rfl rfl rfl rfl ?_ ?_ <;> ((conv => whnf); repeat' (first | exact trivial | exact aH (by decide) (by decide) (fun l hl => by rcases l with _ | _ | _ | _ | l <;> first | exact ⟨zzb rfl, rfl⟩ | exact ⟨zzb rfl, rfl, rfl⟩ | omega) (fun q hq => by rcases q with _ | _ | _ | _ | _ | _ | _ | _ | _ | q <;> first | exact ⟨zzb rfl, rfl⟩ | omega) | exact ae.rfl rfl | exact ae.ptr rfl | exact ae.sl rfl | exact ⟨rfl, rfl, rfl⟩ | exact ⟨rfl, zzb rfl⟩ | exact bF (by assumption) | exact fun i hi => rfl | ((with_reducible refine And.intro ?_ ?_) <;> (conv => whnf)))))
set_option maxRecDepth 100000
set_option maxHeartbeats 80000000
def lastI : Code → Option Nat
 | .block i _ => some i
 | .seq _ b => lastI b
 | _ => none
def afO (id : Nat) : Code → Option Code
 | .seq a y => if lastI a = some id then some y else (afO id a).or (afO id y)
 | .block _ b => afO id b
 | .cond _ a b => (afO id a).or (afO id b)
 | .loop b => afO id b
 | _ => none
noncomputable def pb2 : Code := (lpO 2 (Tryz.f3.body.getD .skip)).getD .skip
noncomputable def pb3 : Code := (lpO 4 (Tryz.f3.body.getD .skip)).getD .skip
noncomputable def pb4 : Code := (afO 2 (Tryz.f3.body.getD .skip)).getD .skip
@[reducible] noncomputable def PP3 (room : Int) (q : Nat → Int × Int) (w kk lg lo : Nat) : Nat × Nat × Cst × List Int × List Int → Prop :=
 fun k => k.2.1 = kk + k.1 ∧ ca am room k.2.1 k.2.2.1.M k.2.2.1.S k.2.2.1.xs k.2.2.1.nl ((k.2.1 : Int) + 1) ∧ PI room k.2.2.1.M k.2.2.1.S q k.2.2.2.1 k.2.2.2.2 ∧ k.2.2.2.1.length ≤ lg + k.1 ∧ k.2.2.2.2.length ≤ lo + k.1 ∧ (∀ j, j < w ∨ 5 ≤ j → (k.2.2.1.S j).s = .none) ∧ k.1 + Core.T (k.2.2.1.S w).x k.2.2.1.M.W (k.2.2.1.S w).s ≤ 165
@[reducible] noncomputable def PI3 (room : Int) (q : Nat → Int × Int) (w : Nat) : Nat × Nat × Cst × List Int × List Int → St :=
 fun k => ⟨⟨Tryz.f3.ntmps, 0⟩, 17, [(5, .ptr 0 0), (7, .ptr 14 0), (12, .i .i64 w), (13, .i .i64 k.1), (89, .i .i64 w)], ah am room (gOf (aa am room) 4 k.2.2.1.S) k.2.2.1.M k.2.2.1.xs k.2.2.1.nl k.2.2.1.f ((k.2.1 : Int) + 1) ++ cL q k.2.2.2.1 k.2.2.2.2⟩
@[reducible] noncomputable def PE3 (room : Int) (q : Nat → Int × Int) (w kk lg lo : Nat) : Nat × Nat × Cst × List Int × List Int → Prop :=
 fun k => k.1 ≤ 165 ∧ k.2.1 = kk + k.1 ∧ ca am room k.2.1 k.2.2.1.M k.2.2.1.S k.2.2.1.xs k.2.2.1.nl ((k.2.1 : Int) + 1) ∧ PI room k.2.2.1.M k.2.2.1.S q k.2.2.2.1 k.2.2.2.2 ∧ k.2.2.2.1.length ≤ lg + k.1 ∧ k.2.2.2.2.length ≤ lo + k.1 ∧ (∀ j, j < w + 1 ∨ 5 ≤ j → (k.2.2.1.S j).s = .none)
@[reducible] noncomputable def PJ3 (room : Int) (q : Nat → Int × Int) (w : Nat) : Nat × Nat × Cst × List Int × List Int → St :=
 fun k => ⟨⟨Tryz.f3.ntmps, 0⟩, 17, [(5, .ptr 0 0), (7, .ptr 14 0), (89, .i .i64 w)], ah am room (gOf (aa am room) 4 k.2.2.1.S) k.2.2.1.M k.2.2.1.xs k.2.2.1.nl k.2.2.1.f ((k.2.1 : Int) + 1) ++ cL q k.2.2.2.1 k.2.2.2.2⟩
@[reducible] noncomputable def PQ3 (room : Int) (q : Nat → Int × Int) (w kk lg lo : Nat) : Exit → St → Prop := fun e S' => e = .exit 4 ∧ ∃ i, PE3 room q w kk lg lo i ∧ Le S' (PJ3 room q w i)
@[reducible] noncomputable def PP2 (room : Int) (q : Nat → Int × Int) : Nat × Nat × Cst × List Int × List Int → Prop :=
 fun k => k.1 ≤ 5 ∧ k.2.1 ≤ 300 + 165 * k.1 ∧ ca am room k.2.1 k.2.2.1.M k.2.2.1.S k.2.2.1.xs k.2.2.1.nl ((k.2.1 : Int) + 1) ∧ PI room k.2.2.1.M k.2.2.1.S q k.2.2.2.1 k.2.2.2.2 ∧ k.2.2.2.1.length ≤ 300 + 165 * k.1 ∧ k.2.2.2.2.length ≤ 300 + 165 * k.1 ∧ ∀ j, j < k.1 ∨ 5 ≤ j → (k.2.2.1.S j).s = .none
@[reducible] noncomputable def PI2 (room : Int) (q : Nat → Int × Int) : Nat × Nat × Cst × List Int × List Int → St :=
 fun k => ⟨⟨Tryz.f3.ntmps, 0⟩, 17, [(5, .ptr 0 0), (7, .ptr 14 0), (89, .i .i64 k.1)], ah am room (gOf (aa am room) 4 k.2.2.1.S) k.2.2.1.M k.2.2.1.xs k.2.2.1.nl k.2.2.1.f ((k.2.1 : Int) + 1) ++ cL q k.2.2.2.1 k.2.2.2.2⟩
@[reducible] noncomputable def PE2 (room : Int) (q : Nat → Int × Int) : Nat × Cst × List Int × List Int → Prop :=
 fun k => ca am room k.1 k.2.1.M k.2.1.S k.2.1.xs k.2.1.nl ((k.1 : Int) + 1) ∧ k.1 ≤ 2000 ∧ PI room k.2.1.M k.2.1.S q k.2.2.1 k.2.2.2 ∧ k.2.2.1.length ≤ 2000 ∧ k.2.2.2.length ≤ 2000 ∧ ∀ j, (k.2.1.S j).s = .none
@[reducible] noncomputable def PJ2 (room : Int) (q : Nat → Int × Int) : Nat × Cst × List Int × List Int → St :=
 fun k => ⟨⟨Tryz.f3.ntmps, 0⟩, 17, [(5, .ptr 0 0), (7, .ptr 14 0)], ah am room (gOf (aa am room) 4 k.2.1.S) k.2.1.M k.2.1.xs k.2.1.nl k.2.1.f ((k.1 : Int) + 1) ++ cL q k.2.2.1 k.2.2.2⟩
@[reducible] noncomputable def PQ2 (room : Int) (q : Nat → Int × Int) : Exit → St → Prop := fun e S' => e = .exit 2 ∧ ∃ i, PE2 room q i ∧ Le S' (PJ2 room q i)
set_option maxRecDepth 100000
set_option maxHeartbeats 80000000
theorem mF (room : Int) (hr12 : 1 ≤ room ∧ room ≤ 12) (q : Nat → Int × Int) (w kk lg lo : Nat) (hw5 : w < 5) (u2 : kk ≤ 300 + 165 * w) (u5 : lg ≤ 300 + 165 * w) (u6 : lo ≤ 300 + 165 * w) (x) (hx : PP3 room q w kk lg lo x) (hci : isC (x.2.2.1.S w).s = false) : Wp TC pb3 (PI3 room q w x) (fY (PP3 room q w kk lg lo) (PI3 room q w) (fun k => 165 - k.1) (165 - x.1) (PQ3 room q w kk lg lo)) := by
 obtain ⟨hr1, hr12⟩ := hr12
 revert hx hci
 obtain ⟨n, k, c, G, O⟩ := x
 rintro ⟨hkk, h4, h5, h6, h7, h8, hT⟩ hci
 dsimp only at hkk
 subst hkk
 dsimp only at h4 h5 h6 h7 h8 hT hci ⊢
 conv => (arg 2; whnf)
 have xc := h4.xl
 have hPd := cZ (f := c.f) h4 (by omega) (w := w) (by omega)
 have hTb : n ≤ 165 := by omega
 rw [hci] at hPd
 have hno := lO hci
 (repeat' (first | ((first | refine Wp.any ac rfl ?_ | (with_reducible first | refine Go.mk ?_ | apply aj.of)); conv => whnf) | ((refine ab.fn (hPd) [0,1,2,3,4,5,6,7,8,9,10,11,12,13] rfl rfl rfl rfl rfl ?ha ?hh ?_); (case ha => exact zA); (case hh => exact zz2); (conv => whnf))))
 refine ⟨rfl, (n, kk + n, c, G, O), ⟨hTb, rfl, h4, h5, h6, h7, fun j hj => ?_⟩, ?_⟩
 ·by_cases e : j = w
  ·rw [e]; exact hno
  ·exact h8 j (by omega)
 ·dsimp only
  (refine Le.by [0,1,2,3,4,5,6,7,8,9,10,11,12,13,14,15,16] rfl rfl rfl rfl ?_ ?_ <;> ((conv => whnf); repeat' (first | exact trivial | exact az (by decide) (fun l hl => by rcases l with _ | _ | _ | _ | l <;> first | exact ⟨zzb rfl, rfl⟩ | exact ⟨zzb rfl, rfl, rfl⟩ | omega) (fun q hq => by rcases q with _ | _ | _ | _ | _ | _ | _ | _ | _ | q <;> first | exact ⟨zzb rfl, rfl⟩ | omega) | exact ae.rfl rfl | exact ae.ptr rfl | exact ae.sl rfl | exact ⟨rfl, rfl, rfl⟩ | exact ⟨rfl, zzb rfl⟩ | exact aM (by assumption) rfl | exact fun i hi => rfl | ((with_reducible refine And.intro ?_ ?_) <;> (conv => whnf)))))
set_option maxRecDepth 100000
set_option maxHeartbeats 80000000
theorem mE (room : Int) (hr12 : 1 ≤ room ∧ room ≤ 12) (q : Nat → Int × Int) (w kk lg lo : Nat) (hw5 : w < 5) (u2 : kk ≤ 300 + 165 * w) (u5 : lg ≤ 300 + 165 * w) (u6 : lo ≤ 300 + 165 * w) (x) (hx : PP3 room q w kk lg lo x) (hci : isC (x.2.2.1.S w).s = true) : Wp TC pb3 (PI3 room q w x) (fY (PP3 room q w kk lg lo) (PI3 room q w) (fun k => 165 - k.1) (165 - x.1) (PQ3 room q w kk lg lo)) := by
 obtain ⟨hr1, hr12⟩ := hr12
 revert hx hci
 obtain ⟨n, k, c, G, O⟩ := x
 rintro ⟨hkk, h4, h5, h6, h7, h8, hT⟩ hci
 dsimp only at hkk
 subst hkk
 dsimp only [PI3] at h4 h5 h6 h7 h8 hT hci ⊢
 conv => (arg 2; whnf)
 have xc := h4.xl
 have hPd := cZ (f := c.f) h4 (by omega) (w := w) (by omega)
 have hTb : n ≤ 165 := by omega
 rw [hci] at hPd
 obtain ⟨xs', f', hL, hS⟩ := gH (f := c.f) h4 (by omega) (.inl (by omega)) hci
 have ek : ((kk + n : Nat) : Int) + 1 + 1 = ((kk + (n + 1) : Nat) : Int) + 1 := by omega
 rw [show kk + n + 1 = kk + (n + 1) from rfl, ek] at hL
 rw [ek] at hS
 obtain ⟨r, hr⟩ : ∃ r, (Core.step (aa am room) c.M (c.S w).x (c.S w).s).r = r := ⟨_, rfl⟩
 obtain ⟨g2, g3, g4⟩ := h5.step h4 (by omega) hw5 hci hr
 have hq := h5.cl w hci
 have h9 : ∀ j, j < w ∨ 5 ≤ j → (Core.nx (aa am room) c.M c.S w j).s = .none := fun j hj => by unfold Core.nx; rw [Dir.upd_ne _ _ (by omega)]; exact h8 j hj
 have hp0 := Core.T_pos (h4.all.inv.cw w) (f5 hci)
 have hT2 : n + 1 + Core.T (Core.nx (aa am room) c.M c.S w w).x (Core.mx (aa am room) c.M c.S w).W (Core.nx (aa am room) c.M c.S w w).s ≤ 165 := by
  cases hd : (Core.step (aa am room) c.M (c.S w).x (c.S w).s).r.done with
  | false =>
   have := (Core.alone_T (P := aa am room) h4.all.inv (f5 hci) hd).2
   omega
  | true =>
   have e : (Core.nx (aa am room) c.M c.S w w).s = .none := by unfold Core.nx; rw [Dir.upd_same]; exact Core.step_none hd
   rw [e]
   show n + 1 + 0 ≤ 165
   omega
 rw [hr] at hS
 generalize Core.mx (aa am room) c.M c.S w = M' at *
 generalize Core.nx (aa am room) c.M c.S w = S' at *
 generalize (c.S w).x.op = o at *
 generalize (c.S w).x.n = m at *
 have xl' := hL.xl
 clear hr
 obtain ⟨dn, re, rg, rl, rw', rs', rn⟩ := r
 dsimp only at g2 g3 g4
 by_cases hd : dn = true ∧ re = 0
 ·obtain ⟨rfl, rfl⟩ := hd
  by_cases o2 : o = 2
  ·subst o2
   obtain ⟨⟨a1, a2⟩, hp⟩ := g2 ⟨rfl, rfl, rfl⟩
   have hHas := has_R G rs' (by omega)
   rw [decide_eq_false a2] at hHas
   have hlG : (G ++ [rs']).length = G.length + 1 := by rw [List.length_append, List.length_singleton]
   have hlO : (O ++ [rs']).length = O.length + 1 := by rw [List.length_append, List.length_singleton]
   have hq1 := congrArg Prod.fst hq
   dsimp only at hq1
   have hw6 : w = 0 ∨ w = 1 ∨ w = 2 ∨ w = 3 ∨ w = 4 := by omega
   rcases hw6 with rfl | rfl | rfl | rfl | rfl
   all_goals
    (repeat' (first | ((first | refine Wp.any ac rfl ?_ | (with_reducible first | refine Go.mk ?_ | apply aj.of | refine Ov.ok zO ?_) | refine zV ?_ | with_reducible refine And.intro zC ?_); conv => whnf) | ((refine i5.b rfl rfl rfl rfl rfl rfl rfl rfl ?hb ?ho ?_); (case hb => exact zB); (case ho => omega); (conv => whnf)) | (with_reducible refine ab.inline Tryz.func14 rfl rfl rfl (zzb rfl) ?_) | ((refine ab.fn (hPd) [0,1,2,3,4,5,6,7,8,9,10,11,12,13] rfl rfl rfl rfl rfl ?ha ?hh ?_); (case ha => exact zA); (case hh => exact zz2); (conv => whnf)) | ((refine ab.fn (hS) [0,1,2,3,4,5,6,7,8,9,10,11,12,13] rfl rfl rfl rfl rfl ?ha ?hh ?_); (case ha => exact zA); (case hh => exact zz2); (conv => whnf)) | ((refine ag.fn (hHas) [15] [15] rfl rfl rfl rfl rfl ?ha ?hh ?hs ?_); (case ha => exact zA); (case hh => exact zH); (case hs => exact zK); (conv => whnf)) | ((refine ap (fun hc => ?_) (fun hc => ?_)) <;> (try simp only [wz9] at hc) <;> (try (exfalso; omega)) <;> (conv => whnf))))
    refine ⟨(n + 1, kk + (n + 1), ⟨M', S', xs', au c.nl, f'⟩, G ++ [rs'], O ++ [rs']), ⟨rfl, hL, hp, by dsimp only; omega, by dsimp only; omega, h9, hT2⟩, by dsimp only; omega, ?_⟩
    dsimp only [PI3, cL, mJ, aG]
    rw [hlG, hlO]
    (refine Le.by [0,1,2,3,17,18,19,20,21,22,23,24,25,26,14,52,61] rfl rfl rfl rfl ?_ ?_ <;> ((conv => whnf); repeat' (first | exact trivial | exact az (by decide) (fun l hl => by rcases l with _ | _ | _ | _ | l <;> first | exact ⟨zzb rfl, rfl⟩ | exact ⟨zzb rfl, rfl, rfl⟩ | omega) (fun q hq => by rcases q with _ | _ | _ | _ | _ | _ | _ | _ | _ | q <;> first | exact ⟨zzb rfl, rfl⟩ | omega) | exact ae.rfl rfl | exact ae.ptr rfl | exact ae.sl rfl | exact ⟨rfl, rfl, rfl⟩ | exact ⟨rfl, zzb rfl⟩ | exact aM (by assumption) rfl | exact fun i hi => rfl | exact gN _ _ | ((with_reducible refine And.intro ?_ ?_) <;> (conv => whnf)))))
  ·by_cases o3 : o = 3
   ·subst o3
    obtain ⟨⟨n1, n2⟩, hp⟩ := g3 ⟨rfl, rfl, rfl⟩
    have n3 := hL.c33
    rw [show -m = 0 - m by omega] at hp
    have hlO : (O ++ [0 - m]).length = O.length + 1 := by rw [List.length_append, List.length_singleton]
    have hq1 := congrArg Prod.fst hq
    have hq2 := congrArg Prod.snd hq
    dsimp only at hq1 hq2
    subst hq2
    have hw6 : w = 0 ∨ w = 1 ∨ w = 2 ∨ w = 3 ∨ w = 4 := by omega
    rcases hw6 with rfl | rfl | rfl | rfl | rfl
    all_goals
     (repeat' (first | ((first | refine Wp.any ac rfl ?_ | (with_reducible first | refine Go.mk ?_ | apply aj.of | refine Ov.ok zO ?_) | refine zV ?_ | with_reducible refine And.intro zC ?_); conv => whnf) | ((refine i5.b rfl rfl rfl rfl rfl rfl rfl rfl ?hb ?ho ?_); (case hb => exact zB); (case ho => omega); (conv => whnf)) | (with_reducible refine ab.inline Tryz.func14 rfl rfl rfl (zzb rfl) ?_) | ((refine ab.fn (hPd) [0,1,2,3,4,5,6,7,8,9,10,11,12,13] rfl rfl rfl rfl rfl ?ha ?hh ?_); (case ha => exact zA); (case hh => exact zz2); (conv => whnf)) | ((refine ab.fn (hS) [0,1,2,3,4,5,6,7,8,9,10,11,12,13] rfl rfl rfl rfl rfl ?ha ?hh ?_); (case ha => exact zA); (case hh => exact zz2); (conv => whnf)) | ((refine ap (fun hc => ?_) (fun hc => ?_)) <;> (try simp only [wz9] at hc) <;> (try (exfalso; omega)) <;> (conv => whnf))))
     refine ⟨(n + 1, kk + (n + 1), ⟨M', S', xs', au c.nl, f'⟩, G, O ++ [0 - (q _).2]), ⟨rfl, hL, hp, by dsimp only; omega, by dsimp only; omega, h9, hT2⟩, by dsimp only; omega, ?_⟩
     dsimp only [PI3, cL, mJ, aG]
     rw [hlO]
     (refine Le.by [0,1,2,3,17,18,19,20,21,22,23,24,25,26,14,15,42] rfl rfl rfl rfl ?_ ?_ <;> ((conv => whnf); repeat' (first | exact trivial | exact az (by decide) (fun l hl => by rcases l with _ | _ | _ | _ | l <;> first | exact ⟨zzb rfl, rfl⟩ | exact ⟨zzb rfl, rfl, rfl⟩ | omega) (fun q hq => by rcases q with _ | _ | _ | _ | _ | _ | _ | _ | _ | q <;> first | exact ⟨zzb rfl, rfl⟩ | omega) | exact ae.rfl rfl | exact ae.ptr rfl | exact ae.sl rfl | exact ⟨rfl, rfl, rfl⟩ | exact ⟨rfl, zzb rfl⟩ | exact aM (by assumption) rfl | exact fun i hi => rfl | exact gN _ _ | ((with_reducible refine And.intro ?_ ?_) <;> (conv => whnf)))))
   ·have hp := g4 (fun h9 => by have := h9.2.2; omega)
    have hq1 := congrArg Prod.fst hq
    dsimp only at hq1
    have hw6 : w = 0 ∨ w = 1 ∨ w = 2 ∨ w = 3 ∨ w = 4 := by omega
    rcases hw6 with rfl | rfl | rfl | rfl | rfl
    all_goals
     (repeat' (first | ((first | refine Wp.any ac rfl ?_ | (with_reducible first | refine Go.mk ?_ | apply aj.of | refine Ov.ok zO ?_ | refine And.intro zC ?_)); conv => whnf) | (with_reducible refine ab.inline Tryz.func14 rfl rfl rfl (zzb rfl) ?_) | ((refine ab.fn (hPd) [0,1,2,3,4,5,6,7,8,9,10,11,12,13] rfl rfl rfl rfl rfl ?ha ?hh ?_); (case ha => exact zA); (case hh => exact zz2); (conv => whnf)) | ((refine ab.fn (hS) [0,1,2,3,4,5,6,7,8,9,10,11,12,13] rfl rfl rfl rfl rfl ?ha ?hh ?_); (case ha => exact zA); (case hh => exact zz2); (conv => whnf)) | ((refine ap (fun hc => ?_) (fun hc => ?_)) <;> (try simp only [wz9] at hc) <;> (try (exfalso; omega)) <;> (conv => whnf))))
     refine ⟨(n + 1, kk + (n + 1), ⟨M', S', xs', au c.nl, f'⟩, G, O), ⟨rfl, hL, hp, by dsimp only; omega, by dsimp only; omega, h9, hT2⟩, by dsimp only; omega, ?_⟩
     (try dsimp only [PI3])
     (refine Le.by [0,1,2,3,17,18,19,20,21,22,23,24,25,26,14,15,16] rfl rfl rfl rfl ?_ ?_ <;> ((conv => whnf); repeat' (first | exact trivial | exact az (by decide) (fun l hl => by rcases l with _ | _ | _ | _ | l <;> first | exact ⟨zzb rfl, rfl⟩ | exact ⟨zzb rfl, rfl, rfl⟩ | omega) (fun q hq => by rcases q with _ | _ | _ | _ | _ | _ | _ | _ | _ | q <;> first | exact ⟨zzb rfl, rfl⟩ | omega) | exact ae.rfl rfl | exact ae.ptr rfl | exact ae.sl rfl | exact ⟨rfl, rfl, rfl⟩ | exact ⟨rfl, zzb rfl⟩ | exact aM (by assumption) rfl | exact fun i hi => rfl | ((with_reducible refine And.intro ?_ ?_) <;> (conv => whnf)))))
 ·have hp := g4 (fun h9 => hd ⟨h9.1, h9.2.1⟩)
  cases dn with
  | false =>
   (repeat' (first | ((first | refine Wp.any ac rfl ?_ | (with_reducible first | refine Go.mk ?_ | apply aj.of | refine Ov.ok zO ?_)); conv => whnf) | (with_reducible refine ab.inline Tryz.func14 rfl rfl rfl (zzb rfl) ?_) | ((refine ab.fn (hPd) [0,1,2,3,4,5,6,7,8,9,10,11,12,13] rfl rfl rfl rfl rfl ?ha ?hh ?_); (case ha => exact zA); (case hh => exact zz2); (conv => whnf)) | ((refine ab.fn (hS) [0,1,2,3,4,5,6,7,8,9,10,11,12,13] rfl rfl rfl rfl rfl ?ha ?hh ?_); (case ha => exact zA); (case hh => exact zz2); (conv => whnf)) | ((refine ap (fun hc => ?_) (fun hc => ?_)) <;> (try simp only [wz9] at hc) <;> (try (exfalso; omega)) <;> (conv => whnf))))
   refine ⟨(n + 1, kk + (n + 1), ⟨M', S', xs', au c.nl, f'⟩, G, O), ⟨rfl, hL, hp, by dsimp only; omega, by dsimp only; omega, h9, hT2⟩, by dsimp only; omega, ?_⟩
   (try dsimp only [PI3])
   (refine Le.by [0,1,2,3,17,18,19,20,21,22,23,24,25,26,14,15,16] rfl rfl rfl rfl ?_ ?_ <;> ((conv => whnf); repeat' (first | exact trivial | exact az (by decide) (fun l hl => by rcases l with _ | _ | _ | _ | l <;> first | exact ⟨zzb rfl, rfl⟩ | exact ⟨zzb rfl, rfl, rfl⟩ | omega) (fun q hq => by rcases q with _ | _ | _ | _ | _ | _ | _ | _ | _ | q <;> first | exact ⟨zzb rfl, rfl⟩ | omega) | exact ae.rfl rfl | exact ae.ptr rfl | exact ae.sl rfl | exact ⟨rfl, rfl, rfl⟩ | exact ⟨rfl, zzb rfl⟩ | exact aM (by assumption) rfl | exact fun i hi => rfl | ((with_reducible refine And.intro ?_ ?_) <;> (conv => whnf)))))
  | true =>
   have hre : re ≠ 0 := fun e => hd ⟨rfl, e⟩
   (repeat' (first | ((first | refine Wp.any ac rfl ?_ | (with_reducible first | refine Go.mk ?_ | apply aj.of | refine Ov.ok zO ?_)); conv => whnf) | (with_reducible refine ab.inline Tryz.func14 rfl rfl rfl (zzb rfl) ?_) | ((refine ab.fn (hPd) [0,1,2,3,4,5,6,7,8,9,10,11,12,13] rfl rfl rfl rfl rfl ?ha ?hh ?_); (case ha => exact zA); (case hh => exact zz2); (conv => whnf)) | ((refine ab.fn (hS) [0,1,2,3,4,5,6,7,8,9,10,11,12,13] rfl rfl rfl rfl rfl ?ha ?hh ?_); (case ha => exact zA); (case hh => exact zz2); (conv => whnf)) | ((refine ap (fun hc => ?_) (fun hc => ?_)) <;> (try simp only [wz9] at hc) <;> (try (exfalso; omega)) <;> (conv => whnf))))
   refine ⟨(n + 1, kk + (n + 1), ⟨M', S', xs', au c.nl, f'⟩, G, O), ⟨rfl, hL, hp, by dsimp only; omega, by dsimp only; omega, h9, hT2⟩, by dsimp only; omega, ?_⟩
   (try dsimp only [PI3])
   (refine Le.by [0,1,2,3,17,18,19,20,21,22,23,24,25,26,14,15,16] rfl rfl rfl rfl ?_ ?_ <;> ((conv => whnf); repeat' (first | exact trivial | exact az (by decide) (fun l hl => by rcases l with _ | _ | _ | _ | l <;> first | exact ⟨zzb rfl, rfl⟩ | exact ⟨zzb rfl, rfl, rfl⟩ | omega) (fun q hq => by rcases q with _ | _ | _ | _ | _ | _ | _ | _ | _ | q <;> first | exact ⟨zzb rfl, rfl⟩ | omega) | exact ae.rfl rfl | exact ae.ptr rfl | exact ae.sl rfl | exact ⟨rfl, rfl, rfl⟩ | exact ⟨rfl, zzb rfl⟩ | exact aM (by assumption) rfl | exact fun i hi => rfl | ((with_reducible refine And.intro ?_ ?_) <;> (conv => whnf)))))
set_option maxRecDepth 100000
set_option maxHeartbeats 80000000
theorem Wp.midB {C : Cx} {ι : Type} (id : Nat) {c : Code} {S : St} {Q : Exit → St → Prop} (p : ι → Prop) (I : ι → St) (h1 : Wp C c S (fun e S' => e = .exit id ∧ ∃ i, p i ∧ Le S' (I i))) (h2 : ∀ i, p i → ∀ S', Le S' (I i) → Q .normal S') : Wp C c S (mj id Q) :=
 h1.mono fun e S' ⟨he, i, hi, hl⟩ => by
  subst he
  show if id = id then _ else _
  rw [if_pos rfl]
  exact h2 i hi S' hl
theorem oV (room : Int) (hr12 : 1 ≤ room ∧ room ≤ 12) (q : Nat → Int × Int) (x) (hx : PP2 room q x) : Wp TC pb2 (PI2 room q x) (fY (PP2 room q) (PI2 room q) (fun k => 5 - k.1) (5 - x.1) (PQ2 room q)) := by
 have hr12' := hr12
 obtain ⟨hr1, hr12⟩ := hr12
 revert hx
 obtain ⟨w, kk, cc, GG, OO⟩ := x
 rintro ⟨u1, u2, u3, u4, u5, u6, u7⟩
 dsimp only at u1 u2 u3 u4 u5 u6 u7 ⊢
 conv => (arg 2; whnf)
 have xu := u3.xl
 by_cases hw5 : w < 5
 ·(repeat' (first | ((first | refine Wp.any ac rfl ?_ | (with_reducible first | refine Go.mk ?_ | apply aj.of)); conv => whnf) | ((refine ap (fun hc => ?_) (fun hc => ?_)) <;> (try simp only [wz9] at hc) <;> (try (exfalso; omega)) <;> (conv => whnf))))
  refine Wp.midB 4 (PE3 room q w kk GG.length OO.length) (PJ3 room q w) ?_ ?_
  ·refine Wp.loopP (PP3 room q w kk GG.length OO.length) (PI3 room q w) (fun k => 165 - k.1) (0, kk, cc, GG, OO) ⟨rfl, u3, u4, Nat.le_refl _, Nat.le_refl _, u7, by have := Core.T_le (u3.all.inv.cw w); dsimp only; omega⟩ ?_ ?_
   ·dsimp only
    (refine Le.by [0,1,2,3,4,5,6,7,8,9,10,11,12,13,14,15,16] rfl rfl rfl rfl ?_ ?_ <;> ((conv => whnf); repeat' (first | exact trivial | exact aH (by decide) (by decide) (fun l hl => by rcases l with _ | _ | _ | _ | l <;> first | exact ⟨zzb rfl, rfl⟩ | exact ⟨zzb rfl, rfl, rfl⟩ | omega) (fun q hq => by rcases q with _ | _ | _ | _ | _ | _ | _ | _ | _ | q <;> first | exact ⟨zzb rfl, rfl⟩ | omega) | exact ae.rfl rfl | exact ae.ptr rfl | exact ae.sl rfl | exact ⟨rfl, rfl, rfl⟩ | exact ⟨rfl, zzb rfl⟩ | exact bF (by assumption) | exact fun i hi => rfl | ((with_reducible refine And.intro ?_ ?_) <;> (conv => whnf)))))
   ·intro x hx
    cases hc : isC (x.2.2.1.S w).s with
    | false => exact mF room hr12' q w kk GG.length OO.length hw5 u2 u5 u6 x hx hc
    | true => exact mE room hr12' q w kk GG.length OO.length hw5 u2 u5 u6 x hx hc
  ·rintro ⟨n, k, c, G, O⟩ ⟨g1, g2, g3, g4, g5, g6, g7⟩ S' hl
   dsimp only at g1 g2 g3 g4 g5 g6 g7 hl
   subst g2
   have xc := g3.xl
   show Wp TC _ S' _
   refine Wp.le hl ?_
   (repeat' (first | ((first | refine Wp.any ac rfl ?_ | (with_reducible first | refine Go.mk ?_ | apply aj.of | refine Ov.ok zO ?_)); conv => whnf)))
   refine ⟨(w + 1, kk + n, c, G, O), ⟨by dsimp only; omega, by dsimp only; omega, g3, g4, by dsimp only; omega, by dsimp only; omega, g7⟩, by dsimp only; omega, ?_⟩
   dsimp only
   (refine Le.by [0,1,2,3,4,5,6,7,8,9,10,11,12,13,14,15,16] rfl rfl rfl rfl ?_ ?_ <;> ((conv => whnf); repeat' (first | exact trivial | exact aH (by decide) (by decide) (fun l hl => by rcases l with _ | _ | _ | _ | l <;> first | exact ⟨zzb rfl, rfl⟩ | exact ⟨zzb rfl, rfl, rfl⟩ | omega) (fun q hq => by rcases q with _ | _ | _ | _ | _ | _ | _ | _ | _ | q <;> first | exact ⟨zzb rfl, rfl⟩ | omega) | exact ae.rfl rfl | exact ae.ptr rfl | exact ae.sl rfl | exact ⟨rfl, rfl, rfl⟩ | exact ⟨rfl, zzb rfl⟩ | exact bF (by assumption) | exact fun i hi => rfl | ((with_reducible refine And.intro ?_ ?_) <;> (conv => whnf)))))
 ·(repeat' (first | ((first | refine Wp.any ac rfl ?_ | (with_reducible first | refine Go.mk ?_ | apply aj.of)); conv => whnf) | ((refine ap (fun hc => ?_) (fun hc => ?_)) <;> (try simp only [wz9] at hc) <;> (try (exfalso; omega)) <;> (conv => whnf))))
  refine ⟨rfl, (kk, cc, GG, OO), ⟨u3, by dsimp only; omega, u4, by dsimp only; omega, by dsimp only; omega, fun j => u7 j (by omega)⟩, ?_⟩
  dsimp only
  (refine Le.by [0,1,2,3,4,5,6,7,8,9,10,11,12,13,14,15,16] rfl rfl rfl rfl ?_ ?_ <;> ((conv => whnf); repeat' (first | exact trivial | exact aH (by decide) (by decide) (fun l hl => by rcases l with _ | _ | _ | _ | l <;> first | exact ⟨zzb rfl, rfl⟩ | exact ⟨zzb rfl, rfl, rfl⟩ | omega) (fun q hq => by rcases q with _ | _ | _ | _ | _ | _ | _ | _ | _ | q <;> first | exact ⟨zzb rfl, rfl⟩ | omega) | exact ae.rfl rfl | exact ae.ptr rfl | exact ae.sl rfl | exact ⟨rfl, rfl, rfl⟩ | exact ⟨rfl, zzb rfl⟩ | exact bF (by assumption) | exact fun i hi => rfl | ((with_reducible refine And.intro ?_ ?_) <;> (conv => whnf)))))
set_option maxRecDepth 100000
set_option maxHeartbeats 80000000
theorem oU (room : Int) (hr12 : 1 ≤ room ∧ room ≤ 12) (q : Nat → Int × Int) (x) (hx : PE2 room q x) : Wp TC pb4 (PJ2 room q x) (finQ TC Tryz.f3.results.toList (.b true)) := by
 obtain ⟨hr1, hr12⟩ := hr12
 revert hx
 obtain ⟨k, c, G, O⟩ := x
 rintro ⟨v1, v2, v3, v4, v5, v6⟩
 dsimp only at v1 v2 v3 v4 v5 v6 ⊢
 conv => (arg 2; whnf)
 have xv := v1.xl
 (repeat' (first | ((first | refine Wp.any ac rfl ?_ | (with_reducible first | refine Go.mk ?_ | apply aj.of)); conv => whnf)))
 refine Wp.loopP (ι := Nat) (fun j => j ≤ O.length)
  (fun j => ⟨⟨Tryz.f3.ntmps, 0⟩, 17, [(5, .ptr 0 0), (7, .ptr 14 0), (14, .i .i64 (cnt O j)), (109, .sl 16 1 0 O.length), (110, .i .i64 O.length), (111, .i .i64 j)], ah am room (gOf (aa am room) 4 c.S) c.M c.xs c.nl c.f ((k : Int) + 1) ++ cL q G O⟩)
  (fun j => O.length - j) 0 (Nat.zero_le _) ?_ ?_
 ·rw [ub]
  (refine Le.by [0,1,2,3,4,5,6,7,8,9,10,11,12,13,14,15,16] rfl rfl rfl rfl ?_ ?_ <;> ((conv => whnf); repeat' (first | exact trivial | exact aH (by decide) (by decide) (fun l hl => by rcases l with _ | _ | _ | _ | l <;> first | exact ⟨zzb rfl, rfl⟩ | exact ⟨zzb rfl, rfl, rfl⟩ | omega) (fun q hq => by rcases q with _ | _ | _ | _ | _ | _ | _ | _ | _ | q <;> first | exact ⟨zzb rfl, rfl⟩ | omega) | exact ae.rfl rfl | exact ae.ptr rfl | exact ae.sl rfl | exact ⟨rfl, rfl, rfl⟩ | exact ⟨rfl, zzb rfl⟩ | exact bF (by assumption) | exact fun i hi => rfl | ((with_reducible refine And.intro ?_ ?_) <;> (conv => whnf)))))
 ·rintro j w1
  have hcb := cnt_bd O j
  by_cases hj : j < O.length
  ·have hcs := uc hj
   have hng := v3.neg hj
   rw [gI0 hj] at hcs hng
   have hgj := gI hj
   (repeat' (first | ((first | refine Wp.any ac rfl ?_ | (with_reducible first | refine Go.mk ?_ | apply aj.of | refine Ov.ok zO ?_ | refine And.intro zC ?_)); conv => whnf) | ((refine ap (fun hc => ?_) (fun hc => ?_)) <;> (try simp only [wz9] at hc) <;> (try (exfalso; omega)) <;> (conv => whnf))))
   ·rw [hgj] at hc
    rw [if_pos (by omega)] at hcs
    refine ⟨j + 1, by dsimp only; omega, by dsimp only; omega, ?_⟩
    dsimp only
    rw [hcs]
    (refine Le.by [0,1,2,3,4,5,6,7,8,9,10,11,12,13,14,15,16] rfl rfl rfl rfl ?_ ?_ <;> ((conv => whnf); repeat' (first | exact trivial | exact aH (by decide) (by decide) (fun l hl => by rcases l with _ | _ | _ | _ | l <;> first | exact ⟨zzb rfl, rfl⟩ | exact ⟨zzb rfl, rfl, rfl⟩ | omega) (fun q hq => by rcases q with _ | _ | _ | _ | _ | _ | _ | _ | _ | q <;> first | exact ⟨zzb rfl, rfl⟩ | omega) | exact ae.rfl rfl | exact ae.ptr rfl | exact ae.sl rfl | exact ⟨rfl, rfl, rfl⟩ | exact ⟨rfl, zzb rfl⟩ | exact bF (by assumption) | exact fun i hi => rfl | ((with_reducible refine And.intro ?_ ?_) <;> (conv => whnf)))))
   ·rw [hgj] at hc
    rw [if_neg (by omega)] at hcs
    have hnm := hng (by omega)
    have hne : ∀ t, t < j → O.getD (0 + (t : Int).toNat) default ≠ O.getD (0 + (j : Int).toNat) default := fun t ht e => by
     rw [hgj, gI (by omega : t < O.length)] at e
     exact hnm (by rw [← e]; exact List.mem_take_iff_getElem.2 ⟨t, by omega, rfl⟩)
    refine Wp.loopP (ι := Nat) (fun t => t ≤ j)
     (fun t => ⟨⟨Tryz.f3.ntmps, 0⟩, 17, [(5, .ptr 0 0), (7, .ptr 14 0), (14, .i .i64 (cnt O j - 1)), (16, .i .i64 (O.getD (0 + (j : Int).toNat) default)), (109, .sl 16 1 0 O.length), (110, .i .i64 O.length), (111, .i .i64 j), (127, .sl 16 1 (0 + 0) ((j : Int).toNat - 0)), (128, .i .i64 (((j : Int).toNat - 0 : Nat) : Int)), (129, .i .i64 t)], ah am room (gOf (aa am room) 4 c.S) c.M c.xs c.nl c.f ((k : Int) + 1) ++ cL q G O⟩)
     (fun t => j - t) 0 (Nat.zero_le _) ?_ ?_
    ·(refine Le.by [0,1,2,3,4,5,6,7,8,9,10,11,12,13,14,15,16] rfl rfl rfl rfl ?_ ?_ <;> ((conv => whnf); repeat' (first | exact trivial | exact aH (by decide) (by decide) (fun l hl => by rcases l with _ | _ | _ | _ | l <;> first | exact ⟨zzb rfl, rfl⟩ | exact ⟨zzb rfl, rfl, rfl⟩ | omega) (fun q hq => by rcases q with _ | _ | _ | _ | _ | _ | _ | _ | _ | q <;> first | exact ⟨zzb rfl, rfl⟩ | omega) | exact ae.rfl rfl | exact ae.ptr rfl | exact ae.sl rfl | exact ⟨rfl, rfl, rfl⟩ | exact ⟨rfl, zzb rfl⟩ | exact bF (by assumption) | exact fun i hi => rfl | ((with_reducible refine And.intro ?_ ?_) <;> (conv => whnf)))))
    ·rintro t w2
     by_cases ht : t < j
     ·have hn1 := hne t ht
      have hn2 : O.getD (0 + 0 + (t : Int).toNat) default ≠ O.getD (0 + (j : Int).toNat) default := hn1
      (repeat' (first | ((first | refine Wp.any ac rfl ?_ | (with_reducible first | refine Go.mk ?_ | apply aj.of | refine Ov.ok zO ?_ | refine And.intro zC ?_)); conv => whnf) | ((refine ap (fun hc => ?_) (fun hc => ?_)) <;> (try simp only [wz9] at hc) <;> (try (exfalso; omega)) <;> (conv => whnf))))
      refine ⟨t + 1, by dsimp only; omega, by dsimp only; omega, ?_⟩
      dsimp only
      (refine Le.by [0,1,2,3,4,5,6,7,8,9,10,11,12,13,14,15,16] rfl rfl rfl rfl ?_ ?_ <;> ((conv => whnf); repeat' (first | exact trivial | exact aH (by decide) (by decide) (fun l hl => by rcases l with _ | _ | _ | _ | l <;> first | exact ⟨zzb rfl, rfl⟩ | exact ⟨zzb rfl, rfl, rfl⟩ | omega) (fun q hq => by rcases q with _ | _ | _ | _ | _ | _ | _ | _ | _ | q <;> first | exact ⟨zzb rfl, rfl⟩ | omega) | exact ae.rfl rfl | exact ae.ptr rfl | exact ae.sl rfl | exact ⟨rfl, rfl, rfl⟩ | exact ⟨rfl, zzb rfl⟩ | exact bF (by assumption) | exact fun i hi => rfl | ((with_reducible refine And.intro ?_ ?_) <;> (conv => whnf)))))
     ·obtain rfl : t = j := by omega
      (repeat' (first | ((first | refine Wp.any ac rfl ?_ | (with_reducible first | refine Go.mk ?_ | apply aj.of | refine Ov.ok zO ?_)); conv => whnf) | ((refine ap (fun hc => ?_) (fun hc => ?_)) <;> (try simp only [wz9] at hc) <;> (try (exfalso; omega)) <;> (conv => whnf))))
      refine ⟨t + 1, by dsimp only; omega, by dsimp only; omega, ?_⟩
      dsimp only
      rw [hcs]
      (refine Le.by [0,1,2,3,4,5,6,7,8,9,10,11,12,13,14,15,16] rfl rfl rfl rfl ?_ ?_ <;> ((conv => whnf); repeat' (first | exact trivial | exact aH (by decide) (by decide) (fun l hl => by rcases l with _ | _ | _ | _ | l <;> first | exact ⟨zzb rfl, rfl⟩ | exact ⟨zzb rfl, rfl, rfl⟩ | omega) (fun q hq => by rcases q with _ | _ | _ | _ | _ | _ | _ | _ | _ | q <;> first | exact ⟨zzb rfl, rfl⟩ | omega) | exact ae.rfl rfl | exact ae.ptr rfl | exact ae.sl rfl | exact ⟨rfl, rfl, rfl⟩ | exact ⟨rfl, zzb rfl⟩ | exact bF (by assumption) | exact fun i hi => rfl | ((with_reducible refine And.intro ?_ ?_) <;> (conv => whnf)))))
  ·obtain rfl : j = O.length := by omega
   have hH := v3.held v1 (by omega) hr12 q G O
   rw [v3.fin v6] at hH
   (repeat' (first | ((first | refine Wp.any ac rfl ?_ | (with_reducible first | refine Go.mk ?_ | apply aj.of)); conv => whnf) | ((refine ab.fn (hH) [0,1,2,3,4,5,6,7,8,9,10,11,12,13,14,15,16] rfl rfl rfl rfl rfl ?ha ?hh ?_); (case ha => exact zA); (case hh => exact zz2); (conv => whnf)) | ((refine ap (fun hc => ?_) (fun hc => ?_)) <;> (try simp only [wz9] at hc) <;> (try (exfalso; omega)) <;> (conv => whnf))))
   exact .b (by simp)
set_option maxRecDepth 100000
set_option maxHeartbeats 80000000
theorem oW (room : Int) (hr12 : 1 ≤ room ∧ room ≤ 12) (script : List Pick) (hs : ∀ a ∈ script, a.ok) (hl0 : script.length ≤ 9223372036854775807) (x) (hx : PP1 room script x) : Wp TC pb1 (PI1 room script x) (fY (PP1 room script) (PI1 room script) (fun k => script.length - k.1) (script.length - x.1) (PQ1 room)) := by
 by_cases hi : x.1 < script.length ∧ x.1 < 300
 ·by_cases hk : (eF (script.getD (x.1 : Int).toNat default)).kind = 0
  ·exact mI room hr12 script hs hl0 x hx (fun _ => hk) hi
  ·exact mH room hr12 script hs hl0 x hx (fun _ => hk) hi
 ·exact mG room hr12 script hs hl0 x hx hi
theorem fW (wk : Int) (b0 : 0 ≤ wk) (b1 : wk ≤ 255) (script : List Pick) (hs : ∀ a ∈ script, a.ok) : Pure TC 3 [.i .u8 wk, .d (ax 7 Pick.D script)] (.b true) := by
 refine Pure.lens (.mk Tryz.func3 rfl rfl) fun hlen => ?_
 have hl0 := hlen script.length (by simp [ee, ax])
 clear hlen
 have hm : wk.tmod 6 = wk % 6 := Int.tmod_eq_emod_of_nonneg b0
 have hroom : 1 ≤ 1 + wk.tmod 6 ∧ 1 + wk.tmod 6 ≤ 4096 := by omega
 have hr12 : 1 + wk.tmod 6 ≤ 12 := by omega
 have hN := oA (ps := am) (room := 1 + wk.tmod 6) (nr hroom)
 have x0 : ∀ i j, SV.Lt 1 ((xs0 i).f j) := fun _ _ => .any
 have L0 := law0 hroom
 refine Pure.mk' Tryz.func3 rfl rfl zN ?_
 (repeat' (first | ((first | refine Wp.any ac rfl ?_ | (with_reducible first | refine Go.mk ?_ | apply aj.of | refine Ov.ok zO ?_ | refine And.intro zC ?_ | refine ab.pure (awake_T) rfl rfl ?_ | refine ab.pure (lL) rfl rfl ?_)); conv => whnf) | ((refine ab.fn (hN) [] rfl rfl rfl rfl rfl ?ha ?hh ?_); (case ha => exact zA); (case hh => exact zH); (conv => whnf))))
 refine Wp.le (Le.virtC 14 21 2 1 (fun i => aR .i64 (([] : List Int).getD i default)) (by decide) rfl rfl) ?_
 refine Wp.le (Le.virtC 14 22 2 1 (fun i => aR .i64 (([] : List Int).getD i default)) (by decide) rfl rfl) ?_
 generalize hrm : 1 + wk.tmod 6 = room at *
 have hr : 1 ≤ room ∧ room ≤ 12 := ⟨hroom.1, hr12⟩
 refine Wp.midE 0 (PE1 room) (PJ1 room) ?_ ?_
 ·refine Wp.loopP (PP1 room script) (PI1 room script) (fun k => script.length - k.1) (0, 0, cst0, fun _ => (0, 0), [], [])
   ⟨Nat.zero_le _, Nat.zero_le _, Nat.le_refl _, L0, .zero _, Nat.le_refl _, Nat.le_refl _, fun _ _ => rfl⟩ ?_ (oW room hr script hs hl0)
  (try dsimp only)
  (refine Le.by [0,1,2,3,4,5,6,7,8,9,10,11,12,13,14,15,16] rfl rfl rfl rfl ?_ ?_ <;> ((conv => whnf); repeat' (first | exact trivial | exact az (by decide) (fun l hl => by rcases l with _ | _ | _ | _ | l <;> first | exact ⟨zzb rfl, rfl⟩ | exact ⟨zzb rfl, rfl, rfl⟩ | omega) (fun q hq => by rcases q with _ | _ | _ | _ | _ | _ | _ | _ | _ | q <;> first | exact ⟨zzb rfl, rfl⟩ | omega) | exact ae.rfl rfl | exact ae.ptr rfl | exact ae.sl rfl | exact ae.free SV.Le.any rfl | exact ⟨rfl, rfl, rfl⟩ | exact ⟨rfl, zzb rfl⟩ | exact aM (by assumption) rfl | exact fun i hi => rfl | ((with_reducible refine And.intro ?_ ?_) <;> (conv => whnf)))))
 ·rintro ⟨k0, c0, q, G0, O0⟩ ⟨m1, m2, m3, m4, m5, m6⟩
  dsimp only at m1 m2 m3 m4 m5 m6 ⊢
  have xm := m2.xl
  (repeat' (first | ((first | refine Wp.any ac rfl ?_ | (with_reducible first | refine Go.mk ?_ | apply aj.of)); conv => whnf)))
  refine Wp.midE 2 (PE2 room q) (PJ2 room q) ?_ (oU room hr q)
  refine Wp.loopP (PP2 room q) (PI2 room q) (fun k => 5 - k.1) (0, k0, c0, G0, O0) ⟨Nat.zero_le _, by dsimp only; omega, m2, m3, by dsimp only; omega, by dsimp only; omega, fun j hj => m6 j (by omega)⟩ ?_ (oV room hr q)
  (try dsimp only)
  (refine Le.by [0,1,2,3,4,5,6,7,8,9,10,11,12,13,14,15,16] rfl rfl rfl rfl ?_ ?_ <;> ((conv => whnf); repeat' (first | exact trivial | exact aH (by decide) (by decide) (fun l hl => by rcases l with _ | _ | _ | _ | l <;> first | exact ⟨zzb rfl, rfl⟩ | exact ⟨zzb rfl, rfl, rfl⟩ | omega) (fun q hq => by rcases q with _ | _ | _ | _ | _ | _ | _ | _ | _ | q <;> first | exact ⟨zzb rfl, rfl⟩ | omega) | exact ae.rfl rfl | exact ae.ptr rfl | exact ae.sl rfl | exact ⟨rfl, rfl, rfl⟩ | exact ⟨rfl, zzb rfl⟩ | exact bF (by assumption) | exact fun i hi => rfl | ((with_reducible refine And.intro ?_ ?_) <;> (conv => whnf)))))
end Go.Proofs.YtpdhdnhkhidmpaaGreat
