/- Lemmas of Smh, Smf, Rs1, Smg, Br11, Sm5, Smj, Sml, Sx32. No condition. -/
import Derived.Test.YtpdhdnhkhidmpaaGreatMS23
set_option linter.unusedVariables false
set_option linter.unusedSimpArgs false
set_option maxHeartbeats 80000000
set_option maxRecDepth 100000
namespace Go.Proofs.YtpdhdnhkhidmpaaGreat
open Go.RowKit
section
open Sim
theorem kx_of {op pol n : Int} {key : List Int} (hk : IsB key) (hl : key.length ≤ 255) (hp : 0 ≤ pol ∧ pol < 2) : Core.Kx am (aH op pol key n) :=
 ⟨hk, hl, by show ([] : List Int).length ≤ 64; decide, hp⟩
theorem fit1_ok {c : Req} (h : c.ok) : iS (cN c) := by
 have h1 : 1 ≤ (cN c).op ∧ (cN c).op ≤ 6 := by
  have := h.op
  show 1 ≤ (if c.op < 1 ∨ 6 < c.op then 1 + c.op % 6 else c.op) ∧ (if c.op < 1 ∨ 6 < c.op then 1 + c.op % 6 else c.op) ≤ 6
  split <;> omega
 have h2 : (cN c).pol = if (cN c).op = 2 ∨ (cN c).op = 3 then 1 else 0 := rfl
 have h3 : (c.key.take 1).length ≤ 1 := by simp; omega
 have h4 := tk c.n
 have h5 : 0 ≤ (cN c).pol ∧ (cN c).pol < 2 := by rw [h2]; split <;> omega
 refine ⟨?_, h1, by show (c.key.take 1).length ≤ 255; omega, fun _ _ => kx_of (fun x hx => h.key x (List.mem_of_mem_take hx)) (by show (c.key.take 1).length ≤ 255; omega) h5, h4.1⟩
 show mL am (cN c).op (cN c).pol (c.key.take 1) (cm c.n) = 0
 have g3 : cR (cm c.n) = true := by simp [cR]; omega
 have g1 : (cN c).op = 2 ∨ (cN c).op = 3 → (cN c).pol = 1 := fun e => by rw [h2, if_pos e]
 have g2 : ¬ ((cN c).op = 2 ∨ (cN c).op = 3) → (cN c).pol = 0 := fun e => by rw [h2, if_neg e]
 clear h2 h
 generalize (cN c).op = o at *
 generalize (cN c).pol = q at *
 generalize cm c.n = m at *
 unfold mL
 rw [if_neg (by
  rintro (e | e | ⟨e, e2⟩)
  ·omega
  ·omega
  ·rw [g3] at e2; cases e2), if_neg (by omega), if_neg (by simp [m5]), if_neg]
 rintro ⟨_, e | e | ⟨e, e2⟩⟩
 ·omega
 ·simp [am] at e; omega
 ·apply e2
  by_cases o2 : o = 2 ∨ o = 3
  ·rw [g1 o2]; rcases o2 with rfl | rfl <;> rfl
  ·by_cases o1 : o = 1
   ·rw [g2 o2, o1]; rfl
   ·exfalso; apply e; unfold sf; rw [if_neg o1, if_neg (by omega)]
structure Sim.Few (W : List (List Req)) : Prop where
 len : W.length ≤ 8
 each : ∀ w ∈ W, w.length ≤ 64
 call : ∀ w ∈ W, ∀ c ∈ w, iS c
theorem oY {work : List (List Req)} (hw : ∀ w ∈ work, ∀ c ∈ w, c.ok) : Few (lE work) := by
 have h : ∀ w ∈ lE work, ∃ u ∈ work, w = (u.take 4).map cN := fun w h => by
  obtain ⟨u, hu, rfl⟩ := List.mem_map.1 h
  exact ⟨u, List.mem_of_mem_take hu, rfl⟩
 refine ⟨by unfold lE; rw [List.length_map, Q10]; omega, fun w hm => ?_, fun w hm c hc => ?_⟩
 ·obtain ⟨u, _, rfl⟩ := h w hm
  rw [List.length_map, Q10]; omega
 ·obtain ⟨u, hu, rfl⟩ := h w hm
  obtain ⟨d, hd, rfl⟩ := List.mem_map.1 hc
  exact fit1_ok (hw u hu d (List.mem_of_mem_take hd))
@[reducible] def Sim.PickOk (n : Nat) (p : Int × Int) : Prop := -1 ≤ p.1 ∧ p.1 < n ∧ (p.1 = -1 → 0 ≤ p.2 ∧ p.2 ≤ 4611686018427387903)
theorem sS (n : Nat) (p : Int × Int) : PickOk n (iU n p) ∧ 0 ≤ (iU n p).2 := by
 have hu : IntKind.u64.wrap p.2 = p.2 % 18446744073709551616 := by simp [IntKind.wrap, IntKind.bits, IntKind.signed]
 unfold iU PickOk
 split
 ·refine ⟨⟨by omega, by dsimp only; omega, fun _ => by dsimp only; omega⟩, by dsimp only; omega⟩
 ·rename_i h
  have h1 := Int.emod_nonneg p.1 (b := (n : Int)) (by omega)
  have h2 := Int.emod_lt_of_pos p.1 (b := (n : Int)) (by omega)
  refine ⟨⟨by dsimp only; omega, by dsimp only; omega, fun e => by dsimp only at e; omega⟩, by dsimp only; omega⟩
theorem sQ (room : Int) : 1 ≤ sR room ∧ sR room ≤ 6 := by
 have hu : IntKind.u64.wrap room = room % 18446744073709551616 := by simp [IntKind.wrap, IntKind.bits, IntKind.signed]
 unfold sR; omega
theorem nN : ∀ {W : List (List Req)}, (∀ w ∈ W, w.length ≤ 64) → (W.map List.length).sum ≤ 64 * W.length
 | [], _ => Q4 _
 | w :: W, h => by
  have h1 := nN (W := W) fun u hu => h u (List.mem_cons_of_mem _ hu)
  have h2 := h w (List.mem_cons_self ..)
  simp only [List.map_cons, List.sum_cons, List.length_cons]; omega
theorem kg {room : Int} (hr : 1 ≤ room ∧ room ≤ 12) {W : List (List Req)} (h : Few W) {P : List (Int × Int)} (hl : P.length ≤ 1000) (hp : ∀ p ∈ P, PickOk W.length p) (fin : Bool) :
  Pure TC 19 [cfgS am room W P fin] (repS room (fins (aa am room) fin W.length (Sim.picks (aa am room) (ss0 W) P)) W.length) := by
 have h1 := nN h.each
 have h2 := h.len
 refine ra hr fin ⟨ul (by omega), fun w hw c hc => (h.call w hw c hc).chk, hp⟩ ?_ h.call fun j hj => ?_
 ·unfold qq qu
  rw [List.take_length]
  omega
 ·rw [Q1, List.getElem?_eq_none (by omega)]; rfl
theorem jF (P : Core.Ops) : ∀ (n : Nat) (s : SS), fins P false n s = s
 | 0, _ => rfl
 | n + 1, s => by unfold fins; rw [if_neg (by decide)]; exact jF P n s
theorem go_out1 (P : Core.Ops) (s : SS) (w : Nat) : (go P s w).1.out.length ≤ s.out.length + 1 := by
 unfold Sim.go
 split
 ·show (if (res P s w).done = true then s.out ++ [_] else s.out).length ≤ _
  split
  ·rw [Q9, List.length_singleton]; omega
  ·omega
 ·split
  ·exact Nat.le_succ _
  ·show (if (res P _ w).done = true then s.out ++ [_] else s.out).length ≤ _
   split
   ·rw [Q9, List.length_singleton]; omega
   ·omega
theorem lY (P : Core.Ops) : ∀ (l : List (Int × Int)) (s : SS), (Sim.picks P s l).out.length ≤ s.out.length + l.length
 | [], s => Q4 _
 | p :: l, s => by
  have h := lY P l (pick P s p)
  have h1 : (pick P s p).out.length ≤ s.out.length + 1 := by
   unfold pick; split
   ·exact Nat.le_succ _
   ·exact go_out1 P s _
  rw [List.length_cons]
  show (Sim.picks P (pick P s p) l).out.length ≤ _
  omega
end
section
open Sim
def awW : List (List Req) := [[⟨1, 0, [97], 1⟩], [⟨1, 0, [97], 3⟩]]
noncomputable def awZ (room : Int) : SS := fins (aa am room) true 2 (Sim.picks (aa am room) (ss0 awW) [])
theorem awZ_out : (awZ 2).out.length = 2 ∧ ((awZ 2).out.getD 0 default).last = 6 ∧ ((awZ 2).out.getD 0 default).r.g = true ∧ ((awZ 2).out.getD 1 default).first = 7 ∧ ((awZ 2).out.getD 1 default).r.wait = 10 ∧ (awZ 2).k = 9 := by
 unfold awZ
 decide +kernel
end
theorem jH {a b : List Int} (hl : a.length = b.length) (h : ∀ j, j < a.length → a.getD j default = b.getD j default) : a = b := by
 refine List.ext_getElem hl fun j h1 h2 => ?_
 have := h j h1
 rw [Q1, Q1, Q0 h1, Q0 h2] at this
 simpa using this
theorem dz (a b : List Int) : Pure TC 43 [.d (ak 1 (aI .u8) a), .d (ak 1 (aI .u8) b)] (.b (decide (a = b))) := by
 refine Pure.lens (.mk Tryz.func43 rfl rfl) fun hlen => ?_
 have ha := hlen a.length (by simp [dq, ak])
 refine Pure.mk' Tryz.func43 rfl rfl zN ?_
 (repeat' (first | ((first | refine Wp.any ac rfl ?_ | (with_reducible first | refine Go.mk ?_ | apply ah.of)); conv => whnf) | ((refine aq (fun hc => ?_) (fun hc => ?_)) <;> (try simp only [wz9] at hc) <;> (try (exfalso; omega)) <;> (conv => whnf))))
 ·exact .b (decide_eq_false fun e => by subst e; omega).symm
 refine Wp.loopP (ι := Nat) (fun i => i ≤ a.length ∧ ∀ j, j < i → a.getD j default = b.getD j default) (fun i => ⟨⟨Tryz.f43.ntmps, 0⟩, 0, [(0, .d (ak 1 (aI .u8) a)), (1, .d (ak 1 (aI .u8) b)), (12, .i .i64 a.length), (13, .i .i64 i)], []⟩) (fun i => a.length - i) 0 ⟨by simp, by simp⟩ ?_ ?_
 ·(refine Le.by [] rfl rfl rfl rfl ?_ ?_ <;> (conv => whnf) <;> (repeat' (first | exact trivial | exact ae.rfl rfl | ((with_reducible refine And.intro ?_ ?_) <;> (conv => whnf)))))
 ·rintro i ⟨h1, h2⟩
  (repeat' (first | ((first | refine Wp.any ac rfl ?_ | (with_reducible first | refine Go.mk ?_ | apply ah.of | refine Ov.ok zO ?_) | refine zV ?_ | with_reducible refine And.intro zC ?_); conv => whnf) | ((refine aq (fun hc => ?_) (fun hc => ?_)) <;> (try simp only [wz9] at hc) <;> (try (exfalso; omega)) <;> (conv => whnf))))
  all_goals try simp only [Q13] at *
  ·exact .b (decide_eq_false fun e => by subst e; exact hc rfl).symm
  ·refine ⟨i + 1, ⟨by omega, fun j hj => ?_⟩, by first | omega | (dsimp only; omega), ?_⟩
   ·by_cases e : j = i
    ·subst e; exact hc
    ·exact h2 j (by omega)
   ·(refine Le.by [] rfl rfl rfl rfl ?_ ?_ <;> (conv => whnf) <;> (repeat' (first | exact trivial | exact ae.rfl rfl | ((with_reducible refine And.intro ?_ ?_) <;> (conv => whnf)))))
  ·exact .b (decide_eq_true (jH (by omega) fun j hj => h2 j (by omega))).symm
theorem ia (a b : List Int) : Pure TC 44 [.d (ak 1 (aI .i64) a), .d (ak 1 (aI .i64) b)] (.b (decide (a = b))) := by
 refine Pure.lens (.mk Tryz.func44 rfl rfl) fun hlen => ?_
 have ha := hlen a.length (by simp [dq, ak])
 refine Pure.mk' Tryz.func44 rfl rfl zN ?_
 (repeat' (first | ((first | refine Wp.any ac rfl ?_ | (with_reducible first | refine Go.mk ?_ | apply ah.of)); conv => whnf) | with_reducible exact rfl | ((with_reducible refine Ov.ok zO ?_); conv => whnf) | (with_reducible refine Ov.sh1 (by with_unfolding_all exact rfl) ?_) | ((first | with_reducible refine Ov.quo (by omega) (by omega) (by omega) (fun _ _ => ?_) | refine zV ?_ | with_reducible refine And.intro zC ?_); conv => whnf) | ((with_reducible refine And.intro ?hb ?_); (case hb => exact zz5); (conv => whnf)) | ((refine du.a rfl rfl rfl rfl rfl rfl ?hb ?_); (case hb => exact zB); (conv => whnf)) | ((refine du.b rfl rfl rfl rfl rfl rfl rfl rfl ?hb ?ho ?_); (case hb => exact zB); (case ho => omega); (conv => whnf)) | ((refine du.c rfl rfl rfl rfl rfl ?hb ?_); (case hb => exact zB); (conv => whnf)) | ((refine du.d rfl rfl rfl rfl rfl rfl ?hb ?ho ?_); (case hb => exact zB); (case ho => omega); (conv => whnf)) | (with_reducible refine Or.inl ?_) | ((with_reducible refine jy (by omega) ?_); (conv => whnf)) | ((with_reducible refine cV ?_ (fun hn0 => ?_)) <;> (conv => whnf)) | ((refine aq (fun hc => ?_) (fun hc => ?_)) <;> (try simp only [wz9] at hc) <;> (try (exfalso; omega)) <;> (conv => whnf))))
 ·exact .b (decide_eq_false fun e => by subst e; omega).symm
 refine Wp.loopP (ι := Nat) (fun i => i ≤ a.length ∧ ∀ j, j < i → a.getD j default = b.getD j default) (fun i => ⟨⟨Tryz.f44.ntmps, 0⟩, 0, [(0, .d (ak 1 (aI .i64) a)), (1, .d (ak 1 (aI .i64) b)), (12, .i .i64 a.length), (13, .i .i64 i)], []⟩) (fun i => a.length - i) 0 ⟨by simp, by simp⟩ ?_ ?_
 ·(refine Le.by [] rfl rfl rfl rfl ?_ ?_ <;> (conv => whnf) <;> (repeat' (first | exact trivial | exact ae.rfl rfl | exact ae.ptr rfl | exact ae.sl rfl | ((with_reducible refine ae.fn ?_); (conv => whnf)) | ((refine ae.iref ?_); (conv => whnf)) | exact ⟨rfl, rfl, rfl⟩ | exact fun i hi => rfl | ((with_reducible refine And.intro ?_ ?_) <;> (conv => whnf)))))
 ·rintro i ⟨h1, h2⟩
  (repeat' (first | ((first | refine Wp.any ac rfl ?_ | (with_reducible first | refine Go.mk ?_ | apply ah.of)); conv => whnf) | with_reducible exact rfl | ((with_reducible refine Ov.ok zO ?_); conv => whnf) | (with_reducible refine Ov.sh1 (by with_unfolding_all exact rfl) ?_) | ((first | with_reducible refine Ov.quo (by omega) (by omega) (by omega) (fun _ _ => ?_) | refine zV ?_ | with_reducible refine And.intro zC ?_); conv => whnf) | ((with_reducible refine And.intro ?hb ?_); (case hb => exact zz5); (conv => whnf)) | ((refine du.a rfl rfl rfl rfl rfl rfl ?hb ?_); (case hb => exact zB); (conv => whnf)) | ((refine du.b rfl rfl rfl rfl rfl rfl rfl rfl ?hb ?ho ?_); (case hb => exact zB); (case ho => omega); (conv => whnf)) | ((refine du.c rfl rfl rfl rfl rfl ?hb ?_); (case hb => exact zB); (conv => whnf)) | ((refine du.d rfl rfl rfl rfl rfl rfl ?hb ?ho ?_); (case hb => exact zB); (case ho => omega); (conv => whnf)) | (with_reducible refine Or.inl ?_) | ((with_reducible refine jy (by omega) ?_); (conv => whnf)) | ((with_reducible refine cV ?_ (fun hn0 => ?_)) <;> (conv => whnf)) | ((refine aq (fun hc => ?_) (fun hc => ?_)) <;> (try simp only [wz9] at hc) <;> (try (exfalso; omega)) <;> (conv => whnf))))
  all_goals try simp only [Q13] at *
  ·exact .b (decide_eq_false fun e => by subst e; exact hc rfl).symm
  ·refine ⟨i + 1, ⟨by omega, fun j hj => ?_⟩, by first | omega | (dsimp only; omega), ?_⟩
   ·by_cases e : j = i
    ·subst e; exact hc
    ·exact h2 j (by omega)
   ·(refine Le.by [] rfl rfl rfl rfl ?_ ?_ <;> (conv => whnf) <;> (repeat' (first | exact trivial | exact ae.rfl rfl | exact ae.ptr rfl | exact ae.sl rfl | ((with_reducible refine ae.fn ?_); (conv => whnf)) | ((refine ae.iref ?_); (conv => whnf)) | exact ⟨rfl, rfl, rfl⟩ | exact fun i hi => rfl | ((with_reducible refine And.intro ?_ ?_) <;> (conv => whnf)))))
  ·exact .b (decide_eq_true (jH (by omega) fun j hj => h2 j (by omega))).symm
instance : DecidableEq Cel := fun a b => decidable_of_iff (a.pol = b.pol ∧ a.key = b.key ∧ a.tat = b.tat ∧ a.held = b.held) (by
 cases a; cases b; simp)
theorem uC (xs ys : List Cel) : Pure TC 22 [.d (ak 4 Cel.D xs), .d (ak 4 Cel.D ys)] (.b (decide (xs = ys))) := by
 refine Pure.lens (.mk Tryz.func22 rfl rfl) fun hlen => ?_
 have ha := hlen xs.length (by simp [dq, ak])
 refine Pure.mk' Tryz.func22 rfl rfl zN ?_
 (repeat' (first | ((first | refine Wp.any ac rfl ?_ | (with_reducible first | refine Go.mk ?_ | apply ah.of)); conv => whnf) | with_reducible exact rfl | ((with_reducible refine Ov.ok zO ?_); conv => whnf) | (with_reducible refine Ov.sh1 (by with_unfolding_all exact rfl) ?_) | ((first | with_reducible refine Ov.quo (by omega) (by omega) (by omega) (fun _ _ => ?_) | refine zV ?_ | with_reducible refine And.intro zC ?_); conv => whnf) | ((with_reducible refine And.intro ?hb ?_); (case hb => exact zz5); (conv => whnf)) | ((refine du.a rfl rfl rfl rfl rfl rfl ?hb ?_); (case hb => exact zB); (conv => whnf)) | ((refine du.b rfl rfl rfl rfl rfl rfl rfl rfl ?hb ?ho ?_); (case hb => exact zB); (case ho => omega); (conv => whnf)) | ((refine du.c rfl rfl rfl rfl rfl ?hb ?_); (case hb => exact zB); (conv => whnf)) | ((refine du.d rfl rfl rfl rfl rfl rfl ?hb ?ho ?_); (case hb => exact zB); (case ho => omega); (conv => whnf)) | (with_reducible refine Or.inl ?_) | ((with_reducible refine jy (by omega) ?_); (conv => whnf)) | ((with_reducible refine cV ?_ (fun hn0 => ?_)) <;> (conv => whnf)) | ((refine aq (fun hc => ?_) (fun hc => ?_)) <;> (try simp only [wz9] at hc) <;> (try (exfalso; omega)) <;> (conv => whnf))))
 ·exact .b (decide_eq_false fun e => by subst e; omega).symm
 refine Wp.loopP (ι := Nat) (fun i => i ≤ xs.length ∧ ∀ j, j < i → xs.getD j default = ys.getD j default) (fun i => ⟨⟨Tryz.f22.ntmps, 0⟩, 0, [(0, .d (ak 4 Cel.D xs)), (1, .d (ak 4 Cel.D ys)), (12, .i .i64 xs.length), (13, .i .i64 i)], []⟩) (fun i => xs.length - i) 0 ⟨by simp, by simp⟩ ?_ ?_
 ·(refine Le.by [] rfl rfl rfl rfl ?_ ?_ <;> (conv => whnf) <;> (repeat' (first | exact trivial | exact ae.rfl rfl | exact ae.ptr rfl | exact ae.sl rfl | ((with_reducible refine ae.fn ?_); (conv => whnf)) | ((refine ae.iref ?_); (conv => whnf)) | exact ⟨rfl, rfl, rfl⟩ | exact fun i hi => rfl | ((with_reducible refine And.intro ?_ ?_) <;> (conv => whnf)))))
 ·rintro i ⟨h1, h2⟩
  (repeat' (first | ((first | refine Wp.any ac rfl ?_ | (with_reducible first | refine Go.mk ?_ | apply ah.of)); conv => whnf) | with_reducible exact rfl | ((with_reducible refine Ov.ok zO ?_); conv => whnf) | (with_reducible refine Ov.sh1 (by with_unfolding_all exact rfl) ?_) | ((first | with_reducible refine Ov.quo (by omega) (by omega) (by omega) (fun _ _ => ?_) | refine zV ?_ | with_reducible refine And.intro zC ?_); conv => whnf) | ((with_reducible refine And.intro ?hb ?_); (case hb => exact zz5); (conv => whnf)) | ((refine du.a rfl rfl rfl rfl rfl rfl ?hb ?_); (case hb => exact zB); (conv => whnf)) | ((refine du.b rfl rfl rfl rfl rfl rfl rfl rfl ?hb ?ho ?_); (case hb => exact zB); (case ho => omega); (conv => whnf)) | ((refine du.c rfl rfl rfl rfl rfl ?hb ?_); (case hb => exact zB); (conv => whnf)) | ((refine du.d rfl rfl rfl rfl rfl rfl ?hb ?ho ?_); (case hb => exact zB); (case ho => omega); (conv => whnf)) | (with_reducible refine Or.inl ?_) | ((with_reducible refine jy (by omega) ?_); (conv => whnf)) | ((with_reducible refine cV ?_ (fun hn0 => ?_)) <;> (conv => whnf)) | ((with_reducible first | refine ab.pure (dz _ _) rfl rfl ?_ | refine ag.pure (dz _ _) rfl rfl ?_ | refine ab.pure (ia _ _) rfl rfl ?_ | refine ag.pure (ia _ _) rfl rfl ?_); conv => whnf) | ((refine aq (fun hc => ?_) (fun hc => ?_)) <;> (try simp only [wz9] at hc) <;> (try (exfalso; omega)) <;> (conv => whnf))))
  all_goals try simp only [Q13] at *
  ·exact .b (decide_eq_false fun e => by subst e; exact hc rfl).symm
  ·exact .b (decide_eq_false fun e => by subst e; exact hc rfl).symm
  ·exact .b (decide_eq_false fun e => by subst e; exact hc rfl).symm
  ·exact .b (decide_eq_false fun e => by subst e; exact hc rfl).symm
  ·rename_i q1 q2 q3
   refine ⟨i + 1, ⟨by omega, fun j hj => ?_⟩, by first | omega | (dsimp only; omega), ?_⟩
   ·by_cases e : j = i
    ·subst e
     cases hx : xs.getD j default with | mk a1 a2 a3 a4 =>
     cases hy : ys.getD j default with | mk b1 b2 b3 b4 =>
     rw [hx, hy] at q1 q2 q3 hc
     simp only at q1 q2 q3 hc
     subst q1 q2 q3 hc; rfl
    ·exact h2 j (by omega)
   ·(refine Le.by [] rfl rfl rfl rfl ?_ ?_ <;> (conv => whnf) <;> (repeat' (first | exact trivial | exact ae.rfl rfl | exact ae.ptr rfl | exact ae.sl rfl | ((with_reducible refine ae.fn ?_); (conv => whnf)) | ((refine ae.iref ?_); (conv => whnf)) | exact ⟨rfl, rfl, rfl⟩ | exact fun i hi => rfl | ((with_reducible refine And.intro ?_ ?_) <;> (conv => whnf)))))
  ·refine .b (decide_eq_true (List.ext_getElem (by omega) fun j g1 g2 => ?_)).symm
   have := h2 j (by omega)
   rw [Q1, Q1, Q0 g1, Q0 g2] at this
   simpa using this
section
open Sim
@[reducible] def Sim.Req.S (c : Req) : SV := .agg [.i .u8 c.op, .i .i64 c.pol, .d (ak 1 (aI .u8) c.key), .i .i64 c.n]
theorem jz (c : Req) : Pure TC 21 [c.S, c.S] (.b true) := by
 have hB := dz c.key c.key
 rw [decide_eq_true rfl] at hB
 refine Pure.mk' Tryz.func21 rfl rfl zN ?_
 (repeat' (first | ((first | refine Wp.any ac rfl ?_ | (with_reducible first | refine Go.mk ?_ | apply ah.of | refine ab.pure (hB) rfl rfl ?_)); conv => whnf) | ((refine aq (fun hc => ?_) (fun hc => ?_)) <;> (try simp only [wz9] at hc) <;> (try (exfalso; omega)) <;> (conv => whnf))))
 ·exact .b (beq_self_eq_true _)
 ·exact absurd trivial hc
 ·exact absurd trivial hc
theorem aw_ok : Sim.Ok am 2 awW [] := ⟨by decide, fun w hw c hc => by
 rcases Q22 hw with rfl | hw
 ·obtain rfl := List.mem_singleton.1 hc; decide
 ·obtain rfl := List.mem_singleton.1 hw
  obtain rfl := List.mem_singleton.1 hc; decide, fun p hp => absurd hp (by simp)⟩
theorem aw_call : ∀ w ∈ awW, ∀ c ∈ w, iS c := fun w hw c hc => by
 have h : ∀ n : Int, n = 1 ∨ n = 3 → iS ⟨1, 0, [97], n⟩ := fun n hn => by
  refine ⟨by rcases hn with rfl | rfl <;> decide, by show (1 : Int) ≤ 1 ∧ (1 : Int) ≤ 6; decide, by show ([97] : List Int).length ≤ 255; decide, fun _ _ => kx_of (fun x hx => by obtain rfl := List.mem_singleton.1 hx; decide) (by show ([97] : List Int).length ≤ 255; decide) (by show (0 : Int) ≤ 0 ∧ (0 : Int) < 2; decide), by show 0 ≤ n; omega⟩
 rcases Q22 hw with rfl | hw
 ·obtain rfl := List.mem_singleton.1 hc; exact h _ (.inl rfl)
 ·obtain rfl := List.mem_singleton.1 hw
  obtain rfl := List.mem_singleton.1 hc; exact h _ (.inr rfl)
@[reducible] def awC (n : Int) : List D := [.val (.int .u8 1), .val (.int .i64 0), .sl 1 1 fun i => a6 [.val (.int .u8 97)] 1 (0 + i), .val (.int .i64 n)]
theorem aw_tle : TLe (.sl 1 2 (a6 [.sl 4 1 (a6 (awC 1) 4), .sl 4 1 (a6 (awC 3) 4)] 1)) (ak 1 aF awW) := by
 have hk : TLe (.sl 1 1 fun i => a6 [D.val (.int .u8 97)] 1 (0 + i)) (ak 1 (aI .u8) [97]) := TLe.sl fun i hi => by
  obtain rfl : i = 0 := by omega
  exact .cons (.rfl _) .nil
 have hc : ∀ n : Int, TLe (.sl 4 1 (a6 (awC n) 4)) (ak 4 Req.D [⟨1, 0, [97], n⟩]) := fun n => TLe.sl fun i hi => by
  obtain rfl : i = 0 := by omega
  exact .cons (.rfl _) (.cons (.rfl _) (.cons hk (.cons (.rfl _) .nil)))
 refine TLe.sl fun i hi => ?_
 have : i = 0 ∨ i = 1 := by omega
 rcases this with rfl | rfl
 ·exact .cons (hc 1) .nil
 ·exact .cons (hc 3) .nil
theorem aw_len : awW.length = 2 := rfl
theorem awZ_def (room : Int) : awZ room = fins (aa am room) true 2 (Sim.picks (aa am room) (ss0 awW) []) := rfl
theorem aw_run : ∃ Z : SS, (Z.out.length = 2 ∧ (Z.out.getD 0 default).last = 6 ∧ (Z.out.getD 0 default).r.g = true ∧ (Z.out.getD 1 default).first = 7 ∧ (Z.out.getD 1 default).r.wait = 10 ∧ Z.k = 9) ∧
  Pure TC 19 [.agg [.d (ak 4 Pol.D am), .i .i64 2, .d (.sl 1 2 (a6 [.sl 4 1 (a6 (awC 1) 4), .sl 4 1 (a6 (awC 3) 4)] 1)), .d (.val (.slice none 0 0)), .b true]] (repS 2 Z 2) := by
 have hR := ra (room := 2) ⟨by decide, by decide⟩ true aw_ok (by decide) aw_call (fun j hj => by
  show awW.getD j [] = []
  rw [Q1, List.getElem?_eq_none (by show 2 ≤ j; omega)]; rfl)
 rw [aw_len, ← awZ_def] at hR
 exact ⟨awZ 2, awZ_out, hR.leX (.cons (.agg (.cons (.rfl _) (.cons (.rfl _) (.cons aw_tle.sv (.cons .nil (.cons (.rfl _) .nil)))))) .nil)⟩
theorem tB : Pure TC 17 [] (.b true) := by
 obtain ⟨Z, ⟨z1, z2, z3, z4, z5, z6⟩, hR'⟩ := aw_run
 dsimp only [repS] at hR'
 rw [z6] at hR'
 refine Pure.mk' Tryz.func17 rfl rfl zN ?_
 (repeat' (first | ((first | with_reducible refine Or.inr (And.intro rfl ?_) | refine ag.pure hR' rfl rfl ?_ | refine Wp.any ac rfl ?_ | (with_reducible first | refine Go.mk ?_ | apply ah.of) | refine zV ?_ | (with_reducible first | refine And.intro zC ?_ | refine ag.pure (iq) rfl rfl ?_)); conv => whnf) | ((refine aq (fun hc => ?_) (fun hc => ?_)) <;> (try simp only [wz9] at hc) <;> (try (exfalso; omega)) <;> (conv => whnf))))
 ·exact .b rfl
 ·exact absurd z5 hc
 ·exact absurd z4 hc
 ·exact absurd (z3.symm.trans hc) (by decide)
 ·exact absurd z2 hc
end
section
open Go.ChangeShapes Go.WideShapes Go.ChangeAt Go.RowKit
theorem argInts {k : IntKind} {H : Type} {enc : TypeId × Value → H} {W : World} {t : TypeId} {v : Value} {d : DataW H} {p : List MemPlace} (h : DataW.Trod enc Tryz.prog W 0 (fun _ => true) true t v d p) (hs : shT Tryz.prog 8 t = some [.sl 1 [.int k]]) (hv : v.cells.toList = [v]) :
  ∃ xs : List Int, (∀ x ∈ xs, shI k x) ∧ ∀ E : Env, E.Im = (fun b => b < W.heap.size) → RS E 0 W (.d (ak 1 (aI k) xs)) v := by
 obtain ⟨x, f, g⟩ := arg1 h hs hv
 obtain ⟨xs, le, _, hok⟩ := oX f
 exact ⟨xs, hok, fun E hE => .d _ _ (by rw [hE]; exact le.out _ _ _ g)⟩
end
section
namespace Sim
open Dir (upd upd_same upd_ne)
variable {room : Int} {xs : Nat → XB} {nl : Nat} {s : SS}
structure Ck where
 nx : Nat → Nat
 la : Nat → Int
 en : Int
@[reducible] def Ck.add (k : Ck) (d : Dn) : Ck := ⟨upd k.nx d.who.toNat (k.nx d.who.toNat + 1), upd k.la d.who.toNat d.last, d.last⟩
def ck0 : Ck := ⟨fun _ => 0, fun _ => 0, 0⟩
structure CkOk (n : Nat) (work : List (List Req)) (k : Ck) (d : Dn) : Prop where
 who : 0 ≤ d.who ∧ d.who < n
 nx : k.nx d.who.toNat < (work.getD d.who.toNat []).length
 c : d.c = (work.getD d.who.toNat []).getD (k.nx d.who.toNat) default
 la : k.la d.who.toNat < d.first
 fi : d.first ≤ d.last
 en : k.en < d.last
def ckF (k : Ck) (l : List Dn) : Ck := l.foldl Ck.add k
def tN (n : Nat) (work : List (List Req)) (k : Ck) : List Dn → Prop
 | [] => True
 | d :: l => CkOk n work k d ∧ tN n work (k.add d) l
theorem ckF_app (l : List Dn) (d : Dn) (k : Ck) : ckF k (l ++ [d]) = (ckF k l).add d := by unfold ckF; rw [List.foldl_append]; rfl
theorem mI {n : Nat} {work : List (List Req)} : ∀ (l : List Dn) (k : Ck) (d : Dn), tN n work k l → CkOk n work (ckF k l) d → tN n work k (l ++ [d])
 | [], k, d, _, h => ⟨h, trivial⟩
 | e :: l, k, d, h1, h2 => ⟨h1.1, mI l (k.add e) d h1.2 h2⟩
def od (key : List Int) (fr to_ : Int) (d : Dn) : Int := if d.c.op = 1 ∧ d.c.pol = 0 ∧ d.c.key = key ∧ d.r.g = true ∧ fr ≤ d.r.now ∧ d.r.now ≤ to_ ∧ 0 ≤ d.c.n then d.c.n else 0
def sumD (key : List Int) (fr to_ : Int) (l : List Dn) : Int := l.foldl (fun n d => n + od key fr to_ d) 0
theorem um (key : List Int) (fr to_ : Int) (l : List Dn) (d : Dn) : sumD key fr to_ (l ++ [d]) = sumD key fr to_ l + od key fr to_ d := by unfold sumD; rw [List.foldl_append]; rfl
theorem step_x (P : Core.Ops) (M : Core.Mc) (x : Core.X) (s : Core.CS) : (Core.step P M x s).x.op = x.op ∧ (Core.step P M x s).x.pol = x.pol ∧ (Core.step P M x s).x.key = x.key ∧ (Core.step P M x s).x.n = x.n := by
 cases s with
 | s0 => simp only [Core.step]; split; exact ⟨rfl, rfl, rfl, rfl⟩; split <;> exact ⟨rfl, rfl, rfl, rfl⟩
 | _ => first | exact ⟨rfl, rfl, rfl, rfl⟩ | (simp only [Core.step]; split <;> exact ⟨rfl, rfl, rfl, rfl⟩)
section
variable (T tau fr to_ : Int) (key : List Int) (n : Nat) (work : List (List Req))
structure Or (s : SS) : Prop where
 all : tN n work ck0 s.out
 on : ∀ j, j < n → isC (s.S j).s = true → (ckF ck0 s.out).nx j < (work.getD j []).length ∧ (s.ws j).c = (work.getD j []).getD ((ckF ck0 s.out).nx j) default ∧ (s.ws j).left = (work.getD j []).drop ((ckF ck0 s.out).nx j + 1) ∧ (ckF ck0 s.out).la j < (s.ws j).first ∧ (s.ws j).first ≤ s.k
 off : ∀ j, j < n → isC (s.S j).s = false → (s.ws j).left = (work.getD j []).drop ((ckF ck0 s.out).nx j)
 le : ∀ j, (ckF ck0 s.out).nx j ≤ (work.getD j []).length
 la : ∀ j, (ckF ck0 s.out).la j ≤ s.k
 en : (ckF ck0 s.out).en ≤ s.k
 q : (∃ j, j < n ∧ isC (s.S j).s = true) ∨ (s.k : Int) = (ckF ck0 s.out).en
 call : ∀ j, isC (s.S j).s = true → (s.S j).x.op = (s.ws j).c.op ∧ (s.S j).x.pol = (s.ws j).c.pol ∧ (s.S j).x.key = (s.ws j).c.key ∧ (s.S j).x.n = (s.ws j).c.n
 frq : ∀ j, Core.Fr (aa am room) (s.S j).x (s.S j).s
 rate : Core.RW T tau fr to_ key lD 64 (sumD key fr to_ s.out) s.M s.S
end
variable {fr to_ : Int} {key : List Int} {n : Nat} {work : List (List Req)}
theorem s8 {α : Type} [Inhabited α] {l : List α} {i : Nat} {c : α} {r : List α} (h : l.drop i = c :: r) : i < l.length ∧ c = l.getD i default ∧ r = l.drop (i + 1) := by
 have hi : i < l.length := by
  by_cases e : i < l.length
  ·exact e
  ·rw [List.drop_eq_nil_of_le (by omega)] at h; cases h
 rw [List.drop_eq_getElem_cons hi] at h
 obtain ⟨h1, h2⟩ := List.cons.inj h
 exact ⟨hi, by rw [Q1, Q0 hi]; exact h1.symm, h2.symm⟩
theorem uX {s : Core.CS} (h : s ≠ .none) : isC s = true := by cases s <;> first | rfl | exact absurd rfl h
theorem Or.zero (hft : fr ≤ to_) : Or (room := room) 10 20 fr to_ key n work (ss0 work) := by
 refine ⟨trivial, fun j _ h => ?_, fun j _ _ => rfl, fun j => Nat.zero_le _, fun j => Int.le_refl _, Int.le_refl _, .inr rfl, fun j h => ?_, fun j => trivial, Core.RW.zero hft (by decide) (by decide) 64 _⟩
 ·cases h
 ·cases h
end Sim
end
section
namespace Sim
variable {P : Core.Ops}
theorem ie {n : Nat} : ∀ (l : List (Int × Int)) (s : SS), (∀ p ∈ l, -1 ≤ p.1 ∧ p.1 < n) → (picks P s l).S n = s.S n ∧ (picks P s l).ws n = s.ws n
 | [], s, _ => ⟨rfl, rfl⟩
 | p :: l, s, h => by
  have h1 := ie l (pick P s p) fun q hq => h q (List.mem_cons_of_mem _ hq)
  have h2 := h p (List.mem_cons_self ..)
  have h3 : (pick P s p).S n = s.S n ∧ (pick P s p).ws n = s.ws n := by
   unfold pick
   split
   ·exact ⟨rfl, rfl⟩
   ·exact sq (by omega)
  exact ⟨h1.1.trans h3.1, h1.2.trans h3.2⟩
def mix (n : Nat) (at_ : List Int) (l : List (Int × Int)) : Nat → List (Int × Int)
 | 0 => []
 | i + 1 => mix n at_ l i ++ (if i < at_.length ∧ at_.getD i default % 2 = 1 then [((n : Int), 9)] else []) ++ [l.getD i default]
theorem rR (n : Nat) (at_ : List Int) (l : List (Int × Int)) : ∀ i, i ≤ (mix n at_ l i).length ∧ (mix n at_ l i).length ≤ 2 * i
 | 0 => ⟨Q4 _, Q4 _⟩
 | i + 1 => by
  have := rR n at_ l i
  simp only [mix, Q9, List.length_singleton]
  split <;> simp <;> omega
theorem rQ {n : Nat} {at_ : List Int} {l : List (Int × Int)} {p : Int × Int} : ∀ {i : Nat}, i ≤ l.length → p ∈ mix n at_ l i → p = ((n : Int), 9) ∨ p ∈ l
 | 0, _, h => absurd h (by simp [mix])
 | i + 1, hi, h => by
  simp only [mix, List.mem_append, List.mem_singleton] at h
  rcases h with (h | h) | h
  ·exact rQ (by omega) h
  ·split at h
   ·exact .inl (List.mem_singleton.1 h)
   ·exact absurd h (by simp)
  ·rw [h, Q1, Q0 (by omega)]
   exact .inr (Q14 (by omega))
theorem l3 {n : Nat} (at_ : List Int) (l : List (Int × Int)) (hl : ∀ p ∈ l, -1 ≤ p.1 ∧ p.1 < n) {s : SS} (h0 : isC (s.S n).s = false) (h1 : (s.ws n).left = []) : ∀ i, i ≤ l.length → picks P s (mix n at_ l i) = picks P s (l.take i)
 | 0, _ => rfl
 | i + 1, hi => by
  have ih := l3 at_ l hl h0 h1 i (by omega)
  have ho := ie (P := P) (n := n) (l.take i) s fun p hp => hl p (List.mem_of_mem_take hp)
  have hid : pick P (picks P s (l.take i)) ((n : Int), 9) = picks P s (l.take i) := by
   unfold pick
   rw [if_neg (by show ¬ (n : Int) = -1; omega)]
   show (go P _ (n : Int).toNat).1 = _
   rw [Q13, nD (by rw [ho.1]; exact h0) (by rw [ho.2]; exact h1)]
  have hx : picks P s (mix n at_ l i ++ (if i < at_.length ∧ at_.getD i default % 2 = 1 then [((n : Int), 9)] else [])) = picks P s (l.take i) := by
   rw [dA, ih]
   split
   ·exact hid
   ·rfl
  simp only [mix]
  rw [dA, hx, List.take_succ_eq_append_getElem (by omega), dA]
  rw [Q1, Q0 (by omega)]; rfl
theorem ut (W : List (List Req)) : ss0 (W ++ [[]]) = ss0 W := by
 unfold ss0
 congr 1
 funext j
 congr 1
 rw [Q1, Q1, List.getElem?_append]
 split
 ·rfl
 ·rename_i h
  rw [List.getElem?_eq_none (l := W) (by omega)]
  cases e : ([[]] : List (List Req))[j - W.length]? with
  | none => rfl
  | some x =>
   have := List.mem_of_getElem? e
   rw [List.mem_singleton.1 this]; rfl
theorem sU (b : Bool) {n : Nat} {s : SS} (h0 : isC (s.S n).s = false) (h1 : (s.ws n).left = []) : fins P b (n + 1) s = fins P b n s := by
 have ho := dZ (P := P) b n s n (Q4 _)
 have hg : (go P (fins P b n s) n).2 = false := by rw [nD (by rw [ho.1]; exact h0) (by rw [ho.2]; exact h1)]
 conv => lhs; unfold fins
 split
 ·cases hm : mu (fins P b n s) n with
  | zero => rfl
  | succ m => unfold fin; rw [if_neg (by rw [hg]; decide)]
 ·rfl
theorem rG (b : Bool) {n : Nat} {s : SS} (h0 : isC (s.S n).s = false) : pend (fins P b n s).S (n + 1) = pend (fins P b n s).S n := by
 have ho := dZ (P := P) b n s n (Q4 _)
 show pend _ n + (if isC ((fins P b n s).S n).s = true then 1 else 0) = _
 rw [ho.1, h0]; rfl
theorem u2 (b : Bool) (W : List (List Req)) (l : List (Int × Int)) (at_ : List Int) (hl : ∀ p ∈ l, -1 ≤ p.1 ∧ p.1 < W.length) :
  fins P b (W ++ [[]]).length (picks P (ss0 (W ++ [[]])) (mix W.length at_ l l.length)) = fins P b W.length (picks P (ss0 W) l) ∧
   pend (fins P b W.length (picks P (ss0 W) l)).S (W ++ [[]]).length = pend (fins P b W.length (picks P (ss0 W) l)).S W.length := by
 have h0 : isC ((ss0 W).S W.length).s = false := rfl
 have h1 : ((ss0 W).ws W.length).left = [] := by show W.getD W.length [] = []; rw [Q1, List.getElem?_eq_none (Q4 _)]; rfl
 have ho := ie (P := P) l (ss0 W) hl
 rw [ut, l3 at_ l hl h0 h1 l.length (Q4 _), List.take_length, Q9, List.length_singleton]
 exact ⟨sU b (by rw [ho.1]; exact h0) (by rw [ho.2]; exact h1), rG b (by rw [ho.1]; exact h0)⟩
end Sim
end
namespace Sim
theorem lZ {P : Core.Ops} : ∀ (l : List (Int × Int)) {s : SS}, s.out.length ≤ s.k → (picks P s l).out.length ≤ (picks P s l).k
 | [], s, h => h
 | p :: l, s, h => by
  refine lZ l (s := pick P s p) ?_
  unfold pick
  split
  ·exact h
  ·have := oQ P s p.1.toNat; omega
theorem sX {P : Core.Ops} (w : Nat) : ∀ (f : Nat) {s : SS}, s.out.length ≤ s.k → (fin P f s w).out.length ≤ (fin P f s w).k
 | 0, s, h => h
 | f + 1, s, h => by
  unfold fin
  split
  ·refine sX w f (s := (go P s w).1) ?_
   have := oQ P s w; omega
  ·exact h
theorem oZ {P : Core.Ops} (b : Bool) : ∀ (n : Nat) {s : SS}, s.out.length ≤ s.k → (fins P b n s).out.length ≤ (fins P b n s).k
 | 0, s, h => h
 | n + 1, s, h => by
  have := oZ (P := P) b n h
  unfold fins
  split
  ·exact sX n _ this
  ·exact this
theorem out_few {R : Int} (hr : 1 ≤ R ∧ R ≤ 6) {W : List (List Req)} (hW : Few W) {l : List (Int × Int)} (hl : l.length ≤ 400) (hp : ∀ p ∈ l, PickOk W.length p) (b : Bool) :
  (fins (aa am R) b W.length (picks (aa am R) (ss0 W) l)).out.length ≤ 1000000 := by
 have hW8 := hW.len
 have h0 : SI R xs0 (az 0) (ss0 W) := .zero ⟨hr.1, by omega⟩ (.inl hW8) hW.call
 obtain ⟨⟨xs1, nl1, h1⟩, hk1⟩ := ot (n := W.length) l h0 (by show 0 + l.length ≤ _; omega) fun p hm e => ((hp p hm).2.2 e).1
 have hm0 := ku (s := picks (aa am R) (ss0 W) l) (t := ss0 W) (fun j => fy j l _) W.length
 rw [nk W W.length (Q4 _), List.take_length] at hm0
 have hm1 := nN hW.each
 have hk1' : (picks (aa am R) (ss0 W) l).k ≤ 0 + l.length := hk1
 have hout := oZ (P := aa am R) b W.length (s := picks (aa am R) (ss0 W) l) (lZ l (s := ss0 W) (Q4 _))
 obtain ⟨_, hk2, _⟩ := gK (room := R) b W.length h1 (by omega)
 omega
end Sim
theorem Sat.frz {O : Org} {E : Env} {nt : NT} {nx : Nat} {fr : List (Nat × SV)} {hp : List (Nat × Option Blk)} {a : Act} {w : World} (hs : Sat O E ⟨nt, nx, fr, hp⟩ a w) {l e z m : Nat} {f : Nat → List D} (hl : lkh hp l = some (.row e z m f)) {off n : Nat} (h1 : off + n ≤ m) :
  ∃ E', Sat O E' ⟨nt, nx, fr, (l, none) :: hp⟩ a w ∧ ∀ u, RS E' nx w (.sl l z off n) u → RS E' nx w (.d (.sl z n fun i => f (off + i))) u := by
 by_cases hκ : 0 < E.κ l
 ·obtain ⟨s1, s2⟩ := hs.imm (w' := w) hl hκ (fun _ _ _ => rfl) rfl ⟨rfl, rfl, rfl⟩ (fun vs hvs => ⟨_, hvs⟩)
  refine ⟨_, s1, fun u hu => s2 off n u h1 ?_⟩
  cases hu with
  | sl _ _ _ _ a' cap hlx hc hmx ha h0 => exact .sl _ _ _ _ a' cap hlx hc hmx ha h0
 ·have hm := (hs.hp l _ hl).1
  have hn : n = 0 := by omega
  subst hn
  refine ⟨E, hs.kill l, fun u hu => ?_⟩
  cases hu with
  | sl _ _ _ _ a' cap hlx hc hmx ha h0 => exact .d _ _ (.sl _ 0 _ a' cap (fun _ _ => undef) hc hmx (fun i hi => by omega) (fun h => by omega) (fun i j hi => by omega))
theorem Wp.frzC {C : Cx} {c : Code} {nt : NT} {nx : Nat} {fr : List (Nat × SV)} {hp : List (Nat × Option Blk)} {Q : Exit → St → Prop} (k j : Nat) {cs : List SV} {l z off n e m : Nat} {f : Nat → List D}
  (hk : lkh hp k = some (.cells cs)) (hj : cs[j]? = some (.sl l z off n)) (hl : lkh hp l = some (.row e z m f)) (hkl : l ≠ k) (hn : off + n ≤ m)
  (h : Wp C c ⟨nt, nx, fr, (k, some (.cells (cs.set j (.d (.sl z n fun i => f (off + i)))))) :: (l, none) :: hp⟩ Q) : Wp C c ⟨nt, nx, fr, hp⟩ Q := by
 refine ⟨fun O E a w hs => ?_⟩
 obtain ⟨E', s1, s2⟩ := hs.frz hl hn
 refine h.out O E' a w (s1.rehp fun k' b' hb' => ?_)
 rw [aj] at hb'
 by_cases e1 : k = k'
 ·subst e1
  rw [if_pos rfl] at hb'; cases hb'
  refine ⟨.cells cs, by rw [aj, if_neg hkl]; exact hk, fun _ h => h, fun hb => ?_⟩
  obtain ⟨vs, T, h1, h2, h3⟩ := hb
  refine ⟨vs, T, h1, by rw [List.length_set]; exact h2, fun i hi => ?_⟩
  rw [List.length_set] at hi
  obtain ⟨h4, h5⟩ := h3 i hi
  refine ⟨?_, h5⟩
  by_cases e2 : j = i
  ·subst e2
   rw [List.getElem_set_self]
   refine s2 _ ?_
   rw [Q0 hi] at hj
   rw [← Option.some.inj hj]; exact h4
  ·rw [List.getElem_set_ne e2]; exact h4
 ·rw [if_neg e1] at hb'
  exact ⟨b', hb', fun _ h => h, fun h => h⟩
end Go.Proofs.YtpdhdnhkhidmpaaGreat
