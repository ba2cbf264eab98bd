/- Lemmas of Smh, Smf, Rs1, Smg, Sm5, Smj, Sml. No condition. -/
import Derived.Test.YtpdhdnhkhidmpaaGreatME23
set_option linter.unusedVariables false
set_option linter.unusedSimpArgs false
set_option maxHeartbeats 80000000
set_option maxRecDepth 100000
namespace Go.Proofs.YtpdhdnhkhidmpaaGreat
open Go.RowKit
section
open Sim
theorem kx_of {op pol n : Int} {key : List Int} (hk : IsB key) (hl : key.length ≤ 255) (hp : 0 ≤ pol ∧ pol < 2) : Core.Kx ak (aH op pol key n) :=
 ⟨hk, hl, by show ([] : List Int).length ≤ 64; decide, hp⟩
theorem fit1_ok {c : Req} (h : c.ok) : gj (cO c) := by
 have h1 : 1 ≤ (cO c).op ∧ (cO c).op ≤ 6 := by
  have := h.op
  show 1 ≤ (if c.op < 1 ∨ 6 < c.op then 1 + c.op % 6 else c.op) ∧ (if c.op < 1 ∨ 6 < c.op then 1 + c.op % 6 else c.op) ≤ 6
  split <;> omega
 have h2 : (cO c).pol = if (cO c).op = 2 ∨ (cO c).op = 3 then 1 else 0 := rfl
 have h3 : (c.key.take 1).length ≤ 1 := by simp; omega
 have h4 := ta c.n
 have h5 : 0 ≤ (cO c).pol ∧ (cO c).pol < 2 := by rw [h2]; split <;> omega
 refine ⟨?_, h1, by show (c.key.take 1).length ≤ 255; omega, fun _ _ => kx_of (fun x hx => h.key x (List.mem_of_mem_take hx)) (by show (c.key.take 1).length ≤ 255; omega) h5, h4.1⟩
 show lg ak (cO c).op (cO c).pol (c.key.take 1) (cm c.n) = 0
 have g3 : bI (cm c.n) = true := by simp [bI]; omega
 have g1 : (cO c).op = 2 ∨ (cO c).op = 3 → (cO c).pol = 1 := fun e => by rw [h2, if_pos e]
 have g2 : ¬ ((cO c).op = 2 ∨ (cO c).op = 3) → (cO c).pol = 0 := fun e => by rw [h2, if_neg e]
 clear h2 h
 generalize (cO c).op = o at *
 generalize (cO c).pol = q at *
 generalize cm c.n = m at *
 unfold lg
 rw [if_neg (by
  rintro (e | e | ⟨e, e2⟩)
  ·omega
  ·omega
  ·rw [g3] at e2; cases e2), if_neg (by omega), if_neg (by simp [mU]), if_neg]
 rintro ⟨_, e | e | ⟨e, e2⟩⟩
 ·omega
 ·simp [ak] at e; omega
 ·apply e2
  by_cases o2 : o = 2 ∨ o = 3
  ·rw [g1 o2]; rcases o2 with rfl | rfl <;> rfl
  ·by_cases o1 : o = 1
   ·rw [g2 o2, o1]; rfl
   ·exfalso; apply e; unfold nm; rw [if_neg o1, if_neg (by omega)]
structure Sim.Few (W : List (List Req)) : Prop where
 len : W.length ≤ 8
 each : ∀ w ∈ W, w.length ≤ 64
 call : ∀ w ∈ W, ∀ c ∈ w, gj c
theorem u5 {work : List (List Req)} (hw : ∀ w ∈ work, ∀ c ∈ w, c.ok) : Few (pT work) := by
 have h : ∀ w ∈ pT work, ∃ u ∈ work, w = (u.take 4).map cO := fun w h => by
  obtain ⟨u, hu, rfl⟩ := List.mem_map.1 h
  exact ⟨u, List.mem_of_mem_take hu, rfl⟩
 refine ⟨by unfold pT; rw [List.length_map, Q10]; omega, fun w hm => ?_, fun w hm c hc => ?_⟩
 ·obtain ⟨u, _, rfl⟩ := h w hm
  rw [List.length_map, Q10]; omega
 ·obtain ⟨u, hu, rfl⟩ := h w hm
  obtain ⟨d, hd, rfl⟩ := List.mem_map.1 hc
  exact fit1_ok (hw u hu d (List.mem_of_mem_take hd))
@[reducible] def Sim.PickOk (n : Nat) (p : Int × Int) : Prop := -1 ≤ p.1 ∧ p.1 < n ∧ (p.1 = -1 → 0 ≤ p.2 ∧ p.2 ≤ 4611686018427387903)
theorem fitQ_ok (n : Nat) (p : Int × Int) : PickOk n (kV n p) ∧ 0 ≤ (kV n p).2 := by
 have hu : IntKind.u64.wrap p.2 = p.2 % 18446744073709551616 := by simp [IntKind.wrap, IntKind.bits, IntKind.signed]
 unfold kV PickOk
 split
 ·refine ⟨⟨by omega, by dsimp only; omega, fun _ => by dsimp only; omega⟩, by dsimp only; omega⟩
 ·rename_i h
  have h1 := Int.emod_nonneg p.1 (b := (n : Int)) (by omega)
  have h2 := Int.emod_lt_of_pos p.1 (b := (n : Int)) (by omega)
  refine ⟨⟨by dsimp only; omega, by dsimp only; omega, fun e => by dsimp only at e; omega⟩, by dsimp only; omega⟩
theorem fitR_bd (room : Int) : 1 ≤ tM room ∧ tM room ≤ 6 := by
 have hu : IntKind.u64.wrap room = room % 18446744073709551616 := by simp [IntKind.wrap, IntKind.bits, IntKind.signed]
 unfold tM; omega
theorem nG : ∀ {W : List (List Req)}, (∀ w ∈ W, w.length ≤ 64) → (W.map List.length).sum ≤ 64 * W.length
 | [], _ => Q4 _
 | w :: W, h => by
  have h1 := nG (W := W) fun u hu => h u (List.mem_cons_of_mem _ hu)
  have h2 := h w (List.mem_cons_self ..)
  simp only [List.map_cons, List.sum_cons, List.length_cons]; omega
theorem run_fit {room : Int} (hr : 1 ≤ room ∧ room ≤ 12) {W : List (List Req)} (h : Few W) {P : List (Int × Int)} (hl : P.length ≤ 1000) (hp : ∀ p ∈ P, PickOk W.length p) (fin : Bool) :
  Pure TC 19 [cfgS ak room W P fin] (repS room (fins (aa ak room) fin W.length (Sim.picks (aa ak room) (ss0 W) P)) W.length) := by
 have h1 := nG h.each
 have h2 := h.len
 refine qW hr fin ⟨uf (by omega), fun w hw c hc => (h.call w hw c hc).chk, hp⟩ ?_ h.call fun j hj => ?_
 ·unfold qj qp
  rw [List.take_length]
  omega
 ·rw [Q1, List.getElem?_eq_none (by omega)]; rfl
end
section
open Sim
def awW : List (List Req) := [[⟨1, 0, [97], 1⟩], [⟨1, 0, [97], 3⟩]]
noncomputable def awZ (room : Int) : SS := fins (aa ak room) true 2 (Sim.picks (aa ak room) (ss0 awW) [])
theorem awZ_out : (awZ 2).out.length = 2 ∧ ((awZ 2).out.getD 0 default).last = 6 ∧ ((awZ 2).out.getD 0 default).r.g = true ∧ ((awZ 2).out.getD 1 default).first = 7 ∧ ((awZ 2).out.getD 1 default).r.wait = 10 ∧ (awZ 2).k = 9 := by
 unfold awZ
 decide +kernel
end
theorem pV {a b : List Int} (hl : a.length = b.length) (h : ∀ j, j < a.length → a.getD j default = b.getD j default) : a = b := by
 refine List.ext_getElem hl fun j h1 h2 => ?_
 have := h j h1
 rw [Q1, Q1, Q0 h1, Q0 h2] at this
 simpa using this
theorem lT (a b : List Int) : Pure TC 43 [.d (am 1 (aF .u8) a), .d (am 1 (aF .u8) b)] (.b (decide (a = b))) := by
 refine Pure.lens (.mk Tryz.func43 rfl rfl) fun hlen => ?_
 have ha := hlen a.length (by simp [ec, am])
 refine Pure.mk' Tryz.func43 rfl rfl zN ?_
 (repeat' (first | ((first | refine Wp.any ac rfl ?_ | (with_reducible first | refine Go.mk ?_ | apply ah.of)); conv => whnf) | ((refine aq (fun hc => ?_) (fun hc => ?_)) <;> (try simp only [wz9] at hc) <;> (try (exfalso; omega)) <;> (conv => whnf))))
 ·exact .b (decide_eq_false fun e => by subst e; omega).symm
 refine Wp.loopP (ι := Nat) (fun i => i ≤ a.length ∧ ∀ j, j < i → a.getD j default = b.getD j default) (fun i => ⟨⟨Tryz.f43.ntmps, 0⟩, 0, [(0, .d (am 1 (aF .u8) a)), (1, .d (am 1 (aF .u8) b)), (12, .i .i64 a.length), (13, .i .i64 i)], []⟩) (fun i => a.length - i) 0 ⟨by simp, by simp⟩ ?_ ?_
 ·(refine Le.by [] rfl rfl rfl rfl ?_ ?_ <;> (conv => whnf) <;> (repeat' (first | exact trivial | exact ae.rfl rfl | ((with_reducible refine And.intro ?_ ?_) <;> (conv => whnf)))))
 ·rintro i ⟨h1, h2⟩
  (repeat' (first | ((first | refine Wp.any ac rfl ?_ | (with_reducible first | refine Go.mk ?_ | apply ah.of | refine Ov.ok zO ?_) | refine zV ?_ | with_reducible refine And.intro zC ?_); conv => whnf) | ((refine aq (fun hc => ?_) (fun hc => ?_)) <;> (try simp only [wz9] at hc) <;> (try (exfalso; omega)) <;> (conv => whnf))))
  all_goals try simp only [Q13] at *
  ·exact .b (decide_eq_false fun e => by subst e; exact hc rfl).symm
  ·refine ⟨i + 1, ⟨by omega, fun j hj => ?_⟩, by first | omega | (dsimp only; omega), ?_⟩
   ·by_cases e : j = i
    ·subst e; exact hc
    ·exact h2 j (by omega)
   ·(refine Le.by [] rfl rfl rfl rfl ?_ ?_ <;> (conv => whnf) <;> (repeat' (first | exact trivial | exact ae.rfl rfl | ((with_reducible refine And.intro ?_ ?_) <;> (conv => whnf)))))
  ·exact .b (decide_eq_true (pV (by omega) fun j hj => h2 j (by omega))).symm
instance : DecidableEq Cel := fun a b => decidable_of_iff (a.pol = b.pol ∧ a.key = b.key ∧ a.tat = b.tat ∧ a.held = b.held) (by
 cases a; cases b; simp)
section
open Sim
@[reducible] def Sim.Req.S (c : Req) : SV := .agg [.i .u8 c.op, .i .i64 c.pol, .d (am 1 (aF .u8) c.key), .i .i64 c.n]
theorem pF (c : Req) : Pure TC 21 [c.S, c.S] (.b true) := by
 have hB := lT c.key c.key
 rw [decide_eq_true rfl] at hB
 refine Pure.mk' Tryz.func21 rfl rfl zN ?_
 (repeat' (first | ((first | refine Wp.any ac rfl ?_ | (with_reducible first | refine Go.mk ?_ | apply ah.of | refine ab.pure (hB) rfl rfl ?_)); conv => whnf) | ((refine aq (fun hc => ?_) (fun hc => ?_)) <;> (try simp only [wz9] at hc) <;> (try (exfalso; omega)) <;> (conv => whnf))))
 ·exact .b (beq_self_eq_true _)
 ·exact absurd trivial hc
 ·exact absurd trivial hc
theorem aw_ok : Sim.Ok ak 2 awW [] := ⟨by decide, fun w hw c hc => by
 rcases Q22 hw with rfl | hw
 ·obtain rfl := List.mem_singleton.1 hc; decide
 ·obtain rfl := List.mem_singleton.1 hw
  obtain rfl := List.mem_singleton.1 hc; decide, fun p hp => absurd hp (by simp)⟩
theorem aw_call : ∀ w ∈ awW, ∀ c ∈ w, gj c := fun w hw c hc => by
 have h : ∀ n : Int, n = 1 ∨ n = 3 → gj ⟨1, 0, [97], n⟩ := fun n hn => by
  refine ⟨by rcases hn with rfl | rfl <;> decide, by show (1 : Int) ≤ 1 ∧ (1 : Int) ≤ 6; decide, by show ([97] : List Int).length ≤ 255; decide, fun _ _ => kx_of (fun x hx => by obtain rfl := List.mem_singleton.1 hx; decide) (by show ([97] : List Int).length ≤ 255; decide) (by show (0 : Int) ≤ 0 ∧ (0 : Int) < 2; decide), by show 0 ≤ n; omega⟩
 rcases Q22 hw with rfl | hw
 ·obtain rfl := List.mem_singleton.1 hc; exact h _ (.inl rfl)
 ·obtain rfl := List.mem_singleton.1 hw
  obtain rfl := List.mem_singleton.1 hc; exact h _ (.inr rfl)
@[reducible] def awC (n : Int) : List D := [.val (.int .u8 1), .val (.int .i64 0), .sl 1 1 fun i => be [.val (.int .u8 97)] 1 (0 + i), .val (.int .i64 n)]
theorem aw_tle : TLe (.sl 1 2 (be [.sl 4 1 (be (awC 1) 4), .sl 4 1 (be (awC 3) 4)] 1)) (am 1 aK awW) := by
 have hk : TLe (.sl 1 1 fun i => be [D.val (.int .u8 97)] 1 (0 + i)) (am 1 (aF .u8) [97]) := TLe.sl fun i hi => by
  obtain rfl : i = 0 := by omega
  exact .cons (.rfl _) .nil
 have hc : ∀ n : Int, TLe (.sl 4 1 (be (awC n) 4)) (am 4 Req.D [⟨1, 0, [97], n⟩]) := fun n => TLe.sl fun i hi => by
  obtain rfl : i = 0 := by omega
  exact .cons (.rfl _) (.cons (.rfl _) (.cons hk (.cons (.rfl _) .nil)))
 refine TLe.sl fun i hi => ?_
 have : i = 0 ∨ i = 1 := by omega
 rcases this with rfl | rfl
 ·exact .cons (hc 1) .nil
 ·exact .cons (hc 3) .nil
theorem aw_len : awW.length = 2 := rfl
theorem awZ_def (room : Int) : awZ room = fins (aa ak room) true 2 (Sim.picks (aa ak room) (ss0 awW) []) := rfl
theorem aw_run : ∃ Z : SS, (Z.out.length = 2 ∧ (Z.out.getD 0 default).last = 6 ∧ (Z.out.getD 0 default).r.g = true ∧ (Z.out.getD 1 default).first = 7 ∧ (Z.out.getD 1 default).r.wait = 10 ∧ Z.k = 9) ∧
  Pure TC 19 [.agg [.d (am 4 Pol.D ak), .i .i64 2, .d (.sl 1 2 (be [.sl 4 1 (be (awC 1) 4), .sl 4 1 (be (awC 3) 4)] 1)), .d (.val (.slice none 0 0)), .b true]] (repS 2 Z 2) := by
 have hR := qW (room := 2) ⟨by decide, by decide⟩ true aw_ok (by decide) aw_call (fun j hj => by
  show awW.getD j [] = []
  rw [Q1, List.getElem?_eq_none (by show 2 ≤ j; omega)]; rfl)
 rw [aw_len, ← awZ_def] at hR
 exact ⟨awZ 2, awZ_out, hR.leX (.cons (.agg (.cons (.rfl _) (.cons (.rfl _) (.cons aw_tle.sv (.cons .nil (.cons (.rfl _) .nil)))))) .nil)⟩
theorem awake19 : Pure TC 17 [] (.b true) := by
 obtain ⟨Z, ⟨z1, z2, z3, z4, z5, z6⟩, hR'⟩ := aw_run
 dsimp only [repS] at hR'
 rw [z6] at hR'
 refine Pure.mk' Tryz.func17 rfl rfl zN ?_
 (repeat' (first | ((first | with_reducible refine Or.inr (And.intro rfl ?_) | refine ag.pure hR' rfl rfl ?_ | refine Wp.any ac rfl ?_ | (with_reducible first | refine Go.mk ?_ | apply ah.of) | refine zV ?_ | (with_reducible first | refine And.intro zC ?_ | refine ag.pure (ex) rfl rfl ?_)); conv => whnf) | ((refine aq (fun hc => ?_) (fun hc => ?_)) <;> (try simp only [wz9] at hc) <;> (try (exfalso; omega)) <;> (conv => whnf))))
 ·exact .b rfl
 ·exact absurd z5 hc
 ·exact absurd z4 hc
 ·exact absurd (z3.symm.trans hc) (by decide)
 ·exact absurd z2 hc
end
section
namespace Sim
open Dir (upd upd_same upd_ne)
variable {room : Int} {xs : Nat → XB} {nl : Nat} {s : SS}
structure Ck where
 nx : Nat → Nat
 la : Nat → Int
 en : Int
@[reducible] def Ck.add (k : Ck) (d : Dn) : Ck := ⟨upd k.nx d.who.toNat (k.nx d.who.toNat + 1), upd k.la d.who.toNat d.last, d.last⟩
def ck0 : Ck := ⟨fun _ => 0, fun _ => 0, 0⟩
structure CkOk (n : Nat) (work : List (List Req)) (k : Ck) (d : Dn) : Prop where
 who : 0 ≤ d.who ∧ d.who < n
 nx : k.nx d.who.toNat < (work.getD d.who.toNat []).length
 c : d.c = (work.getD d.who.toNat []).getD (k.nx d.who.toNat) default
 la : k.la d.who.toNat < d.first
 fi : d.first ≤ d.last
 en : k.en < d.last
def ckF (k : Ck) (l : List Dn) : Ck := l.foldl Ck.add k
def nO (n : Nat) (work : List (List Req)) (k : Ck) : List Dn → Prop
 | [] => True
 | d :: l => CkOk n work k d ∧ nO n work (k.add d) l
theorem tc (l : List Dn) (d : Dn) (k : Ck) : ckF k (l ++ [d]) = (ckF k l).add d := by unfold ckF; rw [List.foldl_append]; rfl
theorem mC {n : Nat} {work : List (List Req)} : ∀ (l : List Dn) (k : Ck) (d : Dn), nO n work k l → CkOk n work (ckF k l) d → nO n work k (l ++ [d])
 | [], k, d, _, h => ⟨h, trivial⟩
 | e :: l, k, d, h1, h2 => ⟨h1.1, mC l (k.add e) d h1.2 h2⟩
theorem o6 {n : Nat} {work : List (List Req)} : ∀ (l : List Dn) (k : Ck), nO n work k l → ∀ i (hi : i < l.length), CkOk n work (ckF k (l.take i)) l[i]
 | [], k, _, i, hi => by simp at hi
 | e :: l, k, h, 0, hi => h.1
 | e :: l, k, h, i + 1, hi => o6 l (k.add e) h.2 i (by simpa using hi)
def bk (key : List Int) (fr to_ : Int) (d : Dn) : Int := if d.c.op = 1 ∧ d.c.pol = 0 ∧ d.c.key = key ∧ d.r.g = true ∧ fr ≤ d.r.now ∧ d.r.now ≤ to_ ∧ 0 ≤ d.c.n then d.c.n else 0
def mM (key : List Int) (fr to_ : Int) (l : List Dn) : Int := l.foldl (fun n d => n + bk key fr to_ d) 0
theorem lS (key : List Int) (fr to_ : Int) (d : Dn) : 0 ≤ bk key fr to_ d := by unfold bk; split <;> omega
theorem nW (key : List Int) (fr to_ : Int) (l : List Dn) (d : Dn) : mM key fr to_ (l ++ [d]) = mM key fr to_ l + bk key fr to_ d := by unfold mM; rw [List.foldl_append]; rfl
theorem gW (key : List Int) (fr to_ : Int) : ∀ (l : List Dn) (a : Int), l.foldl (fun n d => n + bk key fr to_ d) a = a + mM key fr to_ l
 | [], a => by show a = a + 0; omega
 | d :: l, a => by
  show l.foldl _ (a + bk key fr to_ d) = a + l.foldl _ (0 + bk key fr to_ d)
  rw [gW key fr to_ l, gW key fr to_ l]; omega
theorem lI (key : List Int) (fr to_ : Int) (l : List Dn) (i : Nat) : mM key fr to_ (l.take i) ≤ mM key fr to_ l := by
 have h : mM key fr to_ l = mM key fr to_ (l.take i) + mM key fr to_ (l.drop i) := by
  have : l.foldl (fun n d => n + bk key fr to_ d) 0 = (l.drop i).foldl (fun n d => n + bk key fr to_ d) ((l.take i).foldl (fun n d => n + bk key fr to_ d) 0) := by
   rw [← List.foldl_append, List.take_append_drop]
  show l.foldl _ 0 = _
  rw [this, gW]; rfl
 have h2 : ∀ (m : List Dn), 0 ≤ mM key fr to_ m := by
  intro m
  have : ∀ (m : List Dn) (a : Int), 0 ≤ a → 0 ≤ m.foldl (fun n d => n + bk key fr to_ d) a := by
   intro m
   induction m with
   | nil => exact fun a h => h
   | cons d m ih => exact fun a h => ih (a + bk key fr to_ d) (by have := lS key fr to_ d; omega)
  exact this m 0 (Int.le_refl _)
 have := h2 (l.drop i)
 omega
theorem step_x (P : Core.Ops) (M : Core.Mc) (x : Core.X) (s : Core.CS) : (Core.step P M x s).x.op = x.op ∧ (Core.step P M x s).x.pol = x.pol ∧ (Core.step P M x s).x.key = x.key ∧ (Core.step P M x s).x.n = x.n := by
 cases s with
 | s0 => simp only [Core.step]; split; exact ⟨rfl, rfl, rfl, rfl⟩; split <;> exact ⟨rfl, rfl, rfl, rfl⟩
 | _ => first | exact ⟨rfl, rfl, rfl, rfl⟩ | (simp only [Core.step]; split <;> exact ⟨rfl, rfl, rfl, rfl⟩)
section
variable (T tau fr to_ : Int) (key : List Int) (n : Nat) (work : List (List Req))
structure Or (s : SS) : Prop where
 all : nO n work ck0 s.out
 on : ∀ j, j < n → isC (s.S j).s = true → (ckF ck0 s.out).nx j < (work.getD j []).length ∧ (s.ws j).c = (work.getD j []).getD ((ckF ck0 s.out).nx j) default ∧ (s.ws j).left = (work.getD j []).drop ((ckF ck0 s.out).nx j + 1) ∧ (ckF ck0 s.out).la j < (s.ws j).first ∧ (s.ws j).first ≤ s.k
 off : ∀ j, j < n → isC (s.S j).s = false → (s.ws j).left = (work.getD j []).drop ((ckF ck0 s.out).nx j)
 le : ∀ j, (ckF ck0 s.out).nx j ≤ (work.getD j []).length
 la : ∀ j, (ckF ck0 s.out).la j ≤ s.k
 en : (ckF ck0 s.out).en ≤ s.k
 q : (∃ j, j < n ∧ isC (s.S j).s = true) ∨ (s.k : Int) = (ckF ck0 s.out).en
 call : ∀ j, isC (s.S j).s = true → (s.S j).x.op = (s.ws j).c.op ∧ (s.S j).x.pol = (s.ws j).c.pol ∧ (s.S j).x.key = (s.ws j).c.key ∧ (s.S j).x.n = (s.ws j).c.n
 frq : ∀ j, Core.Fr (aa ak room) (s.S j).x (s.S j).s
 rate : Core.RW T tau fr to_ key lz 64 (mM key fr to_ s.out) s.M s.S
end
variable {fr to_ : Int} {key : List Int} {n : Nat} {work : List (List Req)}
theorem sW {α : Type} [Inhabited α] {l : List α} {i : Nat} {c : α} {r : List α} (h : l.drop i = c :: r) : i < l.length ∧ c = l.getD i default ∧ r = l.drop (i + 1) := by
 have hi : i < l.length := by
  by_cases e : i < l.length
  ·exact e
  ·rw [List.drop_eq_nil_of_le (by omega)] at h; cases h
 rw [List.drop_eq_getElem_cons hi] at h
 obtain ⟨h1, h2⟩ := List.cons.inj h
 exact ⟨hi, by rw [Q1, Q0 hi]; exact h1.symm, h2.symm⟩
theorem uQ {s : Core.CS} (h : s ≠ .none) : isC s = true := by cases s <;> first | rfl | exact absurd rfl h
theorem Or.adv (h : SI room xs nl s) (hk : s.k ≤ 900000) {w : Nat} (hw : w < n) (hn8 : n ≤ 64) (hc : isC (s.S w).s = true)
  (all : nO n work ck0 s.out)
  (on : ∀ j, j < n → isC (s.S j).s = true → (ckF ck0 s.out).nx j < (work.getD j []).length ∧ (s.ws j).c = (work.getD j []).getD ((ckF ck0 s.out).nx j) default ∧ (s.ws j).left = (work.getD j []).drop ((ckF ck0 s.out).nx j + 1) ∧ (ckF ck0 s.out).la j < (s.ws j).first ∧ (s.ws j).first ≤ (s.k : Int) + 1)
  (off : ∀ j, j < n → isC (s.S j).s = false → (s.ws j).left = (work.getD j []).drop ((ckF ck0 s.out).nx j))
  (le : ∀ j, (ckF ck0 s.out).nx j ≤ (work.getD j []).length) (la : ∀ j, (ckF ck0 s.out).la j ≤ s.k) (en : (ckF ck0 s.out).en ≤ s.k)
  (call : ∀ j, isC (s.S j).s = true → (s.S j).x.op = (s.ws j).c.op ∧ (s.S j).x.pol = (s.ws j).c.pol ∧ (s.S j).x.key = (s.ws j).c.key ∧ (s.S j).x.n = (s.ws j).c.n)
  (hfr : ∀ j, Core.Fr (aa ak room) (s.S j).x (s.S j).s) (rw' : Core.RW 10 20 fr to_ key lz 64 (mM key fr to_ s.out) s.M s.S) :
  Or (room := room) 10 20 fr to_ key n work (adv (aa ak room) s w) := by
 have hB : ((s.k : Int) + 1) + 1 < Dir.FZ := by unfold Dir.FZ; omega
 have hA := h.law.all
 have hoth : ∀ j, j ≠ w → Core.nx (aa ak room) s.M s.S w j = s.S j := fun j hj => by unfold Core.nx; rw [upd_ne _ _ hj]
 have hme : Core.nx (aa ak room) s.M s.S w w = ⟨(Core.step (aa ak room) s.M (s.S w).x (s.S w).s).x, (Core.step (aa ak room) s.M (s.S w).x (s.S w).s).s⟩ := by unfold Core.nx; rw [upd_same]
 have hx := step_x (aa ak room) s.M (s.S w).x (s.S w).s
 have hcw := call w hc
 obtain ⟨o1, o2, o3, o4, o5⟩ := on w hw hc
 have hfr' : ∀ j, Core.Fr (aa ak room) (Core.nx (aa ak room) s.M s.S w j).x (Core.nx (aa ak room) s.M s.S w j).s := fun j => by
  by_cases e : j = w
  ·subst e; rw [hme]; exact (Core.step_fr (qb ak room) (hA.inv.cw j) (hfr j) (hA.rx j)).1
  ·rw [hoth j e]; exact hfr j
 have hrw := rw'.step (d9 ak room) (qa ak room (by decide)) (by decide) hA hB hfr (i := w) (by omega)
 have htold : Core.toldR fr to_ key (Core.step (aa ak room) s.M (s.S w).x (s.S w).s).x (Core.step (aa ak room) s.M (s.S w).x (s.S w).s).r = if (res (aa ak room) s w).done = true then bk key fr to_ ⟨w, (s.ws w).c, (s.ws w).first, (s.k : Int) + 1, (res (aa ak room) s w).r⟩ else 0 := by
  unfold Core.toldR
  split
  ·unfold Core.rated bk
   rw [hx.1, hx.2.1, hx.2.2.1, hx.2.2.2, hcw.1, hcw.2.1, hcw.2.2.1, hcw.2.2.2]
  ·rfl
 rw [htold] at hrw
 have call' : ∀ j, isC (Core.nx (aa ak room) s.M s.S w j).s = true → (Core.nx (aa ak room) s.M s.S w j).x.op = (s.ws j).c.op ∧ (Core.nx (aa ak room) s.M s.S w j).x.pol = (s.ws j).c.pol ∧ (Core.nx (aa ak room) s.M s.S w j).x.key = (s.ws j).c.key ∧ (Core.nx (aa ak room) s.M s.S w j).x.n = (s.ws j).c.n := fun j hj => by
  by_cases e : j = w
  ·subst e; rw [hme]
   exact ⟨hx.1.trans hcw.1, hx.2.1.trans hcw.2.1, hx.2.2.1.trans hcw.2.2.1, hx.2.2.2.trans hcw.2.2.2⟩
  ·rw [hoth j e] at hj ⊢; exact call j hj
 unfold Sim.adv
 cases hd : (res (aa ak room) s w).done with
 | false =>
  rw [hd, if_neg (by decide)] at hrw
  rw [if_neg (by decide)]
  have hsome : isC (Core.nx (aa ak room) s.M s.S w w).s = true := by rw [hme]; exact uQ (Core.step_some (l8 hc) hd)
  refine ⟨all, fun j hj hjc => ?_, fun j hj hjc => ?_, le, fun j => ?_, ?_, .inl ⟨w, hw, hsome⟩, call', hfr', ?_⟩
  ·by_cases e : j = w
   ·subst e; exact ⟨o1, o2, o3, o4, by show (s.ws j).first ≤ ((s.k + 1 : Nat) : Int); omega⟩
   ·have := on j hj (by rw [← hoth j e]; exact hjc)
    exact ⟨this.1, this.2.1, this.2.2.1, this.2.2.2.1, by show (s.ws j).first ≤ ((s.k + 1 : Nat) : Int); have := this.2.2.2.2; omega⟩
  ·by_cases e : j = w
   ·subst e; replace hjc : isC (Core.nx (aa ak room) s.M s.S j j).s = false := hjc; rw [hsome] at hjc; cases hjc
   ·exact off j hj (by rw [← hoth j e]; exact hjc)
  ·show (ckF ck0 s.out).la j ≤ ((s.k + 1 : Nat) : Int); have := la j; omega
  ·show (ckF ck0 s.out).en ≤ ((s.k + 1 : Nat) : Int); omega
  ·rw [Int.add_zero] at hrw; exact hrw
 | true =>
  rw [hd, if_pos rfl] at hrw
  rw [if_pos rfl]
  have hnone : isC (Core.nx (aa ak room) s.M s.S w w).s = false := by rw [hme]; exact uR (Core.step_none hd)
  generalize hD : (⟨(w : Int), (s.ws w).c, (s.ws w).first, (s.k : Int) + 1, (res (aa ak room) s w).r⟩ : Dn) = d at hrw
  have dw : d.who = w := by rw [← hD]
  have dt : d.who.toNat = w := by omega
  have dl : d.last = (s.k : Int) + 1 := by rw [← hD]
  have df : d.first = (s.ws w).first := by rw [← hD]
  have dc : d.c = (s.ws w).c := by rw [← hD]
  have hK : ckF ck0 (s.out ++ [d]) = (ckF ck0 s.out).add d := tc _ _ _
  have nxs : ((ckF ck0 s.out).add d).nx w = (ckF ck0 s.out).nx w + 1 := by show upd _ d.who.toNat _ w = _; rw [dt, upd_same]
  have nxo : ∀ j, j ≠ w → ((ckF ck0 s.out).add d).nx j = (ckF ck0 s.out).nx j := fun j hj => by show upd _ d.who.toNat _ j = _; rw [dt, upd_ne _ _ hj]
  have lao : ∀ j, j ≠ w → ((ckF ck0 s.out).add d).la j = (ckF ck0 s.out).la j := fun j hj => by show upd _ d.who.toNat _ j = _; rw [dt, upd_ne _ _ hj]
  have las : ((ckF ck0 s.out).add d).la w = (s.k : Int) + 1 := by show upd _ d.who.toNat _ w = _; rw [dt, upd_same, dl]
  refine ⟨mC _ _ _ all ⟨⟨by omega, by omega⟩, by rw [dt]; exact o1, by rw [dt, dc]; exact o2, by rw [dt, df]; exact o4, by rw [df, dl]; exact o5, by rw [dl]; omega⟩, ?_, ?_, ?_, ?_, ?_, ?_, call', hfr', ?_⟩
  all_goals (try rw [hK])
  ·intro j hj hjc
   by_cases e : j = w
   ·subst e; replace hjc : isC (Core.nx (aa ak room) s.M s.S j j).s = true := hjc; rw [hnone] at hjc; cases hjc
   ·rw [nxo j e, lao j e]
    have := on j hj (by rw [← hoth j e]; exact hjc)
    exact ⟨this.1, this.2.1, this.2.2.1, this.2.2.2.1, by show (s.ws j).first ≤ ((s.k + 1 : Nat) : Int); have := this.2.2.2.2; omega⟩
  ·intro j hj hjc
   by_cases e : j = w
   ·subst e; rw [nxs]; exact o3
   ·rw [nxo j e]; exact off j hj (by rw [← hoth j e]; exact hjc)
  ·intro j
   by_cases e : j = w
   ·subst e; rw [nxs]; omega
   ·rw [nxo j e]; exact le j
  ·intro j
   show _ ≤ ((s.k + 1 : Nat) : Int)
   by_cases e : j = w
   ·subst e; rw [las]; omega
   ·rw [lao j e]; have := la j; omega
  ·show d.last ≤ ((s.k + 1 : Nat) : Int); omega
  ·right; show ((s.k + 1 : Nat) : Int) = d.last; omega
  ·show Core.RW 10 20 fr to_ key lz 64 (mM key fr to_ (s.out ++ [d])) _ _
   rw [nW]; exact hrw
theorem Or.go (h : SI room xs nl s) (hk : s.k ≤ 900000) (hn8 : n ≤ 64) (ho : Or (room := room) 10 20 fr to_ key n work s) {w : Nat} (hw : w < n) : Or (room := room) 10 20 fr to_ key n work (go (aa ak room) s w).1 := by
 unfold Sim.go
 split
 ·rename_i hc
  exact Or.adv h hk hw hn8 hc ho.all (fun j hj hjc => by have := ho.on j hj hjc; exact ⟨this.1, this.2.1, this.2.2.1, this.2.2.2.1, by have := this.2.2.2.2; omega⟩) ho.off ho.le ho.la ho.en ho.call ho.frq ho.rate
 ·rename_i hc
  have hn : isC (s.S w).s = false := by simpa using hc
  split
  ·exact ho
  ·rename_i c r hl
   have hok := h.cok w c (by rw [hl]; exact List.mem_cons_self ..)
   have hb := h.beg hl (h.law.start (.inl (h.w8l hl)) (jA hn) (key := c.key) (n := c.n) hok.kx)
   have hp : isC ((Sim.beg s w c r).S w).s = true := by
    show isC (upd s.S w (newC c) w).s = true
    rw [upd_same]
    show isC (Core.first (aH c.op c.pol c.key c.n)) = true
    unfold Core.first; (repeat' split) <;> rfl
   have hd := ho.off w hw hn
   rw [hl] at hd
   obtain ⟨d1, d2, d3⟩ := sW hd.symm
   have wsw : (Sim.beg s w c r).ws w = ⟨r, c, (s.k : Int) + 1⟩ := upd_same ..
   have wso : ∀ j, j ≠ w → (Sim.beg s w c r).ws j = s.ws j := fun j hj => upd_ne _ _ hj
   have So : ∀ j, j ≠ w → (Sim.beg s w c r).S j = s.S j := fun j hj => upd_ne _ _ hj
   have Sw : (Sim.beg s w c r).S w = newC c := upd_same ..
   refine Or.adv hb hk hw hn8 hp ho.all (fun j hj hjc => ?_) (fun j hj hjc => ?_) ho.le ho.la ho.en (fun j hjc => ?_) (fun j => ?_) ?_
   ·by_cases e : j = w
    ·subst e; rw [wsw]
     exact ⟨d1, d2, d3, by have := ho.la j; show (ckF ck0 s.out).la j < (s.k : Int) + 1; omega, Int.le_refl _⟩
    ·rw [wso j e]
     have := ho.on j hj (by rw [← So j e]; exact hjc)
     exact ⟨this.1, this.2.1, this.2.2.1, this.2.2.2.1, by have := this.2.2.2.2; show _ ≤ (s.k : Int) + 1; omega⟩
   ·by_cases e : j = w
    ·subst e; rw [hp] at hjc; cases hjc
    ·rw [wso j e]; exact ho.off j hj (by rw [← So j e]; exact hjc)
   ·by_cases e : j = w
    ·subst e; rw [wsw, Sw]; exact ⟨rfl, rfl, rfl, rfl⟩
    ·rw [So j e] at hjc ⊢; rw [wso j e]; exact ho.call j hjc
   ·by_cases e : j = w
    ·subst e; rw [Sw]
     show Core.Fr _ _ (Core.first (aH c.op c.pol c.key c.n))
     unfold Core.first
     split
     ·assumption
     ·split
      ·assumption
      ·exact ⟨by assumption, by assumption⟩
    ·rw [So j e]; exact ho.frq j
   ·have := h.w8l hl
    exact ho.rate.start (i := w) (by omega) (jA hn) _
theorem Or.tick (ho : Or (room := room) 10 20 fr to_ key n work s) (h : SI room xs nl s) {t : Int} (ht : 0 ≤ t) : Or (room := room) 10 20 fr to_ key n work (tick s t) := by
 have := h.law.clk
 exact ⟨ho.all, ho.on, ho.off, ho.le, ho.la, ho.en, ho.q, ho.call, ho.frq, ho.rate.tick (t := min (s.M.clk + t) 4611686018427387903) (by omega)⟩
theorem Or.picks (hn8 : n ≤ 64) : ∀ (l : List (Int × Int)) {xs : Nat → XB} {nl : Nat} {s : SS}, SI room xs nl s → s.k + l.length ≤ 900000 → (∀ p ∈ l, p.1 < n ∧ (p.1 = -1 → 0 ≤ p.2) ∧ -1 ≤ p.1) → Or (room := room) 10 20 fr to_ key n work s → Or (room := room) 10 20 fr to_ key n work (picks (aa ak room) s l)
 | [], xs, nl, s, _, _, _, ho => ho
 | p :: l, xs, nl, s, h, hk, hp, ho => by
  rw [List.length_cons] at hk
  obtain ⟨p1, p2, p3⟩ := hp p (List.mem_cons_self ..)
  have h1 : (∃ xs' nl', SI room xs' nl' (pick (aa ak room) s p)) ∧ (pick (aa ak room) s p).k ≤ s.k + 1 ∧ Or (room := room) 10 20 fr to_ key n work (pick (aa ak room) s p) := by
   unfold pick
   split
   ·rename_i e; exact ⟨⟨xs, nl, h.tick (p2 e)⟩, Nat.le_succ _, ho.tick h (p2 e)⟩
   ·exact ⟨h.go (by omega) _, vX _ _ _, ho.go h (by omega) hn8 (by omega)⟩
  obtain ⟨⟨xs', nl', h'⟩, h2, h3⟩ := h1
  exact Or.picks hn8 l h' (by omega) (fun q hq => hp q (List.mem_cons_of_mem _ hq)) h3
theorem Or.fin (hn8 : n ≤ 64) {w : Nat} (hw : w < n) : ∀ (f : Nat) {xs : Nat → XB} {nl : Nat} {s : SS}, SI room xs nl s → s.k + f ≤ 900000 → Or (room := room) 10 20 fr to_ key n work s → Or (room := room) 10 20 fr to_ key n work (Sim.fin (aa ak room) f s w)
 | 0, xs, nl, s, _, _, ho => ho
 | f + 1, xs, nl, s, h, hk, ho => by
  unfold Sim.fin
  split
  ·obtain ⟨xs', nl', h'⟩ := h.go (by omega) w
   have := vX (aa ak room) s w
   exact Or.fin hn8 hw f h' (by omega) (ho.go h (by omega) hn8 hw)
  ·exact ho
theorem Or.fins (hn8 : n ≤ 64) (b : Bool) : ∀ (m : Nat) {xs : Nat → XB} {nl : Nat} {s : SS}, m ≤ n → SI room xs nl s → s.k + muS s m ≤ 900000 → Or (room := room) 10 20 fr to_ key n work s → Or (room := room) 10 20 fr to_ key n work (Sim.fins (aa ak room) b m s)
 | 0, xs, nl, s, _, _, _, ho => ho
 | m + 1, xs, nl, s, hm, h, hk, ho => by
  simp only [muS] at hk
  have h1 := Or.fins hn8 b m (by omega) h (by omega) ho
  obtain ⟨⟨xs1, nl1, h2⟩, h3, _⟩ := gN b m h (by omega)
  unfold Sim.fins
  split
  ·have ho' := fa (P := aa ak room) b m s m (Q4 _)
   have hmu := mu_le h2 m
   rw [ho'.2] at hmu
   exact Or.fin hn8 (by omega) _ h2 (by omega) h1
  ·exact h1
theorem Or.zero (hft : fr ≤ to_) : Or (room := room) 10 20 fr to_ key n work (ss0 work) := by
 refine ⟨trivial, fun j _ h => ?_, fun j _ _ => rfl, fun j => Nat.zero_le _, fun j => Int.le_refl _, Int.le_refl _, .inr rfl, fun j h => ?_, fun j => trivial, Core.RW.zero hft (by decide) (by decide) 64 _⟩
 ·cases h
 ·cases h
end Sim
end
section
namespace Sim
variable {P : Core.Ops}
theorem lV {n : Nat} : ∀ (l : List (Int × Int)) (s : SS), (∀ p ∈ l, -1 ≤ p.1 ∧ p.1 < n) → (picks P s l).S n = s.S n ∧ (picks P s l).ws n = s.ws n
 | [], s, _ => ⟨rfl, rfl⟩
 | p :: l, s, h => by
  have h1 := lV l (pick P s p) fun q hq => h q (List.mem_cons_of_mem _ hq)
  have h2 := h p (List.mem_cons_self ..)
  have h3 : (pick P s p).S n = s.S n ∧ (pick P s p).ws n = s.ws n := by
   unfold pick
   split
   ·exact ⟨rfl, rfl⟩
   ·exact si (by omega)
  exact ⟨h1.1.trans h3.1, h1.2.trans h3.2⟩
end Sim
end
namespace Sim
theorem rE {S : Nat → Core.Wk} (h : ∀ j, (S j).s = .none) : (Core.sumI 64 fun i => Core.owes (S i).x (S i).s) = 0 := by
 have : (fun i => Core.owes (S i).x (S i).s) = fun _ => 0 := funext fun i => by rw [h]; rfl
 rw [this, Core.sumI_zero]
theorem cntE {ps : List Pol} {room : Int} {k : Nat} {M : Core.Mc} {S : Nat → Core.Wk} {xs : Nat → XB} {nl : Nat} {cnt : Int} (h : ej ps room k M S xs nl cnt) (hn : ∀ j, (S j).s = .none) : M.W 32 = ((gf ps room M).length : Int) := by
 have h1 := h.all.cnt
 rw [rE hn] at h1
 rw [td]; omega
theorem lX {S : Nat → Core.Wk} (h : ∀ j, (S j).s = .none) : ∀ n, pend S n = 0
 | 0 => rfl
 | n + 1 => by
  show pend S n + (if isC (S n).s = true then 1 else 0) = 0
  rw [lX h n, h n]; rfl
theorem lW {P : Core.Ops} : ∀ (l : List (Int × Int)) {s : SS}, s.out.length ≤ s.k → (picks P s l).out.length ≤ (picks P s l).k
 | [], s, h => h
 | p :: l, s, h => by
  refine lW l (s := pick P s p) ?_
  unfold pick
  split
  ·exact h
  ·have := oJ P s p.1.toNat; omega
theorem sK {P : Core.Ops} (w : Nat) : ∀ (f : Nat) {s : SS}, s.out.length ≤ s.k → (fin P f s w).out.length ≤ (fin P f s w).k
 | 0, s, h => h
 | f + 1, s, h => by
  unfold fin
  split
  ·refine sK w f (s := (go P s w).1) ?_
   have := oJ P s w; omega
  ·exact h
theorem oQ {P : Core.Ops} (b : Bool) : ∀ (n : Nat) {s : SS}, s.out.length ≤ s.k → (fins P b n s).out.length ≤ (fins P b n s).k
 | 0, s, h => h
 | n + 1, s, h => by
  have := oQ (P := P) b n h
  unfold fins
  split
  ·exact sK n _ this
  ·exact this
structure EndOk (R : Int) (W : List (List Req)) (fr to_ : Int) (s : SS) : Prop where
 cnt : s.M.W 32 = ((gf ak R s.M).length : Int)
 pend : pend s.S W.length = 0
 all : nO W.length W ck0 s.out
 nx : ∀ j, j < W.length → (ckF ck0 s.out).nx j = (W.getD j []).length
 en : (s.k : Int) = (ckF ck0 s.out).en
 rate : mM [97] fr to_ s.out ≤ (to_ - fr + 20) / 10 + 1
 few : s.out.length ≤ 1000000
theorem u9 {R : Int} (hr : 1 ≤ R ∧ R ≤ 6) {W : List (List Req)} (hW : Few W) {l : List (Int × Int)} (hl : l.length ≤ 400) (hp : ∀ p ∈ l, PickOk W.length p) (fr to_ : Int) (hft : fr ≤ to_) :
  EndOk R W fr to_ (fins (aa ak R) true W.length (picks (aa ak R) (ss0 W) l)) := by
 have hW8 := hW.len
 have h0 : SI R xs0 (az 0) (ss0 W) := .zero ⟨hr.1, by omega⟩ (.inl hW8) hW.call
 obtain ⟨⟨xs1, nl1, h1⟩, hk1⟩ := oh (n := W.length) l h0 (by show 0 + l.length ≤ _; omega) fun p hm e => ((hp p hm).2.2 e).1
 have o0 : Or (room := R) 10 20 fr to_ [97] W.length W (ss0 W) := .zero hft
 have o1 := Or.picks (by omega) l h0 (by show 0 + l.length ≤ _; omega) (fun p hm => ⟨(hp p hm).2.1, fun e => ((hp p hm).2.2 e).1, (hp p hm).1⟩) o0
 have hm0 := kn (s := picks (aa ak R) (ss0 W) l) (t := ss0 W) (fun j => fA j l _) W.length
 rw [nb W W.length (Q4 _), List.take_length] at hm0
 have hm1 := nG hW.each
 have hk1' : (picks (aa ak R) (ss0 W) l).k ≤ 0 + l.length := hk1
 have hkm : (picks (aa ak R) (ss0 W) l).k + muS (picks (aa ak R) (ss0 W) l) W.length ≤ 900000 := by omega
 have hout := oQ (P := aa ak R) true W.length (s := picks (aa ak R) (ss0 W) l) (lW l (s := ss0 W) (Q4 _))
 have ho := fun j (hj : W.length ≤ j) => lV (P := aa ak R) (n := j) l (ss0 W) fun p hm => ⟨(hp p hm).1, by have := (hp p hm).2.1; omega⟩
 have hfo := fun j (hj : W.length ≤ j) => fa (P := aa ak R) true W.length (picks (aa ak R) (ss0 W) l) j hj
 obtain ⟨⟨xs2, nl2, h2⟩, hk2, hend⟩ := gN true W.length h1 hkm
 have o2 := Or.fins (by omega) true W.length (Q4 _) h1 hkm o1
 generalize fins (aa ak R) true W.length (picks (aa ak R) (ss0 W) l) = s at *
 have hn : ∀ j, (s.S j).s = .none := fun j => by
  by_cases e : j < W.length
  ·exact jA (hend rfl j e).1
  ·rw [(hfo j (by omega)).1, (ho j (by omega)).1]; rfl
 refine ⟨cntE h2.law hn, lX hn _, o2.all, fun j hj => ?_, ?_, o2.rate.le, ?_⟩
 ·have h3 := o2.off j hj (by rw [hn]; rfl)
  rw [(hend rfl j hj).2] at h3
  have h4 := o2.le j
  have h5 : ((W.getD j []).drop ((ckF ck0 s.out).nx j)).length = 0 := by rw [← h3]; rfl
  rw [List.length_drop] at h5
  omega
 ·rcases o2.q with ⟨j, _, hc⟩ | h
  ·rw [hn j] at hc; cases hc
  ·exact h
 ·omega
end Sim
end Go.Proofs.YtpdhdnhkhidmpaaGreat
