/- Lemmas of Rk4, Rf9, Rg1, Rg1b, Rg2, Rg3, Rg4, Rg0, Rg5, Rf8, Rg6. No condition. -/
import Derived.Test.YtcbpkdhoibemcaaGreatMK9
set_option linter.unusedVariables false
set_option linter.unusedSimpArgs false
set_option maxHeartbeats 80000000
set_option maxRecDepth 100000
namespace Go.Proofs.YtcbpkdhoibemcaaGreat
open Go.RowKit
def pt (id : Nat) : Code → Option Code
 | .seq (.region i b d) y => if i = id then some (.seq (.region i b d) y) else pt id y
 | .seq a b => (pt id a).or (pt id b)
 | .cond _ a b => (pt id a).or (pt id b)
 | .block _ b => pt id b
 | .loop b => pt id b
 | _ => none
def ZRow (N : Nat) (w1 : World) (e : TypeId) (kd : IntKind) (a : Option Addr) (m : Nat) : Prop := ∀ k, k < m → ∃ (b : Nat) (us : Array Value) (v : Int), a = some ⟨b, 0, none⟩ ∧ N ≤ b ∧ w1.heap[b]? = some (.cells us e (0, 0)) ∧ k < us.size ∧ us.getD k undef = .int kd v
def ZCel (N : Nat) (w1 : World) (a : Option Addr) (n : Nat) : Prop := ∀ j, j < n → ∃ (B : Nat) (us : Array Value) (t : Int) (ka ha : Option Addr) (kn kc hn hc : Nat), a = some ⟨B, 0, none⟩ ∧ N ≤ B ∧ w1.heap[B]? = some (.cells us 56 (0, 0)) ∧ j * 4 + 3 < us.size ∧
 us.getD (j * 4 + 1) undef = .slice ka kn kc ∧ us.getD (j * 4 + 2) undef = .int .i64 t ∧ us.getD (j * 4 + 3) undef = .slice ha hn hc ∧ kn ≤ maxLen ∧ hn ≤ maxLen ∧ ZRow N w1 5 .u8 ka kn ∧ ZRow N w1 2 .i64 ha hn
theorem RD.valInv {w : World} {Im : Nat → Prop} {v u : Value} (h : RD w Im (.val v) u) : u = v := by cases h; rfl
theorem ZRow.of {N e n : Nat} {w : World} {Im : Nat → Prop} {kd : IntKind} {xs : List Int} {v : Value} (h : RD w Im (.fsl N e 1 n fun i => ao kd (xs.getD i default)) v) : ∃ a c, v = .slice a n c ∧ n ≤ maxLen ∧ ZRow N w e kd a n := by
 cases h with
 | fsl _ _ _ _ _ a cap g hc hm hl ha hg =>
  refine ⟨a, cap, rfl, by omega, fun k hk => ?_⟩
  obtain ⟨b, us, e1, ⟨_, hb⟩, h1, h2, h3⟩ := ha (by omega)
  have h4 := h3 k 0 hk (by omega)
  have h5 := hg k 0 hk (by show 0 < 1; omega)
  have h6 : g k 0 = .int kd (xs.getD k default) := by
   have : (ao kd (xs.getD k default))[0]'(by show 0 < 1; omega) = .val (.int kd (xs.getD k default)) := rfl
   rw [this] at h5
   exact h5.valInv
  rw [Nat.mul_one, Nat.add_zero, h6] at h4
  exact ⟨b, us, _, e1, hb, h1, by omega, h4⟩
theorem ZCel.of {b : Nat} {w : World} {Im : Nat → Prop} {xs : List Cel} {v : Value} (h : RD w Im (.fsl (b + 1) 56 4 xs.length fun i => nG b (xs.getD i default)) v) : ∃ a c, v = .slice a xs.length c ∧ xs.length ≤ maxLen ∧ ZCel (b + 1) w a xs.length := by
 cases h with
 | fsl _ _ _ _ _ a cap g hc hm hl ha hg =>
  refine ⟨a, cap, rfl, by omega, fun j hj => ?_⟩
  obtain ⟨B, us, e1, ⟨_, hB⟩, h1, h2, h3⟩ := ha (by omega)
  have g1 := hg j 1 hj (by show 1 < 4; omega)
  have g2 := hg j 2 hj (by show 2 < 4; omega)
  have g3 := hg j 3 hj (by show 3 < 4; omega)
  obtain ⟨ka, kc, e2, k1, k2⟩ := ZRow.of (xs := (xs.getD j default).key) (kd := .u8) (show RD w Im (.fsl (b + 1) 5 1 (xs.getD j default).key.length fun i => ao .u8 ((xs.getD j default).key.getD i default)) _ from g1)
  obtain ⟨ha', hc', e4, k3, k4⟩ := ZRow.of (xs := (xs.getD j default).held) (kd := .i64) (show RD w Im (.fsl (b + 1) 2 1 (xs.getD j default).held.length fun i => ao .i64 ((xs.getD j default).held.getD i default)) _ from g3)
  have e3 : g j 2 = .int .i64 (xs.getD j default).tat := by
   have g2 : RD w Im (.val (.int .i64 (xs.getD j default).tat)) (g j 2) := g2
   exact g2.valInv
  exact ⟨B, us, _, ka, ha', _, kc, _, hc', e1, hB, h1, by omega, (h3 j 1 hj (by omega)).trans e2, (h3 j 2 hj (by omega)).trans e3, (h3 j 3 hj (by omega)).trans e4, k1, k3, k2, k4⟩
def zKeep (base : List (Nat × Value)) : ZQ := fun e l' => e = .normal ∧ ∀ p ∈ base, lkv l' p.1 = some p.2
theorem all1 {P : Nat × Value → Prop} {x : Nat × Value} (h : P x) : ∀ p ∈ [x], P p := fun p hp => by rw [List.mem_singleton.1 hp]; exact h
theorem fb {P : Nat × Value → Prop} {x : Nat × Value} {r : List (Nat × Value)} (h : P x) (k : ∀ p ∈ r, P p) : ∀ p ∈ x :: r, P p := fun p hp => by
 rcases Q22 hp with rfl | hp
 ·exact h
 ·exact k p hp
noncomputable def cZ : Code := (pt 33 (Tryz.f3.body.getD .skip)).getD .skip
def dT (n : Nat) : Bool := Nat.beq n 6 || (Nat.ble 19 n && Nat.ble n 22) || (Nat.ble 142 n && Nat.ble n 207)
theorem scrib_Z {N n c : Nat} {w1 : World} {a0 : Act} {ad : Option Addr} (hn : n ≤ maxLen) (hz : ZCel N w1 ad n) : ZW ⟨TC, N, Tryz.f3.ntmps, fun k => dT k = true, a0, w1⟩ cZ [(19, .slice ad n c)] (zKeep []) := by
 unfold maxLen at hn
 conv => (arg 2; whnf)
 refine ZW.seq (ZW.region ?_)
 (refine ZL.mv rfl rfl rfl rfl (zzb rfl) rfl ?_)
 refine ZL.len rfl rfl rfl rfl rfl rfl (zzb rfl) rfl ?_
 (refine ZL.mv rfl rfl rfl rfl (zzb rfl) rfl ?_)
 (refine ZL.nil ?_); (conv => whnf)
 refine ZW.block ?_
 refine ZW.loop (n := n) (fun j => [(19, .slice ad n c), (162, .int .i64 n), (163, .int .i64 j)]) (fb rfl (fb rfl (all1 rfl))) fun j hj => ?_
 refine ZW.seq (ZW.region ?_)
 (refine ZL.bin rfl rfl rfl rfl rfl rfl rfl (zzb rfl) rfl ?_); (conv => whnf)
 refine ⟨_, rfl, ?_⟩
 (refine ZL.nil ?_); (conv => whnf)
 refine ZW.seq (ZW.cond (b := decide ((j : Int) < n)) rfl ?_)
 by_cases hlt : j < n
 ·rw [decide_eq_true (by omega)]
  refine ZW.skip ?_
  conv => whnf
  obtain ⟨B, us, t, ka, ha, kn, kc, hm, hc, rfl, hB, hb, hs, e1, e2, e3, k1, k2, z1, z2⟩ := hz j hlt
  unfold maxLen at k1 k2
  refine ZW.seq (ZW.block (ZW.seq (ZW.region ?_)))
  (refine ZL.mv rfl rfl rfl rfl (zzb rfl) rfl ?_)
  (refine ZL.as rfl rfl rfl rfl (zzb rfl) rfl ?_)
  (refine ZL.nil ?_); (conv => whnf)
  refine ZW.seq (ZW.region ?_)
  (refine ZL.mv rfl rfl rfl rfl (zzb rfl) rfl ?_)
  (refine ZL.mv rfl rfl rfl rfl (zzb rfl) rfl ?_)
  (refine ZL.ix (z := 4) rfl rfl rfl rfl rfl (by (conv => whnf); exact trivial) (by omega) (zzb rfl) rfl ?_)
  (refine ZL.fa rfl rfl rfl rfl (zzb rfl) rfl ?_); (conv => whnf)
  refine ZL.st rfl rfl rfl rfl rfl rfl rfl hB hb (by omega) ((congrArg (us.getD · undef) (by omega)).trans e2) ?_
  (refine ZL.nil ?_); (conv => whnf)
  refine ZW.seq (ZW.seq (ZW.region ?_))
  (refine ZL.mv rfl rfl rfl rfl (zzb rfl) rfl ?_)
  (refine ZL.mv rfl rfl rfl rfl (zzb rfl) rfl ?_)
  (refine ZL.ix (z := 4) rfl rfl rfl rfl rfl (by (conv => whnf); exact trivial) (by omega) (zzb rfl) rfl ?_)
  (refine ZL.fa rfl rfl rfl rfl (zzb rfl) rfl ?_); (conv => whnf)
  refine ZL.ld rfl rfl rfl rfl rfl rfl hb (by omega) (zzb rfl) rfl fun v hv => ?_
  rw [show us.getD (0 + j * 4 + 1) undef = .slice ka kn kc from (congrArg (us.getD · undef) (by omega)).trans e1] at hv
  obtain rfl := hv.slice
  refine ZL.len rfl rfl rfl rfl rfl rfl (zzb rfl) rfl ?_
  (refine ZL.mv rfl rfl rfl rfl (zzb rfl) rfl ?_)
  (refine ZL.nil ?_); (conv => whnf)
  refine ZW.block ?_
  refine ZW.loop (n := kn) (fun k => [(19, .slice (some ⟨B, 0, none⟩) n c), (162, .int .i64 n), (163, .int .i64 j), (20, .int .i64 j), (175, .int .i64 kn), (176, .int .i64 k)]) (fb rfl (fb rfl (fb rfl (fb rfl (fb rfl (all1 rfl)))))) fun k hk => ?_
  ·refine ZW.seq (ZW.region ?_)
   (refine ZL.bin rfl rfl rfl rfl rfl rfl rfl (zzb rfl) rfl ?_); (conv => whnf)
   refine ⟨_, rfl, ?_⟩
   (refine ZL.nil ?_); (conv => whnf)
   refine ZW.seq (ZW.cond (b := decide ((k : Int) < kn)) rfl ?_)
   by_cases hk2 : k < kn
   ·rw [decide_eq_true (by omega)]
    refine ZW.skip ?_
    conv => whnf
    obtain ⟨b, us', v, rfl, hN, hb', hs', e4⟩ := z1 k hk2
    refine ZW.seq (ZW.block (ZW.seq (ZW.region ?_)))
    (refine ZL.mv rfl rfl rfl rfl (zzb rfl) rfl ?_)
    (refine ZL.as rfl rfl rfl rfl (zzb rfl) rfl ?_)
    (refine ZL.nil ?_); (conv => whnf)
    refine ZW.region ?_
    (refine ZL.mv rfl rfl rfl rfl (zzb rfl) rfl ?_)
    (refine ZL.mv rfl rfl rfl rfl (zzb rfl) rfl ?_)
    (refine ZL.ix (z := 4) rfl rfl rfl rfl rfl (by (conv => whnf); exact trivial) (by omega) (zzb rfl) rfl ?_)
    (refine ZL.fa rfl rfl rfl rfl (zzb rfl) rfl ?_); (conv => whnf)
    refine ZL.ld rfl rfl rfl rfl rfl rfl hb (by omega) (zzb rfl) rfl fun v9 hv9 => ?_
    rw [show us.getD (0 + j * 4 + 1) undef = .slice (some ⟨b, 0, none⟩) kn kc from (congrArg (us.getD · undef) (by omega)).trans e1] at hv9
    obtain rfl := hv9.slice
    (refine ZL.mv rfl rfl rfl rfl (zzb rfl) rfl ?_)
    (refine ZL.ix (z := 1) rfl rfl rfl rfl rfl (by (conv => whnf); exact trivial) (by omega) (zzb rfl) rfl ?_)
    refine ZL.ld rfl rfl rfl rfl rfl rfl hb' (by omega) (zzb rfl) rfl fun v9 hv9 => ?_
    rw [show us'.getD (0 + k * 1) undef = .int .u8 v from (congrArg (us'.getD · undef) (by omega)).trans e4] at hv9
    obtain ⟨m9, rfl⟩ := hv9.int
    (refine ZL.bin rfl rfl rfl rfl rfl rfl rfl (zzb rfl) rfl ?_); (conv => whnf)
    refine ⟨_, rfl, ?_⟩
    (refine ZL.ix (z := 1) rfl rfl rfl rfl rfl (by (conv => whnf); exact trivial) (by omega) (zzb rfl) rfl ?_)
    refine ZL.st rfl rfl rfl rfl rfl rfl rfl hN hb' (by omega) ((congrArg (us'.getD · undef) (by omega)).trans e4) ?_
    (refine ZL.nil ?_); (conv => whnf)
    refine ZW.region ?_
    (refine ZL.bin rfl rfl rfl rfl rfl rfl rfl (zzb rfl) rfl ?_); (conv => whnf)
    refine Ov.ok (by first | exact IntWalk.i64_in _ (by omega)) ?_
    conv => whnf
    refine ⟨_, rfl, ?_⟩
    (refine ZL.mv rfl rfl rfl rfl (zzb rfl) rfl ?_)
    (refine ZL.nil ?_); (conv => whnf)
    exact ⟨hk2, fb rfl (fb rfl (fb rfl (fb rfl (fb rfl (all1 rfl)))))⟩
   ·rw [decide_eq_false (by omega)]
    obtain rfl : k = kn := by omega
    refine ZW.exit ?_
    conv => whnf
    refine ZW.seq (ZW.region ?_)
    (refine ZL.mv rfl rfl rfl rfl (zzb rfl) rfl ?_)
    (refine ZL.mv rfl rfl rfl rfl (zzb rfl) rfl ?_)
    (refine ZL.ix (z := 4) rfl rfl rfl rfl rfl (by (conv => whnf); exact trivial) (by omega) (zzb rfl) rfl ?_)
    (refine ZL.fa rfl rfl rfl rfl (zzb rfl) rfl ?_); (conv => whnf)
    refine ZL.ld rfl rfl rfl rfl rfl rfl hb (by omega) (zzb rfl) rfl fun v9 hv9 => ?_
    rw [show us.getD (0 + j * 4 + 3) undef = .slice ha hm hc from (congrArg (us.getD · undef) (by omega)).trans e3] at hv9
    obtain rfl := hv9.slice
    refine ZL.len rfl rfl rfl rfl rfl rfl (zzb rfl) rfl ?_
    (refine ZL.mv rfl rfl rfl rfl (zzb rfl) rfl ?_)
    (refine ZL.nil ?_); (conv => whnf)
    refine ZW.block ?_
    refine ZW.loop (n := hm) (fun k => [(19, .slice (some ⟨B, 0, none⟩) n c), (162, .int .i64 n), (163, .int .i64 j), (20, .int .i64 j), (195, .int .i64 hm), (196, .int .i64 k)]) (fb rfl (fb rfl (fb rfl (fb rfl (fb rfl (all1 rfl)))))) fun q hq => ?_
    refine ZW.seq (ZW.region ?_)
    (refine ZL.bin rfl rfl rfl rfl rfl rfl rfl (zzb rfl) rfl ?_); (conv => whnf)
    refine ⟨_, rfl, ?_⟩
    (refine ZL.nil ?_); (conv => whnf)
    refine ZW.seq (ZW.cond (b := decide ((q : Int) < hm)) rfl ?_)
    by_cases hq2 : q < hm
    ·rw [decide_eq_true (by omega)]
     refine ZW.skip ?_
     conv => whnf
     obtain ⟨b, us', v, rfl, hN, hb', hs', e4⟩ := z2 q hq2
     refine ZW.seq (ZW.block (ZW.seq (ZW.region ?_)))
     (refine ZL.mv rfl rfl rfl rfl (zzb rfl) rfl ?_)
     (refine ZL.as rfl rfl rfl rfl (zzb rfl) rfl ?_)
     (refine ZL.nil ?_); (conv => whnf)
     refine ZW.region ?_
     (refine ZL.mv rfl rfl rfl rfl (zzb rfl) rfl ?_)
     (refine ZL.mv rfl rfl rfl rfl (zzb rfl) rfl ?_)
     (refine ZL.ix (z := 4) rfl rfl rfl rfl rfl (by (conv => whnf); exact trivial) (by omega) (zzb rfl) rfl ?_)
     (refine ZL.fa rfl rfl rfl rfl (zzb rfl) rfl ?_); (conv => whnf)
     refine ZL.ld rfl rfl rfl rfl rfl rfl hb (by omega) (zzb rfl) rfl fun v9 hv9 => ?_
     rw [show us.getD (0 + j * 4 + 3) undef = .slice (some ⟨b, 0, none⟩) hm hc from (congrArg (us.getD · undef) (by omega)).trans e3] at hv9
     obtain rfl := hv9.slice
     (refine ZL.mv rfl rfl rfl rfl (zzb rfl) rfl ?_)
     (refine ZL.ix (z := 1) rfl rfl rfl rfl rfl (by (conv => whnf); exact trivial) (by omega) (zzb rfl) rfl ?_)
     refine ZL.st rfl rfl rfl rfl rfl rfl rfl hN hb' (by omega) ((congrArg (us'.getD · undef) (by omega)).trans e4) ?_
     (refine ZL.nil ?_); (conv => whnf)
     refine ZW.region ?_
     (refine ZL.bin rfl rfl rfl rfl rfl rfl rfl (zzb rfl) rfl ?_); (conv => whnf)
     refine Ov.ok (by first | exact IntWalk.i64_in _ (by omega)) ?_
     conv => whnf
     refine ⟨_, rfl, ?_⟩
     (refine ZL.mv rfl rfl rfl rfl (zzb rfl) rfl ?_)
     (refine ZL.nil ?_); (conv => whnf)
     exact ⟨hq2, fb rfl (fb rfl (fb rfl (fb rfl (fb rfl (all1 rfl)))))⟩
    ·rw [decide_eq_false (by omega)]
     obtain rfl : q = hm := by omega
     refine ZW.exit ?_
     conv => whnf
     refine ZW.region ?_
     (refine ZL.bin rfl rfl rfl rfl rfl rfl rfl (zzb rfl) rfl ?_); (conv => whnf)
     refine Ov.ok (by first | exact IntWalk.i64_in _ (by omega)) ?_
     conv => whnf
     refine ⟨_, rfl, ?_⟩
     (refine ZL.mv rfl rfl rfl rfl (zzb rfl) rfl ?_)
     (refine ZL.nil ?_); (conv => whnf)
     exact ⟨hlt, fb rfl (fb rfl (all1 rfl))⟩
 ·rw [decide_eq_false (by omega)]
  refine ZW.exit ?_
  conv => whnf
  exact ⟨rfl, fun p hp => absurd hp List.not_mem_nil⟩
def lC (a : List Int) : Nat → Nat
 | 0 => 0
 | n + 1 => if a.getD n default = 0 then lC a n else n + 1
theorem kl (a : List Int) : ∀ n, lC a n ≤ n
 | 0 => Q4 _
 | n + 1 => by unfold lC; have := kl a n; split <;> omega
def eM (a : List Int) : List Int := a.take (lC a a.length)
theorem lc {a : List Int} {n : Nat} (e : lC a a.length = n) : SV.Le (.d (.sl 1 ((n : Int).toNat - 0) fun i => (fun i => ao IntKind.u64 (a.getD i default)) (0 + i))) (.d (aj 1 (ao .u64) (eM a))) := by
 have hle := kl a a.length
 refine dw (by rw [eM, Q10, e]; omega) fun i hi => ?_
 rw [eM, Q10, e] at hi
 simp only [Q19]
 rw [eM, e, Q1, Q1, Q15, if_pos (by omega)]
theorem mL (a : List Int) : Pure TC 103 [.d (aj 1 (ao .u64) a)] (.d (aj 1 (ao .u64) (eM a))) := by
 refine Pure.lens (.mk Tryz.func103 rfl rfl) fun hlen => ?_
 have ha := hlen a.length (by simp [bf, aj])
 clear hlen
 have hle := kl a a.length
 refine Pure.mk' Tryz.func103 rfl rfl zN ?_
 (repeat' (first | ((first | refine Wp.any aa rfl ?_ | (with_reducible first | refine Go.mk ?_ | apply ak.of)); conv => whnf) | with_reducible exact rfl | ((with_reducible refine Ov.ok zO ?_); conv => whnf) | (with_reducible refine Ov.sh1 (by with_unfolding_all exact rfl) ?_) | ((first | with_reducible refine Ov.quo (by omega) (by omega) (by omega) (fun _ _ => ?_) | refine zV ?_ | with_reducible refine And.intro zC ?_); conv => whnf) | ((with_reducible refine And.intro ?hb ?_); (case hb => exact zz0); (conv => whnf)) | ((refine ae.a rfl rfl rfl rfl rfl rfl ?hb ?_); (case hb => exact zB); (conv => whnf)) | ((refine ae.b rfl rfl rfl rfl rfl rfl rfl rfl ?hb ?ho ?_); (case hb => exact zB); (case ho => omega); (conv => whnf)) | ((refine ae.c rfl rfl rfl rfl rfl ?hb ?_); (case hb => exact zB); (conv => whnf)) | ((refine ae.d rfl rfl rfl rfl rfl rfl ?hb ?ho ?_); (case hb => exact zB); (case ho => omega); (conv => whnf)) | (with_reducible refine Or.inl ?_) | ((with_reducible refine IxA.ptr ?_); conv => whnf) | ((with_reducible refine nil_no (by omega) ?_); (conv => whnf)) | ((with_reducible refine af ?_ (fun hn0 => ?_)) <;> (conv => whnf)) | ((refine am (fun hc => ?_) (fun hc => ?_)) <;> (try simp only [wz9] at hc) <;> (try (exfalso; omega)) <;> (conv => whnf))))
 refine Wp.loopP (ι := Nat) (fun n => n ≤ a.length ∧ lC a n = lC a a.length) (fun n => ⟨⟨Tryz.f103.ntmps, 0⟩, 0, [(0, .d (aj 1 (ao .u64) a)), (3, .i .i64 n)], []⟩) (fun n => n) a.length ⟨Q4 _, rfl⟩ ?_ ?_
 ·(refine Le.by [] rfl rfl rfl rfl ?_ ?_ <;> (conv => whnf) <;> (repeat' (first | exact trivial | exact ac.rfl rfl | exact ac.ptr rfl | exact ac.sl rfl | ((with_reducible refine ac.fn ?_); (conv => whnf)) | ((refine ac.iref ?_); (conv => whnf)) | exact ⟨rfl, rfl, rfl⟩ | exact fun i hi => rfl | ((with_reducible refine And.intro ?_ ?_) <;> (conv => whnf)))))
 ·rintro n ⟨h1, h2⟩
  (repeat' (first | ((first | refine Wp.any aa rfl ?_ | (with_reducible first | refine Go.mk ?_ | apply ak.of)); conv => whnf) | with_reducible exact rfl | ((with_reducible refine Ov.ok zO ?_); conv => whnf) | (with_reducible refine Ov.sh1 (by with_unfolding_all exact rfl) ?_) | ((first | with_reducible refine Ov.quo (by omega) (by omega) (by omega) (fun _ _ => ?_) | refine zV ?_ | with_reducible refine And.intro zC ?_); conv => whnf) | ((with_reducible refine And.intro ?hb ?_); (case hb => exact zz0); (conv => whnf)) | ((refine ae.a rfl rfl rfl rfl rfl rfl ?hb ?_); (case hb => exact zB); (conv => whnf)) | ((refine ae.b rfl rfl rfl rfl rfl rfl rfl rfl ?hb ?ho ?_); (case hb => exact zB); (case ho => omega); (conv => whnf)) | ((refine ae.c rfl rfl rfl rfl rfl ?hb ?_); (case hb => exact zB); (conv => whnf)) | ((refine ae.d rfl rfl rfl rfl rfl rfl ?hb ?ho ?_); (case hb => exact zB); (case ho => omega); (conv => whnf)) | (with_reducible refine Or.inl ?_) | ((with_reducible refine IxA.ptr ?_); conv => whnf) | ((with_reducible refine nil_no (by omega) ?_); (conv => whnf)) | ((with_reducible refine af ?_ (fun hn0 => ?_)) <;> (conv => whnf)) | ((refine am (fun hc => ?_) (fun hc => ?_)) <;> (try simp only [wz9] at hc) <;> (try (exfalso; omega)) <;> (conv => whnf))))
  ·obtain ⟨m, rfl⟩ : ∃ m, n = m + 1 := ⟨n - 1, by omega⟩
   have e : ((m + 1 : Nat) : Int) - 1 = (m : Int) := by omega
   rw [e] at hc ⊢
   rw [Q13] at hc
   refine ⟨m, ⟨by omega, ?_⟩, by dsimp only; omega, ?_⟩
   ·rw [← h2, lC, if_pos hc]
   ·(refine Le.by [] rfl rfl rfl rfl ?_ ?_ <;> (conv => whnf) <;> (repeat' (first | exact trivial | exact ac.rfl rfl | exact ac.ptr rfl | exact ac.sl rfl | ((with_reducible refine ac.fn ?_); (conv => whnf)) | ((refine ac.iref ?_); (conv => whnf)) | exact ⟨rfl, rfl, rfl⟩ | exact fun i hi => rfl | ((with_reducible refine And.intro ?_ ?_) <;> (conv => whnf)))))
  ·have e : lC a a.length = n := by
    rw [← h2]
    obtain ⟨m, rfl⟩ : ∃ m, n = m + 1 := ⟨n - 1, by omega⟩
    rw [show (((m + 1 : Nat) : Int) - 1).toNat = m by omega] at hc
    rw [lC, if_neg hc]
   exact lc e
  ·have e : lC a a.length = n := by
    obtain rfl : n = 0 := by omega
    rw [← h2]; rfl
   exact lc e
def av : List Int → Int
 | [] => 0
 | x :: r => x + 4294967296 * av r
def Dg (a : List Int) : Prop := ∀ x ∈ a, 0 ≤ x ∧ x < 4294967296
def Nrm : List Int → Prop
 | [] => True
 | [x] => x ≠ 0
 | _ :: y :: r => Nrm (y :: r)
theorem Dg.nil : Dg [] := fun x hx => by cases hx
theorem Dg.tail {x : Int} {r : List Int} (h : Dg (x :: r)) : Dg r := fun y hy => h y (List.mem_cons_of_mem _ hy)
theorem Dg.head {x : Int} {r : List Int} (h : Dg (x :: r)) : 0 ≤ x ∧ x < 4294967296 := h x (List.mem_cons_self ..)
theorem Dg.cons {x : Int} {r : List Int} (hx : 0 ≤ x ∧ x < 4294967296) (h : Dg r) : Dg (x :: r) := fun y hy => by
 rcases Q22 hy with rfl | hy
 ·exact hx
 ·exact h y hy
theorem Dg.app {a b : List Int} (ha : Dg a) (hb : Dg b) : Dg (a ++ b) := fun y hy => by
 rcases List.mem_append.1 hy with hy | hy
 ·exact ha y hy
 ·exact hb y hy
theorem Dg.one {x : Int} (hx : 0 ≤ x ∧ x < 4294967296) : Dg [x] := .cons hx .nil
theorem Dg.take {a : List Int} (h : Dg a) (n : Nat) : Dg (a.take n) := fun y hy => h y (List.mem_of_mem_take hy)
theorem Dg.at_ {a : List Int} (h : Dg a) (n : Nat) : 0 ≤ a.getD n default ∧ a.getD n default < 4294967296 := by
 rw [Q1]
 cases e : a[n]? with
 | none => exact ⟨by decide, by decide⟩
 | some x => exact h x (List.mem_of_getElem? e)
theorem Dg.set {a : List Int} (h : Dg a) (n : Nat) {x : Int} (hx : 0 ≤ x ∧ x < 4294967296) : Dg (a.set n x) := fun y hy => by
 rcases List.mem_or_eq_of_mem_set hy with hy | rfl
 ·exact h y hy
 ·exact hx
theorem kE : ∀ {a : List Int}, Dg a → 0 ≤ av a
 | [], _ => Int.le_refl _
 | x :: r, h => by have := h.head; have := kE h.tail; unfold av; omega
def pw (n : Nat) : Int := 4294967296 ^ n
theorem dl (n : Nat) : pw (n + 1) = 4294967296 * pw n := by unfold pw; rw [Int.pow_succ, Int.mul_comm]
theorem c6 (n : Nat) : 0 < pw n := by unfold pw; exact Int.pow_pos (by decide)
theorem jn (m n : Nat) : pw (m + n) = pw m * pw n := by unfold pw; exact Int.pow_add ..
theorem jc : ∀ {a : List Int}, Dg a → av a < pw a.length
 | [], _ => by show (0 : Int) < pw 0; exact c6 0
 | x :: r, h => by
  have h1 := h.head
  have h2 := jc h.tail
  unfold av
  rw [List.length_cons, dl]
  omega
theorem hU : ∀ (a b : List Int), av (a ++ b) = av a + pw a.length * av b
 | [], b => by
  show av b = 0 + pw 0 * av b
  have : pw 0 = 1 := rfl
  rw [this]; omega
 | x :: a, b => by
  show x + 4294967296 * av (a ++ b) = (x + 4294967296 * av a) + pw (a.length + 1) * av b
  rw [hU a b, dl, Int.mul_add, Int.mul_assoc]
  omega
theorem g9 (x : Int) : av [x] = x := by unfold av; unfold av; omega
theorem kD (a : List Int) (x : Int) : av (a ++ [x]) = av a + pw a.length * x := by rw [hU, g9]
theorem kG {a : List Int} {n : Nat} (h : n < a.length) : a.take (n + 1) = a.take n ++ [a.getD n default] := by
 rw [List.take_add_one, Q0 h, Q1, Q0 h]; rfl
theorem cN {a : List Int} {n : Nat} (h : n < a.length) : av (a.take (n + 1)) = av (a.take n) + pw n * a.getD n default := by
 rw [kG h, kD, Q10, Nat.min_eq_left (by omega)]
theorem Nrm.snoc : ∀ {a : List Int} {x : Int}, x ≠ 0 → Nrm (a ++ [x])
 | [], _, h => h
 | [_], _, h => h
 | _ :: y :: r, _, h => Nrm.snoc (a := y :: r) h
theorem ny (a : List Int) : ∀ n, n ≤ a.length → av (a.take (lC a n)) = av (a.take n) ∧ Nrm (a.take (lC a n))
 | 0, _ => ⟨rfl, trivial⟩
 | n + 1, h => by
  obtain ⟨h1, h2⟩ := ny a n (by omega)
  unfold lC
  by_cases e : a.getD n default = 0
  ·rw [if_pos e]
   refine ⟨?_, h2⟩
   rw [h1, cN (by omega), e]; omega
  ·rw [if_neg e]
   refine ⟨rfl, ?_⟩
   rw [kG (by omega)]
   exact Nrm.snoc e
theorem pK (a : List Int) : av (eM a) = av a := by
 unfold eM
 rw [(ny a a.length (Q4 _)).1, List.take_length]
theorem pL (a : List Int) : Nrm (eM a) := (ny a a.length (Q4 _)).2
theorem norm_dg {a : List Int} (h : Dg a) : Dg (eM a) := h.take _
theorem Nrm.tail : ∀ {x : Int} {r : List Int}, Nrm (x :: r) → Nrm r
 | _, [], _ => trivial
 | _, _ :: _, h => h
theorem nrm_0 : ∀ {a : List Int}, Dg a → Nrm a → av a = 0 → a = []
 | [], _, _, _ => rfl
 | x :: r, h, hn, h0 => by
  have h1 := h.head
  have h2 := kE h.tail
  unfold av at h0
  have h3 : av r = 0 := by omega
  have := nrm_0 h.tail hn.tail h3
  subst this
  have hn : x ≠ 0 := hn
  omega
theorem mW : ∀ {a b : List Int}, Dg a → Dg b → Nrm a → Nrm b → av a = av b → a = b
 | [], b, _, hb, _, nb, e => (nrm_0 hb nb e.symm).symm
 | x :: r, [], ha, _, na, _, e => nrm_0 ha na e
 | x :: r, y :: s, ha, hb, na, nb, e => by
  have h1 := ha.head
  have h2 := hb.head
  unfold av at e
  have h3 : x = y := by omega
  have h4 : av r = av s := by omega
  rw [h3, mW ha.tail hb.tail na.tail nb.tail h4]
theorem mV : ∀ {a : List Int}, Dg a → Nrm a → a ≠ [] → pw (a.length - 1) ≤ av a
 | [], _, _, h => absurd rfl h
 | [x], h, hn, _ => by
  have := h.head
  have hn : x ≠ 0 := hn
  rw [g9]
  show pw 0 ≤ x
  have : pw 0 = 1 := rfl
  omega
 | x :: y :: r, h, hn, _ => by
  have h1 := h.head
  have h2 := mV h.tail hn.tail (by simp)
  have e : (x :: y :: r).length - 1 = ((y :: r).length - 1) + 1 := by simp
  rw [e, dl]
  have : av (x :: y :: r) = x + 4294967296 * av (y :: r) := rfl
  omega
theorem qw {a b : List Int} (ha : Dg a) (hb : Dg b) (nb : Nrm b) (h : a.length < b.length) : av a < av b := by
 have h1 := jc ha
 have h2 := mV hb nb (by intro e; subst e; simp at h)
 have h3 : pw a.length ≤ pw (b.length - 1) := by
  obtain ⟨k, hk⟩ : ∃ k, b.length - 1 = a.length + k := ⟨b.length - 1 - a.length, by omega⟩
  rw [hk, jn]
  have := c6 a.length
  have hk := c6 k
  have : pw a.length * 1 ≤ pw a.length * pw k := Int.mul_le_mul_of_nonneg_left (by omega) (by omega)
  omega
 omega
def natF : Nat → Int → List Int
 | 0, _ => []
 | f + 1, n => if n = 0 then [] else n % 4294967296 :: natF f (n / 4294967296)
theorem mX : ∀ (f : Nat) (n : Int), 0 ≤ n → n < pw f → Dg (natF f n) ∧ Nrm (natF f n) ∧ av (natF f n) = n
 | 0, n, h0, h1 => by
  have : pw 0 = 1 := rfl
  exact ⟨.nil, trivial, by show (0 : Int) = n; omega⟩
 | f + 1, n, h0, h1 => by
  unfold natF
  by_cases e : n = 0
  ·rw [if_pos e]; exact ⟨.nil, trivial, by show (0 : Int) = n; omega⟩
  ·rw [if_neg e]
   rw [dl] at h1
   obtain ⟨g1, g2, g3⟩ := mX f (n / 4294967296) (by omega) (by omega)
   refine ⟨.cons (by omega) g1, ?_, by unfold av; rw [g3]; omega⟩
   cases hr : natF f (n / 4294967296) with
   | nil =>
    rw [hr] at g3
    have g3 : (0 : Int) = n / 4294967296 := g3
    show n % 4294967296 ≠ 0
    omega
   | cons y r => rw [hr] at g2; exact g2
def ge (n : Int) : List Int := natF 8 n
@[reducible] def big : Int := 115792089237316195423570985008687907853269984665640564039457584007913129639936
theorem cl {n : Int} (h0 : 0 ≤ n) (h1 : n < big) : Dg (ge n) ∧ Nrm (ge n) ∧ av (ge n) = n := mX 8 n h0 (by have : pw 8 = big := (by decide +kernel); omega)
theorem la {a : List Int} (h : Dg a) (h1 : av a < big) : eM a = ge (av a) := by
 obtain ⟨g1, g2, g3⟩ := cl (kE h) h1
 exact mW (norm_dg h) g1 (pL a) g2 (by rw [pK, g3])
theorem oe {n : Int} (h0 : 0 ≤ n) (h1 : n < 18446744073709551616) : jb n = ge n := by
 obtain ⟨g1, g2, g3⟩ := cl h0 (show n < big by unfold big; omega)
 refine (mW g1 ?_ g2 ?_ ?_).symm
 ·unfold jb
  split
  ·exact .nil
  ·split
   ·exact .one (by omega)
   ·exact .cons (by omega) (.one (by omega))
 ·unfold jb
  split
  ·trivial
  ·split
   ·show n % 4294967296 ≠ 0; omega
   ·show n / 4294967296 ≠ 0; omega
 ·rw [g3]
  unfold jb
  split
  ·show n = 0; omega
  ·split
   ·rw [g9]; omega
   ·show n = n % 4294967296 + 4294967296 * av [n / 4294967296]
    rw [g9]; omega
theorem qn {a b : List Int} (ha : Dg a) (hb : Dg b) {i : Nat} (hi : i < a.length) (hl : a.length = b.length) (he : ∀ j, i < j → j < a.length → a.getD j default = b.getD j default) (hlt : a.getD i default < b.getD i default) : av a < av b := by
 have hd : a.drop (i + 1) = b.drop (i + 1) := by
  refine List.ext_getElem (by simp [hl]) fun j h1 h2 => ?_
  rw [List.length_drop] at h1
  have := he (i + 1 + j) (by omega) (by omega)
  rw [Q1, Q1, Q0 (by omega), Q0 (by omega)] at this
  simpa using this
 have e1 : av a = av (a.take (i + 1)) + pw (i + 1) * av (a.drop (i + 1)) := by
  have := hU (a.take (i + 1)) (a.drop (i + 1))
  rw [List.take_append_drop, Q10, Nat.min_eq_left (by omega)] at this
  exact this
 have e2 : av b = av (b.take (i + 1)) + pw (i + 1) * av (a.drop (i + 1)) := by
  have := hU (b.take (i + 1)) (b.drop (i + 1))
  rw [List.take_append_drop, Q10, Nat.min_eq_left (by omega), ← hd] at this
  exact this
 rw [cN hi] at e1
 rw [cN (by omega)] at e2
 have h1 := jc (ha.take i)
 rw [Q10, Nat.min_eq_left (by omega)] at h1
 have h2 := kE (hb.take i)
 have h3 : pw i * (a.getD i default + 1) ≤ pw i * b.getD i default := Int.mul_le_mul_of_nonneg_left (by omega) (Int.le_of_lt (c6 i))
 rw [Int.mul_add, Int.mul_one] at h3
 omega
theorem jW : ∀ {c : List Int} {k : Nat} (x : Int), k < c.length → av (c.set k x) = av c + pw k * (x - c.getD k default)
 | y :: c, 0, x, _ => by
  show x + 4294967296 * av c = (y + 4294967296 * av c) + pw 0 * (x - y)
  have : pw 0 = 1 := rfl
  rw [this]; omega
 | y :: c, k + 1, x, h => by
  show y + 4294967296 * av (c.set k x) = (y + 4294967296 * av c) + pw (k + 1) * (x - c.getD k default)
  rw [jW x (by simpa using h), dl, Int.mul_add, Int.mul_assoc]
  omega
theorem kC (a : List Int) (i : Nat) : av (a.take (i + 1)) = av (a.take i) + pw i * (if i < a.length then a.getD i default else 0) := by
 by_cases h : i < a.length
 ·rw [if_pos h, cN h]
 ·rw [if_neg h, Q21 (by omega), Q21 (by omega)]; omega
theorem mB (s : Int) : s % 4294967296 + 4294967296 * (s / 4294967296) = s := by omega
theorem mP {a b c : List Int} {i : Nat} {carry s x y : Int} (hc : c.length = i) (h : av c + carry * pw i = av (a.take i) + av (b.take i)) (hx : x = if i < a.length then a.getD i default else 0) (hy : y = if i < b.length then b.getD i default else 0) (hs : s = carry + x + y) :
  av (c ++ [s % 4294967296]) + s / 4294967296 * pw (i + 1) = av (a.take (i + 1)) + av (b.take (i + 1)) := by
 rw [kC, kC, ← hx, ← hy, kD, hc, dl]
 have e1 : s / 4294967296 * (4294967296 * pw i) = pw i * (4294967296 * (s / 4294967296)) := by
  rw [Int.mul_comm (s / 4294967296), Int.mul_comm 4294967296 (pw i), Int.mul_assoc]
 have e2 : pw i * (s % 4294967296) + pw i * (4294967296 * (s / 4294967296)) = pw i * s := by rw [← Int.mul_add, mB]
 have e3 : pw i * s = carry * pw i + pw i * x + pw i * y := by rw [hs, Int.mul_add, Int.mul_add, Int.mul_comm carry]
 omega
theorem lQ {b c : List Int} {i j : Nat} {p q carry s : Int} (hj : j < b.length) (hk : i + j < c.length) (h : av c + carry * pw (i + j) = p + q * av (b.take j) * pw i) (hs : s = carry + (q * b.getD j default + c.getD (i + j) default)) :
  av (c.set (i + j) (s % 4294967296)) + s / 4294967296 * pw (i + (j + 1)) = p + q * av (b.take (j + 1)) * pw i := by
 rw [jW _ hk, cN hj, ← Nat.add_assoc, dl]
 have e1 : s / 4294967296 * (4294967296 * pw (i + j)) = pw (i + j) * (4294967296 * (s / 4294967296)) := by
  rw [Int.mul_comm (s / 4294967296), Int.mul_comm 4294967296 (pw (i + j)), Int.mul_assoc]
 have e2 : pw (i + j) * (s % 4294967296) + pw (i + j) * (4294967296 * (s / 4294967296)) = pw (i + j) * s := by rw [← Int.mul_add, mB]
 have e3 : pw (i + j) * s = carry * pw (i + j) + pw (i + j) * (q * b.getD j default) + pw (i + j) * c.getD (i + j) default := by rw [hs, Int.mul_add, Int.mul_add, Int.mul_comm carry]; omega
 have e4 : pw (i + j) * (s % 4294967296 - c.getD (i + j) default) = pw (i + j) * (s % 4294967296) - pw (i + j) * c.getD (i + j) default := Int.mul_sub ..
 have e5 : q * (av (b.take j) + pw j * b.getD j default) * pw i = q * av (b.take j) * pw i + pw (i + j) * (q * b.getD j default) := by
  rw [Int.mul_add, Int.add_mul, jn]
  congr 1
  rw [Int.mul_left_comm q (pw j), Int.mul_comm (pw j * (q * b.getD j default)) (pw i), ← Int.mul_assoc]
 omega
theorem mu {a b c : List Int} {i : Nat} {carry : Int} (hi : i < a.length) (hk : i + b.length < c.length) (h0 : c.getD (i + b.length) default = 0) (h : av c + carry * pw (i + b.length) = av (a.take i) * av b + a.getD i default * av b * pw i) :
  av (c.set (i + b.length) (c.getD (i + b.length) default + carry)) = av (a.take (i + 1)) * av b := by
 rw [jW _ hk, h0, cN hi, Int.add_mul]
 have e1 : pw i * a.getD i default * av b = a.getD i default * av b * pw i := by rw [Int.mul_comm (pw i), Int.mul_right_comm]
 rw [e1, Int.zero_add, Int.sub_zero, Int.mul_comm (pw _) carry]
 exact h
def p8 (x y : Int) : Int := if x < y then -1 else if y < x then 1 else 0
theorem all_eq {a b : List Int} (hl : a.length = b.length) (h : ∀ j, j < a.length → a.getD j default = b.getD j default) : a = b := by
 refine List.ext_getElem hl fun j h1 h2 => ?_
 have := h j h1
 rw [Q1, Q1, Q0 h1, Q0 h2] at this
 simpa using this
theorem e7 (zs : List Int) (t : Int) : ∀ k, k < zs.length + 1 → bh zs.length (fun i => ao IntKind.u64 (zs.getD i default)) (fun i => a6 [D.val (.int .u64 t)] 1 (0 + i)) k = ao .u64 ((zs ++ [t]).getD k default) := fun k hk => by
 simp only [bh]
 by_cases e : k < zs.length
 ·rw [if_pos e, Q1, Q1, Q11 e]
 ·rw [if_neg e]
  obtain rfl : k = zs.length := by omega
  have : (zs ++ [t]).getD zs.length default = t := by simp
  rw [Nat.sub_self, this]; rfl
structure mc (a b : List Int) (i : Nat) (c : List Int) (carry : Int) : Prop where
 len : c.length = i
 dg : Dg c
 cr : 0 ≤ carry ∧ carry ≤ 1
 val : av c + carry * pw i = av (a.take i) + av (b.take i)
 hi : i ≤ max a.length b.length + 1
 last : i = max a.length b.length + 1 → carry = 0
theorem mc.next {a b c : List Int} {i : Nat} {carry s x y : Int} (ha : Dg a) (hb : Dg b) (h : mc a b i c carry) (hx : x = if i < a.length then a.getD i default else 0) (hy : y = if i < b.length then b.getD i default else 0) (hs : s = carry + x + y) (hgo : i < a.length ∨ i < b.length ∨ 0 < carry) : mc a b (i + 1) (c ++ [s % 4294967296]) (s / 4294967296) := by
  have hxb : 0 ≤ x ∧ x < 4294967296 := by rw [hx]; split; · exact ha.at_ i
                                          · omega
  have hyb : 0 ≤ y ∧ y < 4294967296 := by rw [hy]; split; · exact hb.at_ i
                                          · omega
  have hcr := h.cr
  have hhi := h.hi
  have hla := h.last
  have hlt : i < max a.length b.length + 1 := by
    rcases hgo with h9 | h9 | h9
    · omega
    · omega
    · exact Nat.lt_of_le_of_ne hhi fun e => by have := hla e; omega
  refine ⟨by rw [Q9, h.len]; rfl, h.dg.app (.one (by omega)), by omega, mP h.len h.val hx hy hs, by omega, fun e => ?_⟩
  have e9 : i = max a.length b.length := by omega
  rw [if_neg (by omega)] at hx hy
  omega
theorem mc.done {a b c : List Int} {i : Nat} {carry : Int} (ha : Dg a) (hb : Dg b) (hl : a.length ≤ 6 ∧ b.length ≤ 6) (h : mc a b i c carry) (h1 : a.length ≤ i) (h2 : b.length ≤ i) (h3 : carry = 0) : eM c = ge (av a + av b) ∧ av c = av a + av b := by
 have hv := h.val
 rw [h3, Q21 h1, Q21 h2, Int.zero_mul, Int.add_zero] at hv
 refine ⟨?_, hv⟩
 rw [← hv]
 refine la h.dg ?_
 have g1 := jc h.dg
 have g2 : pw c.length ≤ pw 7 := by
  have hc : c.length ≤ 7 := by have := h.len; have := h.hi; omega
  obtain ⟨k, hk⟩ : ∃ k, 7 = c.length + k := ⟨7 - c.length, by omega⟩
  rw [hk, jn]
  have := c6 c.length
  have hk := c6 k
  have : pw c.length * 1 ≤ pw c.length * pw k := Int.mul_le_mul_of_nonneg_left (by omega) (by omega)
  omega
 have g3 : pw 7 < big := by decide +kernel
 omega
theorem r1_Plus {a b : List Int} (ha : Dg a) (hb : Dg b) (hl : a.length ≤ 6 ∧ b.length ≤ 6) : Pure TC 94 [.d (aj 1 (ao .u64) a), .d (aj 1 (ao .u64) b)] (.d (aj 1 (ao .u64) (ge (av a + av b)))) := by
 refine Pure.mk' Tryz.func94 rfl rfl zN ?_
 (repeat' (first | ((first | refine Wp.any aa rfl ?_ | (with_reducible first | refine Go.mk ?_ | apply ak.of)); conv => whnf) | with_reducible exact rfl | ((with_reducible refine Ov.ok zO ?_); conv => whnf) | (with_reducible refine Ov.sh1 (by with_unfolding_all exact rfl) ?_) | ((first | with_reducible refine Ov.quo (by omega) (by omega) (by omega) (fun _ _ => ?_) | refine zV ?_ | with_reducible refine And.intro zC ?_); conv => whnf) | ((with_reducible refine And.intro ?hb ?_); (case hb => exact zz0); (conv => whnf)) | ((refine ae.a rfl rfl rfl rfl rfl rfl ?hb ?_); (case hb => exact zB); (conv => whnf)) | ((refine ae.b rfl rfl rfl rfl rfl rfl rfl rfl ?hb ?ho ?_); (case hb => exact zB); (case ho => omega); (conv => whnf)) | ((refine ae.c rfl rfl rfl rfl rfl ?hb ?_); (case hb => exact zB); (conv => whnf)) | ((refine ae.d rfl rfl rfl rfl rfl rfl ?hb ?ho ?_); (case hb => exact zB); (case ho => omega); (conv => whnf)) | (with_reducible refine Or.inl ?_) | ((with_reducible refine IxA.ptr ?_); conv => whnf) | ((with_reducible refine nil_no (by omega) ?_); (conv => whnf)) | ((with_reducible refine af ?_ (fun hn0 => ?_)) <;> (conv => whnf)) | ((refine am (fun hc => ?_) (fun hc => ?_)) <;> (try simp only [wz9] at hc) <;> (try (exfalso; omega)) <;> (conv => whnf))))
 refine Wp.le (Le.virt 5 142 1 (fun i => ao .u64 (([] : List Int).getD i default)) (by decide) rfl) ?_
 refine Wp.loopP (ι := Nat × List Int × Int) (fun k => mc a b k.1 k.2.1 k.2.2) (fun k => ⟨⟨Tryz.f94.ntmps, 0⟩, 1, [(0, .d (aj 1 (ao .u64) a)), (1, .d (aj 1 (ao .u64) b)), (5, .sl 0 1 0 k.2.1.length), (6, .i .u64 k.2.2), (7, .i .i64 k.1)], [(0, some (ap 142 1 (ao .u64) k.2.1))]⟩) (fun k => 8 - k.1) (0, [], 0) ⟨rfl, .nil, by dsimp only; omega, by simp [av], by dsimp only; omega, fun _ => rfl⟩ ?_ ?_
 ·(refine Le.by [0] rfl rfl rfl rfl ?_ ?_ <;> (conv => whnf) <;> (repeat' (first | exact trivial | exact ac.rfl rfl | exact ac.ptr rfl | exact ac.sl rfl | ((with_reducible refine ac.fn ?_); (conv => whnf)) | ((refine ac.iref ?_); (conv => whnf)) | exact ⟨rfl, rfl, rfl⟩ | exact fun i hi => rfl | ((with_reducible refine And.intro ?_ ?_) <;> (conv => whnf)))))
 ·rintro ⟨i, c, carry⟩ hI
  dsimp only at hI ⊢
  have h1 := hI.cr
  have h2 := hI.hi
  have h3 := hI.len
  have h4 := ha.at_ (i : Int).toNat
  have h5 := hb.at_ (i : Int).toNat
  have hD := fun (h : a.length ≤ i) (h' : b.length ≤ i) (h'' : carry = 0) => (hI.done ha hb hl h h' h'').1
  have hN := mL c
  have td := fun (s : Int) (h : 0 ≤ s) => Int.tdiv_eq_ediv_of_nonneg (b := 4294967296) h
  have tm := fun (s : Int) (h : 0 ≤ s) => Q6 (b := 4294967296) h
  have t1 := td (carry + a.getD (i : Int).toNat default + b.getD (i : Int).toNat default) (by omega)
  have t2 := td (carry + a.getD (i : Int).toNat default) (by omega)
  have t3 := td (carry + b.getD (i : Int).toNat default) (by omega)
  have t4 := td carry (by omega)
  have m1 := tm (carry + a.getD (i : Int).toNat default + b.getD (i : Int).toNat default) (by omega)
  have m2 := tm (carry + a.getD (i : Int).toNat default) (by omega)
  have m3 := tm (carry + b.getD (i : Int).toNat default) (by omega)
  have m4 := tm carry (by omega)
  clear td tm
  (repeat' (first | ((first | refine Wp.any aa rfl ?_ | (with_reducible first | refine Go.mk ?_ | apply ak.of)); conv => whnf) | with_reducible exact rfl | ((with_reducible refine Ov.ok zO ?_); conv => whnf) | (with_reducible refine Ov.sh1 (by with_unfolding_all exact rfl) ?_) | ((first | with_reducible refine Ov.quo (by omega) (by omega) (by omega) (fun _ _ => ?_) | refine zV ?_ | with_reducible refine And.intro zC ?_); conv => whnf) | ((with_reducible refine And.intro ?hb ?_); (case hb => exact zz0); (conv => whnf)) | ((refine ae.a rfl rfl rfl rfl rfl rfl ?hb ?_); (case hb => exact zB); (conv => whnf)) | ((refine ae.b rfl rfl rfl rfl rfl rfl rfl rfl ?hb ?ho ?_); (case hb => exact zB); (case ho => omega); (conv => whnf)) | ((refine ae.c rfl rfl rfl rfl rfl ?hb ?_); (case hb => exact zB); (conv => whnf)) | ((refine ae.d rfl rfl rfl rfl rfl rfl ?hb ?ho ?_); (case hb => exact zB); (case ho => omega); (conv => whnf)) | (with_reducible refine Or.inl ?_) | ((with_reducible refine IxA.ptr ?_); conv => whnf) | ((with_reducible refine nil_no (by omega) ?_); (conv => whnf)) | ((with_reducible refine af ?_ (fun hn0 => ?_)) <;> (conv => whnf)) | ((with_reducible refine ab.pureI hN rfl ?_); (conv => whnf); (refine And.intro (by omega) ?_); (refine And.intro (.cons (dw rfl fun i hi => by simp only [Q19]) .nil) ?_); (conv => whnf)) | ((refine am (fun hc => ?_) (fun hc => ?_)) <;> (try simp only [wz9] at hc) <;> (try (exfalso; omega)) <;> (conv => whnf))))
  ·refine ⟨(i + 1, c ++ [(carry + a.getD (i : Int).toNat default + b.getD (i : Int).toNat default) % 4294967296], (carry + a.getD (i : Int).toNat default + b.getD (i : Int).toNat default) / 4294967296), ?_, by dsimp only; omega, ?_⟩
   ·rw [Q13]
    exact hI.next ha hb (x := a.getD i default) (y := b.getD i default) (by rw [if_pos (by omega)]) (by rw [if_pos (by omega)]) rfl (by omega)
   ·dsimp only
    rw [← t1, ← m1]
    (refine Le.by [2] rfl rfl rfl rfl ?_ ?_ <;> (conv => whnf) <;> (repeat' (first | exact trivial | exact ac.rfl rfl | exact ac.ptr rfl | exact ac.sl rfl | ((with_reducible refine ac.fn ?_); (conv => whnf)) | ((refine ac.iref ?_); (conv => whnf)) | exact ⟨rfl, rfl, rfl⟩ | exact fun i hi => rfl | ((with_reducible refine And.intro ?_ ?_) <;> (conv => whnf)))))
    all_goals first
     | (rw [Q9]; exact ac.sl rfl)
     | rfl
     | (rw [Q9]; rfl)
     | exact e7 c _
  ·refine ⟨(i + 1, c ++ [(carry + a.getD (i : Int).toNat default) % 4294967296], (carry + a.getD (i : Int).toNat default) / 4294967296), ?_, by dsimp only; omega, ?_⟩
   ·rw [Q13]
    exact hI.next ha hb (x := a.getD i default) (y := 0) (by rw [if_pos (by omega)]) (by rw [if_neg (by omega)]) (by omega) (by omega)
   ·dsimp only
    rw [← t2, ← m2]
    (refine Le.by [2] rfl rfl rfl rfl ?_ ?_ <;> (conv => whnf) <;> (repeat' (first | exact trivial | exact ac.rfl rfl | exact ac.ptr rfl | exact ac.sl rfl | ((with_reducible refine ac.fn ?_); (conv => whnf)) | ((refine ac.iref ?_); (conv => whnf)) | exact ⟨rfl, rfl, rfl⟩ | exact fun i hi => rfl | ((with_reducible refine And.intro ?_ ?_) <;> (conv => whnf)))))
    all_goals first
     | (rw [Q9]; exact ac.sl rfl)
     | rfl
     | (rw [Q9]; rfl)
     | exact e7 c _
  ·refine ⟨(i + 1, c ++ [(carry + b.getD (i : Int).toNat default) % 4294967296], (carry + b.getD (i : Int).toNat default) / 4294967296), ?_, by dsimp only; omega, ?_⟩
   ·rw [Q13]
    exact hI.next ha hb (x := 0) (y := b.getD i default) (by rw [if_neg (by omega)]) (by rw [if_pos (by omega)]) (by omega) (by omega)
   ·dsimp only
    rw [← t3, ← m3]
    (refine Le.by [2] rfl rfl rfl rfl ?_ ?_ <;> (conv => whnf) <;> (repeat' (first | exact trivial | exact ac.rfl rfl | exact ac.ptr rfl | exact ac.sl rfl | ((with_reducible refine ac.fn ?_); (conv => whnf)) | ((refine ac.iref ?_); (conv => whnf)) | exact ⟨rfl, rfl, rfl⟩ | exact fun i hi => rfl | ((with_reducible refine And.intro ?_ ?_) <;> (conv => whnf)))))
    all_goals first
     | (rw [Q9]; exact ac.sl rfl)
     | rfl
     | (rw [Q9]; rfl)
     | exact e7 c _
  ·refine ⟨(i + 1, c ++ [carry % 4294967296], carry / 4294967296), ?_, by dsimp only; omega, ?_⟩
   ·exact hI.next ha hb (x := 0) (y := 0) (by rw [if_neg (by omega)]) (by rw [if_neg (by omega)]) (by omega) (by omega)
   ·dsimp only
    rw [← t4, ← m4]
    (refine Le.by [2] rfl rfl rfl rfl ?_ ?_ <;> (conv => whnf) <;> (repeat' (first | exact trivial | exact ac.rfl rfl | exact ac.ptr rfl | exact ac.sl rfl | ((with_reducible refine ac.fn ?_); (conv => whnf)) | ((refine ac.iref ?_); (conv => whnf)) | exact ⟨rfl, rfl, rfl⟩ | exact fun i hi => rfl | ((with_reducible refine And.intro ?_ ?_) <;> (conv => whnf)))))
    all_goals first
     | (rw [Q9]; exact ac.sl rfl)
     | rfl
     | (rw [Q9]; rfl)
     | exact e7 c _
  ·rw [hD (by omega) (by omega) (by omega)]; exact .rfl _
structure eI (a b : List Int) (i : Nat) (c : List Int) : Prop where
 len : c.length = a.length + b.length
 dg : Dg c
 val : av c = av (a.take i) * av b
 tail : ∀ k, i + b.length ≤ k → c.getD k default = 0
structure f9 (a b : List Int) (i j : Nat) (c : List Int) (carry : Int) : Prop where
 len : c.length = a.length + b.length
 dg : Dg c
 cr : 0 ≤ carry ∧ carry < 4294967296
 val : av c + carry * pw (i + j) = av (a.take i) * av b + a.getD i default * av (b.take j) * pw i
 tail : ∀ k, i + b.length ≤ k → c.getD k default = 0
theorem iL (c : List Int) (k : Nat) (x : Int) (j : Nat) (hk : k < c.length) : (c.set k x).getD j default = if j = k then x else c.getD j default := by
 rw [Q1, Q1, List.getElem?_set]
 by_cases h : k = j
 ·subst h; rw [if_pos rfl, if_pos rfl, if_pos hk]; rfl
 ·rw [if_neg h, if_neg (fun e => h e.symm)]
theorem qu {x y : Int} (hx : 0 ≤ x ∧ x < 4294967296) (hy : 0 ≤ y ∧ y < 4294967296) : 0 ≤ x * y ∧ x * y ≤ 18446744065119617025 := by
 refine ⟨Int.mul_nonneg hx.1 hy.1, ?_⟩
 have h1 : x * y ≤ 4294967295 * y := Int.mul_le_mul_of_nonneg_right (by omega) hy.1
 omega
theorem eI.start {a b c : List Int} {i : Nat} (h : eI a b i c) : f9 a b i 0 c 0 := ⟨h.len, h.dg, by omega, by rw [h.val]; simp [av], h.tail⟩
theorem f9.next {a b c : List Int} {i j : Nat} {carry s : Int} (ha : Dg a) (hb : Dg b) (hi : i < a.length) (hj : j < b.length) (h : f9 a b i j c carry) (hs : s = carry + (a.getD i default * b.getD j default + c.getD (i + j) default)) : f9 a b i (j + 1) (c.set (i + j) (s % 4294967296)) (s / 4294967296) := by
 have hl := h.len
 have h1 := qu (ha.at_ i) (hb.at_ j)
 have h2 := h.dg.at_ (i + j)
 have h3 := h.cr
 refine ⟨by rw [List.length_set]; exact h.len, h.dg.set _ (by omega), by omega, lQ hj (by omega) h.val hs, fun k hk => ?_⟩
 rw [iL _ _ _ _ (by omega), if_neg (by omega)]
 exact h.tail k hk
theorem f9.done {a b c : List Int} {i : Nat} {carry : Int} (hi : i < a.length) (h : f9 a b i b.length c carry) : eI a b (i + 1) (c.set (i + b.length) (c.getD (i + b.length) default + carry)) := by
 have hl := h.len
 have h0 := h.tail (i + b.length) (Q4 _)
 have h3 := h.cr
 have hv := h.val
 rw [Q21 (Q4 _)] at hv
 refine ⟨by rw [List.length_set]; exact h.len, h.dg.set _ (by omega), mu hi (by omega) h0 hv, fun k hk => ?_⟩
 rw [iL _ _ _ _ (by omega), if_neg (by omega)]
 exact h.tail k (by omega)
theorem eI.fin {a b c : List Int} (hl : a.length ≤ 3 ∧ b.length ≤ 3) (h : eI a b a.length c) : eM c = ge (av a * av b) := by
 have hv := h.val
 rw [Q21 (Q4 _)] at hv
 rw [← hv]
 refine la h.dg ?_
 have g1 := jc h.dg
 have g2 : pw c.length ≤ pw 7 := by
  have hc : c.length ≤ 7 := by have := h.len; omega
  obtain ⟨k, hk⟩ : ∃ k, 7 = c.length + k := ⟨7 - c.length, by omega⟩
  rw [hk, jn]
  have := c6 c.length
  have hk := c6 k
  have : pw c.length * 1 ≤ pw c.length * pw k := Int.mul_le_mul_of_nonneg_left (by omega) (by omega)
  omega
 have g3 : pw 7 < big := by decide +kernel
 omega
theorem eI.zero (a b : List Int) : eI a b 0 (List.replicate (a.length + b.length) 0) := by
 have hz : ∀ n, av (List.replicate n 0) = 0 := fun n => by
  induction n with
  | zero => rfl
  | succ n ih => rw [List.replicate_succ]; show (0 : Int) + 4294967296 * av (List.replicate n 0) = 0; rw [ih]; rfl
 refine ⟨by simp, fun x hx => by rw [List.eq_of_mem_replicate hx]; omega, by rw [hz]; simp [av], fun k _ => ?_⟩
 rw [Q1, List.getElem?_replicate]
 split <;> rfl
theorem kM {d : List Int} {k : Nat} (v : Int) (hk : k < d.length) (q : Nat) : (if q = k then [D.val (.int .u64 v)] else ao .u64 (d.getD q default)) = ao .u64 ((d.set k v).getD q default) := by
 rw [iL _ _ _ _ hk]
 split <;> rfl
theorem pB {a b : List Int} (ha : Dg a) (hb : Dg b) (hl : a.length ≤ 3 ∧ b.length ≤ 3) : Pure TC 95 [.d (aj 1 (ao .u64) a), .d (aj 1 (ao .u64) b)] (.d (aj 1 (ao .u64) (ge (av a * av b)))) := by
  refine Pure.mk' Tryz.func95 rfl rfl zN ?_
  (repeat' (first | ((first | refine Wp.any aa rfl ?_ | (with_reducible first | refine Go.mk ?_ | apply ak.of)); conv => whnf) | with_reducible exact rfl | ((with_reducible refine Ov.ok zO ?_); conv => whnf) | (with_reducible refine Ov.sh1 (by with_unfolding_all exact rfl) ?_) | ((first | with_reducible refine Ov.quo (by omega) (by omega) (by omega) (fun _ _ => ?_) | refine zV ?_ | with_reducible refine And.intro zC ?_); conv => whnf) | ((with_reducible refine And.intro ?hb ?_); (case hb => exact zz0); (conv => whnf)) | ((refine ae.a rfl rfl rfl rfl rfl rfl ?hb ?_); (case hb => exact zB); (conv => whnf)) | ((refine ae.b rfl rfl rfl rfl rfl rfl rfl rfl ?hb ?ho ?_); (case hb => exact zB); (case ho => omega); (conv => whnf)) | ((refine ae.c rfl rfl rfl rfl rfl ?hb ?_); (case hb => exact zB); (conv => whnf)) | ((refine ae.d rfl rfl rfl rfl rfl rfl ?hb ?ho ?_); (case hb => exact zB); (case ho => omega); (conv => whnf)) | (with_reducible refine Or.inl ?_) | ((with_reducible refine IxA.ptr ?_); conv => whnf) | ((with_reducible refine nil_no (by omega) ?_); (conv => whnf)) | ((with_reducible refine af ?_ (fun hn0 => ?_)) <;> (conv => whnf)) | ((refine am (fun hc => ?_) (fun hc => ?_)) <;> (try simp only [wz9] at hc) <;> (try (exfalso; omega)) <;> (conv => whnf))))
  refine Wp.loopP (ι := Nat × List Int) (fun k => k.1 ≤ a.length ∧ eI a b k.1 k.2) (fun k => ⟨⟨Tryz.f95.ntmps, 0⟩, 1, [(0, .d (aj 1 (ao .u64) a)), (1, .d (aj 1 (ao .u64) b)), (5, .sl 0 1 0 k.2.length), (16, .i .i64 a.length), (17, .i .i64 k.1)], [(0, some (ap 142 1 (ao .u64) k.2))]⟩) (fun k => a.length - k.1) (0, List.replicate (a.length + b.length) 0) ⟨Nat.zero_le _, .zero a b⟩ ?_ ?_
  · (refine Le.by [0] rfl rfl rfl rfl ?_ ?_ <;> ((conv => whnf); repeat' (first | exact trivial | exact law_argR (by decide) (fun l hl => by rcases l with _ | _ | _ | _ | l <;> first | exact ⟨zzb rfl, rfl⟩ | exact ⟨zzb rfl, rfl, rfl⟩ | omega) (fun q hq => by rcases q with _ | _ | _ | _ | _ | _ | _ | _ | _ | q <;> first | exact ⟨zzb rfl, rfl⟩ | omega) | exact law_argI (by decide) (by decide) (fun l hl => by rcases l with _ | _ | _ | _ | l <;> first | exact ⟨zzb rfl, rfl⟩ | exact ⟨zzb rfl, rfl, rfl⟩ | omega) (fun q hq => by rcases q with _ | _ | _ | _ | _ | _ | _ | _ | _ | q <;> first | exact ⟨zzb rfl, rfl⟩ | omega) | exact ac.rfl rfl | exact ac.ptr rfl | exact ac.sl rfl | exact ac.free SV.Le.any rfl | exact ⟨rfl, rfl, rfl⟩ | exact ⟨rfl, zzb rfl⟩ | exact x_argRA (by assumption) rfl | exact x_argA (by assumption) | exact fun i hi => rfl | exact bB _ _ | ((with_reducible refine And.intro ?_ ?_) <;> (conv => whnf)))))
    all_goals first
      | (rw [show ((a.length : Int) + (b.length : Int)).toNat = (List.replicate (a.length + b.length) (0 : Int)).length by rw [List.length_replicate]; omega]; exact ac.sl rfl)
      | rfl
      | (show _ = (List.replicate (a.length + b.length) (0 : Int)).length; rw [List.length_replicate]; omega)
      | (intro k hk
         dsimp only
         rw [Q1, List.getElem?_replicate]
         split <;> rfl)
  · rintro ⟨i, c⟩ ⟨hi, hI⟩
    dsimp only at hi hI ⊢
    have hlc := hI.len
    by_cases hlt : i < a.length
    · have hst := hI.start
      (repeat' (first | ((first | refine Wp.any aa rfl ?_ | (with_reducible first | refine Go.mk ?_ | apply ak.of)); conv => whnf) | with_reducible exact rfl | ((with_reducible refine Ov.ok zO ?_); conv => whnf) | (with_reducible refine Ov.sh1 (by with_unfolding_all exact rfl) ?_) | ((first | with_reducible refine Ov.quo (by omega) (by omega) (by omega) (fun _ _ => ?_) | refine zV ?_ | with_reducible refine And.intro zC ?_); conv => whnf) | ((with_reducible refine And.intro ?hb ?_); (case hb => exact zz0); (conv => whnf)) | ((refine ae.a rfl rfl rfl rfl rfl rfl ?hb ?_); (case hb => exact zB); (conv => whnf)) | ((refine ae.b rfl rfl rfl rfl rfl rfl rfl rfl ?hb ?ho ?_); (case hb => exact zB); (case ho => omega); (conv => whnf)) | ((refine ae.c rfl rfl rfl rfl rfl ?hb ?_); (case hb => exact zB); (conv => whnf)) | ((refine ae.d rfl rfl rfl rfl rfl rfl ?hb ?ho ?_); (case hb => exact zB); (case ho => omega); (conv => whnf)) | (with_reducible refine Or.inl ?_) | ((with_reducible refine IxA.ptr ?_); conv => whnf) | ((with_reducible refine nil_no (by omega) ?_); (conv => whnf)) | ((with_reducible refine af ?_ (fun hn0 => ?_)) <;> (conv => whnf)) | ((refine am (fun hc => ?_) (fun hc => ?_)) <;> (try simp only [wz9] at hc) <;> (try (exfalso; omega)) <;> (conv => whnf))))
      refine Wp.loopP (ι := Nat × List Int × Int) (fun k => k.1 ≤ b.length ∧ f9 a b i k.1 k.2.1 k.2.2) (fun k => ⟨⟨Tryz.f95.ntmps, 0⟩, 1, [(0, .d (aj 1 (ao .u64) a)), (1, .d (aj 1 (ao .u64) b)), (5, .sl 0 1 0 k.2.1.length), (6, .i .i64 i), (7, .i .u64 k.2.2), (16, .i .i64 a.length), (17, .i .i64 i), (21, .i .i64 b.length), (22, .i .i64 k.1)], [(0, some (ap 142 1 (ao .u64) k.2.1))]⟩) (fun k => b.length - k.1) (0, c, 0) ⟨Nat.zero_le _, hst⟩ ?_ ?_
      · (refine Le.by [0] rfl rfl rfl rfl ?_ ?_ <;> (conv => whnf) <;> (repeat' (first | exact trivial | exact ac.rfl rfl | exact ac.ptr rfl | exact ac.sl rfl | ((with_reducible refine ac.fn ?_); (conv => whnf)) | ((refine ac.iref ?_); (conv => whnf)) | exact ⟨rfl, rfl, rfl⟩ | exact fun i hi => rfl | ((with_reducible refine And.intro ?_ ?_) <;> (conv => whnf)))))
      · rintro ⟨j, d, carry⟩ ⟨hj, hJ⟩
        dsimp only at hj hJ ⊢
        have hld := hJ.len
        have hcr := hJ.cr
        have e1 : 0 + ((i : Int) + (j : Int)).toNat = i + j := by omega
        have e2 : 0 + ((i : Int) + (b.length : Int)).toNat = i + b.length := by omega
        by_cases hjt : j < b.length
        · have hab := qu (ha.at_ (i : Int).toNat) (hb.at_ (j : Int).toNat)
          have hdd := hJ.dg.at_ (0 + ((i : Int) + (j : Int)).toNat)
          obtain ⟨s, hs⟩ : ∃ s, s = carry + (a.getD (i : Int).toNat default * b.getD (j : Int).toNat default + d.getD (0 + ((i : Int) + (j : Int)).toNat) default) := ⟨_, rfl⟩
          have td := Int.tdiv_eq_ediv_of_nonneg (a := carry + (a.getD (i : Int).toNat default * b.getD (j : Int).toNat default + d.getD (0 + ((i : Int) + (j : Int)).toNat) default)) (b := 4294967296) (by omega)
          have tm := Q6 (a := carry + (a.getD (i : Int).toNat default * b.getD (j : Int).toNat default + d.getD (0 + ((i : Int) + (j : Int)).toNat) default)) (b := 4294967296) (by omega)
          (repeat' (first | ((first | refine Wp.any aa rfl ?_ | (with_reducible first | refine Go.mk ?_ | apply ak.of)); conv => whnf) | with_reducible exact rfl | ((with_reducible refine Ov.ok zO ?_); conv => whnf) | (with_reducible refine Ov.sh1 (by with_unfolding_all exact rfl) ?_) | ((first | with_reducible refine Ov.quo (by omega) (by omega) (by omega) (fun _ _ => ?_) | refine zV ?_ | with_reducible refine And.intro zC ?_); conv => whnf) | ((with_reducible refine And.intro ?hb ?_); (case hb => exact zz0); (conv => whnf)) | ((refine ae.a rfl rfl rfl rfl rfl rfl ?hb ?_); (case hb => exact zB); (conv => whnf)) | ((refine ae.b rfl rfl rfl rfl rfl rfl rfl rfl ?hb ?ho ?_); (case hb => exact zB); (case ho => omega); (conv => whnf)) | ((refine ae.c rfl rfl rfl rfl rfl ?hb ?_); (case hb => exact zB); (conv => whnf)) | ((refine ae.d rfl rfl rfl rfl rfl rfl ?hb ?ho ?_); (case hb => exact zB); (case ho => omega); (conv => whnf)) | (with_reducible refine Or.inl ?_) | ((with_reducible refine IxA.ptr ?_); conv => whnf) | ((with_reducible refine nil_no (by omega) ?_); (conv => whnf)) | ((with_reducible refine af ?_ (fun hn0 => ?_)) <;> (conv => whnf)) | ((refine am (fun hc => ?_) (fun hc => ?_)) <;> (try simp only [wz9] at hc) <;> (try (exfalso; omega)) <;> (conv => whnf))))
          refine ⟨(j + 1, d.set (i + j) (s % 4294967296), s / 4294967296), ⟨by dsimp only; omega, ?_⟩, by dsimp only; omega, ?_⟩
          · refine hJ.next ha hb hlt hjt ?_
            rw [hs, e1, Q13, Q13]
          · dsimp only
            rw [hs, ← td, ← tm, List.length_set]
            (refine Le.by [0] rfl rfl rfl rfl ?_ ?_ <;> ((conv => whnf); repeat' (first | exact trivial | exact law_argR (by decide) (fun l hl => by rcases l with _ | _ | _ | _ | l <;> first | exact ⟨zzb rfl, rfl⟩ | exact ⟨zzb rfl, rfl, rfl⟩ | omega) (fun q hq => by rcases q with _ | _ | _ | _ | _ | _ | _ | _ | _ | q <;> first | exact ⟨zzb rfl, rfl⟩ | omega) | exact law_argI (by decide) (by decide) (fun l hl => by rcases l with _ | _ | _ | _ | l <;> first | exact ⟨zzb rfl, rfl⟩ | exact ⟨zzb rfl, rfl, rfl⟩ | omega) (fun q hq => by rcases q with _ | _ | _ | _ | _ | _ | _ | _ | _ | q <;> first | exact ⟨zzb rfl, rfl⟩ | omega) | exact ac.rfl rfl | exact ac.ptr rfl | exact ac.sl rfl | exact ac.free SV.Le.any rfl | exact ⟨rfl, rfl, rfl⟩ | exact ⟨rfl, zzb rfl⟩ | exact x_argRA (by assumption) rfl | exact x_argA (by assumption) | exact fun i hi => rfl | exact bB _ _ | ((with_reducible refine And.intro ?_ ?_) <;> (conv => whnf)))))
            all_goals first
              | exact (List.length_set ..).symm
              | (intro q _; rw [e1]; exact kM _ (by omega) q)
        · obtain rfl : j = b.length := by omega
          have hdd := hJ.dg.at_ (0 + ((i : Int) + (b.length : Int)).toNat)
          have ht := hJ.tail (i + b.length) (Q4 _)
          (repeat' (first | ((first | refine Wp.any aa rfl ?_ | (with_reducible first | refine Go.mk ?_ | apply ak.of)); conv => whnf) | with_reducible exact rfl | ((with_reducible refine Ov.ok zO ?_); conv => whnf) | (with_reducible refine Ov.sh1 (by with_unfolding_all exact rfl) ?_) | ((first | with_reducible refine Ov.quo (by omega) (by omega) (by omega) (fun _ _ => ?_) | refine zV ?_ | with_reducible refine And.intro zC ?_); conv => whnf) | ((with_reducible refine And.intro ?hb ?_); (case hb => exact zz0); (conv => whnf)) | ((refine ae.a rfl rfl rfl rfl rfl rfl ?hb ?_); (case hb => exact zB); (conv => whnf)) | ((refine ae.b rfl rfl rfl rfl rfl rfl rfl rfl ?hb ?ho ?_); (case hb => exact zB); (case ho => omega); (conv => whnf)) | ((refine ae.c rfl rfl rfl rfl rfl ?hb ?_); (case hb => exact zB); (conv => whnf)) | ((refine ae.d rfl rfl rfl rfl rfl rfl ?hb ?ho ?_); (case hb => exact zB); (case ho => omega); (conv => whnf)) | (with_reducible refine Or.inl ?_) | ((with_reducible refine IxA.ptr ?_); conv => whnf) | ((with_reducible refine nil_no (by omega) ?_); (conv => whnf)) | ((with_reducible refine af ?_ (fun hn0 => ?_)) <;> (conv => whnf)) | ((refine am (fun hc => ?_) (fun hc => ?_)) <;> (try simp only [wz9] at hc) <;> (try (exfalso; omega)) <;> (conv => whnf))))
          refine ⟨(i + 1, d.set (i + b.length) (d.getD (i + b.length) default + carry)), ⟨by dsimp only; omega, hJ.done hlt⟩, by dsimp only; omega, ?_⟩
          dsimp only
          rw [List.length_set]
          (refine Le.by [0] rfl rfl rfl rfl ?_ ?_ <;> ((conv => whnf); repeat' (first | exact trivial | exact law_argR (by decide) (fun l hl => by rcases l with _ | _ | _ | _ | l <;> first | exact ⟨zzb rfl, rfl⟩ | exact ⟨zzb rfl, rfl, rfl⟩ | omega) (fun q hq => by rcases q with _ | _ | _ | _ | _ | _ | _ | _ | _ | q <;> first | exact ⟨zzb rfl, rfl⟩ | omega) | exact law_argI (by decide) (by decide) (fun l hl => by rcases l with _ | _ | _ | _ | l <;> first | exact ⟨zzb rfl, rfl⟩ | exact ⟨zzb rfl, rfl, rfl⟩ | omega) (fun q hq => by rcases q with _ | _ | _ | _ | _ | _ | _ | _ | _ | q <;> first | exact ⟨zzb rfl, rfl⟩ | omega) | exact ac.rfl rfl | exact ac.ptr rfl | exact ac.sl rfl | exact ac.free SV.Le.any rfl | exact ⟨rfl, rfl, rfl⟩ | exact ⟨rfl, zzb rfl⟩ | exact x_argRA (by assumption) rfl | exact x_argA (by assumption) | exact fun i hi => rfl | exact bB _ _ | ((with_reducible refine And.intro ?_ ?_) <;> (conv => whnf)))))
          all_goals first
            | exact (List.length_set ..).symm
            | (intro q _; rw [e2]; exact kM _ (by omega) q)
    · obtain rfl : i = a.length := by omega
      have hN := mL c
      have hF := hI.fin hl
      (repeat' (first | ((first | refine Wp.any aa rfl ?_ | (with_reducible first | refine Go.mk ?_ | apply ak.of)); conv => whnf) | with_reducible exact rfl | ((with_reducible refine Ov.ok zO ?_); conv => whnf) | (with_reducible refine Ov.sh1 (by with_unfolding_all exact rfl) ?_) | ((first | with_reducible refine Ov.quo (by omega) (by omega) (by omega) (fun _ _ => ?_) | refine zV ?_ | with_reducible refine And.intro zC ?_); conv => whnf) | ((with_reducible refine And.intro ?hb ?_); (case hb => exact zz0); (conv => whnf)) | ((refine ae.a rfl rfl rfl rfl rfl rfl ?hb ?_); (case hb => exact zB); (conv => whnf)) | ((refine ae.b rfl rfl rfl rfl rfl rfl rfl rfl ?hb ?ho ?_); (case hb => exact zB); (case ho => omega); (conv => whnf)) | ((refine ae.c rfl rfl rfl rfl rfl ?hb ?_); (case hb => exact zB); (conv => whnf)) | ((refine ae.d rfl rfl rfl rfl rfl rfl ?hb ?ho ?_); (case hb => exact zB); (case ho => omega); (conv => whnf)) | (with_reducible refine Or.inl ?_) | ((with_reducible refine IxA.ptr ?_); conv => whnf) | ((with_reducible refine nil_no (by omega) ?_); (conv => whnf)) | ((with_reducible refine af ?_ (fun hn0 => ?_)) <;> (conv => whnf)) | ((with_reducible refine ab.pureI hN rfl ?_); (conv => whnf); (refine And.intro (by omega) ?_); (refine And.intro (.cons (dw rfl fun i hi => by simp only [Q19]) .nil) ?_); (conv => whnf)) | ((refine am (fun hc => ?_) (fun hc => ?_)) <;> (try simp only [wz9] at hc) <;> (try (exfalso; omega)) <;> (conv => whnf))))
      rw [hF]; exact .rfl _
theorem lX {a b : List Int} (ha : Dg a) (hb : Dg b) (na : Nrm a) (nb : Nrm b) : Pure TC 96 [.d (aj 1 (ao .u64) a), .d (aj 1 (ao .u64) b)] (.i .i64 (p8 (av a) (av b))) := by
 refine Pure.lens (.mk Tryz.func96 rfl rfl) fun hlen => ?_
 have hla := hlen a.length (by simp [bf, aj])
 have hlb := hlen b.length (by simp [bf, aj])
 clear hlen
 refine Pure.mk' Tryz.func96 rfl rfl zN ?_
 (repeat' (first | ((first | refine Wp.any aa rfl ?_ | (with_reducible first | refine Go.mk ?_ | apply ak.of | refine Ov.ok zO ?_)); conv => whnf) | ((refine am (fun hc => ?_) (fun hc => ?_)) <;> (try simp only [wz9] at hc) <;> (try (exfalso; omega)) <;> (conv => whnf))))
 ·have := qw ha hb nb (by omega)
  exact .i (by unfold p8; rw [if_pos this])
 ·have := qw hb ha na (by omega)
  exact .i (by unfold p8; rw [if_neg (by omega), if_pos this])
 have hl : a.length = b.length := by omega
 refine Wp.loopP (ι := Nat) (fun m => m ≤ a.length ∧ ∀ j, m ≤ j → j < a.length → a.getD j default = b.getD j default) (fun m => ⟨⟨Tryz.f96.ntmps, 0⟩, 0, [(0, .d (aj 1 (ao .u64) a)), (1, .d (aj 1 (ao .u64) b)), (5, .i .i64 ((m : Int) - 1))], []⟩) (fun m => m) a.length ⟨Q4 _, fun j h1 h2 => by omega⟩ ?_ ?_
 ·(refine Le.by [] rfl rfl rfl rfl ?_ ?_ <;> (conv => whnf) <;> (repeat' (first | exact trivial | exact ac.rfl rfl | ((with_reducible refine And.intro ?_ ?_) <;> (conv => whnf)))))
 ·rintro m ⟨h1, h2⟩
  (repeat' (first | ((first | refine Wp.any aa rfl ?_ | (with_reducible first | refine Go.mk ?_ | apply ak.of | refine Ov.ok zO ?_) | refine zV ?_ | with_reducible refine And.intro zC ?_); conv => whnf) | ((refine am (fun hc => ?_) (fun hc => ?_)) <;> (try simp only [wz9] at hc) <;> (try (exfalso; omega)) <;> (conv => whnf))))
  ·simp only [show ((m : Int) - 1).toNat = m - 1 by omega] at *
   have := qn ha hb (i := m - 1) (by omega) hl (fun j hj hj2 => h2 j (by omega) hj2) (by assumption)
   exact .i (by unfold p8; rw [if_pos this])
  ·simp only [show ((m : Int) - 1).toNat = m - 1 by omega] at *
   have := qn hb ha (i := m - 1) (by omega) hl.symm (fun j hj hj2 => (h2 j (by omega) (by omega)).symm) (by omega)
   exact .i (by unfold p8; rw [if_neg (by omega), if_pos this])
  ·simp only [show ((m : Int) - 1).toNat = m - 1 by omega] at *
   refine ⟨m - 1, ⟨by omega, fun j hj hj2 => ?_⟩, by omega, ?_⟩
   ·by_cases e : j = m - 1
    ·subst e; omega
    ·exact h2 j (by omega) hj2
   ·(refine Le.by [] rfl rfl rfl rfl ?_ ?_ <;> (conv => whnf) <;> (repeat' (first | exact trivial | exact ac.rfl rfl | ((with_reducible refine And.intro ?_ ?_) <;> (conv => whnf)))))
    all_goals exact ac.free (.i (by omega)) rfl
  ·have := all_eq hl fun j hj => h2 j (by omega) hj
   exact .i (by unfold p8; rw [this, if_neg (by omega), if_neg (by omega)])
section
def grB (T tau tat now n : Int) : Bool := decide (n = 0) || (decide (max tat now + (n - 1) * T ≤ now + tau) && decide (max tat now + n * T ≤ 4611686018427387903))
section
variable {T tau tat now n : Int}
theorem nd (hT : 1 ≤ T) (h3 : 0 ≤ tat ∧ tat ≤ 4611686018427387903) (h5 : 0 ≤ now ∧ now ≤ 4611686018427387903) (h0 : 0 ≤ n) : grB T tau tat now n = true ↔ n ≤ aV T tau tat now := by
 have hl := bN (tau := tau) hT h3.1 h3.2 h5.1 h5.2
 unfold grB
 rw [Q20, Q5, decide_eq_true_iff, decide_eq_true_iff, decide_eq_true_iff]
 by_cases hn : n = 0
 ·subst hn
  exact ⟨fun _ => hl.1, fun _ => .inl rfl⟩
 ·have e1 : (n - 1) * T ≤ tau - (max tat now - now) ↔ n - 1 ≤ (tau - (max tat now - now)) / T := (Int.le_ediv_iff_mul_le (by omega)).symm
  have e2 : n * T ≤ 4611686018427387903 - max tat now ↔ n ≤ (4611686018427387903 - max tat now) / T := (Int.le_ediv_iff_mul_le (by omega)).symm
  have h9 : 0 ≤ (n - 1) * T := Int.mul_nonneg (by omega) (by omega)
  unfold aV
  generalize (n - 1) * T = a at *
  generalize n * T = b at *
  generalize (tau - (max tat now - now)) / T = c at *
  generalize (4611686018427387903 - max tat now) / T = d at *
  split
  ·omega
  ·omega
theorem pS (hT : 1 ≤ T) (ht : 0 ≤ tau ∧ tau ≤ 4611686018427387903) (h3 : 0 ≤ tat ∧ tat ≤ 4611686018427387903) (h5 : 0 ≤ now ∧ now ≤ 4611686018427387903) (h1 : 1 ≤ n) (hg : grB T tau tat (max now tat) n = false) : cD T tau tat now n = 4611686018427387903 := by
 have e2 : n * T ≤ 4611686018427387903 - max tat now ↔ n ≤ (4611686018427387903 - max tat now) / T := (Int.le_ediv_iff_mul_le (by omega)).symm
 unfold grB at hg
 rw [Bool.or_eq_false_iff, Bool.and_eq_false_iff, decide_eq_false_iff_not, decide_eq_false_iff_not, decide_eq_false_iff_not] at hg
 unfold cD
 rw [if_neg]
 generalize (n - 1) * T = a at *
 generalize n * T = b at *
 generalize (4611686018427387903 - max tat now) / T = d at *
 omega
theorem gr_wait (hT : 1 ≤ T) (ht : 0 ≤ tau ∧ tau ≤ 4611686018427387903) (h3 : 0 ≤ tat ∧ tat ≤ 4611686018427387903) (h5 : 0 ≤ now ∧ now ≤ 4611686018427387903) (h1 : 1 ≤ n) (hg : grB T tau tat (max now tat) n = true) (hn : grB T tau tat now n = false) :
  0 ≤ cD T tau tat now n ∧ cD T tau tat now n ≤ max now tat - now ∧ ∀ w, 0 ≤ w → w ≤ max now tat - now → (grB T tau tat (now + w) n = true ↔ cD T tau tat now n ≤ w) := by
 have e2 : n * T ≤ 4611686018427387903 - max tat now ↔ n ≤ (4611686018427387903 - max tat now) / T := (Int.le_ediv_iff_mul_le (by omega)).symm
 have h9 : 0 ≤ (n - 1) * T := Int.mul_nonneg (by omega) (by omega)
 unfold grB at hn hg
 rw [Bool.or_eq_false_iff, Bool.and_eq_false_iff, decide_eq_false_iff_not, decide_eq_false_iff_not, decide_eq_false_iff_not] at hn
 rw [Q20, Q5, decide_eq_true_iff, decide_eq_true_iff, decide_eq_true_iff] at hg
 have hw : cD T tau tat now n = tat - now - (tau - (n - 1) * T) := by
  unfold cD
  rw [if_pos]
  generalize (n - 1) * T = a at *
  generalize n * T = b at *
  generalize (4611686018427387903 - max tat now) / T = d at *
  omega
 rw [hw]
 unfold grB
 generalize (n - 1) * T = a at *
 generalize n * T = b at *
 refine ⟨by omega, by omega, fun w w0 w1 => ?_⟩
 rw [Q20, Q5, decide_eq_true_iff, decide_eq_true_iff, decide_eq_true_iff]
 omega
end
end
theorem iC {n : Int} {k : Nat} (h0 : 0 ≤ n) (h1 : n < pw k) (hb : n < big) : (ge n).length ≤ k := by
 obtain ⟨g1, g2, g3⟩ := cl h0 hb
 refine Classical.byContradiction fun hk => ?_
 have h2 := mV g1 g2 (fun e => by rw [e] at hk; exact hk (Nat.zero_le _))
 rw [g3] at h2
 obtain ⟨j, hj⟩ : ∃ j, (ge n).length - 1 = k + j := ⟨(ge n).length - 1 - k, by omega⟩
 rw [hj, jn] at h2
 have := c6 k
 have hk := c6 j
 have : pw k * 1 ≤ pw k * pw j := Int.mul_le_mul_of_nonneg_left (by omega) (by omega)
 omega
theorem pw2 : pw 2 = 18446744073709551616 := by decide +kernel
theorem pw6 : pw 6 = 6277101735386680763835789423207666416102355444464034512896 := by decide +kernel
theorem dk (t : Int) (h : 0 ≤ t ∧ t ≤ 4611686018427387903) : Pure TC 93 [.i .i64 t] (.d (aj 1 (ao .u64) (ge t))) := by
 refine Pure.mk' Tryz.func93 rfl rfl zN ?_
 (repeat' (first | ((first | refine Wp.any aa rfl ?_ | (with_reducible first | refine Go.mk ?_ | apply ak.of | refine Ov.ok zO ?_ | refine ab.pure (r1_Word t (by omega) (by omega)) rfl rfl ?_)); conv => whnf)))
 rw [oe (by omega) (by omega)]; exact .rfl _
structure Lo (n : Int) : Prop where
 out : 0 ≤ n ∧ n < 340282366920938463463374607431768211456
theorem Lo.big {n : Int} (h : Lo n) : n < big := by have := h.out; unfold Go.Proofs.YtcbpkdhoibemcaaGreat.big; omega
theorem Lo.len {n : Int} (h : Lo n) : (ge n).length ≤ 6 := iC h.out.1 (by rw [pw6]; have := h.out; omega) h.big
theorem plusN {x y : Int} (hx : Lo x) (hy : Lo y) : Pure TC 94 [.d (aj 1 (ao .u64) (ge x)), .d (aj 1 (ao .u64) (ge y))] (.d (aj 1 (ao .u64) (ge (x + y)))) := by
 obtain ⟨a1, a2, a3⟩ := cl hx.out.1 hx.big
 obtain ⟨b1, b2, b3⟩ := cl hy.out.1 hy.big
 have := r1_Plus a1 b1 ⟨hx.len, hy.len⟩
 rwa [a3, b3] at this
theorem qo {x y : Int} (hx : 0 ≤ x ∧ x ≤ 4611686018427387903) (hy : 0 ≤ y ∧ y ≤ 4611686018427387903) : Pure TC 95 [.d (aj 1 (ao .u64) (ge x)), .d (aj 1 (ao .u64) (ge y))] (.d (aj 1 (ao .u64) (ge (x * y)))) := by
 have lx : Lo x := ⟨by omega⟩
 have ly : Lo y := ⟨by omega⟩
 obtain ⟨a1, a2, a3⟩ := cl hx.1 lx.big
 obtain ⟨b1, b2, b3⟩ := cl hy.1 ly.big
 have := pB a1 b1 ⟨Nat.le_trans (iC (k := 2) hx.1 (by rw [pw2]; omega) lx.big) (by decide), Nat.le_trans (iC (k := 2) hy.1 (by rw [pw2]; omega) ly.big) (by decide)⟩
 rwa [a3, b3] at this
theorem cmpN {x y : Int} (hx : Lo x) (hy : Lo y) : Pure TC 96 [.d (aj 1 (ao .u64) (ge x)), .d (aj 1 (ao .u64) (ge y))] (.i .i64 (p8 x y)) := by
 obtain ⟨a1, a2, a3⟩ := cl hx.out.1 hx.big
 obtain ⟨b1, b2, b3⟩ := cl hy.out.1 hy.big
 have := lX a1 b1 a2 b2
 rwa [a3, b3] at this
theorem qB (x y : Int) : p8 x y ≤ 0 ↔ x ≤ y := by
 unfold p8
 split
 ·omega
 ·split <;> omega
theorem qt {x y : Int} (hx : 0 ≤ x ∧ x ≤ 4611686018427387903) (hy : 0 ≤ y ∧ y ≤ 4611686018427387903) : 0 ≤ x * y ∧ x * y ≤ 21267647932558653957237540927630737409 := by
 refine ⟨Int.mul_nonneg hx.1 hy.1, ?_⟩
 have h1 : x * y ≤ 4611686018427387903 * y := Int.mul_le_mul_of_nonneg_right (by omega) hy.1
 omega
theorem cS {T tau tat now n : Int} (hT : 0 ≤ T ∧ T ≤ 4611686018427387903) (ht : 0 ≤ tau ∧ tau ≤ 4611686018427387903) (h3 : 0 ≤ tat ∧ tat ≤ 4611686018427387903) (h5 : 0 ≤ now ∧ now ≤ 4611686018427387903) (hn : 0 ≤ n ∧ n ≤ 4611686018427387903) :
  Pure TC 82 [.agg [.i .i64 T, .i .i64 tau], .i .i64 tat, .i .i64 now, .i .i64 n] (.b (grB T tau tat now n)) := by
 by_cases h0 : n = 0
 ·subst h0
  refine Pure.mk' Tryz.func82 rfl rfl zN ?_
  (repeat' (first | ((first | refine Wp.any aa rfl ?_ | (with_reducible first | refine Go.mk ?_ | apply ak.of)); conv => whnf)))
  exact .b rfl
 have hm : (if now > tat then now else tat) = max tat now := by omega
 have hmb : 0 ≤ max tat now ∧ max tat now ≤ 4611686018427387903 := by omega
 have p1 := qt (x := n - 1) (y := T) (by omega) hT
 have p2 := qt (x := n) (y := T) hn hT
 have w0 := dk (max tat now) hmb
 rw [← hm] at w0
 have w1 := dk (n - 1) (by omega)
 have w2 := dk T hT
 have w3 := dk n hn
 have w4 := dk now h5
 have w5 := dk tau ht
 have w6 := dk 4611686018427387903 (by omega)
 have q1 := qo (x := n - 1) (y := T) (by omega) hT
 have q2 := qo (x := n) (y := T) hn hT
 have q3 := plusN (x := max tat now) (y := (n - 1) * T) ⟨by omega⟩ ⟨by omega⟩
 have q4 := plusN (x := max tat now) (y := n * T) ⟨by omega⟩ ⟨by omega⟩
 have q5 := plusN (x := now) (y := tau) ⟨by omega⟩ ⟨by omega⟩
 have q6 := cmpN (x := max tat now + (n - 1) * T) (y := now + tau) ⟨by omega⟩ ⟨by omega⟩
 have q7 := cmpN (x := max tat now + n * T) (y := 4611686018427387903) ⟨by omega⟩ ⟨by omega⟩
 rw [← hm] at q3 q4 q6 q7
 have c1 := qB ((if now > tat then now else tat) + (n - 1) * T) (now + tau)
 have c2 := qB ((if now > tat then now else tat) + n * T) 4611686018427387903
 refine Pure.mk' Tryz.func82 rfl rfl zN ?_
 (repeat' (first | ((first | refine Wp.any aa rfl ?_ | (with_reducible first | refine Go.mk ?_ | apply ak.of | refine Ov.ok zO ?_) | refine zV ?_ | (with_reducible first | refine ab.pure (w0) rfl rfl ?_ | refine ag.pure (w1) rfl rfl ?_ | refine ag.pure (w2) rfl rfl ?_ | refine ag.pure (w3) rfl rfl ?_ | refine ag.pure (w4) rfl rfl ?_ | refine ag.pure (w5) rfl rfl ?_ | refine ag.pure (w6) rfl rfl ?_ | refine ag.pure (q1) rfl rfl ?_ | refine ag.pure (q2) rfl rfl ?_ | refine ag.pure (q3) rfl rfl ?_ | refine ag.pure (q4) rfl rfl ?_ | refine ag.pure (q5) rfl rfl ?_ | refine ag.pure (q6) rfl rfl ?_ | refine ag.pure (q7) rfl rfl ?_)); conv => whnf) | ((refine am (fun hc => ?_) (fun hc => ?_)) <;> (try simp only [wz9] at hc) <;> (try (exfalso; omega)) <;> (conv => whnf))))
 ·refine .b ?_
  rw [hm] at hc c1 c2 ⊢
  unfold grB
  rw [decide_eq_false h0, Bool.false_or, decide_eq_true (c1.1 hc), Bool.true_and]
  exact decide_eq_decide.2 c2
 ·refine .b ?_
  rw [hm] at hc c1
  unfold grB
  rw [decide_eq_false h0, Bool.false_or, decide_eq_false (fun h => hc (c1.2 h)), Bool.false_and]
theorem iq {T tau tat now : Int} (hT : 1 ≤ T ∧ T ≤ 4611686018427387903) (ht : 0 ≤ tau ∧ tau ≤ 4611686018427387903) (h3 : 0 ≤ tat ∧ tat ≤ 4611686018427387903) (h5 : 0 ≤ now ∧ now ≤ 4611686018427387903) :
  Pure TC 60 [.agg [.i .i64 T, .i .i64 tau], .i .i64 tat, .i .i64 now] (.i .i64 (aV T tau tat now)) := by
 have hl := bN (tau := tau) hT.1 h3.1 h3.2 h5.1 h5.2
 refine Pure.mk' Tryz.func60 rfl rfl zN ?_
 (repeat' (first | ((first | refine Wp.any aa rfl ?_ | (with_reducible first | refine Go.mk ?_ | apply ak.of)); conv => whnf)))
 refine Wp.loopP (ι := Int × Int) (fun k => 0 ≤ k.1 ∧ k.1 ≤ aV T tau tat now ∧ aV T tau tat now ≤ k.2 ∧ k.2 ≤ 4611686018427387903) (fun k => ⟨⟨Tryz.f60.ntmps, 0⟩, 1, [(1, .i .i64 tat), (2, .i .i64 now), (3, .ptr 0 0), (7, .i .i64 k.1), (8, .i .i64 k.2)], [(0, some (.cells [.i .i64 T, .i .i64 tau]))]⟩) (fun k => (k.2 - k.1).toNat) (0, 4611686018427387903) ⟨by decide, by dsimp only; omega, by dsimp only; omega, by decide⟩ ?_ ?_
 ·(refine Le.by [0] rfl rfl rfl rfl ?_ ?_ <;> (conv => whnf) <;> (repeat' (first | exact trivial | exact ac.rfl rfl | exact ac.ptr rfl | ((with_reducible refine And.intro ?_ ?_) <;> (conv => whnf)))))
 ·rintro ⟨lo, hi⟩ ⟨g1, g2, g3, g4⟩
  dsimp only at g1 g2 g3 g4 ⊢
  by_cases hlt : lo < hi
  ·have hd := Int.tdiv_eq_ediv_of_nonneg (a := hi - lo) (b := 2) (by omega)
   have hG := cS (T := T) (tau := tau) (tat := tat) (now := now) (n := hi - (hi - lo).tdiv 2) (by omega) ht h3 h5 (by omega)
   have hgl := nd (tau := tau) (n := hi - (hi - lo).tdiv 2) hT.1 h3 h5 (by omega)
   (repeat' (first | ((first | refine Wp.any aa rfl ?_ | (with_reducible first | refine Go.mk ?_ | apply ak.of | refine Ov.ok zO ?_ | refine And.intro zC ?_ | refine ab.pure (hG) rfl rfl ?_)); conv => whnf) | ((refine am (fun hc => ?_) (fun hc => ?_)) <;> (try simp only [wz9] at hc) <;> (try (exfalso; omega)) <;> (conv => whnf))))
   ·have := hgl.1 hc
    refine ⟨(hi - (hi - lo).tdiv 2, hi), ⟨by dsimp only; omega, this, g3, g4⟩, by dsimp only; omega, ?_⟩
    (refine Le.by [0] rfl rfl rfl rfl ?_ ?_ <;> (conv => whnf) <;> (repeat' (first | exact trivial | exact ac.rfl rfl | exact ac.ptr rfl | ((with_reducible refine And.intro ?_ ?_) <;> (conv => whnf)))))
   ·have : ¬ hi - (hi - lo).tdiv 2 ≤ aV T tau tat now := fun h => by rw [hgl.2 h] at hc; cases hc
    refine ⟨(lo, hi - (hi - lo).tdiv 2 - 1), ⟨g1, g2, by dsimp only; omega, by dsimp only; omega⟩, by dsimp only; omega, ?_⟩
    (refine Le.by [0] rfl rfl rfl rfl ?_ ?_ <;> (conv => whnf) <;> (repeat' (first | exact trivial | exact ac.rfl rfl | exact ac.ptr rfl | ((with_reducible refine And.intro ?_ ?_) <;> (conv => whnf)))))
  ·(repeat' (first | ((first | refine Wp.any aa rfl ?_ | (with_reducible first | refine Go.mk ?_ | apply ak.of)); conv => whnf) | ((refine am (fun hc => ?_) (fun hc => ?_)) <;> (try simp only [wz9] at hc) <;> (try (exfalso; omega)) <;> (conv => whnf))))
   exact .i (by omega)
theorem r5_Wait {T tau tat now n : Int} (hT : 1 ≤ T ∧ T ≤ 4611686018427387903) (ht : 0 ≤ tau ∧ tau ≤ 4611686018427387903) (h3 : 0 ≤ tat ∧ tat ≤ 4611686018427387903) (h5 : 0 ≤ now ∧ now ≤ 4611686018427387903) (hn : 1 ≤ n ∧ n ≤ 4611686018427387903) (hno : grB T tau tat now n = false) :
  Pure TC 83 [.agg [.i .i64 T, .i .i64 tau], .i .i64 tat, .i .i64 now, .i .i64 n] (.i .i64 (cD T tau tat now n)) := by
 have hm : (if tat > now then tat else now) = max now tat := by omega
 have hG0 := cS (T := T) (tau := tau) (tat := tat) (now := max now tat) (n := n) (by omega) ht h3 (by omega) (by omega)
 have hN := pS (n := n) (tau := tau) hT.1 ht h3 h5 hn.1
 have hW := gr_wait (n := n) (tau := tau) hT.1 ht h3 h5 hn.1
 rw [← hm] at hG0 hN hW
 refine Pure.mk' Tryz.func83 rfl rfl zN ?_
 (repeat' (first | ((first | refine Wp.any aa rfl ?_ | (with_reducible first | refine Go.mk ?_ | apply ak.of | refine Ov.ok zO ?_ | refine ab.pure (hG0) rfl rfl ?_)); conv => whnf) | ((refine am (fun hc => ?_) (fun hc => ?_)) <;> (try simp only [wz9] at hc) <;> (try (exfalso; omega)) <;> (conv => whnf))))
 ·exact .i (hN hc).symm
 obtain ⟨w1, w2, w3⟩ := hW hc hno
 refine Wp.loopP (ι := Int × Int) (fun k => 0 ≤ k.1 ∧ k.1 ≤ cD T tau tat now n ∧ cD T tau tat now n ≤ k.2 ∧ k.2 ≤ (if tat > now then tat else now) - now) (fun k => ⟨⟨Tryz.f83.ntmps, 0⟩, 1, [(1, .i .i64 tat), (2, .i .i64 now), (3, .i .i64 n), (4, .ptr 0 0), (9, .i .i64 k.1), (10, .i .i64 k.2)], [(0, some (.cells [.i .i64 T, .i .i64 tau]))]⟩) (fun k => (k.2 - k.1).toNat) (0, (if tat > now then tat else now) - now) ⟨Int.le_refl _, by dsimp only; omega, by dsimp only; omega, by dsimp only; omega⟩ ?_ ?_
 ·(refine Le.by [0] rfl rfl rfl rfl ?_ ?_ <;> (conv => whnf) <;> (repeat' (first | exact trivial | exact ac.rfl rfl | exact ac.ptr rfl | ((with_reducible refine And.intro ?_ ?_) <;> (conv => whnf)))))
 ·rintro ⟨lo, hi⟩ ⟨g1, g2, g3, g4⟩
  dsimp only at g1 g2 g3 g4 ⊢
  by_cases hlt : lo < hi
  ·have hd := Int.tdiv_eq_ediv_of_nonneg (a := hi - lo) (b := 2) (by omega)
   have hG := cS (T := T) (tau := tau) (tat := tat) (now := now + (lo + (hi - lo).tdiv 2)) (n := n) (by omega) ht h3 (by omega) (by omega)
   have hgl := w3 (lo + (hi - lo).tdiv 2) (by omega) (by omega)
   (repeat' (first | ((first | refine Wp.any aa rfl ?_ | (with_reducible first | refine Go.mk ?_ | apply ak.of | refine Ov.ok zO ?_ | refine And.intro zC ?_ | refine ab.pure (hG) rfl rfl ?_)); conv => whnf) | ((refine am (fun hc => ?_) (fun hc => ?_)) <;> (try simp only [wz9] at hc) <;> (try (exfalso; omega)) <;> (conv => whnf))))
   ·have := hgl.1 (by assumption)
    refine ⟨(lo, lo + (hi - lo).tdiv 2), ⟨g1, g2, this, by dsimp only; omega⟩, by dsimp only; omega, ?_⟩
    (refine Le.by [0] rfl rfl rfl rfl ?_ ?_ <;> (conv => whnf) <;> (repeat' (first | exact trivial | exact ac.rfl rfl | exact ac.ptr rfl | ((with_reducible refine And.intro ?_ ?_) <;> (conv => whnf)))))
   ·have : ¬ cD T tau tat now n ≤ lo + (hi - lo).tdiv 2 := fun h => Bool.noConfusion ((hgl.2 h).symm.trans (by assumption))
    refine ⟨(lo + (hi - lo).tdiv 2 + 1, hi), ⟨by dsimp only; omega, by dsimp only; omega, g3, g4⟩, by dsimp only; omega, ?_⟩
    (refine Le.by [0] rfl rfl rfl rfl ?_ ?_ <;> (conv => whnf) <;> (repeat' (first | exact trivial | exact ac.rfl rfl | exact ac.ptr rfl | ((with_reducible refine And.intro ?_ ?_) <;> (conv => whnf)))))
  ·(repeat' (first | ((first | refine Wp.any aa rfl ?_ | (with_reducible first | refine Go.mk ?_ | apply ak.of)); conv => whnf) | ((refine am (fun hc => ?_) (fun hc => ?_)) <;> (try simp only [wz9] at hc) <;> (try (exfalso; omega)) <;> (conv => whnf))))
   exact .i (by omega)
theorem mJ {T tau tat now n : Int} (hT : 1 ≤ T ∧ T ≤ 4611686018427387903) (ht : 0 ≤ tau ∧ tau ≤ 4611686018427387903) (h3 : 0 ≤ tat ∧ tat ≤ 4611686018427387903) (h5 : 0 ≤ now ∧ now ≤ 4611686018427387903) (hn : 0 ≤ n ∧ n ≤ 4611686018427387903) :
  Pure TC 55 [.agg [.i .i64 T, .i .i64 tau], .i .i64 tat, .i .i64 now, .i .i64 n] (.agg [.b (fS T tau tat now n).g, .i .i64 (fS T tau tat now n).tat, .i .i64 (fS T tau tat now n).wait, .i .i64 (fS T tau tat now n).left]) := by
 have hG := cS (T := T) (tau := tau) (tat := tat) (now := now) (n := n) (by omega) ht h3 h5 hn
 have hgl := nd (tau := tau) (n := n) hT.1 h3 h5 hn.1
 have hl1 : n ≤ aV T tau tat now → 0 < n → _ := iH (n := n) (tau := tau) hT.1 h3.1 h3.2 h5.1 h5.2
 have e : max tat now = if now > tat then now else tat := by omega
 refine Pure.mk' Tryz.func55 rfl rfl zN ?_
 cases hg : grB T tau tat now n with
 | false =>
  rw [hg] at hG
  have hnl : ¬ n ≤ aV T tau tat now := fun h => by rw [hgl.2 h] at hg; cases hg
  have hn1 : 1 ≤ n := by
   refine Classical.byContradiction fun h => ?_
   have : n = 0 := by omega
   subst this
   exact hnl (bN (tau := tau) hT.1 h3.1 h3.2 h5.1 h5.2).1
  have hW := r5_Wait (n := n) hT ht h3 h5 ⟨hn1, hn.2⟩ hg
  have hL := iq (T := T) (tau := tau) (tat := tat) (now := now) hT ht h3 h5
  (repeat' (first | ((first | refine Wp.any aa rfl ?_ | (with_reducible first | refine Go.mk ?_ | apply ak.of | refine ab.pure (hG) rfl rfl ?_ | refine ab.pure (hW) rfl rfl ?_ | refine ab.pure (hL) rfl rfl ?_)); conv => whnf)))
  have e9 : fS T tau tat now n = ⟨false, tat, cD T tau tat now n, aV T tau tat now⟩ := by
   unfold fS n9
   rw [if_neg (fun h => hnl h.1), if_neg hnl, decide_eq_false hnl]
  rw [e9]; exact .rfl _
 | true =>
  rw [hg] at hG
  have hnl := hgl.1 hg
  by_cases h0 : n = 0
  ·subst h0
   have hL := iq (T := T) (tau := tau) (tat := tat) (now := now) hT ht h3 h5
   (repeat' (first | ((first | refine Wp.any aa rfl ?_ | (with_reducible first | refine Go.mk ?_ | apply ak.of | refine ab.pure (hG) rfl rfl ?_ | refine ab.pure (hL) rfl rfl ?_)); conv => whnf)))
   have e9 : fS T tau tat now 0 = ⟨true, tat, 0, aV T tau tat now⟩ := by
    unfold fS n9
    rw [if_neg (fun h => by have := h.2; omega), if_pos hnl, decide_eq_true hnl]
   rw [e9]; exact .rfl _
  ·have hb := hl1 hnl (by omega)
   have hL := iq (T := T) (tau := tau) (tat := max tat now + n * T) (now := now) hT ht (by omega) h5
   rw [e] at hL hb
   (repeat' (first | ((first | refine Wp.any aa rfl ?_ | (with_reducible first | refine Go.mk ?_ | apply ak.of | refine Ov.ok zO ?_ | refine ab.pure (hG) rfl rfl ?_ | refine ab.pure (hL) rfl rfl ?_)); conv => whnf) | ((refine am (fun hc => ?_) (fun hc => ?_)) <;> (try simp only [wz9] at hc) <;> (try (exfalso; omega)) <;> (conv => whnf))))
   have e9 : fS T tau tat now n = ⟨true, (if now > tat then now else tat) + n * T, 0, aV T tau ((if now > tat then now else tat) + n * T) now⟩ := by
    unfold fS n9
    rw [if_pos ⟨hnl, by omega⟩, if_pos hnl, decide_eq_true hnl, e]
   rw [e9]; exact .rfl _
theorem il : ∀ {xs ys : List Int}, xs.Pairwise (· < ·) → ys.Pairwise (· < ·) → (∀ d, d ∈ xs ↔ d ∈ ys) → xs = ys
 | [], [], _, _, _ => rfl
 | [], y :: _, _, _, h => by have := (h y).2 (by simp); simp at this
 | x :: _, [], _, _, h => by have := (h x).1 (by simp); simp at this
 | x :: r, y :: s, h1, h2, h => by
  obtain ⟨a1, a2⟩ := List.pairwise_cons.1 h1
  obtain ⟨b1, b2⟩ := List.pairwise_cons.1 h2
  have e : x = y := by
   have q1 := (h x).1 (by simp)
   have q2 := (h y).2 (by simp)
   rcases Q22 q1 with q1 | q1
   ·exact q1
   ·rcases Q22 q2 with q2 | q2
    ·exact q2.symm
    ·have := a1 y q2; have := b1 x q1; omega
  subst e
  rw [il a2 b2 fun d => ?_]
  constructor
  ·intro hd
   have := (h d).1 (by simp [hd])
   rcases Q22 this with q | q
   ·have := a1 d hd; omega
   ·exact q
  ·intro hd
   have := (h d).2 (by simp [hd])
   rcases Q22 this with q | q
   ·have := b1 d hd; omega
   ·exact q
theorem iy (n : Int) : ∀ (xs : List Int) (d : Int), d ∈ gr xs n ↔ d = n ∨ d ∈ xs
 | [], d => by simp [gr]
 | x :: r, d => by
  rw [gr]
  split
  ·simp
  ·rw [List.mem_cons, iy n r, List.mem_cons]
   constructor
   ·rintro (h | h | h)
    ·exact Or.inr (Or.inl h)
    ·exact Or.inl h
    ·exact Or.inr (Or.inr h)
   ·rintro (h | h | h)
    ·exact Or.inr (Or.inl h)
    ·exact Or.inl h
    ·exact Or.inr (Or.inr h)
theorem jo {n : Int} : ∀ {xs : List Int}, xs.Pairwise (· < ·) → n ∉ xs → (gr xs n).Pairwise (· < ·)
 | [], _, _ => by simp [gr]
 | x :: r, h, hn => by
  obtain ⟨h1, h2⟩ := List.pairwise_cons.1 h
  rw [gr]
  split
  ·rename_i hlt
   refine List.pairwise_cons.2 ⟨fun y hy => ?_, h⟩
   rcases Q22 hy with rfl | hy
   ·exact hlt
   ·have := h1 y hy; omega
  ·rename_i hlt
   have hne : n ≠ x := fun e => hn (by simp [e])
   refine List.pairwise_cons.2 ⟨fun y hy => ?_, jo h2 (fun hm => hn (by simp [hm]))⟩
   rcases (iy n r y).1 hy with rfl | hy
   ·omega
   ·exact h1 y hy
theorem pG {xs : List Int} {n : Int} (h : cj 0 xs = true) (hs : gz n = true) (hn : n ∉ xs) : gr xs n = br xs (bJ xs n) n := by
 obtain ⟨a, b⟩ := lm h hs hn
 exact il (jo (aT.1 h).2 hn) (aT.1 a).2 fun d => by rw [iy, b]
theorem pZ {xs : List Int} {n : Int} (h : cj 0 xs = true) (hn : n ∈ xs) : (xs.filter fun x => decide (x ≠ n)) = b9 xs (bJ xs n) := by
 obtain ⟨a, b, _⟩ := lA h hn
 refine il ((aT.1 h).2.filter _) (aT.1 a).2 fun d => ?_
 rw [b, List.mem_filter]
 simp [and_comm]
section
theorem sem_1 {p : Int} {xs : List Int} (h : dx p xs = 0) : 1 ≤ p ∧ p ≤ 64 ∧ (xs.length : Int) ≤ p ∧ cj 0 xs = true := by
 unfold dx at h
 split at h
 ·assumption
 ·omega
theorem m8 {xs : List Int} {n : Int} (h : cj 0 xs = true) : jz xs n = decide (n ∈ xs) := by
 have := eV (t := n) (aT.1 h).2
 cases e : jz xs n with
 | true => exact (decide_eq_true (this.1 e)).symm
 | false => exact (decide_eq_false fun hm => by rw [this.2 hm] at e; cases e).symm
@[reducible] def dr (op pol : Int) (key : List Int) (n : Int) : SV := .agg [.i .u8 op, .i .i64 pol, .d (aj 1 (ao .u8) key), .i .i64 n]
section
variable {p : Pol} {c : Cel} {pol n now s : Int} {key : List Int}
theorem one_D1 (h : jU p.T p.tau [c.tat, now, n] = 0) : Pure TC 31 [p.S, c.S, dr 1 pol key n, .i .i64 now, .i .i64 s] (.tup [(dM p c now n).S, (bt p c now n).S, .b ((dM p c now n).g && decide (0 < n))]) := by
 obtain ⟨⟨hT, ht⟩, h3, h5, hn⟩ := (fV _ _ _ _ _).1 h
 have hD := mJ (T := p.T) (tau := p.tau) (tat := c.tat) (now := now) (n := n) hT ht h3 h5 hn
 have e : lB p.T p.tau c.tat now n = fS p.T p.tau c.tat now n := by unfold lB; rw [if_pos h]
 have e1 : dM p c now n = ⟨0, (fS p.T p.tau c.tat now n).g, (fS p.T p.tau c.tat now n).left, (fS p.T p.tau c.tat now n).wait, 0, now⟩ := by unfold dM; rw [e]
 have e2 : bt p c now n = ⟨c.pol, c.key, (fS p.T p.tau c.tat now n).tat, c.held⟩ := by unfold bt; rw [e]
 rw [e1, e2]
 refine Pure.mk' Tryz.func31 rfl rfl zN ?_
 (repeat' (first | ((first | refine Wp.any aa rfl ?_ | (with_reducible first | refine Go.mk ?_ | apply ak.of) | refine zV ?_ | with_reducible refine ab.pure (hD) rfl rfl ?_); conv => whnf) | ((refine am (fun hc => ?_) (fun hc => ?_)) <;> (try simp only [wz9] at hc) <;> (try (exfalso; omega)) <;> (conv => whnf))))
 ·rw [show (fS p.T p.tau c.tat now n).g = true by assumption]
  exact .tup (.cons (.rfl _) (.cons (.rfl _) (.cons (.rfl _) .nil)))
 ·rw [show (fS p.T p.tau c.tat now n).g = false by assumption]
  exact .tup (.cons (.rfl _) (.cons (.rfl _) (.cons (.rfl _) .nil)))
theorem one_D2 (h : dx p.permits c.held = 0) (hs : gz s = true) : Pure TC 31 [p.S, c.S, dr 2 pol key n, .i .i64 now, .i .i64 s] (.tup [(jV p c s).S, (dP p c s).S, .b (jV p c s).g]) := by
 obtain ⟨h1, h2, h3, h4⟩ := sem_1 h
 have hm := m8 (n := s) h4
 have hH := qr c.held s
 by_cases hmem : s ∈ c.held
 ·rw [decide_eq_true hmem] at hH hm
  have e8 : bi p.permits c.held s = 8 := by
   unfold bi
   rw [if_neg (by rw [hs]; decide), if_neg (by rw [h]; simp), if_pos hm]
  have e1 : jV p c s = ⟨8, false, 0, 0, 0, 0⟩ := by unfold jV; rw [e8, if_neg (by decide)]
  have e2 : dP p c s = c := by unfold dP; rw [e8, if_neg (by decide)]
  rw [e1, e2]
  refine Pure.mk' Tryz.func31 rfl rfl zN ?_
  (repeat' (first | ((first | refine Wp.any aa rfl ?_ | (with_reducible first | refine Go.mk ?_ | apply ak.of) | refine zV ?_ | with_reducible refine ab.pure (hH) rfl rfl ?_); conv => whnf)))
  exact .tup (.cons (.rfl _) (.cons (.rfl _) (.cons (.rfl _) .nil)))
 ·rw [decide_eq_false hmem] at hH hm
  by_cases hful : (c.held.length : Int) = p.permits
  ·have e8 : bi p.permits c.held s = 9 := by
    unfold bi
    rw [if_neg (by rw [hs]; decide), if_neg (by rw [h]; simp), if_neg (by rw [hm]; decide), if_pos hful]
   have e1 : jV p c s = ⟨9, false, 0, 0, 0, 0⟩ := by unfold jV; rw [e8, if_neg (by decide)]
   have e2 : dP p c s = c := by unfold dP; rw [e8, if_neg (by decide)]
   rw [e1, e2]
   refine Pure.mk' Tryz.func31 rfl rfl zN ?_
   (repeat' (first | ((first | refine Wp.any aa rfl ?_ | (with_reducible first | refine Go.mk ?_ | apply ak.of) | refine zV ?_ | with_reducible refine ab.pure (hH) rfl rfl ?_); conv => whnf) | ((refine am (fun hc => ?_) (fun hc => ?_)) <;> (try simp only [wz9] at hc) <;> (try (exfalso; omega)) <;> (conv => whnf))))
   exact .tup (.cons (.rfl _) (.cons (.rfl _) (.cons (.rfl _) .nil)))
  ·have e8 : bi p.permits c.held s = 0 := jY.2 ⟨hs, h, hm, hful⟩
   have ep := pG h4 hs hmem
   have eL : di p.permits c.held s = gr c.held s := by unfold di; rw [if_pos e8, ep]
   have el : (gr c.held s).length = c.held.length + 1 := by rw [ep, aB _ _ _ (fw _ _)]
   have e1 : jV p c s = ⟨0, true, p.permits - (gr c.held s).length, 0, s, 0⟩ := by unfold jV; rw [if_pos e8, eL]
   have e2 : dP p c s = ⟨c.pol, c.key, c.tat, gr c.held s⟩ := by unfold dP; rw [if_pos e8, eL]
   rw [e1, e2]
   have hF := ir p ⟨c.pol, c.key, c.tat, gr c.held s⟩ (by omega) (by dsimp only; omega)
   refine Pure.mk' Tryz.func31 rfl rfl zN ?_
   (repeat' (first | ((first | refine Wp.any aa rfl ?_ | (with_reducible first | refine Go.mk ?_ | apply ak.of) | refine zV ?_ | (with_reducible first | refine ab.pure (hH) rfl rfl ?_ | refine ab.pure (r6_Put c.held s (by omega)) rfl rfl ?_ | refine ag.pure (hF) rfl rfl ?_)); conv => whnf) | ((refine am (fun hc => ?_) (fun hc => ?_)) <;> (try simp only [wz9] at hc) <;> (try (exfalso; omega)) <;> (conv => whnf))))
   exact .tup (.cons (.rfl _) (.cons (.rfl _) (.cons (.rfl _) .nil)))
theorem one_D3 (h : dx p.permits c.held = 0) : Pure TC 31 [p.S, c.S, dr 3 pol key n, .i .i64 now, .i .i64 s] (.tup [(kQ p c n).S, (ew p c n).S, .b (kQ p c n).g]) := by
 obtain ⟨h1, h2, h3, h4⟩ := sem_1 h
 have hm := m8 (n := n) h4
 have hH := qr c.held n
 by_cases hmem : n ∈ c.held
 ·rw [decide_eq_true hmem] at hH hm
  have e8 : bT p.permits c.held n = 0 := kh.2 ⟨h, hm⟩
  have ep := pZ h4 hmem
  have eL : d7 p.permits c.held n = c.held.filter fun x => decide (x ≠ n) := by unfold d7; rw [if_pos e8, ep]
  have el : (c.held.filter fun x => decide (x ≠ n)).length ≤ c.held.length := List.length_filter_le _ _
  have e1 : kQ p c n = ⟨0, true, p.permits - (c.held.filter fun x => decide (x ≠ n)).length, 0, 0, 0⟩ := by unfold kQ; rw [if_pos e8, eL]
  have e2 : ew p c n = ⟨c.pol, c.key, c.tat, c.held.filter fun x => decide (x ≠ n)⟩ := by unfold ew; rw [if_pos e8, eL]
  rw [e1, e2]
  have hF := ir p ⟨c.pol, c.key, c.tat, c.held.filter fun x => decide (x ≠ n)⟩ (by omega) (by dsimp only; omega)
  refine Pure.mk' Tryz.func31 rfl rfl zN ?_
  (repeat' (first | ((first | refine Wp.any aa rfl ?_ | (with_reducible first | refine Go.mk ?_ | apply ak.of) | refine zV ?_ | (with_reducible first | refine ab.pure (hH) rfl rfl ?_ | refine ab.pure (r6_Drop c.held n (by omega)) rfl rfl ?_ | refine ag.pure (hF) rfl rfl ?_)); conv => whnf)))
  exact .tup (.cons (.rfl _) (.cons (.rfl _) (.cons (.rfl _) .nil)))
 ·rw [decide_eq_false hmem] at hH hm
  have e8 : bT p.permits c.held n = 11 := by
   unfold bT
   rw [if_neg (by rw [h]; simp), if_neg (by rw [hm]; decide)]
  have e1 : kQ p c n = ⟨11, false, 0, 0, 0, 0⟩ := by unfold kQ; rw [e8, if_neg (by decide)]
  have e2 : ew p c n = c := by unfold ew; rw [e8, if_neg (by decide)]
  rw [e1, e2]
  refine Pure.mk' Tryz.func31 rfl rfl zN ?_
  (repeat' (first | ((first | refine Wp.any aa rfl ?_ | (with_reducible first | refine Go.mk ?_ | apply ak.of) | refine zV ?_ | with_reducible refine ab.pure (hH) rfl rfl ?_); conv => whnf)))
  exact .tup (.cons (.rfl _) (.cons (.rfl _) (.cons (.rfl _) .nil)))
theorem one_D4s (hk : p.kind = 2) (hp : 1 ≤ p.permits ∧ p.permits ≤ 64) (hl : c.held.length ≤ 1000000) : Pure TC 31 [p.S, c.S, dr 4 pol key n, .i .i64 now, .i .i64 s] (.tup [(bZ p c now).S, c.S, .b false]) := by
 have hF := ir p c (by omega) (by omega)
 have e1 : bZ p c now = ⟨0, false, p.permits - c.held.length, 0, 0, 0⟩ := by unfold bZ; rw [if_pos hk]
 rw [e1]
 refine Pure.mk' Tryz.func31 rfl rfl zN ?_
 (repeat' (first | ((first | refine Wp.any aa rfl ?_ | (with_reducible first | refine Go.mk ?_ | apply ak.of) | refine zV ?_ | with_reducible refine ag.pure (hF) rfl rfl ?_); conv => whnf) | ((refine am (fun hc => ?_) (fun hc => ?_)) <;> (try simp only [wz9] at hc) <;> (try (exfalso; omega)) <;> (conv => whnf))))
 exact .tup (.cons (.rfl _) (.cons (.rfl _) (.cons (.rfl _) .nil)))
theorem one_D4r (hk : ¬ p.kind = 2) (h : jU p.T p.tau [c.tat, now] = 0) : Pure TC 31 [p.S, c.S, dr 4 pol key n, .i .i64 now, .i .i64 s] (.tup [(bZ p c now).S, c.S, .b false]) := by
 obtain ⟨⟨hT, ht⟩, h3, h5⟩ := (gQ _ _ _ _).1 h
 have hL := iq (T := p.T) (tau := p.tau) (tat := c.tat) (now := now) hT ht h3 h5
 have hS := r1_Sub c.tat now (by omega) (by omega)
 have e1 : bZ p c now = ⟨0, false, aV p.T p.tau c.tat now, max (c.tat - now) 0, 0, now⟩ := by
  unfold bZ mt
  rw [if_neg hk, if_pos h, if_pos ((fZ _ _).2 ⟨h3, h5⟩)]
 rw [e1]
 refine Pure.mk' Tryz.func31 rfl rfl zN ?_
 (repeat' (first | ((first | refine Wp.any aa rfl ?_ | (with_reducible first | refine Go.mk ?_ | apply ak.of) | refine zV ?_ | (with_reducible first | refine ag.pure (hL) rfl rfl ?_ | refine ag.pure (hS) rfl rfl ?_)); conv => whnf) | ((refine am (fun hc => ?_) (fun hc => ?_)) <;> (try simp only [wz9] at hc) <;> (try (exfalso; omega)) <;> (conv => whnf))))
 exact .tup (.cons (.rfl _) (.cons (.rfl _) (.cons (.rfl _) .nil)))
end
end
end Go.Proofs.YtcbpkdhoibemcaaGreat
