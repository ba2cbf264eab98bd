/- Lemmas of Bk19, Pl1, Pl2, Pl3, Bk20a, Pl4, Pl5, Pl8a, Rf1, Rf2, Rf3, Rf4, Rf5, Rf6, Rf7. No condition. -/
import Derived.Test.YtcbpkdhoibemcaaGreatMK7
set_option linter.unusedVariables false
set_option linter.unusedSimpArgs false
set_option maxHeartbeats 80000000
set_option maxRecDepth 100000
namespace Go.Proofs.YtcbpkdhoibemcaaGreat
open Go.RowKit
def jb (n : Int) : List Int := if n = 0 then [] else if n / 4294967296 = 0 then [n % 4294967296] else [n % 4294967296, n / 4294967296]
theorem sl_eq {z m n : Nat} {f g : Nat → List D} (h : m = n) (hf : ∀ i, i < n → f i = g i) : SV.Le (.d (.sl z m f)) (.d (.sl z n g)) := by subst h; exact SV.Le.sl hf
theorem Pure.le {C : Cx} {g : Nat} {args args' : List SV} {r : SV} (h : Pure C g args' r) (ha : Les args args') : Pure C g args r :=
 ⟨h.ent, fun E w vs hIm hsz hargs => h.out E w vs hIm (hsz.trans ha.len) fun j hj => (ha.out j (by rw [ha.len]; exact hj) hj).out _ _ _ _ (hargs j (by rw [ha.len]; exact hj))⟩
theorem r1_Word (n : Int) (h0 : 0 ≤ n) (h1 : n < 18446744073709551616) : Pure TC 102 [.i .u64 n] (.d (aj 1 (ao .u64) (jb n))) := by
 have hm : n.tmod 4294967296 = n % 4294967296 := Q6 h0
 have hd : n.tdiv 4294967296 = n / 4294967296 := Int.tdiv_eq_ediv_of_nonneg h0
 refine Pure.mk' Tryz.func102 rfl rfl zN ?_
 (repeat' (first | ((first | refine Wp.any aa rfl ?_ | (with_reducible first | refine Go.mk ?_ | apply ak.of)); conv => whnf) | with_reducible exact rfl | ((with_reducible refine Ov.ok zO ?_); conv => whnf) | (with_reducible refine Ov.sh1 (by with_unfolding_all exact rfl) ?_) | ((first | with_reducible refine Ov.quo (by omega) (by omega) (by omega) (fun _ _ => ?_) | refine zV ?_ | with_reducible refine And.intro zC ?_); conv => whnf) | ((with_reducible refine And.intro ?hb ?_); (case hb => exact zz0); (conv => whnf)) | ((refine ae.a rfl rfl rfl rfl rfl rfl ?hb ?_); (case hb => exact zB); (conv => whnf)) | ((refine ae.b rfl rfl rfl rfl rfl rfl rfl rfl ?hb ?ho ?_); (case hb => exact zB); (case ho => omega); (conv => whnf)) | ((refine ae.c rfl rfl rfl rfl rfl ?hb ?_); (case hb => exact zB); (conv => whnf)) | ((refine ae.d rfl rfl rfl rfl rfl rfl ?hb ?ho ?_); (case hb => exact zB); (case ho => omega); (conv => whnf)) | (with_reducible refine Or.inl ?_) | ((with_reducible refine IxA.ptr ?_); conv => whnf) | ((with_reducible refine nil_no (by omega) ?_); (conv => whnf)) | ((with_reducible refine af ?_ (fun hn0 => ?_)) <;> (conv => whnf)) | (with_reducible refine ab.inline Tryz.func103 rfl rfl rfl (zzb rfl) ?_) | ((with_reducible refine Wp.loopN 4 ?_); conv => whnf) | ((refine am (fun hc => ?_) (fun hc => ?_)) <;> (try simp only [wz9] at hc) <;> (try (exfalso; omega)) <;> (conv => whnf))))
 ·rw [jb, if_pos (by omega)]; exact sl_eq rfl fun i hi => absurd hi (Nat.not_lt_zero _)
 ·rw [jb, if_neg (by omega), if_pos (by omega), hm]
  exact sl_eq rfl fun i hi => by
   have : i = 0 := by simp at hi; omega
   subst this; rfl
 ·rw [jb, if_neg (by omega), if_neg (by omega), hm, hd]
  exact sl_eq rfl fun i hi => by
   have : i = 0 ∨ i = 1 := by simp at hi; omega
   rcases this with rfl | rfl <;> rfl
def f1 (a : Int) : Nat → List D := fun _ => [.val (.int .u64 a)]
def f2 (a b : Int) : Nat → List D
 | 0 => [.val (.int .u64 a)]
 | _ + 1 => [.val (.int .u64 b)]
structure Ask where
 op : Int
 pol : Int
 key : List Int
 n : Int
 now : Int
 serial : Int
 deriving Inhabited
@[reducible] def Ask.D (a : Ask) : List D := [.val (.int .u8 a.op), .val (.int .i64 a.pol), aj 1 (ao .u8) a.key, .val (.int .i64 a.n), .val (.int .i64 a.now), .val (.int .i64 a.serial)]
@[reducible] def Ask.S (a : Ask) : SV := .agg [.i .u8 a.op, .i .i64 a.pol, .d (aj 1 (ao .u8) a.key), .i .i64 a.n, .i .i64 a.now, .i .i64 a.serial]
theorem gN {a b : List Int} (hl : a.length = b.length) (h : ∀ j, j < a.length → a.getD j default = b.getD j default) : a = b := by
 refine List.ext_getElem hl fun j h1 h2 => ?_
 have := h j h1
 rw [Q1, Q1, Q0 h1, Q0 h2] at this
 simpa using this
theorem bk (a b : List Int) : Pure TC 35 [.d (aj 1 (ao .u8) a), .d (aj 1 (ao .u8) b)] (.b (decide (a = b))) := by
 refine Pure.lens (.mk Tryz.func35 rfl rfl) fun hlen => ?_
 have ha := hlen a.length (by simp [bf, aj])
 refine Pure.mk' Tryz.func35 rfl rfl zN ?_
 (repeat' (first | ((first | refine Wp.any aa rfl ?_ | (with_reducible first | refine Go.mk ?_ | apply ak.of)); conv => whnf) | with_reducible exact rfl | ((with_reducible refine Ov.ok zO ?_); conv => whnf) | (with_reducible refine Ov.sh1 (by with_unfolding_all exact rfl) ?_) | ((first | with_reducible refine Ov.quo (by omega) (by omega) (by omega) (fun _ _ => ?_) | refine zV ?_ | with_reducible refine And.intro zC ?_); conv => whnf) | ((with_reducible refine And.intro ?hb ?_); (case hb => exact zz0); (conv => whnf)) | ((refine ae.a rfl rfl rfl rfl rfl rfl ?hb ?_); (case hb => exact zB); (conv => whnf)) | ((refine ae.b rfl rfl rfl rfl rfl rfl rfl rfl ?hb ?ho ?_); (case hb => exact zB); (case ho => omega); (conv => whnf)) | ((refine ae.c rfl rfl rfl rfl rfl ?hb ?_); (case hb => exact zB); (conv => whnf)) | ((refine ae.d rfl rfl rfl rfl rfl rfl ?hb ?ho ?_); (case hb => exact zB); (case ho => omega); (conv => whnf)) | (with_reducible refine Or.inl ?_) | ((with_reducible refine IxA.ptr ?_); conv => whnf) | ((with_reducible refine nil_no (by omega) ?_); (conv => whnf)) | ((with_reducible refine af ?_ (fun hn0 => ?_)) <;> (conv => whnf)) | ((refine am (fun hc => ?_) (fun hc => ?_)) <;> (try simp only [wz9] at hc) <;> (try (exfalso; omega)) <;> (conv => whnf))))
 ·exact .b (decide_eq_false fun e => by subst e; omega).symm
 refine Wp.loopP (ι := Nat) (fun i => i ≤ a.length ∧ ∀ j, j < i → a.getD j default = b.getD j default) (fun i => ⟨⟨Tryz.f35.ntmps, 0⟩, 0, [(0, .d (aj 1 (ao .u8) a)), (1, .d (aj 1 (ao .u8) b)), (12, .i .i64 a.length), (13, .i .i64 i)], []⟩) (fun i => a.length - i) 0 ⟨by simp, by simp⟩ ?_ ?_
 ·(refine Le.by [] rfl rfl rfl rfl ?_ ?_ <;> (conv => whnf) <;> (repeat' (first | exact trivial | exact ac.rfl rfl | exact ac.ptr rfl | exact ac.sl rfl | ((with_reducible refine ac.fn ?_); (conv => whnf)) | ((refine ac.iref ?_); (conv => whnf)) | exact ⟨rfl, rfl, rfl⟩ | exact fun i hi => rfl | ((with_reducible refine And.intro ?_ ?_) <;> (conv => whnf)))))
 ·rintro i ⟨h1, h2⟩
  (repeat' (first | ((first | refine Wp.any aa rfl ?_ | (with_reducible first | refine Go.mk ?_ | apply ak.of)); conv => whnf) | with_reducible exact rfl | ((with_reducible refine Ov.ok zO ?_); conv => whnf) | (with_reducible refine Ov.sh1 (by with_unfolding_all exact rfl) ?_) | ((first | with_reducible refine Ov.quo (by omega) (by omega) (by omega) (fun _ _ => ?_) | refine zV ?_ | with_reducible refine And.intro zC ?_); conv => whnf) | ((with_reducible refine And.intro ?hb ?_); (case hb => exact zz0); (conv => whnf)) | ((refine ae.a rfl rfl rfl rfl rfl rfl ?hb ?_); (case hb => exact zB); (conv => whnf)) | ((refine ae.b rfl rfl rfl rfl rfl rfl rfl rfl ?hb ?ho ?_); (case hb => exact zB); (case ho => omega); (conv => whnf)) | ((refine ae.c rfl rfl rfl rfl rfl ?hb ?_); (case hb => exact zB); (conv => whnf)) | ((refine ae.d rfl rfl rfl rfl rfl rfl ?hb ?ho ?_); (case hb => exact zB); (case ho => omega); (conv => whnf)) | (with_reducible refine Or.inl ?_) | ((with_reducible refine IxA.ptr ?_); conv => whnf) | ((with_reducible refine nil_no (by omega) ?_); (conv => whnf)) | ((with_reducible refine af ?_ (fun hn0 => ?_)) <;> (conv => whnf)) | ((refine am (fun hc => ?_) (fun hc => ?_)) <;> (try simp only [wz9] at hc) <;> (try (exfalso; omega)) <;> (conv => whnf))))
  all_goals try simp only [Q13] at *
  ·exact .b (decide_eq_false fun e => by subst e; exact hc rfl).symm
  ·refine ⟨i + 1, ⟨by omega, fun j hj => ?_⟩, by first | omega | (dsimp only; omega), ?_⟩
   ·by_cases e : j = i
    ·subst e; exact hc
    ·exact h2 j (by omega)
   ·(refine Le.by [] rfl rfl rfl rfl ?_ ?_ <;> (conv => whnf) <;> (repeat' (first | exact trivial | exact ac.rfl rfl | exact ac.ptr rfl | exact ac.sl rfl | ((with_reducible refine ac.fn ?_); (conv => whnf)) | ((refine ac.iref ?_); (conv => whnf)) | exact ⟨rfl, rfl, rfl⟩ | exact fun i hi => rfl | ((with_reducible refine And.intro ?_ ?_) <;> (conv => whnf)))))
  ·exact .b (decide_eq_true (gN (by omega) fun j hj => h2 j (by omega))).symm
theorem fp (a b : List Int) : Pure TC 37 [.d (aj 1 (ao .i64) a), .d (aj 1 (ao .i64) b)] (.b (decide (a = b))) := by
 refine Pure.lens (.mk Tryz.func37 rfl rfl) fun hlen => ?_
 have ha := hlen a.length (by simp [bf, aj])
 refine Pure.mk' Tryz.func37 rfl rfl zN ?_
 (repeat' (first | ((first | refine Wp.any aa rfl ?_ | (with_reducible first | refine Go.mk ?_ | apply ak.of)); conv => whnf) | with_reducible exact rfl | ((with_reducible refine Ov.ok zO ?_); conv => whnf) | (with_reducible refine Ov.sh1 (by with_unfolding_all exact rfl) ?_) | ((first | with_reducible refine Ov.quo (by omega) (by omega) (by omega) (fun _ _ => ?_) | refine zV ?_ | with_reducible refine And.intro zC ?_); conv => whnf) | ((with_reducible refine And.intro ?hb ?_); (case hb => exact zz0); (conv => whnf)) | ((refine ae.a rfl rfl rfl rfl rfl rfl ?hb ?_); (case hb => exact zB); (conv => whnf)) | ((refine ae.b rfl rfl rfl rfl rfl rfl rfl rfl ?hb ?ho ?_); (case hb => exact zB); (case ho => omega); (conv => whnf)) | ((refine ae.c rfl rfl rfl rfl rfl ?hb ?_); (case hb => exact zB); (conv => whnf)) | ((refine ae.d rfl rfl rfl rfl rfl rfl ?hb ?ho ?_); (case hb => exact zB); (case ho => omega); (conv => whnf)) | (with_reducible refine Or.inl ?_) | ((with_reducible refine IxA.ptr ?_); conv => whnf) | ((with_reducible refine nil_no (by omega) ?_); (conv => whnf)) | ((with_reducible refine af ?_ (fun hn0 => ?_)) <;> (conv => whnf)) | ((refine am (fun hc => ?_) (fun hc => ?_)) <;> (try simp only [wz9] at hc) <;> (try (exfalso; omega)) <;> (conv => whnf))))
 ·exact .b (decide_eq_false fun e => by subst e; omega).symm
 refine Wp.loopP (ι := Nat) (fun i => i ≤ a.length ∧ ∀ j, j < i → a.getD j default = b.getD j default) (fun i => ⟨⟨Tryz.f37.ntmps, 0⟩, 0, [(0, .d (aj 1 (ao .i64) a)), (1, .d (aj 1 (ao .i64) b)), (12, .i .i64 a.length), (13, .i .i64 i)], []⟩) (fun i => a.length - i) 0 ⟨by simp, by simp⟩ ?_ ?_
 ·(refine Le.by [] rfl rfl rfl rfl ?_ ?_ <;> (conv => whnf) <;> (repeat' (first | exact trivial | exact ac.rfl rfl | exact ac.ptr rfl | exact ac.sl rfl | ((with_reducible refine ac.fn ?_); (conv => whnf)) | ((refine ac.iref ?_); (conv => whnf)) | exact ⟨rfl, rfl, rfl⟩ | exact fun i hi => rfl | ((with_reducible refine And.intro ?_ ?_) <;> (conv => whnf)))))
 ·rintro i ⟨h1, h2⟩
  (repeat' (first | ((first | refine Wp.any aa rfl ?_ | (with_reducible first | refine Go.mk ?_ | apply ak.of)); conv => whnf) | with_reducible exact rfl | ((with_reducible refine Ov.ok zO ?_); conv => whnf) | (with_reducible refine Ov.sh1 (by with_unfolding_all exact rfl) ?_) | ((first | with_reducible refine Ov.quo (by omega) (by omega) (by omega) (fun _ _ => ?_) | refine zV ?_ | with_reducible refine And.intro zC ?_); conv => whnf) | ((with_reducible refine And.intro ?hb ?_); (case hb => exact zz0); (conv => whnf)) | ((refine ae.a rfl rfl rfl rfl rfl rfl ?hb ?_); (case hb => exact zB); (conv => whnf)) | ((refine ae.b rfl rfl rfl rfl rfl rfl rfl rfl ?hb ?ho ?_); (case hb => exact zB); (case ho => omega); (conv => whnf)) | ((refine ae.c rfl rfl rfl rfl rfl ?hb ?_); (case hb => exact zB); (conv => whnf)) | ((refine ae.d rfl rfl rfl rfl rfl rfl ?hb ?ho ?_); (case hb => exact zB); (case ho => omega); (conv => whnf)) | (with_reducible refine Or.inl ?_) | ((with_reducible refine IxA.ptr ?_); conv => whnf) | ((with_reducible refine nil_no (by omega) ?_); (conv => whnf)) | ((with_reducible refine af ?_ (fun hn0 => ?_)) <;> (conv => whnf)) | ((refine am (fun hc => ?_) (fun hc => ?_)) <;> (try simp only [wz9] at hc) <;> (try (exfalso; omega)) <;> (conv => whnf))))
  all_goals try simp only [Q13] at *
  ·exact .b (decide_eq_false fun e => by subst e; exact hc rfl).symm
  ·refine ⟨i + 1, ⟨by omega, fun j hj => ?_⟩, by first | omega | (dsimp only; omega), ?_⟩
   ·by_cases e : j = i
    ·subst e; exact hc
    ·exact h2 j (by omega)
   ·(refine Le.by [] rfl rfl rfl rfl ?_ ?_ <;> (conv => whnf) <;> (repeat' (first | exact trivial | exact ac.rfl rfl | exact ac.ptr rfl | exact ac.sl rfl | ((with_reducible refine ac.fn ?_); (conv => whnf)) | ((refine ac.iref ?_); (conv => whnf)) | exact ⟨rfl, rfl, rfl⟩ | exact fun i hi => rfl | ((with_reducible refine And.intro ?_ ?_) <;> (conv => whnf)))))
  ·exact .b (decide_eq_true (gN (by omega) fun j hj => h2 j (by omega))).symm
instance : DecidableEq Cel := fun a b => decidable_of_iff (a.pol = b.pol ∧ a.key = b.key ∧ a.tat = b.tat ∧ a.held = b.held) (by
 cases a; cases b; simp)
def d9 (xs : List Cel) (pol : Int) (key : List Int) : Int := if fst (fun c => decide (c.pol = pol) && decide (c.key = key)) xs < xs.length then fst (fun c => decide (c.pol = pol) && decide (c.key = key)) xs else -1
theorem it (xs : List Cel) (pol : Int) (key : List Int) : Pure TC 33 [.d (aj 4 Cel.D xs), .i .i64 pol, .d (aj 1 (ao .u8) key)] (.i .i64 (d9 xs pol key)) := by
 refine Pure.lens (.mk Tryz.func33 rfl rfl) fun hlen => ?_
 have ha := hlen xs.length (by simp [bf, aj])
 refine Pure.mk' Tryz.func33 rfl rfl zN ?_
 (repeat' (first | ((first | refine Wp.any aa rfl ?_ | (with_reducible first | refine Go.mk ?_ | apply ak.of)); conv => whnf) | with_reducible exact rfl | ((with_reducible refine Ov.ok zO ?_); conv => whnf) | (with_reducible refine Ov.sh1 (by with_unfolding_all exact rfl) ?_) | ((first | with_reducible refine Ov.quo (by omega) (by omega) (by omega) (fun _ _ => ?_) | refine zV ?_ | with_reducible refine And.intro zC ?_); conv => whnf) | ((with_reducible refine And.intro ?hb ?_); (case hb => exact zz0); (conv => whnf)) | ((refine ae.a rfl rfl rfl rfl rfl rfl ?hb ?_); (case hb => exact zB); (conv => whnf)) | ((refine ae.b rfl rfl rfl rfl rfl rfl rfl rfl ?hb ?ho ?_); (case hb => exact zB); (case ho => omega); (conv => whnf)) | ((refine ae.c rfl rfl rfl rfl rfl ?hb ?_); (case hb => exact zB); (conv => whnf)) | ((refine ae.d rfl rfl rfl rfl rfl rfl ?hb ?ho ?_); (case hb => exact zB); (case ho => omega); (conv => whnf)) | (with_reducible refine Or.inl ?_) | ((with_reducible refine IxA.ptr ?_); conv => whnf) | ((with_reducible refine nil_no (by omega) ?_); (conv => whnf)) | ((with_reducible refine af ?_ (fun hn0 => ?_)) <;> (conv => whnf)) | ((refine am (fun hc => ?_) (fun hc => ?_)) <;> (try simp only [wz9] at hc) <;> (try (exfalso; omega)) <;> (conv => whnf))))
 refine Wp.loopP (ι := Nat) (fun i => i ≤ xs.length ∧ ∀ j, j < i → (decide ((xs.getD j default).pol = pol) && decide ((xs.getD j default).key = key)) = false) (fun i => ⟨⟨Tryz.f33.ntmps, 0⟩, 0, [(1, .i .i64 pol), (2, .d (aj 1 (ao .u8) key)), (9, .d (aj 4 Cel.D xs)), (10, .i .i64 xs.length), (11, .i .i64 i)], []⟩) (fun i => xs.length - i) 0 ⟨by simp, by simp⟩ ?_ ?_
 ·(refine Le.by [] rfl rfl rfl rfl ?_ ?_ <;> (conv => whnf) <;> (repeat' (first | exact trivial | exact ac.rfl rfl | exact ac.ptr rfl | exact ac.sl rfl | ((with_reducible refine ac.fn ?_); (conv => whnf)) | ((refine ac.iref ?_); (conv => whnf)) | exact ⟨rfl, rfl, rfl⟩ | exact fun i hi => rfl | ((with_reducible refine And.intro ?_ ?_) <;> (conv => whnf)))))
 ·rintro i ⟨h1, h2⟩
  have hF : ∀ k, k = i → i < xs.length → (decide ((xs.getD i default).pol = pol) && decide ((xs.getD i default).key = key)) = true → fst (fun c => decide (c.pol = pol) && decide (c.key = key)) xs = i := fun k _ hi hp => by
   rw [dC _ xs i h1 h2, aQ hi, fst, if_pos hp]; rfl
  (repeat' (first | ((first | refine Wp.any aa rfl ?_ | (with_reducible first | refine Go.mk ?_ | apply ak.of)); conv => whnf) | with_reducible exact rfl | ((with_reducible refine Ov.ok zO ?_); conv => whnf) | (with_reducible refine Ov.sh1 (by with_unfolding_all exact rfl) ?_) | ((first | with_reducible refine Ov.quo (by omega) (by omega) (by omega) (fun _ _ => ?_) | refine zV ?_ | with_reducible refine And.intro zC ?_); conv => whnf) | ((with_reducible refine And.intro ?hb ?_); (case hb => exact zz0); (conv => whnf)) | ((refine ae.a rfl rfl rfl rfl rfl rfl ?hb ?_); (case hb => exact zB); (conv => whnf)) | ((refine ae.b rfl rfl rfl rfl rfl rfl rfl rfl ?hb ?ho ?_); (case hb => exact zB); (case ho => omega); (conv => whnf)) | ((refine ae.c rfl rfl rfl rfl rfl ?hb ?_); (case hb => exact zB); (conv => whnf)) | ((refine ae.d rfl rfl rfl rfl rfl rfl ?hb ?ho ?_); (case hb => exact zB); (case ho => omega); (conv => whnf)) | (with_reducible refine Or.inl ?_) | ((with_reducible refine IxA.ptr ?_); conv => whnf) | ((with_reducible refine nil_no (by omega) ?_); (conv => whnf)) | ((with_reducible refine af ?_ (fun hn0 => ?_)) <;> (conv => whnf)) | ((with_reducible first | refine ab.pure (bk _ _) rfl rfl ?_ | refine ag.pure (bk _ _) rfl rfl ?_); conv => whnf) | ((refine am (fun hc => ?_) (fun hc => ?_)) <;> (try simp only [wz9] at hc) <;> (try (exfalso; omega)) <;> (conv => whnf))))
  all_goals try simp only [Q13] at *
  ·rename_i hp
   have hf := hF i rfl (by omega) (by rw [hp, hc]; simp)
   exact .i (by rw [d9, hf, if_pos (by omega)])
  ·refine ⟨i + 1, ⟨by omega, fun j hj => ?_⟩, by first | omega | (dsimp only; omega), ?_⟩
   ·by_cases e : j = i
    ·subst e; rw [decide_eq_false hc]; simp
    ·exact h2 j (by omega)
   ·(refine Le.by [] rfl rfl rfl rfl ?_ ?_ <;> (conv => whnf) <;> (repeat' (first | exact trivial | exact ac.rfl rfl | exact ac.ptr rfl | exact ac.sl rfl | ((with_reducible refine ac.fn ?_); (conv => whnf)) | ((refine ac.iref ?_); (conv => whnf)) | exact ⟨rfl, rfl, rfl⟩ | exact fun i hi => rfl | ((with_reducible refine And.intro ?_ ?_) <;> (conv => whnf)))))
  ·refine ⟨i + 1, ⟨by omega, fun j hj => ?_⟩, by first | omega | (dsimp only; omega), ?_⟩
   ·by_cases e : j = i
    ·subst e; rw [decide_eq_false hc]; simp
    ·exact h2 j (by omega)
   ·(refine Le.by [] rfl rfl rfl rfl ?_ ?_ <;> (conv => whnf) <;> (repeat' (first | exact trivial | exact ac.rfl rfl | exact ac.ptr rfl | exact ac.sl rfl | ((with_reducible refine ac.fn ?_); (conv => whnf)) | ((refine ac.iref ?_); (conv => whnf)) | exact ⟨rfl, rfl, rfl⟩ | exact fun i hi => rfl | ((with_reducible refine And.intro ?_ ?_) <;> (conv => whnf)))))
  ·have hf : fst (fun c => decide (c.pol = pol) && decide (c.key = key)) xs = xs.length := by
    rw [dC _ xs i h1 h2, List.drop_eq_nil_of_le (by omega), fst]; omega
   exact .i (by rw [d9, hf, if_neg (by omega)])
theorem pD (xs ys : List Cel) : Pure TC 12 [.d (aj 4 Cel.D xs), .d (aj 4 Cel.D ys)] (.b (decide (xs = ys))) := by
 refine Pure.lens (.mk Tryz.func12 rfl rfl) fun hlen => ?_
 have ha := hlen xs.length (by simp [bf, aj])
 refine Pure.mk' Tryz.func12 rfl rfl zN ?_
 (repeat' (first | ((first | refine Wp.any aa rfl ?_ | (with_reducible first | refine Go.mk ?_ | apply ak.of)); conv => whnf) | with_reducible exact rfl | ((with_reducible refine Ov.ok zO ?_); conv => whnf) | (with_reducible refine Ov.sh1 (by with_unfolding_all exact rfl) ?_) | ((first | with_reducible refine Ov.quo (by omega) (by omega) (by omega) (fun _ _ => ?_) | refine zV ?_ | with_reducible refine And.intro zC ?_); conv => whnf) | ((with_reducible refine And.intro ?hb ?_); (case hb => exact zz0); (conv => whnf)) | ((refine ae.a rfl rfl rfl rfl rfl rfl ?hb ?_); (case hb => exact zB); (conv => whnf)) | ((refine ae.b rfl rfl rfl rfl rfl rfl rfl rfl ?hb ?ho ?_); (case hb => exact zB); (case ho => omega); (conv => whnf)) | ((refine ae.c rfl rfl rfl rfl rfl ?hb ?_); (case hb => exact zB); (conv => whnf)) | ((refine ae.d rfl rfl rfl rfl rfl rfl ?hb ?ho ?_); (case hb => exact zB); (case ho => omega); (conv => whnf)) | (with_reducible refine Or.inl ?_) | ((with_reducible refine IxA.ptr ?_); conv => whnf) | ((with_reducible refine nil_no (by omega) ?_); (conv => whnf)) | ((with_reducible refine af ?_ (fun hn0 => ?_)) <;> (conv => whnf)) | ((refine am (fun hc => ?_) (fun hc => ?_)) <;> (try simp only [wz9] at hc) <;> (try (exfalso; omega)) <;> (conv => whnf))))
 ·exact .b (decide_eq_false fun e => by subst e; omega).symm
 refine Wp.loopP (ι := Nat) (fun i => i ≤ xs.length ∧ ∀ j, j < i → xs.getD j default = ys.getD j default) (fun i => ⟨⟨Tryz.f12.ntmps, 0⟩, 0, [(0, .d (aj 4 Cel.D xs)), (1, .d (aj 4 Cel.D ys)), (12, .i .i64 xs.length), (13, .i .i64 i)], []⟩) (fun i => xs.length - i) 0 ⟨by simp, by simp⟩ ?_ ?_
 ·(refine Le.by [] rfl rfl rfl rfl ?_ ?_ <;> (conv => whnf) <;> (repeat' (first | exact trivial | exact ac.rfl rfl | exact ac.ptr rfl | exact ac.sl rfl | ((with_reducible refine ac.fn ?_); (conv => whnf)) | ((refine ac.iref ?_); (conv => whnf)) | exact ⟨rfl, rfl, rfl⟩ | exact fun i hi => rfl | ((with_reducible refine And.intro ?_ ?_) <;> (conv => whnf)))))
 ·rintro i ⟨h1, h2⟩
  (repeat' (first | ((first | refine Wp.any aa rfl ?_ | (with_reducible first | refine Go.mk ?_ | apply ak.of)); conv => whnf) | with_reducible exact rfl | ((with_reducible refine Ov.ok zO ?_); conv => whnf) | (with_reducible refine Ov.sh1 (by with_unfolding_all exact rfl) ?_) | ((first | with_reducible refine Ov.quo (by omega) (by omega) (by omega) (fun _ _ => ?_) | refine zV ?_ | with_reducible refine And.intro zC ?_); conv => whnf) | ((with_reducible refine And.intro ?hb ?_); (case hb => exact zz0); (conv => whnf)) | ((refine ae.a rfl rfl rfl rfl rfl rfl ?hb ?_); (case hb => exact zB); (conv => whnf)) | ((refine ae.b rfl rfl rfl rfl rfl rfl rfl rfl ?hb ?ho ?_); (case hb => exact zB); (case ho => omega); (conv => whnf)) | ((refine ae.c rfl rfl rfl rfl rfl ?hb ?_); (case hb => exact zB); (conv => whnf)) | ((refine ae.d rfl rfl rfl rfl rfl rfl ?hb ?ho ?_); (case hb => exact zB); (case ho => omega); (conv => whnf)) | (with_reducible refine Or.inl ?_) | ((with_reducible refine IxA.ptr ?_); conv => whnf) | ((with_reducible refine nil_no (by omega) ?_); (conv => whnf)) | ((with_reducible refine af ?_ (fun hn0 => ?_)) <;> (conv => whnf)) | ((with_reducible first | refine ab.pure (bk _ _) rfl rfl ?_ | refine ag.pure (bk _ _) rfl rfl ?_ | refine ab.pure (fp _ _) rfl rfl ?_ | refine ag.pure (fp _ _) rfl rfl ?_); conv => whnf) | ((refine am (fun hc => ?_) (fun hc => ?_)) <;> (try simp only [wz9] at hc) <;> (try (exfalso; omega)) <;> (conv => whnf))))
  all_goals try simp only [Q13] at *
  ·exact .b (decide_eq_false fun e => by subst e; exact hc rfl).symm
  ·exact .b (decide_eq_false fun e => by subst e; exact hc rfl).symm
  ·exact .b (decide_eq_false fun e => by subst e; exact hc rfl).symm
  ·exact .b (decide_eq_false fun e => by subst e; exact hc rfl).symm
  ·rename_i q1 q2 q3
   refine ⟨i + 1, ⟨by omega, fun j hj => ?_⟩, by first | omega | (dsimp only; omega), ?_⟩
   ·by_cases e : j = i
    ·subst e
     cases hx : xs.getD j default with | mk a1 a2 a3 a4 =>
     cases hy : ys.getD j default with | mk b1 b2 b3 b4 =>
     rw [hx, hy] at q1 q2 q3 hc
     simp only at q1 q2 q3 hc
     subst q1 q2 q3 hc; rfl
    ·exact h2 j (by omega)
   ·(refine Le.by [] rfl rfl rfl rfl ?_ ?_ <;> (conv => whnf) <;> (repeat' (first | exact trivial | exact ac.rfl rfl | exact ac.ptr rfl | exact ac.sl rfl | ((with_reducible refine ac.fn ?_); (conv => whnf)) | ((refine ac.iref ?_); (conv => whnf)) | exact ⟨rfl, rfl, rfl⟩ | exact fun i hi => rfl | ((with_reducible refine And.intro ?_ ?_) <;> (conv => whnf)))))
  ·refine .b (decide_eq_true (List.ext_getElem (by omega) fun j g1 g2 => ?_)).symm
   have := h2 j (by omega)
   rw [Q1, Q1, Q0 g1, Q0 g2] at this
   simpa using this
theorem aE : ∀ a : List Int, be a a = 0
 | [] => rfl
 | x :: r => by simp only [be]; rw [if_neg (by omega), if_neg (by omega)]; exact aE r
theorem fU : ∀ {a b : List Int}, be a b = 0 → a = b
 | [], [], _ => rfl
 | [], _ :: _, h => by simp [be] at h
 | _ :: _, [], h => by simp [be] at h
 | x :: a, y :: b, h => by
  simp only [be] at h
  split at h
  ·omega
  ·split at h
   ·omega
   ·rw [fU h, show x = y by omega]
theorem fT : ∀ a b : List Int, be b a = - be a b
 | [], [] => rfl
 | [], _ :: _ => rfl
 | _ :: _, [] => rfl
 | x :: a, y :: b => by
  simp only [be]
  by_cases h1 : x < y
  ·rw [if_neg (by omega), if_pos h1, if_pos h1]; rfl
  ·by_cases h2 : y < x
   ·rw [if_pos h2, if_neg h1, if_pos h2]
   ·rw [if_neg h2, if_neg h1, if_neg h1, if_neg h2]; exact fT a b
theorem ca : ∀ {a b c : List Int}, be a b < 0 → be b c < 0 → be a c < 0
 | [], [], _, h, _ => by simp [be] at h
 | [], _ :: _, [], _, h => by simp [be] at h
 | [], _ :: _, _ :: _, _, _ => by simp [be]
 | _ :: _, [], _, h, _ => by simp [be] at h
 | _ :: _, _ :: _, [], _, h => by simp [be] at h
 | x :: a, y :: b, z :: c, h1, h2 => by
  simp only [be] at h1 h2 ⊢
  by_cases e1 : x < y
  ·by_cases e2 : y < z
   ·rw [if_pos (by omega)]; omega
   ·by_cases e3 : z < y
    ·rw [if_neg e2, if_pos e3] at h2; omega
    ·rw [if_pos (by omega)]; omega
  ·by_cases e2 : y < x
   ·rw [if_neg e1, if_pos e2] at h1; omega
   ·rw [if_neg e1, if_neg e2] at h1
    by_cases e3 : y < z
    ·rw [if_pos (by omega)]; omega
    ·by_cases e4 : z < y
     ·rw [if_neg e3, if_pos e4] at h2; omega
     ·rw [if_neg e3, if_neg e4] at h2
      rw [if_neg (by omega), if_neg (by omega)]
      exact ca h1 h2
def idn (c : Cel) : List Int := c.pol :: c.key
def k9 (pol : Int) (key : List Int) : Prop := 0 ≤ pol ∧ pol < 32 ∧ key.length ≤ 255
theorem jy {pol : Int} {key : List Int} (h : k9 pol key) : cy pol key = pol :: key := by
 obtain ⟨h1, h2, h3⟩ := h
 rw [cy, if_pos (by rw [b6, if_neg (by omega), if_neg (by omega)])]
theorem iA {a b : Cel} (ha : k9 a.pol a.key) (hb : k9 b.pol b.key) : i9 a b = be (idn a) (idn b) := by
 rw [i9, jy ha, jy hb]; rfl
theorem iU {lt : Nat → Bool} {n : Nat} (mono : ∀ i j, i ≤ j → j < n → lt j = true → lt i = true) : ∀ (q i j : Nat), i ≤ j → j ≤ n → j - i < q → (∀ k, k < i → lt k = true) → (∀ k, j ≤ k → k < n → lt k = false) →
  (∀ k, k < bsF lt q i j → lt k = true) ∧ ∀ k, bsF lt q i j ≤ k → k < n → lt k = false
 | 0, i, j, _, _, h, _, _ => by omega
 | q + 1, i, j, h1, h2, h3, h4, h5 => by
  unfold bsF
  by_cases hij : i < j
  ·rw [if_pos hij]
   by_cases hl : lt ((i + j) / 2) = true
   ·rw [if_pos hl]
    exact iU mono q _ _ (by omega) h2 (by omega) (fun k hk => mono k ((i + j) / 2) (by omega) (by omega) hl) h5
   ·rw [if_neg hl]
    refine iU mono q _ _ (by omega) (by omega) (by omega) h4 (fun k hk hkn => ?_)
    cases hlk : lt k with
    | false => rfl
    | true => exact absurd (mono _ k hk hkn hlk) hl
  ·rw [if_neg hij]
   exact ⟨h4, fun k hk hkn => h5 k (by omega) hkn⟩
theorem nI {lt : Nat → Bool} {n : Nat} (mono : ∀ i j, i ≤ j → j < n → lt j = true → lt i = true) : (∀ k, k < bs lt n → lt k = true) ∧ ∀ k, bs lt n ≤ k → k < n → lt k = false :=
 iU mono (n + 1) 0 n (Nat.zero_le _) (Q4 _) (by omega) (fun k hk => by omega) (fun k hk hkn => by omega)
structure Srt (xs : List Cel) : Prop where
 ok : ∀ c ∈ xs, k9 c.pol c.key
 lt : xs.Pairwise fun a b => be (idn a) (idn b) < 0
theorem bO {xs : List Cel} {k : Nat} (h : k < xs.length) : xs.getD k default ∈ xs := by
 rw [Q1, Q0 h]; exact Q14 h
theorem bx {xs : List Cel} {k : Nat} (h : k < xs.length) : xs.getD k default = xs[k] := by
 rw [Q1, Q0 h]; rfl
theorem Srt.at {xs : List Cel} (h : Srt xs) {i j : Nat} (hij : i < j) (hj : j < xs.length) : be (idn (xs.getD i default)) (idn (xs.getD j default)) < 0 := by
 rw [bx hj, bx (show i < xs.length by omega)]
 exact List.pairwise_iff_getElem.1 h.lt i j (by omega) hj hij
theorem kZ {xs : List Cel} (h : Srt xs) {t : Cel} (ht : k9 t.pol t.key) : aM xs t ≤ xs.length ∧ (∀ k, k < aM xs t → be (idn (xs.getD k default)) (idn t) < 0) ∧ ∀ k, aM xs t ≤ k → k < xs.length → ¬ be (idn (xs.getD k default)) (idn t) < 0 := by
 have hle : aM xs t ≤ xs.length := j6 xs t
 have hord : ∀ k, k < xs.length → i9 (xs.getD k default) t = be (idn (xs.getD k default)) (idn t) := fun k hk => iA (h.ok _ (bO hk)) ht
 have := nI (lt := fun k => decide (i9 (xs.getD k default) t < 0)) (n := xs.length) (fun i j hij hj hlt => by
  simp only [decide_eq_true_eq] at hlt ⊢
  rw [hord j hj] at hlt
  rw [hord i (by omega)]
  by_cases e : i = j
  ·subst e; exact hlt
  ·exact ca (h.at (by omega) hj) hlt)
 refine ⟨hle, fun k hk => ?_, fun k hk hkn => ?_⟩
 ·have := this.1 k hk
  simp only [decide_eq_true_eq] at this
  rw [hord k (by omega)] at this; exact this
 ·have := this.2 k hk hkn
  simp only [decide_eq_false_iff_not] at this
  rw [hord k hkn] at this; exact this
def look (xs : List Cel) (i : List Int) : Option Cel := xs.find? fun c => decide (idn c = i)
theorem bw {xs : List Cel} {i : List Int} {c : Cel} (h : look xs i = some c) : c ∈ xs ∧ idn c = i := by
 unfold look at h
 exact ⟨List.mem_of_find?_eq_some h, by simpa using List.find?_some h⟩
theorem Srt.uniq {xs : List Cel} (h : Srt xs) {a b : Cel} (ha : a ∈ xs) (hb : b ∈ xs) (e : idn a = idn b) : a = b := by
 obtain ⟨i, hi, rfl⟩ := List.getElem_of_mem ha
 obtain ⟨j, hj, rfl⟩ := List.getElem_of_mem hb
 have hp := List.pairwise_iff_getElem.1 h.lt
 rcases Nat.lt_trichotomy i j with hlt | rfl | hlt
 ·have := hp i j hi hj hlt; rw [e, aE] at this; omega
 ·rfl
 ·have := hp j i hj hi hlt; rw [e, aE] at this; omega
theorem Srt.look_of {xs : List Cel} (h : Srt xs) {c : Cel} (hc : c ∈ xs) : look xs (idn c) = some c := by
 cases hl : look xs (idn c) with
 | none => unfold look at hl; rw [List.find?_eq_none] at hl; exact absurd (by simp) (hl c hc)
 | some d => obtain ⟨h1, h2⟩ := bw hl; rw [h.uniq h1 hc h2]
theorem dA {xs : List Cel} {i : List Int} : look xs i = none ↔ ∀ c ∈ xs, idn c ≠ i := by unfold look; rw [List.find?_eq_none]; simp
theorem iJ {xs : List Cel} (h : Srt xs) {t : Cel} (ht : k9 t.pol t.key) : (bS xs t = true → look xs (idn t) = some (xs.getD (aM xs t) default)) ∧ (bS xs t = false → look xs (idn t) = none) := by
 obtain ⟨h1, h2, h3⟩ := kZ h ht
 constructor
 ·intro hh
  obtain ⟨p1, p2⟩ := (c8 _ _).1 hh
  rw [iA (h.ok _ (bO p1)) ht] at p2
  rw [← fU p2]
  exact h.look_of (bO p1)
 ·intro hh
  rw [dA]
  intro c hc e
  obtain ⟨k, hk, rfl⟩ := List.getElem_of_mem hc
  rw [← bx hk] at e
  have h9 : ¬ k < aM xs t := fun hlt => by have := h2 k hlt; rw [e, aE] at this; omega
  by_cases hkp : k = aM xs t
  ·subst hkp
   have : bS xs t = true := (c8 _ _).2 ⟨hk, by rw [iA (h.ok _ (bO hk)) ht, e, aE]⟩
   rw [this] at hh; cases hh
  ·have := h3 (aM xs t) (Q4 _) (by omega)
   have h8 := h.at (show aM xs t < k by omega) hk
   rw [e] at h8
   exact this h8
theorem nc {xs : List Cel} (h : Srt xs) {t : Cel} (ht : k9 t.pol t.key) : bS xs t = (look xs (idn t)).isSome := by
 obtain ⟨h1, h2⟩ := iJ h ht
 cases hh : bS xs t with
 | true => rw [h1 hh]; rfl
 | false => rw [h2 hh]; rfl
theorem nn {xs : List Cel} (h : Srt xs) {pol : Int} {key : List Int} (ht : k9 pol key) : bz xs pol key = (look xs (pol :: key)).getD (aw pol key) := by
 obtain ⟨h1, h2⟩ := iJ h (t := aw pol key) ht
 unfold bz
 by_cases hh : bS xs (aw pol key) = true
 ·rw [if_pos hh]; have := h1 hh; rw [show idn (aw pol key) = pol :: key from rfl] at this; rw [this]; rfl
 ·rw [if_neg hh]; have := h2 (by simpa using hh); rw [show idn (aw pol key) = pol :: key from rfl] at this; rw [this]; rfl
theorem cV {xs : List Cel} (h : Srt xs) {i : List Int} {d : Cel} : look xs i = some d ↔ d ∈ xs ∧ idn d = i :=
 ⟨bw, fun ⟨h1, h2⟩ => by rw [← h2]; exact h.look_of h1⟩
theorem mR {α : Type} {a b : Option α} (h : ∀ d, a = some d ↔ b = some d) : a = b := by
 cases a with
 | none => cases b with
  | none => rfl
  | some d => have := (h d).2 rfl; cases this
 | some d => exact ((h d).1 rfl).symm
theorem Srt.ids {xs : List Cel} (h : Srt xs) : (xs.map idn).Pairwise fun a b => be a b < 0 := by rw [List.pairwise_map]; exact h.lt
theorem set_mem {xs : List Cel} (h : Srt xs) {p : Nat} {c : Cel} (hp : p < xs.length) (e : idn (xs.getD p default) = idn c) (d : Cel) : d ∈ xs.set p c ↔ d = c ∨ (d ∈ xs ∧ idn d ≠ idn c) := by
 rw [bx hp] at e
 constructor
 ·intro hd
  obtain ⟨k, hk, rfl⟩ := List.getElem_of_mem hd
  rw [List.length_set] at hk
  rw [List.getElem_set]
  by_cases hkp : p = k
  ·rw [if_pos hkp]; exact Or.inl rfl
  ·rw [if_neg hkp]
   refine Or.inr ⟨Q14 hk, fun e2 => ?_⟩
   have hp2 := List.pairwise_iff_getElem.1 h.lt
   rw [← e] at e2
   rcases Nat.lt_or_gt_of_ne hkp with hlt | hlt
   ·have := hp2 p k hp hk hlt; rw [e2, aE] at this; omega
   ·have := hp2 k p hk hp hlt; rw [e2, aE] at this; omega
 ·rintro (rfl | ⟨h1, h2⟩)
  ·exact List.mem_set hp _
  ·obtain ⟨k, hk, rfl⟩ := List.getElem_of_mem h1
   have hkp : ¬ p = k := fun e2 => by subst e2; exact h2 e
   have : (xs.set p c)[k]'(by rw [List.length_set]; exact hk) = xs[k] := by rw [List.getElem_set, if_neg hkp]
   rw [← this]; exact Q14 _
theorem gX {xs : List Cel} (h : Srt xs) {t c : Cel} (hc : k9 c.pol c.key) (e : idn c = idn t) :
  Srt (cA xs (aM xs t) (bS xs t) c) ∧ (∀ d, d ∈ cA xs (aM xs t) (bS xs t) c ↔ d = c ∨ (d ∈ xs ∧ idn d ≠ idn c)) ∧ (cA xs (aM xs t) (bS xs t) c).length = if bS xs t = true then xs.length else xs.length + 1 := by
 have ht : k9 t.pol t.key := by
  have e1 : c.pol = t.pol := by have := e; simp only [idn, List.cons.injEq] at this; exact this.1
  have e2 : c.key = t.key := by have := e; simp only [idn, List.cons.injEq] at this; exact this.2
  rw [← e1, ← e2]; exact hc
 obtain ⟨h1, h2, h3⟩ := kZ h ht
 cases hh : bS xs t with
 | true =>
  obtain ⟨p1, p2⟩ := (c8 _ _).1 hh
  rw [iA (h.ok _ (bO p1)) ht] at p2
  have p3 : idn (xs.getD (aM xs t) default) = idn c := by rw [fU p2, e]
  have hm := set_mem h p1 p3
  simp only [cA, if_true]
  refine ⟨⟨fun d hd => ?_, ?_⟩, hm, List.length_set ..⟩
  ·rcases (hm d).1 hd with rfl | ⟨hd, _⟩
   ·exact hc
   ·exact h.ok d hd
  ·rw [← List.pairwise_map (f := idn) (R := fun a b => be a b < 0), List.map_set, ← p3]
   have : (xs.map idn).set (aM xs t) (idn (xs.getD (aM xs t) default)) = xs.map idn := by
    rw [bx p1]
    have : idn xs[aM xs t] = (xs.map idn)[aM xs t]'(by simpa using p1) := by simp
    rw [this]; exact List.set_getElem_self _
   rw [this]; exact h.ids
 | false =>
  simp only [cA, Bool.false_eq_true, if_false]
  have hn := dA.1 ((iJ h ht).2 hh)
  have hge : ∀ k, aM xs t ≤ k → k < xs.length → be (idn c) (idn (xs.getD k default)) < 0 := fun k hk hkn => by
   have h9 := h3 k hk hkn
   have h8 := fT (idn (xs.getD k default)) (idn t)
   rw [e, h8]
   have h7 : be (idn (xs.getD k default)) (idn t) ≠ 0 := fun h0 => hn _ (bO hkn) (fU h0)
   omega
  have hm : ∀ d, d ∈ br xs (aM xs t) c ↔ d = c ∨ (d ∈ xs ∧ idn d ≠ idn c) := fun d => by
   have hx : d ∈ br xs (aM xs t) c ↔ d = c ∨ d ∈ xs := by
    unfold br
    rw [List.mem_append, List.mem_append, List.mem_singleton]
    constructor
    ·rintro ((h | h) | h)
     ·exact Or.inr (List.mem_of_mem_take h)
     ·exact Or.inl h
     ·exact Or.inr (List.mem_of_mem_drop h)
    ·rintro (h | h)
     ·exact Or.inl (Or.inr h)
     ·rw [← List.take_append_drop (aM xs t) xs] at h
      rcases List.mem_append.1 h with h | h
      ·exact Or.inl (Or.inl h)
      ·exact Or.inr h
   rw [hx]
   constructor
   ·rintro (h | h)
    ·exact Or.inl h
    ·exact Or.inr ⟨h, by rw [e]; exact hn d h⟩
   ·rintro (h | ⟨h, _⟩)
    ·exact Or.inl h
    ·exact Or.inr h
  refine ⟨⟨fun d hd => ?_, ?_⟩, hm, aB _ _ _ h1⟩
  ·rcases (hm d).1 hd with rfl | ⟨hd, _⟩
   ·exact hc
   ·exact h.ok d hd
  ·unfold br
   rw [List.append_assoc, List.pairwise_append]
   have hpt : (xs.take (aM xs t)).Pairwise fun a b => be (idn a) (idn b) < 0 := h.lt.sublist (List.take_sublist _ _)
   have hpd : (xs.drop (aM xs t)).Pairwise fun a b => be (idn a) (idn b) < 0 := h.lt.sublist (List.drop_sublist _ _)
   have htl : ∀ a ∈ xs.take (aM xs t), be (idn a) (idn c) < 0 := fun a ha => by
    obtain ⟨k, hk, rfl⟩ := List.getElem_of_mem ha
    rw [Q10] at hk
    rw [List.getElem_take, ← bx (show k < xs.length by omega), e]
    exact h2 k (by omega)
   have hdl : ∀ b ∈ xs.drop (aM xs t), be (idn c) (idn b) < 0 := fun b hb => by
    obtain ⟨k, hk, rfl⟩ := List.getElem_of_mem hb
    rw [List.length_drop] at hk
    rw [List.getElem_drop, ← bx (show aM xs t + k < xs.length by omega)]
    exact hge _ (by omega) (by omega)
   refine ⟨hpt, ?_, fun a ha b hb => ?_⟩
   ·rw [List.singleton_append, List.pairwise_cons]; exact ⟨hdl, hpd⟩
   ·rw [List.singleton_append] at hb
    rcases Q22 hb with rfl | hb
    ·exact htl a ha
    ·exact ca (htl a ha) (hdl b hb)
theorem Srt.filter {xs : List Cel} (h : Srt xs) (q : Cel → Bool) : Srt (xs.filter q) := ⟨fun c hc => h.ok c (List.mem_filter.1 hc).1, h.lt.filter _⟩
theorem Srt.tail {c : Cel} {xs : List Cel} (h : Srt (c :: xs)) : Srt xs := ⟨fun d hd => h.ok d (by simp [hd]), (List.pairwise_cons.1 h.lt).2⟩
theorem mz : ∀ {xs ys : List Cel}, Srt xs → Srt ys → (∀ i, look xs i = look ys i) → xs = ys
 | [], [], _, _, _ => rfl
 | [], b :: s, _, h', e => by have := e (idn b); rw [h'.look_of (by simp)] at this; simp [look] at this
 | a :: r, [], h, _, e => by have := e (idn a); rw [h.look_of (by simp)] at this; simp [look] at this
 | a :: r, b :: s, h, h', e => by
  have ha : a ∈ b :: s := by have := e (idn a); rw [h.look_of (by simp)] at this; exact (bw this.symm).1
  have hb : b ∈ a :: r := by have := e (idn b); rw [h'.look_of (by simp)] at this; exact (bw this).1
  have hab : a = b := by
   rcases Q22 ha with h1 | h1
   ·exact h1
   ·rcases Q22 hb with h2 | h2
    ·exact h2.symm
    ·have p1 := (List.pairwise_cons.1 h'.lt).1 a h1
     have p2 := (List.pairwise_cons.1 h.lt).1 b h2
     have := ca p1 p2
     rw [aE] at this; omega
  subst hab
  congr 1
  refine mz h.tail h'.tail fun i => mR fun d => ?_
  have e1 := e i
  rw [cV h.tail, cV h'.tail]
  have key : ∀ {zs : List Cel} (hz : Srt (a :: zs)), (d ∈ zs ∧ idn d = i) ↔ (look (a :: zs) i = some d ∧ i ≠ idn a) := fun {zs} hz => by
   rw [cV hz]
   constructor
   ·rintro ⟨h1, h2⟩
    refine ⟨⟨by simp [h1], h2⟩, fun e2 => ?_⟩
    have := (List.pairwise_cons.1 hz.lt).1 d h1
    rw [h2, e2, aE] at this; omega
   ·rintro ⟨⟨h1, h2⟩, h3⟩
    rcases Q22 h1 with rfl | h1
    ·exact absurd h2.symm h3
    ·exact ⟨h1, h2⟩
  rw [key h, key h', e1]
section
theorem dO.mem {ps : List Pol} {xs : List Cel} (h : dO ps xs) {c : Cel} (hc : c ∈ xs) : (∀ b ∈ c.key, 0 ≤ b ∧ b ≤ 255) ∧ c.key.length ≤ 255 ∧ c.held.length ≤ 64 ∧ 0 ≤ c.pol ∧ c.pol < ps.length := by
 obtain ⟨k, hk, rfl⟩ := List.getElem_of_mem hc
 have e := bx hk
 refine ⟨?_, ?_, ?_, ?_⟩
 ·have := h.byt k; rw [e] at this; exact this
 ·have := h.key k; rw [e] at this; exact this
 ·have := h.held k; rw [e] at this; exact this
 ·have := h.pol k hk; rw [e] at this; exact this
structure od (ps : List Pol) (room : Int) (xs : List Cel) : Prop where
 srt : Srt xs
 ok : dO ps xs
 le : (xs.length : Int) ≤ room
 rm : room ≤ 4096
 pl : ps.length ≤ 32
theorem od.nil {ps : List Pol} {room : Int} (h0 : 0 ≤ room) (h1 : room ≤ 4096) (h2 : ps.length ≤ 32) : od ps room [] :=
 ⟨⟨fun c hc => by simp at hc, .nil⟩, lY ⟨by simp, fun c hc => by simp at hc⟩, by simpa using h0, h1, h2⟩
theorem od.len {ps : List Pol} {room : Int} {xs : List Cel} (h : od ps room xs) : xs.length ≤ 4096 := by have := h.le; have := h.rm; omega
section
variable {ps : List Pol} {room : Int} {xs : List Cel} {op pol : Int} {key : List Int} {n now serial : Int}
theorem m7 (hE : aR ps op pol key n now serial = 0) (hop : op < 5) : k9 pol key ∧ pol < ps.length := by
 obtain ⟨_, _, _, h1, h2, _⟩ := dd hE
 have := h2 hop
 have := bD h1
 exact ⟨⟨by omega, by omega, by omega⟩, by omega⟩
theorem mT {p : Pol} {c : Cel} : idn (bK p c op n now serial).2 = idn c := by
 unfold bK
 split
 ·rfl
 ·split
  ·unfold dP idn; split <;> rfl
  ·unfold ew idn; split <;> rfl
theorem pJ {p : Pol} {c : Cel} (h : c.held.length ≤ 64) : (bK p c op n now serial).2.held.length ≤ 64 := by
 unfold bK
 split
 ·exact h
 ·split
  ·unfold dP
   split
   ·have := ia (by assumption : bi p.permits c.held serial = 0); simp only; omega
   ·exact h
  ·unfold ew
   split
   ·have := iK (by assumption : bT p.permits c.held n = 0); simp only; omega
   ·exact h
def ee (p : Pol) (o : Option Cel) (op pol : Int) (key : List Int) (n now serial : Int) : Rpl × Option Cel :=
 if op = 4 then (bZ p (o.getD (aw pol key)) now, none)
 else if (bK p (o.getD (aw pol key)) op n now serial).1.g = false ∨ (op = 1 ∧ n = 0) then ((bK p (o.getD (aw pol key)) op n now serial).1, none)
 else ((bK p (o.getD (aw pol key)) op n now serial).1, some (bK p (o.getD (aw pol key)) op n now serial).2)
theorem iS (h : od ps room xs) (hE : aR ps op pol key n now serial = 0) (hop : op < 5) :
  doS ps room xs op pol key n now serial = match (ee (ps.getD pol.toNat default) (look xs (pol :: key)) op pol key n now serial).2 with
   | none => ((ee (ps.getD pol.toNat default) (look xs (pol :: key)) op pol key n now serial).1, xs)
   | some c => if look xs (pol :: key) = none ∧ (xs.length : Int) = room then (dG 10, xs) else ((ee (ps.getD pol.toNat default) (look xs (pol :: key)) op pol key n now serial).1, cA xs (aM xs (aw pol key)) (bS xs (aw pol key)) c) := by
 obtain ⟨hid, _⟩ := m7 hE hop
 unfold doS
 rw [if_neg (fun h => h hE), if_neg (by omega), if_neg (by omega), nn h.srt hid]
 unfold ee
 by_cases h4 : op = 4
 ·rw [if_pos h4, if_pos h4]
 ·rw [if_neg h4, if_neg h4]
  unfold mg
  have hdz : (decide (op = 1 ∧ n = 0) = true) ↔ (op = 1 ∧ n = 0) := by simp
  generalize bK (ps.getD pol.toNat default) ((look xs (pol :: key)).getD (aw pol key)) op n now serial = q
  by_cases h1 : q.1.g = false ∨ (op = 1 ∧ n = 0)
  ·rw [if_pos (h1.imp (fun h => h) hdz.2), if_pos h1]
  ·rw [if_neg (fun h => h1 (h.imp (fun h => h) hdz.1)), if_neg h1]
   have hh : bS xs (aw pol key) = false ↔ look xs (pol :: key) = none := by
    have := nc h.srt (t := aw pol key) hid
    rw [this, show idn (aw pol key) = pol :: key from rfl]
    cases look xs (pol :: key) <;> simp
   show _ = if look xs (pol :: key) = none ∧ (xs.length : Int) = room then _ else _
   by_cases h9 : look xs (pol :: key) = none ∧ (xs.length : Int) = room
   ·rw [if_pos ⟨hh.2 h9.1, h9.2⟩, if_pos h9]
   ·rw [if_neg (fun h => h9 ⟨hh.1 h.1, h.2⟩), if_neg h9]
theorem lJ {p : Pol} {o : Option Cel} {c : Cel} (ho : ∀ d, o = some d → idn d = pol :: key) (h : (ee p o op pol key n now serial).2 = some c) : idn c = pol :: key := by
 have hb : idn (o.getD (aw pol key)) = pol :: key := by
  cases o with
  | none => rfl
  | some d => exact ho d rfl
 unfold ee at h
 split at h
 ·cases h
 ·split at h
  ·cases h
  ·simp only [Option.some.injEq] at h; rw [← h, mT]; exact hb
theorem nE {p : Pol} {o : Option Cel} {c : Cel} (ho : ∀ d, o = some d → d.held.length ≤ 64) (h : (ee p o op pol key n now serial).2 = some c) : c.held.length ≤ 64 := by
 have hb : (o.getD (aw pol key)).held.length ≤ 64 := by
  cases o with
  | none => exact Nat.zero_le _
  | some d => exact ho d rfl
 unfold ee at h
 split at h
 ·cases h
 ·split at h
  ·cases h
  ·simp only [Option.some.injEq] at h; rw [← h]; exact pJ hb
theorem ok_put (h : od ps room xs) (hk : IsB key) (hE : aR ps op pol key n now serial = 0) (hop : op < 5) {c : Cel} (hc : (ee (ps.getD pol.toNat default) (look xs (pol :: key)) op pol key n now serial).2 = some c) (hfull : ¬ (look xs (pol :: key) = none ∧ (xs.length : Int) = room)) :
  od ps room (cA xs (aM xs (aw pol key)) (bS xs (aw pol key)) c) := by
 obtain ⟨hid, hpl⟩ := m7 hE hop
 have hidn : idn c = pol :: key := lJ (fun d hd => (bw hd).2) hc
 have e1 : c.pol = pol ∧ c.key = key := by simpa [idn] using hidn
 have hheld : c.held.length ≤ 64 := nE (fun d hd => (h.ok.mem (bw hd).1).2.2.1) hc
 have hcid : k9 c.pol c.key := by rw [e1.1, e1.2]; exact hid
 obtain ⟨s1, s2, s3⟩ := gX h.srt (t := aw pol key) hcid hidn
 have hlen : ((cA xs (aM xs (aw pol key)) (bS xs (aw pol key)) c).length : Int) ≤ room := by
  have hr := h.le
  rw [s3]
  split
  ·exact hr
  ·rename_i hh
   have h9 : look xs (pol :: key) = none := by
    have := nc h.srt (t := aw pol key) hid
    rw [show idn (aw pol key) = pol :: key from rfl] at this
    cases hl : look xs (pol :: key) with
    | none => rfl
    | some d => rw [this, hl] at hh; simp at hh
   have : ¬ (xs.length : Int) = room := fun e => hfull ⟨h9, e⟩
   push_cast
   omega
 refine ⟨s1, lY ⟨?_, fun d hd => ?_⟩, hlen, h.rm, h.pl⟩
 ·have := h.rm; omega
 ·rcases (s2 d).1 hd with rfl | ⟨hd, _⟩
  ·rw [e1.1, e1.2]
   exact ⟨hk, hid.2.2, hheld, hid.1, hpl⟩
  ·exact h.ok.mem hd
theorem do_inv (h : od ps room xs) (hk : IsB key) : od ps room (doS ps room xs op pol key n now serial).2 := by
 by_cases hE : aR ps op pol key n now serial = 0
 ·by_cases hop : op < 5
  ·rw [iS h hE hop]
   cases hc : (ee (ps.getD pol.toNat default) (look xs (pol :: key)) op pol key n now serial).2 with
   | none => exact h
   | some c =>
    simp only
    split
    ·exact h
    ·exact ok_put h hk hE hop hc (by assumption)
  ·unfold doS
   rw [if_neg (fun h => h hE)]
   have hb := (dd hE).2.2.1
   by_cases h5 : op = 5
   ·rw [if_pos h5]
    refine ⟨h.srt.filter _, lY ⟨?_, fun d hd => h.ok.mem (List.mem_filter.1 hd).1⟩, ?_, h.rm, h.pl⟩
    ·have := List.length_filter_le (fun c => !aW ps c now) xs
     have := h.len
     simp only [cg]; omega
    ·have := List.length_filter_le (fun c => !aW ps c now) xs
     have := h.le
     simp only [cg]; omega
   ·rw [if_neg h5, if_pos (by omega)]; exact h
 ·unfold doS; rw [if_pos hE]; exact h
end
end
section
section
variable {ps : List Pol} {room : Int} {xs : List Cel} {op pol : Int} {key : List Int} {n now serial : Int}
end
end
def Ask.ok (a : Ask) : Prop := (0 ≤ a.op ∧ a.op ≤ 255) ∧ (∀ x ∈ a.key, 0 ≤ x ∧ x ≤ 255) ∧ (-9223372036854775808 ≤ a.pol ∧ a.pol ≤ 9223372036854775807) ∧ (-9223372036854775808 ≤ a.n ∧ a.n ≤ 9223372036854775807) ∧ (-9223372036854775808 ≤ a.now ∧ a.now ≤ 9223372036854775807) ∧ (-9223372036854775808 ≤ a.serial ∧ a.serial ≤ 9223372036854775807)
theorem lr {xs : List Cel} {pol : Int} {key : List Int} : (0 ≤ d9 xs pol key ↔ look xs (pol :: key) ≠ none) := by
 have hp : ∀ c : Cel, (decide (c.pol = pol) && decide (c.key = key)) = true ↔ idn c = pol :: key := fun c => by simp [idn]
 have hle := ng (fun c => decide (c.pol = pol) && decide (c.key = key)) xs
 unfold d9
 constructor
 ·intro h
  split at h
  ·rename_i hlt
   have := iN _ xs hlt
   rw [hp] at this
   intro e
   exact dA.1 e _ (bO hlt) this
  ·omega
 ·intro h
  rw [if_pos]
  ·omega
  ·refine Classical.byContradiction fun hn => h (dA.2 fun c hc e => ?_)
   obtain ⟨k, hk, rfl⟩ := List.getElem_of_mem hc
   have := iM (fun c => decide (c.pol = pol) && decide (c.key = key)) xs k (by omega)
   rw [bx hk] at this
   have h2 := (hp xs[k]).2 e
   rw [h2] at this; cases this
section
section
variable {ps : List Pol} {room : Int} {xs ys : List Cel}
end
end
section
section
variable {ps : List Pol} {room : Int} {xs : List Cel} {op pol : Int} {key : List Int} {n now serial : Int}
theorem dec_g {T tau tat now n : Int} (h : (lB T tau tat now n).g = true) : jU T tau [tat, now, n] = 0 ∧ n ≤ aV T tau tat now ∧ (lB T tau tat now n).tat = n9 T tau tat now n := by
 unfold lB at h ⊢
 split at h
 ·rename_i h0
  rw [if_pos h0]
  exact ⟨h0, by simpa [fS] using h, rfl⟩
 ·cases h
end
end
section
theorem aT : ∀ {ys : List Int} {l : Int}, cj l ys = true ↔ (∀ x ∈ ys, gz x = true ∧ l < x) ∧ ys.Pairwise (· < ·)
 | [], l => by simp [cj]
 | x :: r, l => by
  have ih := aT (ys := r) (l := x)
  simp only [cj, Q5, decide_eq_true_eq, ih, List.mem_cons, List.pairwise_cons]
  constructor
  ·rintro ⟨⟨h1, h2⟩, h3, h4⟩
   refine ⟨fun y hy => ?_, fun y hy => (h3 y hy).2, h4⟩
   rcases hy with rfl | hy
   ·exact ⟨h1, h2⟩
   ·exact ⟨(h3 y hy).1, by have := (h3 y hy).2; omega⟩
  ·rintro ⟨h1, h2, h3⟩
   exact ⟨h1 x (Or.inl rfl), fun y hy => ⟨(h1 y (Or.inr hy)).1, h2 y hy⟩, h3⟩
theorem nf {ys : List Int} {k : Nat} (h : k < ys.length) : ys.getD k default ∈ ys := by
 rw [Q1, Q0 h]; exact Q14 h
theorem bo {ys : List Int} {k : Nat} (h : k < ys.length) : ys.getD k default = ys[k] := by
 rw [Q1, Q0 h]; rfl
section
variable {ys : List Int} {t : Int}
theorem jq (h : ys.Pairwise (· < ·)) : (∀ k, k < bJ ys t → ys.getD k default < t) ∧ ∀ k, bJ ys t ≤ k → k < ys.length → ¬ ys.getD k default < t := by
 have := nI (lt := fun k => decide (ys.getD k default < t)) (n := ys.length) (fun i j hij hj hlt => by
  simp only [decide_eq_true_eq] at hlt ⊢
  by_cases e : i = j
  ·subst e; exact hlt
  ·have := List.pairwise_iff_getElem.1 h i j (by omega) hj (by omega)
   rw [bo hj] at hlt
   rw [bo (show i < ys.length by omega)]
   omega)
 refine ⟨fun k hk => ?_, fun k hk hkn => ?_⟩
 ·have := this.1 k hk
  simpa using this
 ·have := this.2 k hk hkn
  simp only [decide_eq_false_iff_not] at this
  exact this
theorem eV (h : ys.Pairwise (· < ·)) : jz ys t = true ↔ t ∈ ys := by
 obtain ⟨h1, h2⟩ := jq (t := t) h
 unfold jz
 simp only [Q5, decide_eq_true_eq]
 constructor
 ·rintro ⟨a, b⟩
  rw [← b]; exact nf a
 ·intro hm
  obtain ⟨k, hk, rfl⟩ := List.getElem_of_mem hm
  have g1 : ¬ k < bJ ys ys[k] := fun hlt => by have := h1 k hlt; rw [bo hk] at this; omega
  have g2 : ¬ bJ ys ys[k] < k := fun hlt => by
   have := h2 _ (Q4 _) (by omega)
   rw [bo (show bJ ys ys[k] < ys.length by omega)] at this
   have := List.pairwise_iff_getElem.1 h _ k (show bJ ys ys[k] < ys.length by omega) hk hlt
   omega
  have e : bJ ys ys[k] = k := by omega
  rw [e, bo hk]
  exact ⟨hk, rfl⟩
theorem lm (h : cj 0 ys = true) (ht : gz t = true) (hn : t ∉ ys) : cj 0 (br ys (bJ ys t) t) = true ∧ ∀ x, x ∈ br ys (bJ ys t) t ↔ x = t ∨ x ∈ ys := by
 obtain ⟨a, b⟩ := aT.1 h
 obtain ⟨h1, h2⟩ := jq (t := t) b
 have hm : ∀ x, x ∈ br ys (bJ ys t) t ↔ x = t ∨ x ∈ ys := fun x => by
  unfold br
  rw [List.mem_append, List.mem_append, List.mem_singleton]
  constructor
  ·rintro ((h | h) | h)
   ·exact Or.inr (List.mem_of_mem_take h)
   ·exact Or.inl h
   ·exact Or.inr (List.mem_of_mem_drop h)
  ·rintro (h | h)
   ·exact Or.inl (Or.inr h)
   ·rw [← List.take_append_drop (bJ ys t) ys] at h
    rcases List.mem_append.1 h with h | h
    ·exact Or.inl (Or.inl h)
    ·exact Or.inr h
 refine ⟨aT.2 ⟨fun x hx => ?_, ?_⟩, hm⟩
 ·rcases (hm x).1 hx with rfl | hx
  ·refine ⟨ht, ?_⟩
   simp [gz] at ht; omega
  ·exact a x hx
 ·unfold br
  rw [List.append_assoc, List.pairwise_append]
  refine ⟨b.sublist (List.take_sublist _ _), ?_, fun x hx y hy => ?_⟩
  ·rw [List.singleton_append, List.pairwise_cons]
   refine ⟨fun y hy => ?_, b.sublist (List.drop_sublist _ _)⟩
   obtain ⟨k, hk, rfl⟩ := List.getElem_of_mem hy
   rw [List.length_drop] at hk
   rw [List.getElem_drop]
   have h3 := h2 (bJ ys t + k) (by omega) (by omega)
   rw [bo (show bJ ys t + k < ys.length by omega)] at h3
   have h4 : ys[bJ ys t + k] ≠ t := fun e => hn (by rw [← e]; exact Q14 _)
   omega
  ·obtain ⟨k, hk, rfl⟩ := List.getElem_of_mem hx
   rw [Q10] at hk
   rw [List.getElem_take]
   have h3 := h1 k (by omega)
   rw [bo (show k < ys.length by omega)] at h3
   rw [List.singleton_append] at hy
   rcases Q22 hy with rfl | hy
   ·exact h3
   ·obtain ⟨j, hj, rfl⟩ := List.getElem_of_mem hy
    rw [List.length_drop] at hj
    rw [List.getElem_drop]
    exact List.pairwise_iff_getElem.1 b k _ (by omega) (by omega) (by omega)
theorem lA (h : cj 0 ys = true) (hn : t ∈ ys) : cj 0 (b9 ys (bJ ys t)) = true ∧ (∀ x, x ∈ b9 ys (bJ ys t) ↔ x ≠ t ∧ x ∈ ys) ∧ (b9 ys (bJ ys t)).length + 1 = ys.length := by
 obtain ⟨a, b⟩ := aT.1 h
 have hh := (eV b).2 hn
 have hl := kg hh
 have he : ys.getD (bJ ys t) default = t := by
  unfold jz at hh
  simp only [Q5, decide_eq_true_eq] at hh; exact hh.2
 rw [bo hl] at he
 have hsub : (b9 ys (bJ ys t)).Sublist ys := by
  unfold b9
  have h2 : (ys.take (bJ ys t) ++ ys.drop (bJ ys t)).Sublist ys := by rw [List.take_append_drop]; exact List.Sublist.refl _
  refine List.Sublist.trans (List.Sublist.append (List.Sublist.refl _) ?_) h2
  rw [List.drop_eq_getElem_cons hl]
  exact List.sublist_cons_self _ _
 refine ⟨aT.2 ⟨fun x hx => a x (hsub.subset hx), b.sublist hsub⟩, fun x => ?_, by rw [cL _ _ hl]; omega⟩
 constructor
 ·intro hx
  refine ⟨fun e => ?_, hsub.subset hx⟩
  subst e
  unfold b9 at hx
  rcases List.mem_append.1 hx with hx | hx
  ·obtain ⟨k, hk, e⟩ := List.getElem_of_mem hx
   rw [Q10] at hk
   rw [List.getElem_take] at e
   have := List.pairwise_iff_getElem.1 b k _ (by omega) hl (by omega)
   omega
  ·obtain ⟨k, hk, e⟩ := List.getElem_of_mem hx
   rw [List.length_drop] at hk
   rw [List.getElem_drop] at e
   have := List.pairwise_iff_getElem.1 b _ (bJ ys x + 1 + k) hl (by omega) (by omega)
   omega
 ·rintro ⟨h1, h2⟩
  unfold b9
  rw [← List.take_append_drop (bJ ys t) ys] at h2
  rcases List.mem_append.1 h2 with h2 | h2
  ·exact List.mem_append_left _ h2
  ·rw [List.drop_eq_getElem_cons hl, he] at h2
   rcases Q22 h2 with h2 | h2
   ·exact absurd h2 h1
   ·exact List.mem_append_right _ h2
end
end
theorem gI0 {ys : List Int} {k : Nat} (h : k < ys.length) : ys.getD (k : Int).toNat default = ys[k] := by
 rw [Q13, Q1, Q0 h]; rfl
theorem bB (zs : List Int) (t : Int) : ∀ k, k < zs.length + 1 → bh zs.length (fun i => ao IntKind.i64 (zs.getD i default)) (fun i => a6 [D.val (.int .i64 t)] 1 (0 + i)) k = ao .i64 ((zs ++ [t]).getD k default) := fun k hk => by
 simp only [bh]
 by_cases e : k < zs.length
 ·rw [if_pos e, Q1, Q1, Q11 e]
 ·rw [if_neg e]
  obtain rfl : k = zs.length := by omega
  have : (zs ++ [t]).getD zs.length default = t := by simp
  rw [Nat.sub_self, this]; rfl
theorem qh (l : List Int) (n x : Int) : ∀ k, k < l.length + 1 + 1 → bh (l.length + 1) (bh l.length (fun i => ao IntKind.i64 (l.getD i default)) (fun i => a6 [D.val (.int .i64 n)] 1 (0 + i))) (fun i => a6 [D.val (.int .i64 x)] 1 (0 + i)) k = ao .i64 ((l ++ [n] ++ [x]).getD k default) := fun k hk => by
 have e : (l ++ [n]).length = l.length + 1 := by simp
 have q := bB (l ++ [n]) x k (by omega)
 rw [e] at q
 rw [← q]
 by_cases h : k < l.length + 1
 ·have h2 := bB l n k h
  unfold bh at h2 ⊢
  rw [if_pos h, if_pos h]; exact h2
 ·unfold bh
  rw [if_neg h, if_neg h]
theorem dw {z m n : Nat} {f g : Nat → List D} (h : m = n) (hf : ∀ i, i < n → f i = g i) : SV.Le (.d (.sl z m f)) (.d (.sl z n g)) := by subst h; exact SV.Le.sl hf
theorem qr (xs : List Int) (n : Int) : Pure TC 56 [.d (aj 1 (ao .i64) xs), .i .i64 n] (.b (decide (n ∈ xs))) := by
 refine Pure.lens (.mk Tryz.func56 rfl rfl) fun hlen => ?_
 have ha := hlen xs.length (by simp [bf, aj])
 clear hlen
 refine Pure.mk' Tryz.func56 rfl rfl zN ?_
 (repeat' (first | ((first | refine Wp.any aa rfl ?_ | (with_reducible first | refine Go.mk ?_ | apply ak.of)); conv => whnf)))
 refine Wp.loopP (ι := Nat) (fun j => j ≤ xs.length ∧ n ∉ xs.take j) (fun j => ⟨⟨Tryz.f56.ntmps, 0⟩, 0, [(1, .i .i64 n), (7, .d (aj 1 (ao .i64) xs)), (8, .i .i64 xs.length), (9, .i .i64 j)], []⟩) (fun j => xs.length - j) 0 ⟨Nat.zero_le _, by simp⟩ ?_ ?_
 ·(refine Le.by [] rfl rfl rfl rfl ?_ ?_ <;> (conv => whnf) <;> (repeat' (first | exact trivial | exact ac.rfl rfl | ((with_reducible refine And.intro ?_ ?_) <;> (conv => whnf)))))
 ·rintro j ⟨h1, h2⟩
  (repeat' (first | ((first | refine Wp.any aa rfl ?_ | (with_reducible first | refine Go.mk ?_ | apply ak.of | refine Ov.ok zO ?_ | refine And.intro zC ?_)); conv => whnf) | ((refine am (fun hc => ?_) (fun hc => ?_)) <;> (try simp only [wz9] at hc) <;> (try (exfalso; omega)) <;> (conv => whnf))))
  ·refine .b (decide_eq_true ?_).symm
   have hj : j < xs.length := by omega
   rw [gI0 hj] at hc
   rw [← hc]; exact Q14 hj
  ·refine ⟨j + 1, ⟨by omega, ?_⟩, by dsimp only; omega, ?_⟩
   ·have hj : j < xs.length := by omega
    rw [gI0 hj] at hc
    rw [List.take_succ_eq_append_getElem hj, List.mem_append, List.mem_singleton]
    rintro (h | h)
    ·exact h2 h
    ·exact hc h.symm
   ·(refine Le.by [] rfl rfl rfl rfl ?_ ?_ <;> (conv => whnf) <;> (repeat' (first | exact trivial | exact ac.rfl rfl | ((with_reducible refine And.intro ?_ ?_) <;> (conv => whnf)))))
  ·obtain rfl : j = xs.length := by omega
   rw [List.take_length] at h2
   exact .b (decide_eq_false h2).symm
theorem filtI {zs : List Int} {s : Int} {j : Nat} (h : j < zs.length) : (zs.take (j + 1)).filter (fun x => decide (x ≠ s)) = if zs.getD (j : Int).toNat default = s then (zs.take j).filter (fun x => decide (x ≠ s)) else (zs.take j).filter (fun x => decide (x ≠ s)) ++ [zs.getD (j : Int).toNat default] := by
 rw [gI0 h, List.take_succ_eq_append_getElem h, List.filter_append]
 split
 ·rename_i e
  rw [List.filter_cons_of_neg (by simp [e])]; simp
 ·rename_i e
  rw [List.filter_cons_of_pos (by simpa using e)]; simp
theorem r6_Drop (xs : List Int) (n : Int) (hl : xs.length ≤ 16777216) : Pure TC 59 [.d (aj 1 (ao .i64) xs), .i .i64 n] (.d (aj 1 (ao .i64) (xs.filter fun x => decide (x ≠ n)))) := by
 refine Pure.mk' Tryz.func59 rfl rfl zN ?_
 (repeat' (first | ((first | refine Wp.any aa rfl ?_ | (with_reducible first | refine Go.mk ?_ | apply ak.of)); conv => whnf)))
 refine Wp.le (Le.virt 5 2 1 (fun i => ao .i64 (([] : List Int).getD i default)) (by decide) rfl) ?_
 refine Wp.loopP (ι := Nat) (fun j => j ≤ xs.length) (fun j => ⟨⟨Tryz.f59.ntmps, 0⟩, 1, [(1, .i .i64 n), (5, .sl 0 1 0 ((xs.take j).filter fun x => decide (x ≠ n)).length), (8, .d (aj 1 (ao .i64) xs)), (9, .i .i64 xs.length), (10, .i .i64 j)], [(0, some (ap 2 1 (ao .i64) ((xs.take j).filter fun x => decide (x ≠ n))))]⟩) (fun j => xs.length - j) 0 (Nat.zero_le _) ?_ ?_
 ·(refine Le.by [0] rfl rfl rfl rfl ?_ ?_ <;> (conv => whnf) <;> (repeat' (first | exact trivial | exact ac.rfl rfl | exact ac.sl rfl | exact ⟨rfl, rfl, rfl⟩ | exact fun i hi => rfl | ((with_reducible refine And.intro ?_ ?_) <;> (conv => whnf)))))
 ·rintro j h1
  have hfl : ((xs.take j).filter fun x => decide (x ≠ n)).length ≤ 16777216 := by
   have q1 := List.length_filter_le (fun x => decide (x ≠ n)) (xs.take j)
   rw [Q10] at q1
   omega
  (repeat' (first | ((first | refine Wp.any aa rfl ?_ | (with_reducible first | refine Go.mk ?_ | apply ak.of | refine Ov.ok zO ?_ | refine And.intro zC ?_)); conv => whnf) | ((with_reducible refine And.intro ?hb ?_); (case hb => exact zz0); (conv => whnf)) | ((refine am (fun hc => ?_) (fun hc => ?_)) <;> (try simp only [wz9] at hc) <;> (try (exfalso; omega)) <;> (conv => whnf))))
  ·refine ⟨j + 1, by dsimp only; omega, by dsimp only; omega, ?_⟩
   dsimp only
   rw [filtI (by omega), if_neg (by assumption)]
   (refine Le.by [2] rfl rfl rfl rfl ?_ ?_ <;> (conv => whnf) <;> (repeat' (first | exact trivial | exact ac.rfl rfl | ((with_reducible refine And.intro ?_ ?_) <;> (conv => whnf)))))
   ·rw [Q9]; exact ac.sl rfl
   ·rfl
   ·simp
   ·exact bB _ _
  ·refine ⟨j + 1, by dsimp only; omega, by dsimp only; omega, ?_⟩
   dsimp only
   rw [filtI (by omega), if_pos (by first | assumption | exact Classical.byContradiction (by assumption))]
   (refine Le.by [0] rfl rfl rfl rfl ?_ ?_ <;> (conv => whnf) <;> (repeat' (first | exact trivial | exact ac.rfl rfl | exact ac.sl rfl | exact ⟨rfl, rfl, rfl⟩ | exact fun i hi => rfl | ((with_reducible refine And.intro ?_ ?_) <;> (conv => whnf)))))
  ·obtain rfl : j = xs.length := by omega
   rw [List.take_length]
   exact SV.Le.sl fun j hj => by simp only [Q19]
def gr : List Int → Int → List Int
 | [], n => [n]
 | x :: r, n => if n < x then n :: x :: r else x :: gr r n
theorem r6_Put (xs : List Int) (n : Int) (hl : xs.length ≤ 16777216) : Pure TC 57 [.d (aj 1 (ao .i64) xs), .i .i64 n] (.d (aj 1 (ao .i64) (gr xs n))) := by
  refine Pure.mk' Tryz.func57 rfl rfl zN ?_
  (repeat' (first | ((first | refine Wp.any aa rfl ?_ | (with_reducible first | refine Go.mk ?_ | apply ak.of)); conv => whnf)))
  refine Wp.le (Le.virt 5 2 1 (fun i => ao .i64 (([] : List Int).getD i default)) (by decide) rfl) ?_
  refine Wp.loopP (ι := Nat × Bool × List Int) (fun k => k.1 ≤ xs.length ∧ k.2.2.length ≤ k.1 + k.2.1.toNat ∧ (k.2.2 ++ if k.2.1 then xs.drop k.1 else gr (xs.drop k.1) n) = gr xs n) (fun k => ⟨⟨Tryz.f57.ntmps, 0⟩, 1, [(1, .i .i64 n), (5, .sl 0 1 0 k.2.2.length), (6, .b k.2.1), (9, .d (aj 1 (ao .i64) xs)), (10, .i .i64 xs.length), (11, .i .i64 k.1)], [(0, some (ap 2 1 (ao .i64) k.2.2))]⟩) (fun k => xs.length - k.1) (0, false, []) ⟨Nat.zero_le _, by simp, by simp⟩ ?_ ?_
  · (refine Le.by [0] rfl rfl rfl rfl ?_ ?_ <;> (conv => whnf) <;> (repeat' (first | exact trivial | exact ac.rfl rfl | exact ac.sl rfl | exact ⟨rfl, rfl, rfl⟩ | exact fun i hi => rfl | ((with_reducible refine And.intro ?_ ?_) <;> (conv => whnf)))))
  · rintro ⟨j, b, l⟩ ⟨h1, h2, h3⟩
    dsimp only at h1 h2 h3 ⊢
    have hd : ∀ (hj : j < xs.length), xs.drop j = xs.getD (j : Int).toNat default :: xs.drop (j + 1) := fun hj => by rw [gI0 hj]; exact List.drop_eq_getElem_cons hj
    have hd2 : ∀ (hj : j < xs.length) (t : List Int), l ++ gr (xs.drop j) n = t → (n < xs.getD (j : Int).toNat default → (l ++ [n]) ++ [xs.getD (j : Int).toNat default] ++ xs.drop (j + 1) = t) ∧ (¬ n < xs.getD (j : Int).toNat default → (l ++ [xs.getD (j : Int).toNat default]) ++ gr (xs.drop (j + 1)) n = t) := fun hj t e => by
      rw [hd hj, gr] at e
      constructor
      · intro h; rw [if_pos h] at e; rw [← e]; simp
      · intro h; rw [if_neg h] at e; rw [← e]; simp
    cases b with
    | true =>
      simp only [if_true] at h3
      have h2 : l.length ≤ j + 1 := h2
      (repeat' (first | ((first | refine Wp.any aa rfl ?_ | (with_reducible first | refine Go.mk ?_ | apply ak.of | refine Ov.ok zO ?_ | refine And.intro zC ?_)); conv => whnf) | ((with_reducible refine And.intro ?hb ?_); (case hb => exact zz0); (conv => whnf)) | ((refine am (fun hc => ?_) (fun hc => ?_)) <;> (try simp only [wz9] at hc) <;> (try (exfalso; omega)) <;> (conv => whnf))))
      all_goals first
        | (refine ⟨(j + 1, true, l ++ [xs.getD (j : Int).toNat default]), ⟨by dsimp only; omega, (by show _ ≤ j + 1 + 1; simp; omega), (by rw [hd (by omega)] at h3; simpa using h3)⟩, by dsimp only; omega, ?_⟩
           (refine Le.by [2] rfl rfl rfl rfl ?_ ?_ <;> (conv => whnf) <;> (repeat' (first | exact trivial | exact ac.rfl rfl | ((with_reducible refine And.intro ?_ ?_) <;> (conv => whnf)))))
           · dsimp only; rw [Q9]; exact ac.sl rfl
           · rfl
           · simp
           · exact bB _ _)
        | (obtain rfl : j = xs.length := by omega
           rw [List.drop_length, List.append_nil] at h3
           rw [← h3]
           exact SV.Le.sl fun j hj => by simp only [Q19])
    | false =>
      simp only [Bool.false_eq_true, if_false] at h3
      have h2 : l.length ≤ j := h2
      (repeat' (first | ((first | refine Wp.any aa rfl ?_ | (with_reducible first | refine Go.mk ?_ | apply ak.of | refine Ov.ok zO ?_ | refine And.intro zC ?_)); conv => whnf) | ((with_reducible refine And.intro ?hb ?_); (case hb => exact zz0); (conv => whnf)) | ((refine am (fun hc => ?_) (fun hc => ?_)) <;> (try simp only [wz9] at hc) <;> (try (exfalso; omega)) <;> (conv => whnf))))
      all_goals first
        | (refine ⟨(j + 1, true, (l ++ [n]) ++ [xs.getD (j : Int).toNat default]), ⟨by dsimp only; omega, (by show _ ≤ j + 1 + 1; simp; omega), (by rw [if_pos rfl]; exact (hd2 (by omega) _ h3).1 (by omega))⟩, by dsimp only; omega, ?_⟩
           (refine Le.by [4] rfl rfl rfl rfl ?_ ?_ <;> (conv => whnf) <;> (repeat' (first | exact trivial | exact ac.rfl rfl | ((with_reducible refine And.intro ?_ ?_) <;> (conv => whnf)))))
           · dsimp only; rw [Q9, Q9]; exact ac.sl rfl
           · rfl
           · simp
           · exact qh _ _ _)
        | (refine ⟨(j + 1, false, l ++ [xs.getD (j : Int).toNat default]), ⟨by dsimp only; omega, (by show _ ≤ j + 1; simp; omega), (by rw [if_neg (by simp)]; exact (hd2 (by omega) _ h3).2 (by omega))⟩, by dsimp only; omega, ?_⟩
           (refine Le.by [2] rfl rfl rfl rfl ?_ ?_ <;> (conv => whnf) <;> (repeat' (first | exact trivial | exact ac.rfl rfl | ((with_reducible refine And.intro ?_ ?_) <;> (conv => whnf)))))
           · dsimp only; rw [Q9]; exact ac.sl rfl
           · rfl
           · simp
           · exact bB _ _)
        | (obtain rfl : j = xs.length := by omega
           rw [List.drop_length] at h3
           rw [← h3]
           refine dw (by simp [gr]) fun i hi => ?_
           rw [Q19]
           exact bB l n i (by simpa [gr] using hi))
theorem kW (ps : List Pol) (c : Cel) (now : Int) (h0 : 0 ≤ c.pol) (h1 : c.pol < ps.length) : Pure TC 54 [.d (aj 4 Pol.D ps), c.S, .i .i64 now] (.b (aW ps c now)) := by
 refine Pure.mk' Tryz.func54 rfl rfl zN ?_
 (repeat' (first | ((first | refine Wp.any aa rfl ?_ | (with_reducible first | refine Go.mk ?_ | apply ak.of)); conv => whnf) | with_reducible exact rfl | ((with_reducible refine Ov.ok zO ?_); conv => whnf) | (with_reducible refine Ov.sh1 (by with_unfolding_all exact rfl) ?_) | ((first | with_reducible refine Ov.quo (by omega) (by omega) (by omega) (fun _ _ => ?_) | refine zV ?_ | with_reducible refine And.intro zC ?_); conv => whnf) | ((with_reducible refine And.intro ?hb ?_); (case hb => exact zz0); (conv => whnf)) | ((refine ae.a rfl rfl rfl rfl rfl rfl ?hb ?_); (case hb => exact zB); (conv => whnf)) | ((refine ae.b rfl rfl rfl rfl rfl rfl rfl rfl ?hb ?ho ?_); (case hb => exact zB); (case ho => omega); (conv => whnf)) | ((refine ae.c rfl rfl rfl rfl rfl ?hb ?_); (case hb => exact zB); (conv => whnf)) | ((refine ae.d rfl rfl rfl rfl rfl rfl ?hb ?ho ?_); (case hb => exact zB); (case ho => omega); (conv => whnf)) | (with_reducible refine Or.inl ?_) | ((with_reducible refine IxA.ptr ?_); conv => whnf) | ((with_reducible refine nil_no (by omega) ?_); (conv => whnf)) | ((with_reducible refine af ?_ (fun hn0 => ?_)) <;> (conv => whnf)) | ((refine am (fun hc => ?_) (fun hc => ?_)) <;> (try simp only [wz9] at hc) <;> (try (exfalso; omega)) <;> (conv => whnf))))
 ·exact .b (by rw [aW, if_pos hc])
 ·exact .b (by rw [aW, if_neg hc])
theorem ir (p : Pol) (c : Cel) (h1 : -4611686018427387904 ≤ p.permits ∧ p.permits ≤ 4611686018427387903) (h3 : c.held.length ≤ 4611686018427387903) : Pure TC 58 [p.S, c.S] (.i .i64 (p.permits - c.held.length)) := by
 refine Pure.mk' Tryz.func58 rfl rfl zN ?_
 (repeat' (first | ((first | refine Wp.any aa rfl ?_ | (with_reducible first | refine Go.mk ?_ | apply ak.of)); conv => whnf) | with_reducible exact rfl | ((with_reducible refine Ov.ok zO ?_); conv => whnf) | (with_reducible refine Ov.sh1 (by with_unfolding_all exact rfl) ?_) | ((first | with_reducible refine Ov.quo (by omega) (by omega) (by omega) (fun _ _ => ?_) | refine zV ?_ | with_reducible refine And.intro zC ?_); conv => whnf) | ((with_reducible refine And.intro ?hb ?_); (case hb => exact zz0); (conv => whnf)) | ((refine ae.a rfl rfl rfl rfl rfl rfl ?hb ?_); (case hb => exact zB); (conv => whnf)) | ((refine ae.b rfl rfl rfl rfl rfl rfl rfl rfl ?hb ?ho ?_); (case hb => exact zB); (case ho => omega); (conv => whnf)) | ((refine ae.c rfl rfl rfl rfl rfl ?hb ?_); (case hb => exact zB); (conv => whnf)) | ((refine ae.d rfl rfl rfl rfl rfl rfl ?hb ?ho ?_); (case hb => exact zB); (case ho => omega); (conv => whnf)) | (with_reducible refine Or.inl ?_) | ((with_reducible refine IxA.ptr ?_); conv => whnf) | ((with_reducible refine nil_no (by omega) ?_); (conv => whnf)) | ((with_reducible refine af ?_ (fun hn0 => ?_)) <;> (conv => whnf)) | ((refine am (fun hc => ?_) (fun hc => ?_)) <;> (try simp only [wz9] at hc) <;> (try (exfalso; omega)) <;> (conv => whnf))))
 exact .i rfl
theorem cq (zs : List Cel) (c : Cel) : ∀ k, k < zs.length + 1 → bh zs.length (fun i => (zs.getD i default).D) (fun i => a6 c.D 4 (0 + i)) k = ((zs ++ [c]).getD k default).D := fun k hk => by
 unfold bh
 by_cases e : k < zs.length
 ·rw [if_pos e]
  show (zs.getD k default).D = _
  rw [Q1, Q1, Q11 e]
 ·rw [if_neg e]
  obtain rfl : k = zs.length := by omega
  have : (zs ++ [c]).getD zs.length default = c := by simp
  rw [Nat.sub_self, this]; rfl
theorem ji {ps : List Pol} {now : Int} {xs : List Cel} {j : Nat} (h : j < xs.length) : cg ps now (xs.take (j + 1)) = if aW ps (xs.getD (j : Int).toNat default) now = true then cg ps now (xs.take j) else cg ps now (xs.take j) ++ [xs.getD (j : Int).toNat default] := by
 rw [Q13, aN h]
 unfold cg
 rw [List.filter_append]
 split
 ·rename_i e
  rw [List.filter_cons_of_neg (by rw [e]; simp)]; simp
 ·rename_i e
  rw [List.filter_cons_of_pos (by rw [Bool.not_eq_true] at e; rw [e]; rfl)]; simp
theorem pF (ps : List Pol) (xs : List Cel) (now : Int) (hp : ∀ k, k < xs.length → 0 ≤ (xs.getD k default).pol ∧ (xs.getD k default).pol < ps.length) (hl : xs.length ≤ 1000000) : Pure TC 30 [.d (aj 4 Pol.D ps), .d (aj 4 Cel.D xs), .i .i64 now] (.d (aj 4 Cel.D (cg ps now xs))) := by
 refine Pure.mk' Tryz.func30 rfl rfl zN ?_
 (repeat' (first | ((first | refine Wp.any aa rfl ?_ | (with_reducible first | refine Go.mk ?_ | apply ak.of)); conv => whnf) | with_reducible exact rfl | ((with_reducible refine Ov.ok zO ?_); conv => whnf) | (with_reducible refine Ov.sh1 (by with_unfolding_all exact rfl) ?_) | ((first | with_reducible refine Ov.quo (by omega) (by omega) (by omega) (fun _ _ => ?_) | refine zV ?_ | with_reducible refine And.intro zC ?_); conv => whnf) | ((with_reducible refine And.intro ?hb ?_); (case hb => exact zz0); (conv => whnf)) | ((refine ae.a rfl rfl rfl rfl rfl rfl ?hb ?_); (case hb => exact zB); (conv => whnf)) | ((refine ae.b rfl rfl rfl rfl rfl rfl rfl rfl ?hb ?ho ?_); (case hb => exact zB); (case ho => omega); (conv => whnf)) | ((refine ae.c rfl rfl rfl rfl rfl ?hb ?_); (case hb => exact zB); (conv => whnf)) | ((refine ae.d rfl rfl rfl rfl rfl rfl ?hb ?ho ?_); (case hb => exact zB); (case ho => omega); (conv => whnf)) | (with_reducible refine Or.inl ?_) | ((with_reducible refine IxA.ptr ?_); conv => whnf) | ((with_reducible refine nil_no (by omega) ?_); (conv => whnf)) | ((with_reducible refine af ?_ (fun hn0 => ?_)) <;> (conv => whnf)) | ((refine am (fun hc => ?_) (fun hc => ?_)) <;> (try simp only [wz9] at hc) <;> (try (exfalso; omega)) <;> (conv => whnf))))
 refine Wp.le (Le.virt 7 56 4 (fun i => (([] : List Cel).getD i default).D) (by decide) rfl) ?_
 refine Wp.loopP (ι := Nat) (fun j => j ≤ xs.length) (fun j => ⟨⟨Tryz.f30.ntmps, 0⟩, 1, [(0, .d (aj 4 Pol.D ps)), (2, .i .i64 now), (7, .sl 0 4 0 (cg ps now (xs.take j)).length), (10, .d (aj 4 Cel.D xs)), (11, .i .i64 xs.length), (12, .i .i64 j)], [(0, some (ap 56 4 Cel.D (cg ps now (xs.take j))))]⟩) (fun j => xs.length - j) 0 (Nat.zero_le _) ?_ ?_
 ·(refine Le.by [0] rfl rfl rfl rfl ?_ ?_ <;> (conv => whnf) <;> (repeat' (first | exact trivial | exact ac.rfl rfl | exact ac.ptr rfl | exact ac.sl rfl | ((with_reducible refine ac.fn ?_); (conv => whnf)) | ((refine ac.iref ?_); (conv => whnf)) | exact ⟨rfl, rfl, rfl⟩ | exact fun i hi => rfl | ((with_reducible refine And.intro ?_ ?_) <;> (conv => whnf)))))
 ·rintro j h1
  have hfl : (cg ps now (xs.take j)).length ≤ 1000000 := by
   have q1 := List.length_filter_le (fun c => !aW ps c now) (xs.take j)
   rw [Q10] at q1
   unfold cg
   omega
  have hp1 := fun h => hp (j : Int).toNat h
  (repeat' (first | ((first | refine Wp.any aa rfl ?_ | (with_reducible first | refine Go.mk ?_ | apply ak.of)); conv => whnf) | with_reducible exact rfl | ((with_reducible refine Ov.ok zO ?_); conv => whnf) | (with_reducible refine Ov.sh1 (by with_unfolding_all exact rfl) ?_) | ((first | with_reducible refine Ov.quo (by omega) (by omega) (by omega) (fun _ _ => ?_) | refine zV ?_ | with_reducible refine And.intro zC ?_); conv => whnf) | ((with_reducible refine And.intro ?hb ?_); (case hb => exact zz0); (conv => whnf)) | ((refine ae.a rfl rfl rfl rfl rfl rfl ?hb ?_); (case hb => exact zB); (conv => whnf)) | ((refine ae.b rfl rfl rfl rfl rfl rfl rfl rfl ?hb ?ho ?_); (case hb => exact zB); (case ho => omega); (conv => whnf)) | ((refine ae.c rfl rfl rfl rfl rfl ?hb ?_); (case hb => exact zB); (conv => whnf)) | ((refine ae.d rfl rfl rfl rfl rfl rfl ?hb ?ho ?_); (case hb => exact zB); (case ho => omega); (conv => whnf)) | (with_reducible refine Or.inl ?_) | ((with_reducible refine IxA.ptr ?_); conv => whnf) | ((with_reducible refine nil_no (by omega) ?_); (conv => whnf)) | ((with_reducible refine af ?_ (fun hn0 => ?_)) <;> (conv => whnf)) | ((with_reducible first | refine ab.pure (kW ps (xs.getD (j : Int).toNat default) now (hp1 (by omega)).1 (hp1 (by omega)).2) rfl rfl ?_ | refine ag.pure (kW ps (xs.getD (j : Int).toNat default) now (hp1 (by omega)).1 (hp1 (by omega)).2) rfl rfl ?_); conv => whnf) | ((refine am (fun hc => ?_) (fun hc => ?_)) <;> (try simp only [wz9] at hc) <;> (try (exfalso; omega)) <;> (conv => whnf))))
  ·refine ⟨j + 1, by dsimp only; omega, by dsimp only; omega, ?_⟩
   dsimp only
   rw [ji (by omega), if_neg (by rw [hc]; simp)]
   (refine Le.by [3] rfl rfl rfl rfl ?_ ?_ <;> (conv => whnf) <;> (repeat' (first | exact trivial | exact ac.rfl rfl | exact ac.ptr rfl | exact ac.sl rfl | ((with_reducible refine ac.fn ?_); (conv => whnf)) | ((refine ac.iref ?_); (conv => whnf)) | exact ⟨rfl, rfl, rfl⟩ | exact fun i hi => rfl | ((with_reducible refine And.intro ?_ ?_) <;> (conv => whnf)))))
   ·rw [Q9]; exact ac.sl rfl
   ·rfl
   ·simp
   ·exact cq _ _
  ·refine ⟨j + 1, by dsimp only; omega, by dsimp only; omega, ?_⟩
   dsimp only
   rw [ji (by omega), if_pos hc]
   (refine Le.by [0] rfl rfl rfl rfl ?_ ?_ <;> (conv => whnf) <;> (repeat' (first | exact trivial | exact ac.rfl rfl | exact ac.ptr rfl | exact ac.sl rfl | ((with_reducible refine ac.fn ?_); (conv => whnf)) | ((refine ac.iref ?_); (conv => whnf)) | exact ⟨rfl, rfl, rfl⟩ | exact fun i hi => rfl | ((with_reducible refine And.intro ?_ ?_) <;> (conv => whnf)))))
  ·obtain rfl : j = xs.length := by omega
   rw [List.take_length]
   exact SV.Le.sl fun j hj => by simp only [Q19]
theorem r1_Sub (a b : Int) (h0 : -4611686018427387904 ≤ a ∧ a ≤ 4611686018427387903) (h1 : -4611686018427387904 ≤ b ∧ b ≤ 4611686018427387903) : Pure TC 61 [.i .i64 a, .i .i64 b] (.i .i64 (max (a - b) 0)) := by
 refine Pure.mk' Tryz.func61 rfl rfl zN ?_
 (repeat' (first | ((first | refine Wp.any aa rfl ?_ | (with_reducible first | refine Go.mk ?_ | apply ak.of)); conv => whnf) | with_reducible exact rfl | ((with_reducible refine Ov.ok zO ?_); conv => whnf) | (with_reducible refine Ov.sh1 (by with_unfolding_all exact rfl) ?_) | ((first | with_reducible refine Ov.quo (by omega) (by omega) (by omega) (fun _ _ => ?_) | refine zV ?_ | with_reducible refine And.intro zC ?_); conv => whnf) | ((with_reducible refine And.intro ?hb ?_); (case hb => exact zz0); (conv => whnf)) | ((refine ae.a rfl rfl rfl rfl rfl rfl ?hb ?_); (case hb => exact zB); (conv => whnf)) | ((refine ae.b rfl rfl rfl rfl rfl rfl rfl rfl ?hb ?ho ?_); (case hb => exact zB); (case ho => omega); (conv => whnf)) | ((refine ae.c rfl rfl rfl rfl rfl ?hb ?_); (case hb => exact zB); (conv => whnf)) | ((refine ae.d rfl rfl rfl rfl rfl rfl ?hb ?ho ?_); (case hb => exact zB); (case ho => omega); (conv => whnf)) | (with_reducible refine Or.inl ?_) | ((with_reducible refine IxA.ptr ?_); conv => whnf) | ((with_reducible refine nil_no (by omega) ?_); (conv => whnf)) | ((with_reducible refine af ?_ (fun hn0 => ?_)) <;> (conv => whnf)) | ((refine am (fun hc => ?_) (fun hc => ?_)) <;> (try simp only [wz9] at hc) <;> (try (exfalso; omega)) <;> (conv => whnf))))
 all_goals exact .i (by omega)
theorem kT (a b : List Int) : Pure TC 84 [.d (aj 1 (ao .u8) a), .d (aj 1 (ao .u8) b)] (.i .i64 (be a b)) := by
 refine Pure.lens (.mk Tryz.func84 rfl rfl) fun hlen => ?_
 have ha := hlen a.length (by simp [bf, aj])
 have hb := hlen b.length (by simp [bf, aj])
 clear hlen
 refine Pure.mk' Tryz.func84 rfl rfl zN ?_
 (repeat' (first | ((first | refine Wp.any aa rfl ?_ | (with_reducible first | refine Go.mk ?_ | apply ak.of)); conv => whnf) | with_reducible exact rfl | ((with_reducible refine Ov.ok zO ?_); conv => whnf) | (with_reducible refine Ov.sh1 (by with_unfolding_all exact rfl) ?_) | ((first | with_reducible refine Ov.quo (by omega) (by omega) (by omega) (fun _ _ => ?_) | refine zV ?_ | with_reducible refine And.intro zC ?_); conv => whnf) | ((with_reducible refine And.intro ?hb ?_); (case hb => exact zz0); (conv => whnf)) | ((refine ae.a rfl rfl rfl rfl rfl rfl ?hb ?_); (case hb => exact zB); (conv => whnf)) | ((refine ae.b rfl rfl rfl rfl rfl rfl rfl rfl ?hb ?ho ?_); (case hb => exact zB); (case ho => omega); (conv => whnf)) | ((refine ae.c rfl rfl rfl rfl rfl ?hb ?_); (case hb => exact zB); (conv => whnf)) | ((refine ae.d rfl rfl rfl rfl rfl rfl ?hb ?ho ?_); (case hb => exact zB); (case ho => omega); (conv => whnf)) | (with_reducible refine Or.inl ?_) | ((with_reducible refine IxA.ptr ?_); conv => whnf) | ((with_reducible refine nil_no (by omega) ?_); (conv => whnf)) | ((with_reducible refine af ?_ (fun hn0 => ?_)) <;> (conv => whnf)) | ((refine am (fun hc => ?_) (fun hc => ?_)) <;> (try simp only [wz9] at hc) <;> (try (exfalso; omega)) <;> (conv => whnf))))
 refine Wp.loopP (ι := Nat) (fun i => i ≤ a.length ∧ i ≤ b.length ∧ be (a.drop i) (b.drop i) = be a b) (fun i => ⟨⟨Tryz.f84.ntmps, 0⟩, 0, [(0, .d (aj 1 (ao .u8) a)), (1, .d (aj 1 (ao .u8) b)), (5, .i .i64 i)], []⟩) (fun i => a.length - i) 0 ⟨Nat.zero_le _, Nat.zero_le _, rfl⟩ ?_ ?_
 ·(refine Le.by [] rfl rfl rfl rfl ?_ ?_ <;> (conv => whnf) <;> (repeat' (first | exact trivial | exact ac.rfl rfl | exact ac.ptr rfl | exact ac.sl rfl | ((with_reducible refine ac.fn ?_); (conv => whnf)) | ((refine ac.iref ?_); (conv => whnf)) | exact ⟨rfl, rfl, rfl⟩ | exact fun i hi => rfl | ((with_reducible refine And.intro ?_ ?_) <;> (conv => whnf)))))
 ·rintro i ⟨h1, h2, h3⟩
  have hs : i < a.length → i < b.length → be a b = if a.getD (i : Int).toNat default < b.getD (i : Int).toNat default then -1 else if b.getD (i : Int).toNat default < a.getD (i : Int).toNat default then 1 else be (a.drop (i + 1)) (b.drop (i + 1)) := fun g1 g2 => by
   rw [← h3, aQ g1, aQ g2, Q13]; rfl
  have hA : i = a.length → be a b = if a.length < b.length then -1 else 0 := fun g1 => by
   subst g1
   rw [← h3, List.drop_length]
   split
   ·rename_i g; rw [aQ g]; rfl
   ·rw [List.drop_eq_nil_of_le (by omega)]; rfl
  have hB : i = b.length → be a b = if b.length < a.length then 1 else 0 := fun g1 => by
   subst g1
   rw [← h3, List.drop_length]
   split
   ·rename_i g; rw [aQ g]; rfl
   ·rw [List.drop_eq_nil_of_le (by omega)]; rfl
  (repeat' (first | ((first | refine Wp.any aa rfl ?_ | (with_reducible first | refine Go.mk ?_ | apply ak.of)); conv => whnf) | with_reducible exact rfl | ((with_reducible refine Ov.ok zO ?_); conv => whnf) | (with_reducible refine Ov.sh1 (by with_unfolding_all exact rfl) ?_) | ((first | with_reducible refine Ov.quo (by omega) (by omega) (by omega) (fun _ _ => ?_) | refine zV ?_ | with_reducible refine And.intro zC ?_); conv => whnf) | ((with_reducible refine And.intro ?hb ?_); (case hb => exact zz0); (conv => whnf)) | ((refine ae.a rfl rfl rfl rfl rfl rfl ?hb ?_); (case hb => exact zB); (conv => whnf)) | ((refine ae.b rfl rfl rfl rfl rfl rfl rfl rfl ?hb ?ho ?_); (case hb => exact zB); (case ho => omega); (conv => whnf)) | ((refine ae.c rfl rfl rfl rfl rfl ?hb ?_); (case hb => exact zB); (conv => whnf)) | ((refine ae.d rfl rfl rfl rfl rfl rfl ?hb ?ho ?_); (case hb => exact zB); (case ho => omega); (conv => whnf)) | (with_reducible refine Or.inl ?_) | ((with_reducible refine IxA.ptr ?_); conv => whnf) | ((with_reducible refine nil_no (by omega) ?_); (conv => whnf)) | ((with_reducible refine af ?_ (fun hn0 => ?_)) <;> (conv => whnf)) | ((refine am (fun hc => ?_) (fun hc => ?_)) <;> (try simp only [wz9] at hc) <;> (try (exfalso; omega)) <;> (conv => whnf))))
  all_goals first
   | exact .i (by rw [hs (by omega) (by omega), if_pos (by omega)])
   | exact .i (by rw [hs (by omega) (by omega), if_neg (by omega), if_pos (by omega)])
   | exact .i (by rw [hA (by omega), if_pos (by omega)])
   | exact .i (by rw [hA (by omega), if_neg (by omega)])
   | exact .i (by rw [hB (by omega), if_pos (by omega)])
   | exact .i (by rw [hB (by omega), if_neg (by omega)])
   | (refine ⟨i + 1, ⟨by omega, by omega, (by rw [hs (by omega) (by omega), if_neg (by omega), if_neg (by omega)])⟩, by dsimp only; omega, ?_⟩; (refine Le.by [] rfl rfl rfl rfl ?_ ?_ <;> (conv => whnf) <;> (repeat' (first | exact trivial | exact ac.rfl rfl | exact ac.ptr rfl | exact ac.sl rfl | ((with_reducible refine ac.fn ?_); (conv => whnf)) | ((refine ac.iref ?_); (conv => whnf)) | exact ⟨rfl, rfl, rfl⟩ | exact fun i hi => rfl | ((with_reducible refine And.intro ?_ ?_) <;> (conv => whnf))))))
   | skip
  all_goals trace_state
theorem qg (zs : List Int) (t : Int) : ∀ k, k < zs.length + 1 → bh zs.length (fun i => ao IntKind.u8 (zs.getD i default)) (fun i => a6 [D.val (.int .u8 t)] 1 (0 + i)) k = ao .u8 ((zs ++ [t]).getD k default) := fun k hk => by
 simp only [bh]
 by_cases e : k < zs.length
 ·rw [if_pos e, Q1, Q1, Q11 e]
 ·rw [if_neg e]
  obtain rfl : k = zs.length := by omega
  have : (zs ++ [t]).getD zs.length default = t := by simp
  rw [Nat.sub_self, this]; rfl
theorem eO (p : Int) (key : List Int) (hp : 0 ≤ p ∧ p ≤ 255) (hl : key.length ≤ 16777216) : Pure TC 85 [.i .i64 p, .d (aj 1 (ao .u8) key)] (.d (aj 1 (ao .u8) (p :: key))) := by
 refine Pure.mk' Tryz.func85 rfl rfl zN ?_
 (repeat' (first | ((first | refine Wp.any aa rfl ?_ | (with_reducible first | refine Go.mk ?_ | apply ak.of)); conv => whnf) | with_reducible exact rfl | ((with_reducible refine Ov.ok zO ?_); conv => whnf) | (with_reducible refine Ov.sh1 (by with_unfolding_all exact rfl) ?_) | ((first | with_reducible refine Ov.quo (by omega) (by omega) (by omega) (fun _ _ => ?_) | refine zV ?_ | with_reducible refine And.intro zC ?_); conv => whnf) | ((with_reducible refine And.intro ?hb ?_); (case hb => exact zz0); (conv => whnf)) | ((refine ae.a rfl rfl rfl rfl rfl rfl ?hb ?_); (case hb => exact zB); (conv => whnf)) | ((refine ae.b rfl rfl rfl rfl rfl rfl rfl rfl ?hb ?ho ?_); (case hb => exact zB); (case ho => omega); (conv => whnf)) | ((refine ae.c rfl rfl rfl rfl rfl ?hb ?_); (case hb => exact zB); (conv => whnf)) | ((refine ae.d rfl rfl rfl rfl rfl rfl ?hb ?ho ?_); (case hb => exact zB); (case ho => omega); (conv => whnf)) | (with_reducible refine Or.inl ?_) | ((with_reducible refine IxA.ptr ?_); conv => whnf) | ((with_reducible refine nil_no (by omega) ?_); (conv => whnf)) | ((with_reducible refine af ?_ (fun hn0 => ?_)) <;> (conv => whnf)) | ((refine am (fun hc => ?_) (fun hc => ?_)) <;> (try simp only [wz9] at hc) <;> (try (exfalso; omega)) <;> (conv => whnf))))
 refine Wp.loopP (ι := Nat) (fun j => j ≤ key.length) (fun j => ⟨⟨Tryz.f85.ntmps, 0⟩, 1, [(5, .sl 0 1 0 (p :: key.take j).length), (11, .d (aj 1 (ao .u8) key)), (12, .i .i64 key.length), (13, .i .i64 j)], [(0, some (ap 5 1 (ao .u8) (p :: key.take j)))]⟩) (fun j => key.length - j) 0 (Nat.zero_le _) ?_ ?_
 ·(refine Le.by [0] rfl rfl rfl rfl ?_ ?_ <;> (conv => whnf) <;> (repeat' (first | exact trivial | exact ac.rfl rfl | exact ac.ptr rfl | exact ac.sl rfl | ((with_reducible refine ac.fn ?_); (conv => whnf)) | ((refine ac.iref ?_); (conv => whnf)) | exact ⟨rfl, rfl, rfl⟩ | exact fun i hi => rfl | ((with_reducible refine And.intro ?_ ?_) <;> (conv => whnf)))))
  intro i hi
  obtain rfl : i = 0 := by omega
  rfl
 ·rintro j h1
  have hfl : (p :: key.take j).length ≤ 16777217 := by simp; omega
  (repeat' (first | ((first | refine Wp.any aa rfl ?_ | (with_reducible first | refine Go.mk ?_ | apply ak.of)); conv => whnf) | with_reducible exact rfl | ((with_reducible refine Ov.ok zO ?_); conv => whnf) | (with_reducible refine Ov.sh1 (by with_unfolding_all exact rfl) ?_) | ((first | with_reducible refine Ov.quo (by omega) (by omega) (by omega) (fun _ _ => ?_) | refine zV ?_ | with_reducible refine And.intro zC ?_); conv => whnf) | ((with_reducible refine And.intro ?hb ?_); (case hb => exact zz0); (conv => whnf)) | ((refine ae.a rfl rfl rfl rfl rfl rfl ?hb ?_); (case hb => exact zB); (conv => whnf)) | ((refine ae.b rfl rfl rfl rfl rfl rfl rfl rfl ?hb ?ho ?_); (case hb => exact zB); (case ho => omega); (conv => whnf)) | ((refine ae.c rfl rfl rfl rfl rfl ?hb ?_); (case hb => exact zB); (conv => whnf)) | ((refine ae.d rfl rfl rfl rfl rfl rfl ?hb ?ho ?_); (case hb => exact zB); (case ho => omega); (conv => whnf)) | (with_reducible refine Or.inl ?_) | ((with_reducible refine IxA.ptr ?_); conv => whnf) | ((with_reducible refine nil_no (by omega) ?_); (conv => whnf)) | ((with_reducible refine af ?_ (fun hn0 => ?_)) <;> (conv => whnf)) | ((refine am (fun hc => ?_) (fun hc => ?_)) <;> (try simp only [wz9] at hc) <;> (try (exfalso; omega)) <;> (conv => whnf))))
  ·refine ⟨j + 1, by dsimp only; omega, by dsimp only; omega, ?_⟩
   dsimp only
   have hj : j < key.length := by omega
   have e : p :: key.take (j + 1) = (p :: key.take j) ++ [key.getD (j : Int).toNat default] := by rw [gI0 hj, List.take_succ_eq_append_getElem hj]; rfl
   rw [e]
   (refine Le.by [2] rfl rfl rfl rfl ?_ ?_ <;> (conv => whnf) <;> (repeat' (first | exact trivial | exact ac.rfl rfl | exact ac.ptr rfl | exact ac.sl rfl | ((with_reducible refine ac.fn ?_); (conv => whnf)) | ((refine ac.iref ?_); (conv => whnf)) | exact ⟨rfl, rfl, rfl⟩ | exact fun i hi => rfl | ((with_reducible refine And.intro ?_ ?_) <;> (conv => whnf)))))
   ·rw [Q9]; exact ac.sl rfl
   ·rfl
   ·simp
   ·exact qg _ _
  ·obtain rfl : j = key.length := by omega
   rw [List.take_length]
   exact SV.Le.sl fun j hj => by simp only [Q19]
theorem jl (p q : Int) (k l : List Int) (hp : 0 ≤ p ∧ p ≤ 255) (hq : 0 ≤ q ∧ q ≤ 255) (hk : k.length ≤ 16777216) (hl : l.length ≤ 16777216) : Pure TC 63 [.i .i64 p, .d (aj 1 (ao .u8) k), .i .i64 q, .d (aj 1 (ao .u8) l)] (.i .i64 (be (p :: k) (q :: l))) := by
 refine Pure.mk' Tryz.func63 rfl rfl zN ?_
 (repeat' (first | ((first | refine Wp.any aa rfl ?_ | (with_reducible first | refine Go.mk ?_ | apply ak.of)); conv => whnf) | with_reducible exact rfl | ((with_reducible refine Ov.ok zO ?_); conv => whnf) | (with_reducible refine Ov.sh1 (by with_unfolding_all exact rfl) ?_) | ((first | with_reducible refine Ov.quo (by omega) (by omega) (by omega) (fun _ _ => ?_) | refine zV ?_ | with_reducible refine And.intro zC ?_); conv => whnf) | ((with_reducible refine And.intro ?hb ?_); (case hb => exact zz0); (conv => whnf)) | ((refine ae.a rfl rfl rfl rfl rfl rfl ?hb ?_); (case hb => exact zB); (conv => whnf)) | ((refine ae.b rfl rfl rfl rfl rfl rfl rfl rfl ?hb ?ho ?_); (case hb => exact zB); (case ho => omega); (conv => whnf)) | ((refine ae.c rfl rfl rfl rfl rfl ?hb ?_); (case hb => exact zB); (conv => whnf)) | ((refine ae.d rfl rfl rfl rfl rfl rfl ?hb ?ho ?_); (case hb => exact zB); (case ho => omega); (conv => whnf)) | (with_reducible refine Or.inl ?_) | ((with_reducible refine IxA.ptr ?_); conv => whnf) | ((with_reducible refine nil_no (by omega) ?_); (conv => whnf)) | ((with_reducible refine af ?_ (fun hn0 => ?_)) <;> (conv => whnf)) | ((with_reducible first | refine ab.pure (eO p k hp hk) rfl rfl ?_ | refine ag.pure (eO p k hp hk) rfl rfl ?_ | refine ab.pure (eO q l hq hl) rfl rfl ?_ | refine ag.pure (eO q l hq hl) rfl rfl ?_ | refine ab.pure (kT _ _) rfl rfl ?_ | refine ag.pure (kT _ _) rfl rfl ?_); conv => whnf) | ((refine am (fun hc => ?_) (fun hc => ?_)) <;> (try simp only [wz9] at hc) <;> (try (exfalso; omega)) <;> (conv => whnf))))
 all_goals exact .i rfl
theorem mK (a : List Int) (hl : a.length ≤ 16777216) : Pure TC 62 [.d (aj 1 (ao .u8) a)] (.d (aj 1 (ao .u8) a)) := by
 refine Pure.mk' Tryz.func62 rfl rfl zN ?_
 (repeat' (first | ((first | refine Wp.any aa rfl ?_ | (with_reducible first | refine Go.mk ?_ | apply ak.of)); conv => whnf) | with_reducible exact rfl | ((with_reducible refine Ov.ok zO ?_); conv => whnf) | (with_reducible refine Ov.sh1 (by with_unfolding_all exact rfl) ?_) | ((first | with_reducible refine Ov.quo (by omega) (by omega) (by omega) (fun _ _ => ?_) | refine zV ?_ | with_reducible refine And.intro zC ?_); conv => whnf) | ((with_reducible refine And.intro ?hb ?_); (case hb => exact zz0); (conv => whnf)) | ((refine ae.a rfl rfl rfl rfl rfl rfl ?hb ?_); (case hb => exact zB); (conv => whnf)) | ((refine ae.b rfl rfl rfl rfl rfl rfl rfl rfl ?hb ?ho ?_); (case hb => exact zB); (case ho => omega); (conv => whnf)) | ((refine ae.c rfl rfl rfl rfl rfl ?hb ?_); (case hb => exact zB); (conv => whnf)) | ((refine ae.d rfl rfl rfl rfl rfl rfl ?hb ?ho ?_); (case hb => exact zB); (case ho => omega); (conv => whnf)) | (with_reducible refine Or.inl ?_) | ((with_reducible refine IxA.ptr ?_); conv => whnf) | ((with_reducible refine nil_no (by omega) ?_); (conv => whnf)) | ((with_reducible refine af ?_ (fun hn0 => ?_)) <;> (conv => whnf)) | ((refine am (fun hc => ?_) (fun hc => ?_)) <;> (try simp only [wz9] at hc) <;> (try (exfalso; omega)) <;> (conv => whnf))))
 refine dw (Q19 _) fun i hi => ?_
 rw [Q19]
 unfold bh
 rw [if_neg (by omega)]
 rfl
def du (xs : List Cel) (pol : Int) (key : List Int) : Cel := if 0 ≤ d9 xs pol key then xs.getD (d9 xs pol key).toNat default else aw pol key
theorem pE (xs : List Cel) (pol : Int) (key : List Int) (hl : key.length ≤ 16777216) : Pure TC 32 [.d (aj 4 Cel.D xs), .i .i64 pol, .d (aj 1 (ao .u8) key)] (du xs pol key).S := by
 have hf : 0 ≤ d9 xs pol key → (d9 xs pol key).toNat < xs.length := by
  unfold d9
  intro h
  split
  ·rename_i g; simpa using g
  ·rename_i g; rw [if_neg g] at h; omega
 refine Pure.mk' Tryz.func32 rfl rfl zN ?_
 (repeat' (first | ((first | refine Wp.any aa rfl ?_ | (with_reducible first | refine Go.mk ?_ | apply ak.of)); conv => whnf) | with_reducible exact rfl | ((with_reducible refine Ov.ok zO ?_); conv => whnf) | (with_reducible refine Ov.sh1 (by with_unfolding_all exact rfl) ?_) | ((first | with_reducible refine Ov.quo (by omega) (by omega) (by omega) (fun _ _ => ?_) | refine zV ?_ | with_reducible refine And.intro zC ?_); conv => whnf) | ((with_reducible refine And.intro ?hb ?_); (case hb => exact zz0); (conv => whnf)) | ((refine ae.a rfl rfl rfl rfl rfl rfl ?hb ?_); (case hb => exact zB); (conv => whnf)) | ((refine ae.b rfl rfl rfl rfl rfl rfl rfl rfl ?hb ?ho ?_); (case hb => exact zB); (case ho => omega); (conv => whnf)) | ((refine ae.c rfl rfl rfl rfl rfl ?hb ?_); (case hb => exact zB); (conv => whnf)) | ((refine ae.d rfl rfl rfl rfl rfl rfl ?hb ?ho ?_); (case hb => exact zB); (case ho => omega); (conv => whnf)) | (with_reducible refine Or.inl ?_) | ((with_reducible refine IxA.ptr ?_); conv => whnf) | ((with_reducible refine nil_no (by omega) ?_); (conv => whnf)) | ((with_reducible refine af ?_ (fun hn0 => ?_)) <;> (conv => whnf)) | ((with_reducible first | refine ab.pure (it _ _ _) rfl rfl ?_ | refine ag.pure (it _ _ _) rfl rfl ?_ | refine ab.pure (mK key hl) rfl rfl ?_ | refine ag.pure (mK key hl) rfl rfl ?_); conv => whnf) | ((refine am (fun hc => ?_) (fun hc => ?_)) <;> (try simp only [wz9] at hc) <;> (try (exfalso; omega)) <;> (conv => whnf))))
 ·rw [du, if_pos hc]; exact .rfl _
 ·rw [du, if_neg hc]
  exact .agg (.cons (.rfl _) (.cons (.rfl _) (.cons (.rfl _) (.cons .nil .nil))))
def pI (c x : Cel) : Int := be (c.pol :: c.key) (x.pol :: x.key)
def c7 (c : Cel) : Bool → List Cel → List Cel
 | d, [] => if d then [] else [c]
 | d, x :: r => (if pI c x ≤ 0 ∧ d = false then [c] else []) ++ (if pI c x ≠ 0 then [x] else []) ++ c7 c (d || decide (pI c x ≤ 0)) r
theorem nR (l : List Cel) (n x : Cel) : ∀ k, k < l.length + 1 + 1 → bh (l.length + 1) (bh l.length (fun i => (l.getD i default).D) (fun i => a6 n.D 4 (0 + i))) (fun i => a6 x.D 4 (0 + i)) k = ((l ++ [n] ++ [x]).getD k default).D := fun k hk => by
 have e : (l ++ [n]).length = l.length + 1 := by simp
 have q := cq (l ++ [n]) x k (by omega)
 rw [e] at q
 rw [← q]
 by_cases h : k < l.length + 1
 ·have h2 := cq l n k h
  unfold bh at h2 ⊢
  rw [if_pos h, if_pos h]; exact h2
 ·unfold bh
  rw [if_neg h, if_neg h]
theorem r16_Put (xs : List Cel) (c : Cel) (hcp : 0 ≤ c.pol ∧ c.pol ≤ 255) (hck : c.key.length ≤ 16777216) (hx : ∀ k, k < xs.length → (0 ≤ (xs.getD k default).pol ∧ (xs.getD k default).pol ≤ 255) ∧ (xs.getD k default).key.length ≤ 16777216) (hl : xs.length ≤ 1000000) : Pure TC 34 [.d (aj 4 Cel.D xs), c.S] (.d (aj 4 Cel.D (c7 c false xs))) := by
  refine Pure.mk' Tryz.func34 rfl rfl zN ?_
  (repeat' (first | ((first | refine Wp.any aa rfl ?_ | (with_reducible first | refine Go.mk ?_ | apply ak.of)); conv => whnf)))
  refine Wp.le (Le.virt 5 56 4 (fun i => (([] : List Cel).getD i default).D) (by decide) rfl) ?_
  refine Wp.loopP (ι := Nat × Bool × List Cel) (fun k => k.1 ≤ xs.length ∧ k.2.2.length ≤ 2 * k.1 ∧ k.2.2 ++ c7 c k.2.1 (xs.drop k.1) = c7 c false xs) (fun k => ⟨⟨Tryz.f34.ntmps, 0⟩, 2, [(3, .ptr 0 0), (5, .sl 1 4 0 k.2.2.length), (6, .b k.2.1), (10, .d (aj 4 Cel.D xs)), (11, .i .i64 xs.length), (12, .i .i64 k.1)], [(0, some (.cells [.i .i64 c.pol, .d (aj 1 (ao .u8) c.key), .i .i64 c.tat, .d (aj 1 (ao .i64) c.held)])), (1, some (ap 56 4 Cel.D k.2.2))]⟩) (fun k => xs.length - k.1) (0, false, []) ⟨Nat.zero_le _, by simp, rfl⟩ ?_ ?_
  · (refine Le.by [0,1] rfl rfl rfl rfl ?_ ?_ <;> (conv => whnf) <;> (repeat' (first | exact trivial | exact ac.rfl rfl | exact ac.ptr rfl | exact ac.sl rfl | exact ⟨rfl, rfl, rfl⟩ | exact fun i hi => rfl | ((with_reducible refine And.intro ?_ ?_) <;> (conv => whnf)))))
  · rintro ⟨j, d, l⟩ ⟨h1, h2, h3⟩
    dsimp only at h1 h2 h3 ⊢
    have hp1 := fun h => hx (j : Int).toNat h
    have hd : ∀ (hj : j < xs.length), xs.drop j = xs.getD (j : Int).toNat default :: xs.drop (j + 1) := fun hj => by rw [Q13]; exact aQ hj
    have hst : j < xs.length → c7 c d (xs.drop j) = (if be (c.pol :: c.key) ((xs.getD (j : Int).toNat default).pol :: (xs.getD (j : Int).toNat default).key) ≤ 0 ∧ d = false then [c] else []) ++ (if be (c.pol :: c.key) ((xs.getD (j : Int).toNat default).pol :: (xs.getD (j : Int).toNat default).key) ≠ 0 then [xs.getD (j : Int).toNat default] else []) ++ c7 c (d || decide (be (c.pol :: c.key) ((xs.getD (j : Int).toNat default).pol :: (xs.getD (j : Int).toNat default).key) ≤ 0)) (xs.drop (j + 1)) := fun hj => by rw [hd hj]; rfl
    cases d with
    | true =>
      (repeat' (first | ((first | refine Wp.any aa rfl ?_ | (with_reducible first | refine Go.mk ?_ | apply ak.of | refine Ov.ok zO ?_ | refine And.intro zC ?_)); conv => whnf) | ((with_reducible refine And.intro ?hb ?_); (case hb => exact zz0); (conv => whnf)) | ((with_reducible refine ab.pure (jl c.pol (xs.getD (j : Int).toNat default).pol c.key (xs.getD (j : Int).toNat default).key hcp (hp1 (by omega)).1 hck (hp1 (by omega)).2) rfl rfl ?_); conv => whnf) | ((refine am (fun hc => ?_) (fun hc => ?_)) <;> (try simp only [wz9] at hc) <;> (try (exfalso; omega)) <;> (conv => whnf))))
      all_goals first
        | (refine ⟨(j + 1, true, l ++ [xs.getD (j : Int).toNat default]), ⟨by dsimp only; omega, by simp; omega, (by rw [← h3, hst (by omega), if_neg (by simp), if_pos (by omega)]; simp)⟩, by dsimp only; omega, ?_⟩
           (refine Le.by [0,4] rfl rfl rfl rfl ?_ ?_ <;> (conv => whnf) <;> (repeat' (first | exact trivial | exact ac.rfl rfl | exact ac.ptr rfl | ((with_reducible refine And.intro ?_ ?_) <;> (conv => whnf)))))
           · dsimp only; rw [Q9]; exact ac.sl rfl
           · rfl
           · simp
           · exact cq _ _)
        | (refine ⟨(j + 1, true, l), ⟨by dsimp only; omega, by dsimp only; omega, (by rw [← h3, hst (by omega), if_neg (by simp), if_neg (by omega)]; simp)⟩, by dsimp only; omega, ?_⟩
           (refine Le.by [0,1] rfl rfl rfl rfl ?_ ?_ <;> (conv => whnf) <;> (repeat' (first | exact trivial | exact ac.rfl rfl | exact ac.ptr rfl | exact ac.sl rfl | exact ⟨rfl, rfl, rfl⟩ | exact fun i hi => rfl | ((with_reducible refine And.intro ?_ ?_) <;> (conv => whnf))))))
        | (obtain rfl : j = xs.length := by omega
           rw [List.drop_length] at h3
           rw [← h3]
           exact dw (by simp [c7]) fun i hi => by simp [c7])
    | false =>
      (repeat' (first | ((first | refine Wp.any aa rfl ?_ | (with_reducible first | refine Go.mk ?_ | apply ak.of | refine Ov.ok zO ?_ | refine And.intro zC ?_)); conv => whnf) | ((with_reducible refine And.intro ?hb ?_); (case hb => exact zz0); (conv => whnf)) | ((with_reducible refine ab.pure (jl c.pol (xs.getD (j : Int).toNat default).pol c.key (xs.getD (j : Int).toNat default).key hcp (hp1 (by omega)).1 hck (hp1 (by omega)).2) rfl rfl ?_); conv => whnf) | ((refine am (fun hc => ?_) (fun hc => ?_)) <;> (try simp only [wz9] at hc) <;> (try (exfalso; omega)) <;> (conv => whnf))))
      all_goals first
        | (refine ⟨(j + 1, true, (l ++ [c]) ++ [xs.getD (j : Int).toNat default]), ⟨by dsimp only; omega, by simp; omega, (by rw [← h3, hst (by omega), if_pos ⟨by omega, rfl⟩, if_pos (by omega), decide_eq_true (by omega)]; simp)⟩, by dsimp only; omega, ?_⟩
           (refine Le.by [0,6] rfl rfl rfl rfl ?_ ?_ <;> (conv => whnf) <;> (repeat' (first | exact trivial | exact ac.rfl rfl | exact ac.ptr rfl | ((with_reducible refine And.intro ?_ ?_) <;> (conv => whnf)))))
           · dsimp only; rw [Q9, Q9]; exact ac.sl rfl
           · rfl
           · simp
           · exact nR _ _ _)
        | (refine ⟨(j + 1, true, l ++ [c]), ⟨by dsimp only; omega, by simp; omega, (by rw [← h3, hst (by omega), if_pos ⟨by omega, rfl⟩, if_neg (by omega), decide_eq_true (by omega)]; simp)⟩, by dsimp only; omega, ?_⟩
           (refine Le.by [0,4] rfl rfl rfl rfl ?_ ?_ <;> (conv => whnf) <;> (repeat' (first | exact trivial | exact ac.rfl rfl | exact ac.ptr rfl | ((with_reducible refine And.intro ?_ ?_) <;> (conv => whnf)))))
           · dsimp only; rw [Q9]; exact ac.sl rfl
           · rfl
           · simp
           · exact cq _ _)
        | (refine ⟨(j + 1, false, l ++ [xs.getD (j : Int).toNat default]), ⟨by dsimp only; omega, by simp; omega, (by rw [← h3, hst (by omega), if_neg (fun h => by omega), if_pos (by omega), decide_eq_false (by omega)]; simp)⟩, by dsimp only; omega, ?_⟩
           (refine Le.by [0,4] rfl rfl rfl rfl ?_ ?_ <;> (conv => whnf) <;> (repeat' (first | exact trivial | exact ac.rfl rfl | exact ac.ptr rfl | ((with_reducible refine And.intro ?_ ?_) <;> (conv => whnf)))))
           · dsimp only; rw [Q9]; exact ac.sl rfl
           · rfl
           · simp
           · exact cq _ _)
        | (obtain rfl : j = xs.length := by omega
           rw [List.drop_length] at h3
           rw [← h3]
           refine dw (by simp [c7]) fun i hi => ?_
           rw [Q19]
           exact cq l c i (by simpa [c7] using hi))
theorem eP (c x : Cel) : pI c x = be (idn c) (idn x) := rfl
theorem fu {c : Cel} : ∀ {xs : List Cel}, (∀ x ∈ xs, pI c x < 0) → c7 c true xs = xs
 | [], _ => rfl
 | x :: r, h => by
  have h1 := h x (by simp)
  have ih := fu (xs := r) fun y hy => h y (by simp [hy])
  rw [c7, if_neg (by simp), if_pos (by omega), Bool.true_or, ih]; rfl
theorem jp {c : Cel} : ∀ {xs : List Cel}, xs.Pairwise (fun a b => be (idn a) (idn b) < 0) → (c7 c false xs).Pairwise (fun a b => be (idn a) (idn b) < 0) ∧ ∀ d, d ∈ c7 c false xs ↔ d = c ∨ (d ∈ xs ∧ idn d ≠ idn c)
 | [], _ => by simp [c7]
 | x :: r, h => by
  obtain ⟨h1, h2⟩ := List.pairwise_cons.1 h
  rcases Int.lt_trichotomy (pI c x) 0 with ho | ho | ho
  ·have ht : ∀ y ∈ r, pI c y < 0 := fun y hy => ca ho (h1 y hy)
   have e : c7 c false (x :: r) = c :: x :: r := by rw [c7, if_pos ⟨by omega, rfl⟩, if_pos (by omega), Bool.false_or, decide_eq_true (by omega), fu ht]; rfl
   have hlt : ∀ y ∈ x :: r, pI c y < 0 := fun y hy => by
    rcases Q22 hy with rfl | hy
    ·exact ho
    ·exact ht y hy
   rw [e]
   refine ⟨List.pairwise_cons.2 ⟨hlt, h⟩, fun d => ?_⟩
   rw [List.mem_cons]
   constructor
   ·rintro (hd | hd)
    ·exact Or.inl hd
    ·refine Or.inr ⟨hd, fun e => ?_⟩
     have := hlt d hd
     rw [eP, e, aE] at this; omega
   ·rintro (hd | ⟨hd, _⟩)
    ·exact Or.inl hd
    ·exact Or.inr hd
  ·have hid : idn c = idn x := fU ho
   have ht : ∀ y ∈ r, pI c y < 0 := fun y hy => by rw [eP, hid]; exact h1 y hy
   have e : c7 c false (x :: r) = c :: r := by rw [c7, if_pos ⟨by omega, rfl⟩, if_neg (by omega), Bool.false_or, decide_eq_true (by omega), fu ht]; rfl
   rw [e]
   refine ⟨List.pairwise_cons.2 ⟨ht, h2⟩, fun d => ?_⟩
   rw [List.mem_cons, List.mem_cons]
   constructor
   ·rintro (hd | hd)
    ·exact Or.inl hd
    ·refine Or.inr ⟨Or.inr hd, fun e => ?_⟩
     have := ht d hd
     rw [eP, e, aE] at this; omega
   ·rintro (hd | ⟨rfl | hd, hn⟩)
    ·exact Or.inl hd
    ·exact absurd hid.symm hn
    ·exact Or.inr hd
  ·obtain ⟨i1, i2⟩ := jp (c := c) h2
   have e : c7 c false (x :: r) = x :: c7 c false r := by rw [c7, if_neg (fun h => by omega), if_pos (by omega), Bool.false_or, decide_eq_false (by omega)]; rfl
   have hxc : be (idn x) (idn c) < 0 := by rw [fT, ← eP]; omega
   rw [e]
   refine ⟨List.pairwise_cons.2 ⟨fun y hy => ?_, i1⟩, fun d => ?_⟩
   ·rcases (i2 y).1 hy with rfl | ⟨hy, _⟩
    ·exact hxc
    ·exact h1 y hy
   ·rw [List.mem_cons, List.mem_cons, i2]
    constructor
    ·rintro (rfl | hd | ⟨hd, hn⟩)
     ·refine Or.inr ⟨Or.inl rfl, fun e => ?_⟩
      rw [e, aE] at hxc; omega
     ·exact Or.inl hd
     ·exact Or.inr ⟨Or.inr hd, hn⟩
    ·rintro (hd | ⟨rfl | hd, hn⟩)
     ·exact Or.inr (Or.inl hd)
     ·exact Or.inl rfl
     ·exact Or.inr (Or.inr ⟨hd, hn⟩)
theorem mO {xs : List Cel} {c t : Cel} (h : Srt xs) (hc : k9 c.pol c.key) (e : idn c = idn t) : c7 c false xs = cA xs (aM xs t) (bS xs t) c := by
 obtain ⟨s1, s2, _⟩ := gX h hc e
 obtain ⟨p1, p2⟩ := jp (c := c) h.lt
 have hs : Srt (c7 c false xs) := ⟨fun d hd => by
  rcases (p2 d).1 hd with rfl | ⟨hd, _⟩
  ·exact hc
  ·exact h.ok d hd, p1⟩
 refine mz hs s1 fun i => mR fun d => ?_
 rw [cV hs, cV s1, p2, s2]
end Go.Proofs.YtcbpkdhoibemcaaGreat
