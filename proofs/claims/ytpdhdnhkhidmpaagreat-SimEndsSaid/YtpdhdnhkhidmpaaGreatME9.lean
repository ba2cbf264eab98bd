/- Lemmas of Cc1, Dr3, Cc2, Cc3, Cc4, Cc5. No condition. -/
import Derived.Test.YtpdhdnhkhidmpaaGreatME8
set_option linter.unusedVariables false
set_option linter.unusedSimpArgs false
set_option maxHeartbeats 80000000
set_option maxRecDepth 100000
namespace Go.Proofs.YtpdhdnhkhidmpaaGreat
open Go.RowKit
theorem SV.Le.sl' {z n m : Nat} {f g : Nat → List D} (e : n = m) (h : ∀ i, i < m → f i = g i) : SV.Le (.d (.sl z n f)) (.d (.sl z m g)) := by
 subst e; exact SV.Le.sl h
theorem b5 (pol : Int) (key : List Int) : Pure TC 72 [.i .i64 pol, .d (am 1 (aF .u8) key)] (.i .u64 (lz (bN pol key))) := by
 refine Pure.mk' Tryz.func72 rfl rfl zN ?_
 (repeat' (first | ((first | refine Wp.any ac rfl ?_ | (with_reducible first | refine Go.mk ?_ | apply ah.of | refine ab.pure (fL _ _) rfl rfl ?_ | refine ab.pure (oI _) rfl rfl ?_)); conv => whnf)))
 exact .i rfl
theorem vz (zs : List Cel) (c : Cel) : ∀ k, k < zs.length + 1 → bG zs.length (fun i => Cel.D (zs.getD i default)) (fun i => be (Cel.D c) 4 (0 + i)) k = Cel.D ((zs ++ [c]).getD k default) := fun k hk => by
 simp only [bG]
 by_cases e : k < zs.length
 ·rw [if_pos e, Q1, Q1, Q11 e]
 ·rw [if_neg e]
  obtain rfl : k = zs.length := by omega
  have : (zs ++ [c]).getD zs.length default = c := by simp
  rw [Nat.sub_self, this]; rfl
theorem getCC {xs : List Cel} {k : Nat} (h : k < xs.length) : xs.getD (k : Int).toNat default = xs[k] := by
 rw [Q13, Q1, Q0 h]; rfl
theorem mw {xs : List Cel} {lv sh j : Nat} (h : j < xs.length) : gt (xs.take (j + 1)) lv sh = if lz (bN (xs.getD (j : Int).toNat default).pol (xs.getD (j : Int).toNat default).key) % 2 ^ lv = (sh : Int) then gt (xs.take j) lv sh ++ [xs.getD (j : Int).toNat default] else gt (xs.take j) lv sh := by
 rw [getCC h]
 unfold gt
 rw [List.take_succ_eq_append_getElem h, List.filter_append]
 split
 ·rename_i e; rw [List.filter_cons_of_pos (by simpa [se] using e)]; simp
 ·rename_i e; rw [List.filter_cons_of_neg (by simpa [se] using e)]; simp
theorem gP (xs : List Cel) (lv sh : Nat) (hlv : lv ≤ 4) (hl : xs.length ≤ 16777216) : Pure TC 33 [.d (am 4 Cel.D xs), .i .i64 lv, .i .i64 sh] (.d (am 4 Cel.D (gt xs lv sh))) := by
 refine Pure.mk' Tryz.func33 rfl rfl zN ?_
 (repeat' (first | ((first | refine Wp.any ac rfl ?_ | (with_reducible first | refine Go.mk ?_ | apply ah.of)); conv => whnf)))
 refine Wp.le (Le.virt 7 112 4 (fun i => Cel.D (([] : List Cel).getD i default)) (by decide) rfl) ?_
 refine Wp.loopP (ι := Nat) (fun j => j ≤ xs.length) (fun j => ⟨⟨Tryz.f33.ntmps, 0⟩, 1, [(1, .i .i64 lv), (2, .i .i64 sh), (7, .sl 0 4 0 (gt (xs.take j) lv sh).length), (14, .d (am 4 Cel.D xs)), (15, .i .i64 xs.length), (16, .i .i64 j)], [(0, some (aE 112 4 Cel.D (gt (xs.take j) lv sh)))]⟩) (fun j => xs.length - j) 0 (Nat.zero_le _) ?_ ?_
 ·(refine Le.by [0] rfl rfl rfl rfl ?_ ?_ <;> (conv => whnf) <;> (repeat' (first | exact trivial | exact ae.rfl rfl | exact ae.sl rfl | exact ⟨rfl, rfl, rfl⟩ | exact fun i hi => rfl | ((with_reducible refine And.intro ?_ ?_) <;> (conv => whnf)))))
 ·rintro j h1
  have hfl : (gt (xs.take j) lv sh).length ≤ 16777216 := by
   have q1 := List.length_filter_le (se lv sh) (xs.take j)
   rw [Q10] at q1
   unfold gt; omega
  (repeat' (first | ((first | refine Wp.any ac rfl ?_ | (with_reducible first | refine Go.mk ?_ | apply ah.of | refine Ov.ok zO ?_ | refine And.intro zC ?_)); conv => whnf) | ((with_reducible refine And.intro ?hb ?_); (case hb => exact zz6); (conv => whnf)) | ((with_reducible first | refine ab.pure (fL _ _) rfl rfl ?_ | refine ab.pure (pK _ lv hlv) rfl rfl ?_); conv => whnf) | ((refine aq (fun hc => ?_) (fun hc => ?_)) <;> (try simp only [wz9] at hc) <;> (try (exfalso; omega)) <;> (conv => whnf))))
  ·refine ⟨j + 1, by dsimp only; omega, by dsimp only; omega, ?_⟩
   dsimp only
   rw [mw (by omega), if_pos hc]
   (refine Le.by [3] rfl rfl rfl rfl ?_ ?_ <;> (conv => whnf) <;> (repeat' (first | exact trivial | exact ae.rfl rfl | ((with_reducible refine And.intro ?_ ?_) <;> (conv => whnf)))))
   ·rw [Q9]; exact ae.sl rfl
   all_goals first | exact vz _ _ | rfl | (simp; done)
  ·refine ⟨j + 1, by dsimp only; omega, by dsimp only; omega, ?_⟩
   dsimp only
   rw [mw (by omega), if_neg hc]
   (refine Le.by [0] rfl rfl rfl rfl ?_ ?_ <;> (conv => whnf) <;> (repeat' (first | exact trivial | exact ae.rfl rfl | exact ae.sl rfl | exact ⟨rfl, rfl, rfl⟩ | exact fun i hi => rfl | ((with_reducible refine And.intro ?_ ?_) <;> (conv => whnf)))))
  ·obtain rfl : j = xs.length := by omega
   rw [List.take_length]
   exact SV.Le.sl fun j hj => by simp only [Q19]
theorem mY (xs : List Cel) (t : Cel) (hlen : xs.length ≤ 4611686018427387903) (hx : ∀ k, IsB (xs.getD k default).key) (ht : IsB t.key) :
  Pure TC 80 [.d (am 4 Cel.D xs), t.S, .d (.fn (.func 76) [])] (.tup [.i .i64 (ce xs t), .b (gp xs t)]) := by
 refine Pure.mk' Tryz.func80 rfl rfl zN ?_
 (repeat' (first | ((first | refine Wp.any ac rfl ?_ | (with_reducible first | refine Go.mk ?_ | apply ah.of)); conv => whnf)))
 refine Wp.loopP (ι := Nat × Nat × Nat) (fun k => k.1 ≤ k.2.1 ∧ k.2.1 ≤ xs.length ∧ k.2.1 - k.1 < k.2.2 ∧ bsF (fun k => decide (m8 (xs.getD k default) t < 0)) k.2.2 k.1 k.2.1 = ce xs t) (fun k => ⟨⟨Tryz.f80.ntmps, 0⟩, 1, [(0, .d (am 4 Cel.D xs)), (2, .d (.fn (.func 76) [])), (4, .ptr 0 0), (8, .i .i64 xs.length), (9, .i .i64 k.1), (10, .i .i64 k.2.1)], [(0, some (.cells [.i .i64 t.pol, .d (am 1 (aF .u8) t.key), .i .i64 t.tat, .d (am 1 (aF .i64) t.held)]))]⟩) (fun k => k.2.1 - k.1) (0, xs.length, xs.length + 1) ⟨by simp, by simp, by simp, rfl⟩ ?_ ?_
 ·(refine Le.by [0] rfl rfl rfl rfl ?_ ?_ <;> (conv => whnf) <;> (repeat' (first | exact trivial | exact ae.rfl rfl | exact ae.ptr rfl | ((with_reducible refine And.intro ?_ ?_) <;> (conv => whnf)))))
 ·rintro ⟨i, j, q⟩ ⟨h1, h2, h3, h4⟩
  dsimp only at h1 h2 h3 h4 ⊢
  (repeat' (first | ((first | refine Wp.any ac rfl ?_ | (with_reducible first | refine Go.mk ?_ | apply ah.of | refine Ov.ok zO ?_)); conv => whnf) | (with_reducible refine Ov.sh1 (by with_unfolding_all exact rfl) ?_) | ((first | refine zV ?_ | (with_reducible first | refine And.intro zC ?_ | refine ag.pure (jU (xs.getD _ default) t (hx _) ht) rfl rfl ?_)); conv => whnf) | ((refine aq (fun hc => ?_) (fun hc => ?_)) <;> (try simp only [wz9] at hc) <;> (try (exfalso; omega)) <;> (conv => whnf))))
  ·rw [show (((i : Int) + j) / 2).toNat = (i + j) / 2 by omega] at hc
   have hh : decide (m8 (xs.getD ((i + j) / 2) default) t < 0) = true := by simpa using hc
   refine ⟨((i + j) / 2 + 1, j, q - 1), ⟨by dsimp only; omega, h2, by dsimp only; omega, ?_⟩, by dsimp only; omega, ?_⟩
   ·rw [← h4]
    obtain ⟨q, rfl⟩ : ∃ r, q = r + 1 := ⟨q - 1, by omega⟩
    rw [bsF, if_pos (by omega), if_pos hh]; rfl
   ·(refine Le.by [0] rfl rfl rfl rfl ?_ ?_ <;> (conv => whnf) <;> (repeat' (first | exact trivial | exact ae.rfl rfl | exact ae.ptr rfl | ((with_reducible refine And.intro ?_ ?_) <;> (conv => whnf)))))
  ·rw [show (((i : Int) + j) / 2).toNat = (i + j) / 2 by omega] at hc
   have hh : ¬ decide (m8 (xs.getD ((i + j) / 2) default) t < 0) = true := by simpa using hc
   refine ⟨(i, (i + j) / 2, q - 1), ⟨by dsimp only; omega, by dsimp only; omega, by dsimp only; omega, ?_⟩, by dsimp only; omega, ?_⟩
   ·rw [← h4]
    obtain ⟨q, rfl⟩ : ∃ r, q = r + 1 := ⟨q - 1, by omega⟩
    rw [bsF, if_pos (by omega), if_neg hh]; rfl
   ·(refine Le.by [0] rfl rfl rfl rfl ?_ ?_ <;> (conv => whnf) <;> (repeat' (first | exact trivial | exact ae.rfl rfl | exact ae.ptr rfl | ((with_reducible refine And.intro ?_ ?_) <;> (conv => whnf)))))
  all_goals rw [th (by omega)] at h4
  all_goals subst h4
  ·rw [show ((ce xs t : Nat) : Int).toNat = ce xs t by omega]
   exact .of_eq (by rw [show gp xs t = (m8 (xs.getD (ce xs t) default) t == 0) by
    unfold gp; rw [decide_eq_true (by omega), Bool.true_and]; rfl])
  ·exact .of_eq (by rw [show gp xs t = false by unfold gp; rw [decide_eq_false (by omega), Bool.false_and]])
theorem Pure.le' {C : Cx} {g : Nat} {args args' : List SV} {r : SV} (h : Pure C g args' r) (ha : Les args args') : Pure C g args r :=
 ⟨h.ent, fun E w vs hIm hsz hargs => h.out E w vs hIm (hsz.trans ha.len) fun j hj => (ha.out j (by rw [ha.len]; exact hj) hj).out _ _ _ _ (hargs j (by rw [ha.len]; exact hj))⟩
theorem qg (xs : List Cel) (pol : Int) (key : List Int) (hlen : xs.length ≤ 4611686018427387903) (hx : ∀ k, IsB (xs.getD k default).key) (ht : IsB key) :
  Pure TC 52 [.d (am 4 Cel.D xs), .i .i64 pol, .d (am 1 (aF .u8) key)] (.tup [.i .i64 (ce xs (newC pol key)), .b (gp xs (newC pol key)), (gq xs pol key).S]) := by
 refine Pure.mk' Tryz.func52 rfl rfl zN ?_
 have hS : Pure TC 80 [.d (am 4 Cel.D xs), .agg [.i .i64 pol, .d (am 1 (aF .u8) key), .i .i64 0, .d (.val (.slice none 0 0))], .d (.fn (.func 76) [])] (.tup [.i .i64 (ce xs (newC pol key)), .b (gp xs (newC pol key))]) :=
  (mY xs (newC pol key) hlen hx ht).le' (.cons (.rfl _) (.cons (.agg (.cons (.rfl _) (.cons (.rfl _) (.cons (.rfl _) (.cons .nil .nil))))) (.cons (.rfl _) .nil)))
 (repeat' (first | ((first | refine Wp.any ac rfl ?_ | (with_reducible first | refine Go.mk ?_ | apply ah.of) | refine zV ?_ | (with_reducible first | refine And.intro zC ?_ | refine ab.pure (hS) rfl rfl ?_)); conv => whnf) | ((refine aq (fun hc => ?_) (fun hc => ?_)) <;> (try simp only [wz9, eU, hasC_f] at hc) <;> (try (exfalso; omega)) <;> (conv => whnf))))
 ·rw [show ((ce xs (newC pol key) : Nat) : Int).toNat = ce xs (newC pol key) by omega, show gq xs pol key = xs.getD (ce xs (newC pol key)) default by rw [gq, if_pos ((eU ..).2 hc)]]
  exact .rfl _
 ·rw [show gq xs pol key = newC pol key by rw [gq, if_neg (by rw [eU]; exact hc)]]
  exact .tup (.cons (.rfl _) (.cons (.rfl _) (.cons (.agg (.cons (.rfl _) (.cons (.rfl _) (.cons (.rfl _) (.cons .nil .nil))))) .nil)))
theorem qf (xs : List Cel) (at' : Nat) (there : Bool) (c : Cel) (hn : xs.length ≤ 16777215) (hk : c.key.length ≤ 16777216) (h1 : at' ≤ xs.length) (h2 : there = true → at' < xs.length) :
  Pure TC 57 [.d (am 4 Cel.D xs), .i .i64 at', .b there, c.S] (.d (am 4 Cel.D (dv xs at' there c))) := by
 cases there with
 | true =>
  have h2 := h2 rfl
  refine Pure.mk' Tryz.func57 rfl rfl zN ?_
  (repeat' (first | ((first | refine Wp.any ac rfl ?_ | (with_reducible first | refine Go.mk ?_ | apply ah.of | refine And.intro zC ?_)); conv => whnf) | ((refine ab.fn (iP xs (by omega)) [] rfl rfl rfl rfl rfl ?ha ?hh ?_); (case ha => exact zA); (case hh => exact zH); (conv => whnf))))
  have hl : xs.length = (dv xs at' true c).length := by simp [dv]
  refine SV.Le.sl' hl fun i hi => ?_
  simp only [Q19, dv, if_true, Q1, List.getElem?_set]
  by_cases h : at' = i
  ·subst h; simp [h2]; rfl
  ·rw [if_neg h, if_neg (fun e => h (by omega))]
 | false =>
  refine Pure.mk' Tryz.func57 rfl rfl zN ?_
  (repeat' (first | ((first | refine Wp.any ac rfl ?_ | (with_reducible first | refine Go.mk ?_ | apply ah.of | refine And.intro zC ?_)); conv => whnf) | ((refine ab.fn (iP xs (by omega)) [] rfl rfl rfl rfl rfl ?ha ?hh ?_); (case ha => exact zA); (case hh => exact zH); (conv => whnf)) | ((with_reducible refine ab.pure (ay _ (by omega)) rfl rfl ?_); conv => whnf) | ((refine ab.fn (qd xs at' c (by omega) (by omega)) [1,2] rfl rfl rfl rfl rfl ?ha ?hh ?_); (case ha => exact zA); (case hh => exact zH); (conv => whnf))))
  exact SV.Le.sl fun i hi => by simp only [Q19]; rfl
def ci (lw ll nw nl : Nat) (clk cnt : Int) : Blk := .cells [.sl lw 1 0 nw, .i .i64 clk, .i .i64 cnt, .sl ll 6 0 nl]
def ca (nw : Nat) (W : Nat → Int) : Blk := .row 96 1 nw fun i => aF .u64 (W i)
def bz (nl : Nat) (f : Nat → List D) : Blk := .row 223 6 nl f
def bP (who kind word old new : Int) (done : Bool) : List D := [.val (.int .i64 who), .val (.int .u8 kind), .val (.int .i64 word), .val (.int .u64 old), .val (.int .u64 new), .val (.bool done)]
def az (nl : Nat) : Nat := if nl + 1 ≤ 128 then nl + 1 else 64
def bA (nl : Nat) (f : Nat → List D) (a : List D) : Nat → List D := if nl + 1 ≤ 128 then bG nl f fun _ => a else fun i => bG nl f (fun _ => a) (nl + 1 - 64 + i)
theorem uF {nl : Nat} (h : nl ≤ 128) : az nl ≤ 128 := by unfold az; split <;> omega
theorem tC (n o m : Nat) (f : Nat → List D) (hn : n ≤ 1000) (ho : o + m ≤ n) (hm : 0 < m) : Fun TC 160 1 [.sl 0 6 o m] [(0, some (bz n f))] 2 (.sl 1 6 0 m) [(0, some (bz n f)), (1, some (bz m fun i => f (o + i)))] := by
 refine Fun.mk' Tryz.func160 rfl rfl zN (by decide) ?_
 (repeat' (first | ((first | refine Wp.any ac rfl ?_ | (with_reducible first | refine Go.mk ?_ | apply ah.of | refine And.intro zC ?_)); conv => whnf) | ((with_reducible refine And.intro ?hb ?_); (case hb => exact zz6); (conv => whnf)) | ((with_reducible refine rL (by omega) ?_); (conv => whnf))))
 all_goals try exact absurd trivial hc
 refine af.of [0, 2] rfl (fun i hi => by have : i = 0 := (by omega); subst this; rfl) rfl ?_ ?_
 ·exact .of_eq (congrArg (SV.sl _ _ _) (Q19 _))
 ·refine ⟨⟨⟨rfl, rfl, rfl⟩, fun i hi => rfl⟩, ⟨⟨rfl, rfl, Q19 _⟩, fun i hi => ?_⟩, trivial⟩
  simp [bG]
theorem eP (nw nl : Nat) (W : Nat → Int) (f : Nat → List D) (clk cnt who kind word old new : Int) (done : Bool) (hl : nl ≤ 128) (hc0 : 0 ≤ cnt) (hc1 : cnt ≤ 4611686018427387903) :
  Fun TC 122 3 [.ptr 0 0, .agg [.i .i64 who, .i .u8 kind, .i .i64 word, .i .u64 old, .i .u64 new, .b done]] [(0, some (ci 1 2 nw nl clk cnt)), (1, some (ca nw W)), (2, some (bz nl f))]
   4 (.tup []) [(0, some (ci 1 3 nw (az nl) clk (cnt + 1))), (1, some (ca nw W)), (2, none), (3, some (bz (az nl) (bA nl f (bP who kind word old new done))))] := by
 refine Fun.mk' Tryz.func122 rfl rfl zN (by decide) ?_
 (repeat' (first | ((first | refine Wp.any ac rfl ?_ | (with_reducible first | refine Go.mk ?_ | apply ah.of)); conv => whnf) | with_reducible exact rfl | ((first | with_reducible refine Ov.ok zO ?_ | refine zV ?_ | with_reducible refine And.intro zC ?_); conv => whnf) | ((refine gR.b rfl rfl rfl rfl rfl rfl rfl rfl ?hb ?ho ?_); (case hb => exact zB); (case ho => omega); (conv => whnf)) | (with_reducible refine Or.inl ?_) | ((refine ag.new (tC (nl + 1) (0 + (((nl + 1 : Nat) : Int) - 64).toNat) (nl + 1 - (((nl + 1 : Nat) : Int) - 64).toNat) (bG nl f fun i => be (bP who kind word old new done) 6 (0 + i)) (by omega) (by omega) (by omega)) [11] [11] rfl rfl rfl rfl rfl rfl ?ha ?hh ?hs ?_); (case ha => exact zA); (case hh => exact zH); (case hs => exact zK); (conv => whnf)) | ((refine aq (fun hc => ?_) (fun hc => ?_)) <;> (try simp only [wz9] at hc) <;> (try (exfalso; omega)) <;> (conv => whnf))))
 ·have hN : az nl = nl + 1 - (((nl + 1 : Nat) : Int) - 64).toNat := by unfold az; rw [if_neg (by omega)]; omega
  rw [hN]
  refine af.sealB [0, 1, 2, 27] rfl rfl rfl (ai.tup trivial) ?_
  conv => whnf
  (repeat' (first | exact zE | ((refine And.intro ?_ ?_) <;> (conv => whnf))))
  intro i hi
  refine fW.of ?_
  unfold bA
  rw [if_neg (by omega)]
  show bG nl f _ (0 + (((nl + 1 : Nat) : Int) - 64).toNat + i) = bG nl f _ (nl + 1 - 64 + i)
  rw [show 0 + (((nl + 1 : Nat) : Int) - 64).toNat + i = nl + 1 - 64 + i by omega]
  unfold bG
  by_cases h : nl + 1 - 64 + i < nl
  ·rw [if_pos h, if_pos h]
  ·rw [if_neg h, if_neg h, show nl + 1 - 64 + i - nl = 0 by omega]; rfl
 ·have hN : az nl = nl + 1 := by unfold az; rw [if_pos (by omega)]
  rw [hN]
  refine af.sealB [0, 1, 2, 11] rfl rfl rfl (ai.tup trivial) ?_
  conv => whnf
  (repeat' (first | exact zE | ((refine And.intro ?_ ?_) <;> (conv => whnf))))
  intro i hi
  refine fW.of ?_
  unfold bA
  rw [if_pos (by omega)]
  unfold bG
  by_cases h : i < nl
  ·rw [if_pos h, if_pos h]
  ·rw [if_neg h, if_neg h, show i - nl = 0 by omega]; rfl
theorem ite_row {i q : Nat} {k : IntKind} {x y : Int} : (if i = q then [D.val (.int k x)] else aF k y) = aF k (if i = q then x else y) := by split <;> rfl
theorem wat (w : Nat) : 0 + ((w : Nat) : Int).toNat = w := by omega
theorem rT (nw nl : Nat) (W : Nat → Int) (f : Nat → List D) (clk cnt who : Int) (word : Nat) (hl : nl ≤ 128) (hc0 : 0 ≤ cnt) (hc1 : cnt ≤ 4611686018427387903) (hw0 : 0 ≤ who) (hw1 : who < 64) (hw : word < nw) :
  Fun TC 161 3 [.ptr 0 0, .i .i64 who, .i .i64 word] [(0, some (ci 1 2 nw nl clk cnt)), (1, some (ca nw W)), (2, some (bz nl f))]
   4 (.tup [.i .u64 (W word), .i .i64 0]) [(0, some (ci 1 3 nw (az nl) clk (cnt + 1))), (1, some (ca nw W)), (2, none), (3, some (bz (az nl) (bA nl f (bP who 1 word (W word) 0 true))))] := by
 refine Fun.mk' Tryz.func161 rfl rfl zN (by decide) ?_
 (repeat' (first | ((first | refine Wp.any ac rfl ?_ | (with_reducible first | refine Go.mk ?_ | apply ah.of | refine And.intro zC ?_)); conv => whnf) | (with_reducible refine ab.inline Tryz.func121 rfl rfl rfl (zzb rfl) ?_) | ((with_reducible refine ab.pure (cV _ _ _) rfl rfl ?_); conv => whnf) | ((refine ab.fn (eP nw nl W f clk cnt who 1 word (W (0 + ((word : Nat) : Int).toNat)) 0 true hl hc0 hc1) [0,1,2] rfl rfl rfl rfl rfl ?ha ?hh ?_); (case ha => exact zA); (case hh => exact zH); (conv => whnf)) | ((refine aq (fun hc => ?_) (fun hc => ?_)) <;> (try simp only [wz9] at hc) <;> (try (exfalso; omega)) <;> (conv => whnf))))
 simp only [wat]
 (refine af.sealB [0,1,2,3] rfl rfl rfl ?_ ?_); (focus ((conv => whnf); (repeat' (first | exact zE)))); (focus ((conv => whnf); (repeat' (first | exact zE | ((refine And.intro ?_ ?_) <;> (conv => whnf))))))
theorem rR (nw nl : Nat) (W : Nat → Int) (f : Nat → List D) (clk cnt who old new : Int) (word : Nat) (hl : nl ≤ 128) (hc0 : 0 ≤ cnt) (hc1 : cnt ≤ 4611686018427387903) (hw0 : 0 ≤ who) (hw1 : who < 64) (hw : word < nw) :
  Fun TC 92 3 [.ptr 0 0, .i .i64 who, .i .i64 word, .i .u64 old, .i .u64 new] [(0, some (ci 1 2 nw nl clk cnt)), (1, some (ca nw W)), (2, some (bz nl f))]
   4 (.tup [.b (decide (W word = old)), .i .i64 0]) [(0, some (ci 1 3 nw (az nl) clk (cnt + 1))), (1, some (ca nw (if W word = old then Dir.upd W word new else W))), (2, none), (3, some (bz (az nl) (bA nl f (bP who 2 word old new (decide (W word = old))))))] := by
 refine Fun.mk' Tryz.func92 rfl rfl zN (by decide) ?_
 (repeat' (first | ((first | refine Wp.any ac rfl ?_ | (with_reducible first | refine Go.mk ?_ | apply ah.of | refine And.intro zC ?_)); conv => whnf) | (with_reducible refine ab.inline Tryz.func121 rfl rfl rfl (zzb rfl) ?_) | ((with_reducible refine ab.pure (cV _ _ _) rfl rfl ?_); conv => whnf) | ((refine ab.fn (eP nw nl (fun j => if j = 0 + ((word : Nat) : Int).toNat then new else W j) f clk cnt who 2 word old new (W (0 + ((word : Nat) : Int).toNat) == old) hl hc0 hc1) [0,1,2] rfl rfl rfl rfl rfl ?ha ?hh ?_); (case ha => exact zA); (case hh => exact zz24); (conv => whnf)) | ((refine ab.fn (eP nw nl W f clk cnt who 2 word old new (W (0 + ((word : Nat) : Int).toNat) == old) hl hc0 hc1) [0,1,2] rfl rfl rfl rfl rfl ?ha ?hh ?_); (case ha => exact zA); (case hh => exact zz24); (conv => whnf)) | ((refine aq (fun hc => ?_) (fun hc => ?_)) <;> (try simp only [wz9] at hc) <;> (try (exfalso; omega)) <;> (conv => whnf))))
 all_goals simp only [wat] at hc ⊢
 all_goals rw [show (W word == old) = decide (W word = old) from rfl]
 ·rw [if_pos hc]
  (refine af.sealB [0,1,2,3] rfl rfl rfl ?_ ?_); (focus ((conv => whnf); (repeat' (first | exact zE)))); (focus ((conv => whnf); (repeat' (first | exact zE | ((refine And.intro ?_ ?_) <;> (conv => whnf))))))
 ·rw [if_neg hc]
  (refine af.sealB [0,1,2,3] rfl rfl rfl ?_ ?_); (focus ((conv => whnf); (repeat' (first | exact zE)))); (focus ((conv => whnf); (repeat' (first | exact zE | ((refine And.intro ?_ ?_) <;> (conv => whnf))))))
theorem pE (nw nl : Nat) (W : Nat → Int) (f : Nat → List D) (clk cnt who : Int) (hl : nl ≤ 128) (hc0 : 0 ≤ cnt) (hc1 : cnt ≤ 4611686018427387903) (hw0 : 0 ≤ who) (hw1 : who < 64) :
  Fun TC 173 3 [.ptr 0 0, .i .i64 who] [(0, some (ci 1 2 nw nl clk cnt)), (1, some (ca nw W)), (2, some (bz nl f))]
   4 (.tup [.i .i64 clk, .i .i64 0]) [(0, some (ci 1 3 nw (az nl) clk (cnt + 1))), (1, some (ca nw W)), (2, none), (3, some (bz (az nl) (bA nl f (bP who 3 0 (IntKind.u64.wrap clk) 0 true))))] := by
 refine Fun.mk' Tryz.func173 rfl rfl zN (by decide) ?_
 (repeat' (first | ((first | refine Wp.any ac rfl ?_ | (with_reducible first | refine Go.mk ?_ | apply ah.of | refine ab.pure (cV _ _ _) rfl rfl ?_)); conv => whnf) | ((refine ab.fn (eP nw nl W f clk cnt who 3 0 (IntKind.u64.wrap clk) 0 true hl hc0 hc1) [0,1,2] rfl rfl rfl rfl rfl ?ha ?hh ?_); (case ha => exact zA); (case hh => exact zH); (conv => whnf)) | ((with_reducible refine Ov.mk ?_); conv => whnf) | ((refine aq (fun hc => ?_) (fun hc => ?_)) <;> (try simp only [wz9] at hc) <;> (try (exfalso; omega)) <;> (conv => whnf))))
 (refine af.sealB [0,1,2,3] rfl rfl rfl ?_ ?_); (focus ((conv => whnf); (repeat' (first | exact zE)))); (focus ((conv => whnf); (repeat' (first | exact zE | ((refine And.intro ?_ ?_) <;> (conv => whnf))))))
theorem t8 (a b : Int) (ha : 0 ≤ a) (hb : 0 ≤ b) (ha1 : a ≤ 4611686018427387903) (hb1 : b ≤ 4611686018427387903) : Pure TC 89 [.i .i64 a, .i .i64 b] (.tup [.i .i64 (min (a + b) 4611686018427387903), .i .i64 0]) := by
 have hE : lq a b = 0 := by unfold lq bI; simp [ha, hb, ha1, hb1]
 refine Pure.mk' Tryz.func89 rfl rfl zN ?_
 have hB := lE a b
 rw [hE] at hB
 (repeat' (first | ((first | refine Wp.any ac rfl ?_ | (with_reducible first | refine Go.mk ?_ | apply ah.of | refine Ov.ok zO ?_ | refine ab.pure (hB) rfl rfl ?_ | refine ab.pure (jc _) rfl rfl ?_)); conv => whnf)))
 exact .tup (.cons (.i (by unfold cm; omega)) (.cons (.rfl _) .nil))
theorem rQ (nw nl : Nat) (W : Nat → Int) (f : Nat → List D) (clk cnt n : Int) (h0 : 0 ≤ clk) (h1 : clk ≤ 4611686018427387903) (hn : 0 ≤ n) (hn1 : n ≤ 4611686018427387903) :
  Fun TC 59 3 [.ptr 0 0, .i .i64 n] [(0, some (ci 1 2 nw nl clk cnt)), (1, some (ca nw W)), (2, some (bz nl f))]
   3 (.tup [.i .i64 (min (clk + n) 4611686018427387903), .i .i64 0]) [(0, some (ci 1 2 nw nl (min (clk + n) 4611686018427387903) cnt)), (1, some (ca nw W)), (2, some (bz nl f))] := by
 have hT := bH n
 rw [show bI n = true by simp [bI]; omega] at hT
 refine Fun.mk' Tryz.func59 rfl rfl zN (by decide) ?_
 (repeat' (first | ((first | refine Wp.any ac rfl ?_ | (with_reducible first | refine Go.mk ?_ | apply ah.of | refine ab.pure (hT) rfl rfl ?_ | refine ab.pure (t8 clk n h0 hn h1 hn1) rfl rfl ?_)); conv => whnf)))
 (refine af.sealB [0,1,2] rfl rfl rfl ?_ ?_); (focus ((conv => whnf); (repeat' (first | exact zE)))); (focus ((conv => whnf); (repeat' (first | exact zE | ((refine And.intro ?_ ?_) <;> (conv => whnf))))))
def iT (m h : Nat) : SV := .iref [.ptr m 0, .sl h 1 0 34] 0
def gm (Hd : Nat → List Cel) : Blk := .row 59 1 34 fun i => [am 4 Cel.D (Hd i)]
theorem uP {i q : Nat} {x : List Cel} {Hd : Nat → List Cel} : (if i = q then [am 4 Cel.D x] else [am 4 Cel.D (Hd i)]) = [am 4 Cel.D (Dir.upd Hd q x i)] := by unfold Dir.upd; split <;> rfl
theorem aC (nl : Nat) (W : Nat → Int) (Hd : Nat → List Cel) (f : Nat → List D) (clk cnt who : Int) (word : Nat) (hl : nl ≤ 128) (hc0 : 0 ≤ cnt) (hc1 : cnt ≤ 4611686018427387903) (hw0 : 0 ≤ who) (hw1 : who < 64) (hw : word < 34) :
  Fun TC 125 4 [iT 0 2, .i .i64 who, .i .i64 word] [(0, some (ci 1 3 34 nl clk cnt)), (1, some (ca 34 W)), (2, some (gm Hd)), (3, some (bz nl f))]
   5 (.tup [.i .u64 (W word), .d (am 4 Cel.D (Hd word))]) [(0, some (ci 1 4 34 (az nl) clk (cnt + 1))), (1, some (ca 34 W)), (2, some (gm Hd)), (3, none), (4, some (bz (az nl) (bA nl f (bP who 1 word (W word) 0 true))))] := by
 refine Fun.mk' Tryz.func125 rfl rfl zN (by decide) ?_
 (repeat' (first | ((first | refine Wp.any ac rfl ?_ | (with_reducible first | refine Go.mk ?_ | apply ah.of)); conv => whnf) | with_reducible exact rfl | ((first | refine zV ?_ | with_reducible refine And.intro zC ?_); conv => whnf) | (with_reducible refine Or.inl ?_) | ((refine ab.fn (rT 34 nl W f clk cnt who word hl hc0 hc1 hw0 hw1 hw) [0,1,3] rfl rfl rfl rfl rfl ?ha ?hh ?_); (case ha => exact zA); (case hh => exact zH); (conv => whnf))))
 simp only [wat]
 (refine af.sealB [0,1,2,3,4] rfl rfl rfl ?_ ?_); (focus ((conv => whnf); (repeat' (first | exact zE)))); (focus ((conv => whnf); (repeat' (first | exact zE | ((refine And.intro ?_ ?_) <;> (conv => whnf))))))
theorem aA (nl : Nat) (W : Nat → Int) (Hd : Nat → List Cel) (f : Nat → List D) (clk cnt who old new : Int) (word : Nat) (h : List Cel) (hl : nl ≤ 128) (hc0 : 0 ≤ cnt) (hc1 : cnt ≤ 4611686018427387903) (hw0 : 0 ≤ who) (hw1 : who < 64) (hw : word < 34) :
  Fun TC 63 4 [iT 0 2, .i .i64 who, .i .i64 word, .i .u64 old, .i .u64 new, .d (am 4 Cel.D h)] [(0, some (ci 1 3 34 nl clk cnt)), (1, some (ca 34 W)), (2, some (gm Hd)), (3, some (bz nl f))]
   5 (.b (decide (W word = old))) [(0, some (ci 1 4 34 (az nl) clk (cnt + 1))), (1, some (ca 34 (if W word = old then Dir.upd W word new else W))), (2, some (gm (if W word = old then Dir.upd Hd word h else Hd))), (3, none), (4, some (bz (az nl) (bA nl f (bP who 2 word old new (decide (W word = old))))))] := by
 refine Fun.mk' Tryz.func63 rfl rfl zN (by decide) ?_
 (repeat' (first | ((first | refine Wp.any ac rfl ?_ | (with_reducible first | refine Go.mk ?_ | apply ah.of | refine And.intro zC ?_)); conv => whnf) | ((refine ab.fn (rR 34 nl W f clk cnt who old new word hl hc0 hc1 hw0 hw1 hw) [0,1,3] rfl rfl rfl rfl rfl ?ha ?hh ?_); (case ha => exact zA); (case hh => exact zH); (conv => whnf)) | ((refine aq (fun hc => ?_) (fun hc => ?_)) <;> (try simp only [wz9] at hc) <;> (try (exfalso; omega)) <;> (conv => whnf))))
 ·try simp only [wat]
  rw [if_pos hc, if_pos hc]
  (refine af.sealB [0,1,2,3,4] rfl rfl rfl ?_ ?_); (focus ((conv => whnf); (repeat' (first | exact zE)))); (focus ((conv => whnf); (repeat' (first | exact zE | ((refine And.intro ?_ ?_) <;> (conv => whnf))))))
  exact fun i hi => fW.of uP
 ·try simp only [wat]
  rw [if_neg hc, if_neg hc]
  (refine af.sealB [0,1,2,3,4] rfl rfl rfl ?_ ?_); (focus ((conv => whnf); (repeat' (first | exact zE)))); (focus ((conv => whnf); (repeat' (first | exact zE | ((refine And.intro ?_ ?_) <;> (conv => whnf))))))
theorem b8 (nl : Nat) (W : Nat → Int) (Hd : Nat → List Cel) (f : Nat → List D) (clk cnt : Int) (word : Nat) (hw : word < 34) :
  Fun TC 60 4 [iT 0 2, .i .i64 word] [(0, some (ci 1 3 34 nl clk cnt)), (1, some (ca 34 W)), (2, some (gm Hd)), (3, some (bz nl f))]
   4 (.tup [.i .u64 (W word), .d (am 4 Cel.D (Hd word))]) [(0, some (ci 1 3 34 nl clk cnt)), (1, some (ca 34 W)), (2, some (gm Hd)), (3, some (bz nl f))] := by
 refine Fun.mk' Tryz.func60 rfl rfl zN (by decide) ?_
 (repeat' (first | ((first | refine Wp.any ac rfl ?_ | (with_reducible first | refine Go.mk ?_ | apply ah.of)); conv => whnf) | with_reducible exact rfl | ((first | refine zV ?_ | with_reducible refine And.intro zC ?_); conv => whnf) | (with_reducible refine Or.inl ?_) | (with_reducible refine ab.inline Tryz.func90 rfl rfl rfl (zzb rfl) ?_) | (with_reducible refine ab.inline Tryz.func121 rfl rfl rfl (zzb rfl) ?_) | ((with_reducible refine ab.pure (cV _ _ _) rfl rfl ?_); conv => whnf) | ((refine aq (fun hc => ?_) (fun hc => ?_)) <;> (try simp only [wz9] at hc) <;> (try (exfalso; omega)) <;> (conv => whnf))))
 simp only [wat]
 (refine af.sealB [0,1,2,3] rfl rfl rfl ?_ ?_); (focus ((conv => whnf); (repeat' (first | exact zE)))); (focus ((conv => whnf); (repeat' (first | exact zE | ((refine And.intro ?_ ?_) <;> (conv => whnf))))))
section
abbrev bx (x : SV) : SV := .iref [x] 0
def ar : SV := .iref [iT 1 3, .d (.fn (.func 33) [])] 0
def qq : SV := .iref [.b false, .i .i64 0, .b false, .i .i64 0, .i .i64 0, .i .i64 0, .i .i64 0] 0
def nJ : SV := .d (.fn (.func 98) [])
def eu : SV := .d (.val .nilFunc)
def xS : SV := bx (.ptr 4 0)
def uB (p : Pol) : SV := .iref [.i .u8 p.kind, .i .i64 p.T, .i .i64 p.tau, .i .i64 p.permits] 0
def vf (c : Cel) : SV := .iref [.i .i64 c.pol, .d (am 1 (aF .u8) c.key), .i .i64 c.tat, .d (am 1 (aF .i64) c.held)] 0
def rplB (r : Rpl) : SV := .iref [.i .i64 r.e, .b r.g, .i .i64 r.left, .i .i64 r.wait, .i .i64 r.serial, .i .i64 r.now] 0
def fdB (f : Core.Fd) : SV := .iref [.i .i64 f.w, .i .u64 f.v, .d (am 4 Cel.D f.h)] 0
def furS (j sh : Nat) : SV := .fn (.func 128) [bx (.i .i64 j), bx (.i .i64 sh), xS]
def thnS (p : Pol) : Core.Fc → SV
 | .key => .fn (.func 138) [xS, uB p]
 | .ev j sh g => .fn (.func 131) [bx (furS j sh), bx (.i .i64 g), xS]
def qF (f : Core.Fd) (c : Cel) (r : Rpl) : SV := .fn (.func 181) [xS, fdB f, bx (.i .i64 f.at'), bx (.b f.there), vf c, rplB r]
def mvS (word by' stop : Int) (stopped thn : SV) : SV := .fn (.func 199) [xS, bx (.i .i64 word), bx (.i .u64 stop), bx stopped, bx (.i .u64 by'), bx thn]
def mwS (word v by' stop : Int) (stopped thn : SV) : SV := .fn (.func 200) [xS, bx (.i .i64 word), bx (.i .u64 v), bx (.i .u64 by'), bx (.i .u64 stop), bx stopped, bx thn]
def uY : SV := .d (.fn (.func 182) [])
def rsvS (sw : SV) : SV := .fn (.func 183) [xS, bx sw]
def bkS (n : Int) : Core.Bk → SV
 | .lv r => .fn (.func 202) [rplB r]
 | .ev j sh g => .fn (.func 137) [bx (furS j sh), bx (.i .i64 g), bx (.i .i64 n)]
def vx (n : Int) (k : Core.Bk) : SV := .fn (.func 175) [bx (bkS n k)]
def acqS (p : Pol) (f : Core.Fd) : SV := .fn (.func 178) [uB p, vf f.cell, xS, fdB f, bx (.i .i64 f.at'), bx (.b f.there)]
def jh : SV := .fn (.func 179) [xS]
def serS (p : Pol) (f : Core.Fd) : SV := .fn (.func 180) [xS, bx (acqS p f)]
def eL (n : Int) : Int := IntKind.u64.wrap (0 - n)
abbrev tE : Int := 18446744073709551615
def findS (who s : Int) (t : SV) : SV := .fn (.func 168) [bx ar, bx (.i .i64 who), bx (.i .u64 s), bx t]
def v3 (who s : Int) (w : Nat) (t : SV) : SV := .fn (.func 198) [bx ar, bx (.i .i64 who), bx (.i .i64 w), bx (.i .u64 s), bx t]
def ny (who : Int) (w : Nat) (t : SV) : SV := .fn (.func 194) [bx ar, bx (.i .i64 who), bx (.i .i64 w), bx t]
def sq (who : Int) (w : Nat) (v : Int) (h : List Cel) (t : SV) : SV := .fn (.func 195) [bx ar, bx (.i .i64 who), bx (.i .i64 w), bx (.i .u64 v), bx (.d (am 4 Cel.D h)), bx t, qq]
def halfS (who : Int) (lv w : Nat) (h : List Cel) (t : SV) : SV := .fn (.func 196) [bx ar, bx (.i .i64 who), bx (.i .i64 w), bx t, bx (.d (am 4 Cel.D h)), bx (.i .i64 lv)]
def layS (who : Int) (lv w : Nat) (h : List Cel) (t : SV) : SV := .fn (.func 197) [bx ar, bx (.i .i64 who), bx (.i .i64 w), bx (.d (am 4 Cel.D h)), bx (.i .i64 lv), bx t, bx .any]
def tfK (who sm : Int) (lv : Nat) (t : SV) : SV := .fn (.func 170) [bx ar, bx (.i .i64 who), bx (.i .i64 lv), bx (.i .u64 sm), bx t, qq]
def thK (who sm : Int) (t : SV) : SV := .fn (.func 171) [bx ar, bx (.i .i64 who), bx (.i .u64 sm), bx t, qq]
def tfS (who : Int) (lv i : Nat) : SV := .fn (.func 164) [bx ar, bx (.i .i64 who), bx (.i .i64 lv), bx (.i .i64 i), bx nJ, qq]
def thS (who : Int) (lv i : Nat) (up : Bool) (h : List Cel) : SV :=
 if up then .fn (.func 167) [bx ar, bx (.i .i64 who), bx (.i .i64 lv), bx (.i .i64 i), bx nJ, qq]
 else .fn (.func 166) [bx ar, bx (.i .i64 who), bx (.i .i64 lv), bx (.i .i64 i), bx (.d (am 4 Cel.D h)), bx nJ, qq]
section
variable (P : Core.Ops) (who : Int) (x : Core.X)
def thn (f : Core.Fc) : SV := thnS (P.pol x.pol) f
def cl : Core.CS → SV
 | .none => eu
 | .k0 f => findS who (Core.sumF x f) (thn P x f)
 | .kE f w => v3 who (Core.sumF x f) w (thn P x f)
 | .kF f lv w => ny who w (tfK who (Core.sumF x f) lv (thn P x f))
 | .kG f lv w v h => sq who w v h (tfK who (Core.sumF x f) lv (thn P x f))
 | .kH f lv w h => halfS who lv w h (thK who (Core.sumF x f) (thn P x f))
 | .kL f lv w h => layS who lv w h (thK who (Core.sumF x f) (thn P x f))
 | .al f => .fn (.func 176) [uB (P.pol x.pol), vf f.cell, xS, fdB f, bx (.i .i64 f.at'), bx (.b f.there)]
 | .pk c => .fn (.func 142) [uB (P.pol x.pol), vf c, xS]
 | .a0 f => mvS 33 1 4611686018427387903 jh (serS (P.pol x.pol) f)
 | .a1 f u => mwS 33 u 1 4611686018427387903 jh (serS (P.pol x.pol) f)
 | .p0 f c r => mvS 32 1 P.room uY (rsvS (qF f c r))
 | .p1 f c r u => mwS 32 u 1 P.room uY (rsvS (qF f c r))
 | .pS f c r => qF f c r
 | .b0 n k => mvS 32 (eL n) tE eu (vx n k)
 | .b1 n k u => mwS 32 u (eL n) tE eu (vx n k)
 | .e0 => .fn (.func 99) [xS]
 | .eC j sh g w v h => .fn (.func 132) [xS, bx (.d (am 4 Cel.D h)), bx (furS j sh), bx (.i .i64 g), bx (.i .i64 w), bx (.i .u64 v)]
 | .eS j sh g w v m n => .fn (.func 135) [xS, bx (.i .i64 w), bx (.i .u64 v), bx (.d (am 4 Cel.D m)), bx (furS j sh), bx (.i .i64 g), bx (.i .i64 n)]
 | .s0 => .fn (.func 124) [bx ar, bx (.i .i64 who), bx nJ]
 | .sM lv => .fn (.func 127) [bx ar, bx (.i .i64 who), bx (.i .u64 (2 * lv)), bx nJ, qq, bx (.i .i64 lv)]
 | .sF lv i => ny who (2 ^ lv + i) (tfS who lv i)
 | .sG lv i v h => sq who (2 ^ lv + i) v h (tfS who lv i)
 | .sH lv i up h => halfS who (lv + 1) (Dir.upW lv i up) h (thS who lv i up h)
 | .sL lv i up h => layS who (lv + 1) (Dir.upW lv i up) h (thS who lv i up h)
 | .sV lv => .fn (.func 162) [bx ar, bx (.i .i64 who), bx (.i .i64 lv), bx nJ]
end
theorem ea (P : Core.Ops) (who : Int) (x : Core.X) (s : Core.CS) : SV.Lt 5 (cl P who x s) := by
 cases s with
 | sH lv i up h => cases up <;> exact .of rfl
 | sL lv i up h => cases up <;> exact .of rfl
 | k0 f => cases f <;> exact .of rfl
 | kE f w => cases f <;> exact .of rfl
 | kF f lv w => cases f <;> exact .of rfl
 | kG f lv w v h => cases f <;> exact .of rfl
 | kH f lv w h => cases f <;> exact .of rfl
 | kL f lv w h => cases f <;> exact .of rfl
 | b0 n k => cases k <;> exact .of rfl
 | b1 n k u => cases k <;> exact .of rfl
 | _ => exact .of rfl
def xF (who : Int) (x : Core.X) : Nat → SV
 | 0 => .i .u8 x.op
 | 1 => .i .i64 x.pol
 | 2 => .d (am 1 (aF .u8) x.key)
 | 3 => .i .i64 x.n
 | 4 => .ptr 0 0
 | 5 => .i .i64 who
 | 6 => .i .u64 x.sum
 | 7 => .b x.res
 | _ => .i .i64 x.ser
structure XB where
 n : Nat
 f : Nat → SV
def au (ps : List Pol) (room : Int) (g : Nat → SV) : Nat → SV
 | 0 => .d (am 4 Pol.D ps)
 | 1 => .i .u64 room
 | 2 => ar
 | j + 3 => g j
def coreB (ps : List Pol) (room : Int) (g : Nat → SV) : Blk := .cf 13 67 (au ps room g)
def xB (o : XB) : Blk := .cf 1 o.n o.f
@[reducible] def coreT (ps : List Pol) (room : Int) (g : Nat → SV) (M : Core.Mc) (o : Nat → XB) (l nl : Nat) (cnt : Int) (r : List (Nat × Option Blk)) : List (Nat × Option Blk) :=
 [(0, some (coreB ps room g)), (1, some (ci 2 l 34 nl M.clk cnt)), (2, some (ca 34 M.W)), (3, some (gm M.Hd)), (4, some (xB (o 0))), (5, some (xB (o 1))), (6, some (xB (o 2))), (7, some (xB (o 3))), (8, some (xB (o 4))), (9, some (xB (o 5))), (10, some (xB (o 6))), (11, some (xB (o 7))), (12, some (xB (o 8)))] ++ r
def aR (who : Int) (x : Core.X) (o : Nat → XB) : Nat → XB
 | 0 => ⟨9, xF who x⟩
 | i + 1 => o i
def ao (ps : List Pol) (room : Int) (g : Nat → SV) (M : Core.Mc) (o : Nat → XB) (nl : Nat) (f : Nat → List D) (cnt : Int) : List (Nat × Option Blk) :=
 coreT ps room g M o 13 nl cnt [(13, some (bz nl f))]
def aP (ps : List Pol) (room : Int) (g : Nat → SV) (M : Core.Mc) (o : Nat → XB) (nl : Nat) (f : Nat → List D) (cnt : Int) (a : List D) : List (Nat × Option Blk) :=
 coreT ps room g M o 14 (az nl) (cnt + 1) [(13, none), (14, some (bz (az nl) (bA nl f a)))]
structure COK (ps : List Pol) (room who : Int) (g : Nat → SV) (M : Core.Mc) (o : Nat → XB) (nl : Nat) (cnt : Int) : Prop where
 w0 : 0 ≤ who
 w1 : who < 64
 nl : nl ≤ 128
 c0 : 0 ≤ cnt
 c1 : cnt ≤ 4611686018427387903
 g : ∀ j, SV.Lt 13 (g j)
 o : ∀ i j, SV.Lt 1 ((o i).f j)
 d0 : 0 ≤ M.W 0
 d1 : M.W 0 ≤ 8
 hd : ∀ w, Hc ps 16000000 (M.Hd w)
 ps : cU ps = 0
 room : 1 ≤ room ∧ room ≤ 4096
 c32 : 0 ≤ M.W 32 ∧ M.W 32 ≤ 4096
 c33 : 0 ≤ M.W 33 ∧ M.W 33 ≤ 4611686018427387903
theorem cz (who : Int) (x : Core.X) (j : Nat) : SV.Lt 1 (xF who x j) := by
 unfold xF
 split <;> first | exact .of rfl
theorem aI {ps : List Pol} {room : Int} {g : Nat → SV} (hg : ∀ j, SV.Lt 13 (g j)) (j : Nat) : SV.Lt 13 (au ps room g j) := by
 rcases j with _ | _ | _ | j
 ·exact .of rfl
 ·exact .of rfl
 ·exact .of rfl
 ·exact hg j
theorem id13 {L : List Nat} {i : Nat} (hi : i < 13) : (0 :: 1 :: 2 :: 3 :: 4 :: 5 :: 6 :: 7 :: 8 :: 9 :: 10 :: 11 :: 12 :: L).getD i 0 = i := by
 rcases i with _ | _ | _ | _ | _ | _ | _ | _ | _ | _ | _ | _ | _ | i <;> first | rfl | omega
theorem my {S : St} {ps : List Pol} {room : Int} {g : Nat → SV} (hg : ∀ j, SV.Lt 13 (g j)) {L : List Nat} : ∀ j, j < 67 → ai S (0 :: 1 :: 2 :: 3 :: 4 :: 5 :: 6 :: 7 :: 8 :: 9 :: 10 :: 11 :: 12 :: L) (au ps room g j) (au ps room g j) ∧ SV.Lt 13 (au ps room g j) :=
 fun j _ => ⟨.same (aI hg j) (by simp) fun i hi => id13 hi, aI hg j⟩
theorem pZ {S : St} {ps : List Pol} {room : Int} {g : Nat → SV} (hg : ∀ j, SV.Lt 13 (g j)) {L : List Nat} {π : Nat → Nat} (hπ : ∀ l, l < 13 → π l = l) : ∀ j, j < 67 → ai S (0 :: 1 :: 2 :: 3 :: 4 :: 5 :: 6 :: 7 :: 8 :: 9 :: 10 :: 11 :: 12 :: L) (SV.ren π (au ps room g j)) (au ps room g j) ∧ SV.Lt 13 (au ps room g j) :=
 fun j hj => ⟨by rw [SV.ren_same hπ (aI hg j)]; exact (my hg j hj).1, aI hg j⟩
theorem d7 {ps : List Pol} {room : Int} {g : Nat → SV} (hg : ∀ j, SV.Lt 13 (g j)) {L : List Nat} : ∀ j, j < 67 → ae (0 :: 1 :: 2 :: 3 :: 4 :: 5 :: 6 :: 7 :: 8 :: 9 :: 10 :: 11 :: 12 :: L) (au ps room g j) (au ps room g j) ∧ SV.Lt 13 (au ps room g j) :=
 fun j _ => ⟨.same (aI hg j) (by simp) fun i hi => id13 hi, aI hg j⟩
theorem cQ {ps : List Pol} {room : Int} {g : Nat → SV} (hg : ∀ j, SV.Lt 13 (g j)) {L : List Nat} {π : Nat → Nat} (hπ : ∀ l, l < 13 → π l = l) : ∀ j, j < 67 → ae (0 :: 1 :: 2 :: 3 :: 4 :: 5 :: 6 :: 7 :: 8 :: 9 :: 10 :: 11 :: 12 :: L) (SV.ren π (au ps room g j)) (au ps room g j) ∧ SV.Lt 13 (au ps room g j) :=
 fun j hj => ⟨by rw [SV.ren_same hπ (aI hg j)]; exact (d7 hg j hj).1, aI hg j⟩
theorem aQ {S : St} {n : Nat} {f : Nat → SV} (hf : ∀ j, SV.Lt 1 (f j)) {L : List Nat} : ∀ j, j < n → ai S (0 :: L) (f j) (f j) ∧ SV.Lt 1 (f j) :=
 fun j _ => ⟨.same (hf j) (by simp) fun i hi => by obtain rfl : i = 0 := (by omega); rfl, hf j⟩
theorem aw {S : St} {n : Nat} {f : Nat → SV} (hf : ∀ j, SV.Lt 1 (f j)) {L : List Nat} {π : Nat → Nat} (hπ : π 0 = 0) : ∀ j, j < n → ai S (0 :: L) (SV.ren π (f j)) (f j) ∧ SV.Lt 1 (f j) :=
 fun j hj => ⟨by rw [SV.ren_same (m := 1) (fun l hl => by obtain rfl : l = 0 := (by omega); exact hπ) (hf j)]; exact (aQ hf j hj).1, hf j⟩
theorem eF {n : Nat} {f : Nat → SV} (hf : ∀ j, SV.Lt 1 (f j)) {L : List Nat} : ∀ j, j < n → ae (0 :: L) (f j) (f j) ∧ SV.Lt 1 (f j) :=
 fun j _ => ⟨.same (hf j) (by simp) fun i hi => by obtain rfl : i = 0 := (by omega); rfl, hf j⟩
theorem b9 {n : Nat} {f : Nat → SV} (hf : ∀ j, SV.Lt 1 (f j)) {L : List Nat} {π : Nat → Nat} (hπ : π 0 = 0) : ∀ j, j < n → ae (0 :: L) (SV.ren π (f j)) (f j) ∧ SV.Lt 1 (f j) :=
 fun j hj => ⟨by rw [SV.ren_same (m := 1) (fun l hl => by obtain rfl : l = 0 := (by omega); exact hπ) (hf j)]; exact (eF hf j hj).1, hf j⟩
theorem qy {S : St} {who : Int} (x : Core.X) (π : Nat → Nat) {L : List Nat} (hπ : π 0 = 0 := by rfl) : ∀ j, j < 9 → ai S (0 :: L) (bif Nat.beq j 7 then .b true else SV.ren π (xF who x j)) (xF who { x with res := true } j) ∧ SV.Lt 1 (xF who { x with res := true } j) := fun j hj => by
 have h := aw (S := S) (n := 9) (cz who x) (L := L) hπ
 refine ⟨?_, cz _ _ _⟩
 by_cases e : j = 7
 ·subst e; exact ai.lt0 (SV.Lt.of rfl)
 ·have e2 : Nat.beq j 7 = false := by
   cases h : Nat.beq j 7 with
   | false => rfl
   | true => exact absurd (Q2 h) e
  have e3 : xF who { x with res := true } j = xF who x j := by
   rcases j with _ | _ | _ | _ | _ | _ | _ | _ | j <;> first | rfl | exact absurd rfl e
  rw [e2, e3]; exact (h j hj).1
theorem af.seal14 {S : St} {x r : SV} {H' : List (Nat × Option Blk)} {l : Nat} (hH : np S [0, 1, 2, 3, 4, 5, 6, 7, 8, 9, 10, 11, 12, 13, l] H') (hx : ai S [0, 1, 2, 3, 4, 5, 6, 7, 8, 9, 10, 11, 12, 13, l] x r) (hd : bh [0, 1, 2, 3, 4, 5, 6, 7, 8, 9, 10, 11, 12, 13, l] = true) : af 14 S x 15 r H' :=
 af.sealB _ rfl rfl hd hx hH
theorem ai.sl14 {S : St} {l z o n : Nat} : ai S [0, 1, 2, 3, 4, 5, 6, 7, 8, 9, 10, 11, 12, 13, l] (.sl l z o n) (.sl 14 z o n) :=
 ⟨fun O E a w v hs hv => by
  cases hv with
  | sl _ _ _ _ ad cap hl hc hm ha h0 => exact .sl _ _ _ _ _ _ (by simp) hc hm ha h0⟩
theorem ae.sl13 {l z o n : Nat} : ae [0, 1, 2, 3, 4, 5, 6, 7, 8, 9, 10, 11, 12, l] (.sl l z o n) (.sl 13 z o n) := by
 refine ⟨fun E nx w v hv => ?_⟩
 cases hv with
 | sl _ _ _ _ ad cap hl hc hm ha h0 => exact .sl _ _ _ _ _ _ (by simp) hc hm ha h0
theorem ab.fn14 {C : Cx} {nt : NT} {nx : Nat} {fr : List (Nat × SV)} {hp : List (Nat × Option Blk)} {g : Nat} {args : List SV} {k : St → SV → Prop} {m' : Nat} {args0 : List SV} {H H' : List (Nat × Option Blk)} {r : SV} {l : Nat} (h : Fun C g 14 args0 H m' r H')
  (hh : aL hp [0, 1, 2, 3, 4, 5, 6, 7, 8, 9, 10, 11, 12, l] H) (ha : a8 [0, 1, 2, 3, 4, 5, 6, 7, 8, 9, 10, 11, 12, l] args args0) (hd : bh [0, 1, 2, 3, 4, 5, 6, 7, 8, 9, 10, 11, 12, l] = true) (hlive : dD H 14 = true) (hkeys : dF H' 14 = true) (hlt : cq H' m' = true)
  (hk : k ⟨nt, nx + (m' - 14), fr, aV (πf [0, 1, 2, 3, 4, 5, 6, 7, 8, 9, 10, 11, 12, l] nx) hp H'⟩ (m0 (πf [0, 1, 2, 3, 4, 5, 6, 7, 8, 9, 10, 11, 12, l] nx) r)) : ab C ⟨nt, nx, fr, hp⟩ g args k :=
 .fn h _ rfl hd hlive hkeys hlt ha hh hk
end
section
variable {ps : List Pol} {room who : Int} {g : Nat → SV} {M : Core.Mc} {o : Nat → XB} {nl : Nat} {f : Nat → List D} {cnt : Int} {x : Core.X}
theorem ox (hM : COK ps room who g M o nl cnt) (word : Nat) (hw : word < 34) : Fun TC 100 14 [.ptr 4 0, .i .i64 word] (ao ps room g M (aR who x o) nl f cnt)
  15 (.i .u64 (M.W word)) (aP ps room g M (aR who x o) nl f cnt (bP who 1 word (M.W word) 0 true)) := by
 obtain ⟨q0,q1,q2,q3,q4,q5,qo,q6,q7,q8⟩ := id hM
 refine Fun.mk' Tryz.func100 rfl rfl zN (by decide) ?_
 (repeat' (first | ((first | refine Wp.any ac rfl ?_ | (with_reducible first | refine Go.mk ?_ | apply ah.of) | refine zV ?_); conv => whnf) | ((refine ag.new (aC nl M.W M.Hd f M.clk cnt who word q2 q3 q4 q0 q1 hw) [1,2,3,13] [] rfl rfl rfl rfl rfl rfl ?ha ?hh ?hs ?_); (case ha => exact zA); (case hh => exact zH); (case hs => exact zK); (conv => whnf)) | ((with_reducible refine At.mk' _ rfl ?_); (refine And.intro zN ?_); conv => whnf)))
 ((apply af.seal14); (case hH => exact zz2); (case hx => exact zz20); (case hd => exact rfl))
theorem qE (hM : COK ps room who g M o nl cnt) (word : Nat) (hw : word < 34) (old new : Int) : Fun TC 201 14 [.ptr 4 0, .i .i64 word, .i .u64 old, .i .u64 new] (ao ps room g M (aR who x o) nl f cnt)
  15 (.b (decide (M.W word = old))) (aP ps room g (if M.W word = old then M.set word new [] else M) (aR who x o) nl f cnt (bP who 2 word old new (decide (M.W word = old)))) := by
 obtain ⟨q0,q1,q2,q3,q4,q5,qo,q6,q7,q8⟩ := id hM
 refine Fun.mk' Tryz.func201 rfl rfl zN (by decide) ?_
 by_cases hm : M.W word = old
 ·rw [if_pos hm]
  (repeat' (first | ((first | refine Wp.any ac rfl ?_ | (with_reducible first | refine Go.mk ?_ | apply ah.of) | refine zV ?_); conv => whnf) | ((refine ag.new (aA nl M.W M.Hd f M.clk cnt who old new word [] q2 q3 q4 q0 q1 hw) [1,2,3,13] [] rfl rfl rfl rfl rfl rfl ?ha ?hh ?hs ?_); (case ha => exact zA); (case hh => exact zH); (case hs => exact zK); (conv => whnf)) | ((with_reducible refine At.mk' _ rfl ?_); (refine And.intro zN ?_); conv => whnf)))
  ((apply af.seal14); (case hH => exact zz5); (case hx => exact zz20); (case hd => exact rfl))
 ·rw [if_neg hm]
  (repeat' (first | ((first | refine Wp.any ac rfl ?_ | (with_reducible first | refine Go.mk ?_ | apply ah.of) | refine zV ?_); conv => whnf) | ((refine ag.new (aA nl M.W M.Hd f M.clk cnt who old new word [] q2 q3 q4 q0 q1 hw) [1,2,3,13] [] rfl rfl rfl rfl rfl rfl ?ha ?hh ?hs ?_); (case ha => exact zA); (case hh => exact zH); (case hs => exact zK); (conv => whnf)) | ((with_reducible refine At.mk' _ rfl ?_); (refine And.intro zN ?_); conv => whnf)))
  ((apply af.seal14); (case hH => exact zz5); (case hx => exact zz20); (case hd => exact rfl))
theorem now_c (hM : COK ps room who g M o nl cnt) : Fun TC 133 14 [.ptr 4 0] (ao ps room g M (aR who x o) nl f cnt)
  15 (.i .i64 M.clk) (aP ps room g M (aR who x o) nl f cnt (bP who 3 0 (IntKind.u64.wrap M.clk) 0 true)) := by
 obtain ⟨q0,q1,q2,q3,q4,q5,qo,q6,q7,q8⟩ := id hM
 refine Fun.mk' Tryz.func133 rfl rfl zN (by decide) ?_
 (repeat' (first | ((first | refine Wp.any ac rfl ?_ | (with_reducible first | refine Go.mk ?_ | apply ah.of) | refine zV ?_); conv => whnf) | ((refine ag.new (pE 34 nl M.W f M.clk cnt who q2 q3 q4 q0 q1) [1,2,13] [] rfl rfl rfl rfl rfl rfl ?ha ?hh ?hs ?_); (case ha => exact zA); (case hh => exact zH); (case hs => exact zK); (conv => whnf)) | ((with_reducible refine At.mk' _ rfl ?_); (refine And.intro zN ?_); conv => whnf)))
 ((apply af.seal14); (case hH => exact zz2); (case hx => exact zz20); (case hd => exact rfl))
theorem iu (lv : Nat) (hl : lv ≤ 3) (s : Int) : Pure TC 64 [.i .i64 ((lv : Int) + 1), .i .u64 s] (.i .i64 (Dir.plc (lv + 1) s)) := b6 (lv + 1) (by omega) s
theorem dY (who s : Int) (F : Fn) (cs : List SV) (hF : SV.Lt 120 (.fn F cs)) : Fun TC 130 120 [ar, .i .i64 who, .i .u64 s, .fn F cs] [] 120 (findS who s (.fn F cs)) [] := by
 refine Fun.mk' Tryz.func130 rfl rfl zN (by decide) ?_
 (repeat' (first | ((first | refine Wp.any ac rfl ?_ | (with_reducible first | refine Go.mk ?_ | apply ah.of)); conv => whnf)))
 (refine af.sealM ?_); (conv => whnf); (repeat' (first | exact zD9 | ((refine ai.ptrN rfl rfl ?_); (conv => whnf)) | ((refine ai.fn ?_); (conv => whnf)) | ((refine And.intro ?_ ?_) <;> (conv => whnf))))
theorem ff (who s : Int) (w : Nat) (F : Fn) (cs : List SV) (hF : SV.Lt 120 (.fn F cs)) : Fun TC 169 120 [ar, .i .i64 who, .i .u64 s, .i .i64 w, .fn F cs] [] 120 (v3 who s w (.fn F cs)) [] := by
 refine Fun.mk' Tryz.func169 rfl rfl zN (by decide) ?_
 (repeat' (first | ((first | refine Wp.any ac rfl ?_ | (with_reducible first | refine Go.mk ?_ | apply ah.of)); conv => whnf)))
 (refine af.sealM ?_); (conv => whnf); (repeat' (first | exact zD9 | ((refine ai.ptrN rfl rfl ?_); (conv => whnf)) | ((refine ai.fn ?_); (conv => whnf)) | ((refine And.intro ?_ ?_) <;> (conv => whnf))))
theorem b7 (who : Int) (w : Nat) (F : Fn) (cs : List SV) (hF : SV.Lt 120 (.fn F cs)) : Fun TC 163 120 [ar, .i .i64 who, .i .i64 w, .fn F cs] [] 120 (ny who w (.fn F cs)) [] := by
 refine Fun.mk' Tryz.func163 rfl rfl zN (by decide) ?_
 (repeat' (first | ((first | refine Wp.any ac rfl ?_ | (with_reducible first | refine Go.mk ?_ | apply ah.of)); conv => whnf)))
 (refine af.sealM ?_); (conv => whnf); (repeat' (first | exact zD9 | ((refine ai.ptrN rfl rfl ?_); (conv => whnf)) | ((refine ai.fn ?_); (conv => whnf)) | ((refine And.intro ?_ ?_) <;> (conv => whnf))))
theorem gK (who : Int) (lv : Nat) (hl : lv ≤ 3) (s : Int) (h : List Cel) (F : Fn) (cs : List SV) (hF : SV.Lt 120 (.fn F cs)) : Fun TC 165 120 [ar, .i .i64 who, .i .i64 ((lv : Int) + 1), .i .u64 s, .d (am 4 Cel.D h), .fn F cs] [] 120 (halfS who (lv + 1) (Dir.plc (lv + 1) s) h (.fn F cs)) [] := by
 refine Fun.mk' Tryz.func165 rfl rfl zN (by decide) ?_
 (repeat' (first | ((first | refine Wp.any ac rfl ?_ | (with_reducible first | refine Go.mk ?_ | apply ah.of | refine ab.pure (iu lv hl _) rfl rfl ?_)); conv => whnf)))
 (refine af.sealM ?_); (conv => whnf); (repeat' (first | exact zD9 | ((refine ai.ptrN rfl rfl ?_); (conv => whnf)) | ((refine ai.fn ?_); (conv => whnf)) | ((refine And.intro ?_ ?_) <;> (conv => whnf))))
theorem qT (P : Core.Ops) (x : Core.X) (who : Int) : Fun TC 97 120 [ar, .i .i64 who, nJ] [] 120 (cl P who x .s0) [] := by
 refine Fun.mk' Tryz.func97 rfl rfl zN (by decide) ?_
 (repeat' (first | ((first | refine Wp.any ac rfl ?_ | (with_reducible first | refine Go.mk ?_ | apply ah.of)); conv => whnf)))
 (refine af.sealM ?_); (conv => whnf); (repeat' (first | exact zD9 | ((refine ai.ptrN rfl rfl ?_); (conv => whnf)) | ((refine ai.fn ?_); (conv => whnf)) | ((refine And.intro ?_ ?_) <;> (conv => whnf))))
theorem move_d (word by' stop : Int) (y : D) (F : Fn) (cs : List SV) (hF : SV.Lt 120 (.fn F cs)) : Fun TC 174 120 [.ptr 4 0, .i .i64 word, .i .u64 by', .i .u64 stop, .d y, .fn F cs] [] 120 (mvS word by' stop (.d y) (.fn F cs)) [] := by
 refine Fun.mk' Tryz.func174 rfl rfl zN (by decide) ?_
 (repeat' (first | ((first | refine Wp.any ac rfl ?_ | (with_reducible first | refine Go.mk ?_ | apply ah.of)); conv => whnf)))
 (refine af.sealM ?_); (conv => whnf); (repeat' (first | exact zD9 | ((refine ai.ptrN rfl rfl ?_); (conv => whnf)) | ((refine ai.fn ?_); (conv => whnf)) | ((refine And.intro ?_ ?_) <;> (conv => whnf))))
theorem gY {lv : Nat} (hl : lv ≤ 4) : IntKind.i64.wrap (1 * 2 ^ min ((lv : Nat) : Int).toNat IntKind.i64.bits) = 2 ^ lv := by
 have hlv : lv = 0 ∨ lv = 1 ∨ lv = 2 ∨ lv = 3 ∨ lv = 4 := by omega
 rcases hlv with rfl | rfl | rfl | rfl | rfl <;> decide
theorem cg {lv : Nat} {s : Int} (h0 : 0 ≤ s) (h1 : s < 2 ^ lv) : Dir.plc lv s = 2 ^ lv + s.toNat := by unfold Dir.plc; rw [Int.emod_eq_of_lt h0 h1]
theorem mR {lv i : Nat} (hi : i < 2 ^ lv) (up : Bool) : Dir.plc (lv + 1) (if up then (i : Int) + 2 ^ lv else i) = Dir.upW lv i up := by
 have e : ((2 ^ lv : Nat) : Int) = 2 ^ lv := by simp
 have e2 : (2 : Int) ^ (lv + 1) = 2 ^ lv * 2 := Int.pow_succ 2 lv
 have h : (i : Int) < 2 ^ lv := by omega
 unfold Dir.upW
 cases up
 ·rw [if_neg (by decide), if_neg (by decide), cg (by omega) (by omega), Q13]
 ·rw [if_pos rfl, if_pos rfl, cg (by omega) (by omega)]
  congr 1
theorem rV (P : Core.Ops) (x : Core.X) (who : Int) (lv i : Nat) (hl : lv ≤ 3) (hi : i ≤ 2 ^ lv) : Fun TC 126 60 [ar, .i .i64 who, .i .i64 lv, .i .i64 i, nJ] [] 60 (cl P who x (Core.move lv i)) [] := by
 have e1 := gY (show lv ≤ 4 by omega)
 have e2 : ((2 ^ lv : Nat) : Int) = 2 ^ lv := by simp
 have hb : (2 : Nat) ^ lv ≤ 2 ^ 3 := Q16 (by omega) hl
 refine Fun.mk' Tryz.func126 rfl rfl zN (by decide) ?_
 (repeat' (first | ((first | refine Wp.any ac rfl ?_ | (with_reducible first | refine Go.mk ?_ | apply ah.of | refine Ov.ok zO ?_) | refine zV ?_ | (with_reducible first | refine And.intro zC ?_ | refine ag.pure (b6 lv (by omega) _) rfl rfl ?_ | refine ag.funM (b7 _ _ _ _ (by exact SV.Lt.of rfl)) rfl rfl ?_)); conv => whnf) | ((refine aq (fun hc => ?_) (fun hc => ?_)) <;> (try simp only [wz9, e1] at hc) <;> (try (exfalso; omega)) <;> (conv => whnf))))
 ·rw [show Core.move lv i = .sV lv by unfold Core.move; rw [if_pos (by omega)]]
  (refine af.sealM ?_); (conv => whnf); (repeat' (first | exact zD9 | ((refine ai.ptrN rfl rfl ?_); (conv => whnf)) | ((refine ai.fn ?_); (conv => whnf)) | ((refine And.intro ?_ ?_) <;> (conv => whnf))))
 ·rw [show Core.move lv i = .sF lv i by unfold Core.move; rw [if_neg (by omega)]]
  rw [show Dir.plc lv (i : Int) = 2 ^ lv + i by rw [cg (by omega) (by omega)]; rfl]
  (refine af.sealM ?_); (conv => whnf); (repeat' (first | exact zD9 | ((refine ai.ptrN rfl rfl ?_); (conv => whnf)) | ((refine ai.fn ?_); (conv => whnf)) | ((refine ai.iref ?_); (conv => whnf)) | ((refine And.intro ?_ ?_) <;> (conv => whnf))))
end
section
variable {ps : List Pol} {room who : Int} {g : Nat → SV} {M : Core.Mc} {o : Nat → XB} {nl : Nat} {f : Nat → List D} {cnt : Int} {x : Core.X} {nl0 : Nat} {cnt0 : Int}
@[reducible] def rsS (r : Core.Rs) : SV := .agg [.b r.done, .i .i64 r.r.e, .b r.r.g, .i .i64 r.r.left, .i .i64 r.r.wait, .i .i64 r.r.serial, .i .i64 r.r.now]
@[reducible] def fdS (f : Core.Fd) : SV := .agg [.i .i64 f.w, .i .u64 f.v, .d (am 4 Cel.D f.h)]
theorem tp (hM : COK ps room who g M o nl0 cnt0) (hk : Core.Kx ps x) : Fun TC 103 14 [.ptr 4 0] (ao ps room g M (aR who x o) nl f cnt) 14 (cl (aa ps room) who x (.k0 .key)) (ao ps room g M (aR who x o) nl f cnt) := by
 obtain ⟨q0,q1,q2,q3,q4,q5,qo,q6,q7,q8⟩ := id hM
 have hp := hk.pol
 replace hp : 0 ≤ x.pol ∧ x.pol < ps.length := hp
 refine Fun.mk' Tryz.func103 rfl rfl zN (by decide) ?_
 (repeat' (first | ((first | refine Wp.any ac rfl ?_ | (with_reducible first | refine Go.mk ?_ | apply ah.of) | refine zV ?_ | with_reducible refine And.intro zC ?_); conv => whnf) | ((with_reducible refine At.mk' _ rfl ?_); (refine And.intro zN ?_); conv => whnf) | ((with_reducible refine ag.funM (dY _ _ _ _ (by exact SV.Lt.of rfl)) rfl rfl ?_); conv => whnf)))
 ((refine af.sealB [0, 1, 2, 3, 4, 5, 6, 7, 8, 9, 10, 11, 12, 13] rfl rfl rfl ?_ ?_); (focus ((conv => whnf); (repeat' (first | exact zC9 | ((refine ai.ptr rfl rfl ?_); (conv => whnf)) | ((refine ai.fn ?_); (conv => whnf)) | ((refine ai.iref ?_); (conv => whnf)) | ((refine And.intro ?_ ?_) <;> (conv => whnf)))))); (focus ((conv => whnf); (repeat' (first | exact zC9 | exact aQ (qo _) | ((refine And.intro ?_ ?_) <;> (conv => whnf)))))))
theorem sQ (hM : COK ps room who g M o nl0 cnt0) (j sh : Nat) (gn : Int) (hj : j ≤ 16) : Fun TC 102 14 [.ptr 4 0, .i .i64 j, .i .i64 sh, .i .i64 gn] (ao ps room g M (aR who x o) nl f cnt) 14 (cl (aa ps room) who x (.k0 (.ev j sh gn))) (ao ps room g M (aR who x o) nl f cnt) := by
 obtain ⟨q0,q1,q2,q3,q4,q5,qo,q6,q7,q8⟩ := id hM
 refine Fun.mk' Tryz.func102 rfl rfl zN (by decide) ?_
 (repeat' (first | ((first | refine Wp.any ac rfl ?_ | (with_reducible first | refine Go.mk ?_ | apply ah.of | refine Ov.ok zO ?_) | refine zV ?_); conv => whnf) | ((with_reducible refine At.mk' _ rfl ?_); (refine And.intro zN ?_); conv => whnf) | ((with_reducible refine ag.funM (dY _ _ _ _ (by exact SV.Lt.of rfl)) rfl rfl ?_); conv => whnf)))
 ((refine af.sealB [0, 1, 2, 3, 4, 5, 6, 7, 8, 9, 10, 11, 12, 13] rfl rfl rfl ?_ ?_); (focus ((conv => whnf); (repeat' (first | exact zC9 | ((refine ai.ptr rfl rfl ?_); (conv => whnf)) | ((refine ai.fn ?_); (conv => whnf)) | ((refine ai.iref ?_); (conv => whnf)) | ((refine And.intro ?_ ?_) <;> (conv => whnf)))))); (focus ((conv => whnf); (repeat' (first | exact zC9 | exact aQ (qo _) | ((refine And.intro ?_ ?_) <;> (conv => whnf)))))))
theorem ux (hM : COK ps room who g M o nl0 cnt0) (fd : Core.Fd) (c : Cel) (r : Rpl) : Fun TC 141 14 [.ptr 4 0, fdS fd, .i .i64 fd.at', .b fd.there, c.S, r.S] (ao ps room g M (aR who x o) nl f cnt) 14 (cl (aa ps room) who x (Core.put x fd c r)) (ao ps room g M (aR who x o) nl f cnt) := by
 obtain ⟨q0,q1,q2,q3,q4,q5,qo,q6,q7,q8⟩ := id hM
 refine Fun.mk' Tryz.func141 rfl rfl zN (by decide) ?_
 (repeat' (first | ((first | refine Wp.any ac rfl ?_ | (with_reducible first | refine Go.mk ?_ | apply ah.of) | refine zV ?_); conv => whnf) | ((with_reducible refine At.mk' _ rfl ?_); (refine And.intro zN ?_); conv => whnf) | ((with_reducible refine ag.funM (move_d _ _ _ _ _ _ (by exact SV.Lt.of rfl)) rfl rfl ?_); conv => whnf) | ((refine aq (fun hc => ?_) (fun hc => ?_)) <;> (try simp only [wz9] at hc) <;> (try (exfalso; omega)) <;> (conv => whnf))))
 all_goals first
  | (rw [show Core.put x fd c r = .pS fd c r from if_pos (by first | exact .inl hc | exact .inr hc | (simp_all; done))]; ((refine af.sealB [0, 1, 2, 3, 4, 5, 6, 7, 8, 9, 10, 11, 12, 13] rfl rfl rfl ?_ ?_); (focus ((conv => whnf); (repeat' (first | exact zC9 | ((refine ai.ptr rfl rfl ?_); (conv => whnf)) | ((refine ai.fn ?_); (conv => whnf)) | ((refine And.intro ?_ ?_) <;> (conv => whnf)))))); (focus ((conv => whnf); (repeat' (first | exact zC9 | exact aQ (qo _) | ((refine And.intro ?_ ?_) <;> (conv => whnf))))))); done)
  | (rw [show Core.put x fd c r = .p0 fd c r from if_neg (by simp_all)]; ((refine af.sealB [0, 1, 2, 3, 4, 5, 6, 7, 8, 9, 10, 11, 12, 13] rfl rfl rfl ?_ ?_); (focus ((conv => whnf); (repeat' (first | exact zC9 | ((refine ai.ptr rfl rfl ?_); (conv => whnf)) | ((refine ai.fn ?_); (conv => whnf)) | ((refine ai.iref ?_); (conv => whnf)) | ((refine And.intro ?_ ?_) <;> (conv => whnf)))))); (focus ((conv => whnf); (repeat' (first | exact zC9 | exact aQ (qo _) | ((refine And.intro ?_ ?_) <;> (conv => whnf))))))); done)
  | trace_state
theorem kz (hM : COK ps room who g M o nl0 cnt0) (r : Rpl) : Fun TC 177 14 [.ptr 4 0, r.S] (ao ps room g M (aR who x o) nl f cnt) 14 (.tup [cl (aa ps room) who x (Core.leave x r).1, rsS (Core.leave x r).2]) (ao ps room g M (aR who x o) nl f cnt) := by
 obtain ⟨q0,q1,q2,q3,q4,q5,qo,q6,q7,q8⟩ := id hM
 refine Fun.mk' Tryz.func177 rfl rfl zN (by decide) ?_
 (repeat' (first | ((first | refine Wp.any ac rfl ?_ | (with_reducible first | refine Go.mk ?_ | apply ah.of) | refine zV ?_); conv => whnf) | (with_reducible refine ab.inline Tryz.func129 rfl rfl rfl (zzb rfl) ?_) | (with_reducible refine ab.inline Tryz.func101 rfl rfl rfl (zzb rfl) ?_) | (with_reducible refine ab.inline Tryz.func136 rfl rfl rfl (zzb rfl) ?_) | (with_reducible refine ab.inline Tryz.func174 rfl rfl rfl (zzb rfl) ?_) | ((with_reducible refine At.mk' _ rfl ?_); (refine And.intro zN ?_); conv => whnf) | ((with_reducible refine Ov.mk ?_); conv => whnf) | ((refine aq (fun hc => ?_) (fun hc => ?_)) <;> (try simp only [wz9] at hc) <;> (try (exfalso; omega)) <;> (conv => whnf))))
 all_goals first
  | (rw [show Core.leave x r = (.none, ⟨true, r⟩) from if_neg (by simp_all)]; ((refine af.sealB [0, 1, 2, 3, 4, 5, 6, 7, 8, 9, 10, 11, 12, 13] rfl rfl rfl ?_ ?_); (focus ((conv => whnf); (repeat' (first | exact zC9 | ((refine ai.agg ?_); (conv => whnf)) | ((refine ai.tup ?_); (conv => whnf)) | ((refine And.intro ?_ ?_) <;> (conv => whnf)))))); (focus ((conv => whnf); (repeat' (first | exact zC9 | exact aQ (qo _) | ((refine And.intro ?_ ?_) <;> (conv => whnf))))))); done)
  | (rw [show Core.leave x r = (.b0 1 (.lv r), Core.r0) from if_pos (by simp_all)]; ((refine af.sealB [0, 1, 2, 3, 4, 5, 6, 7, 8, 9, 10, 11, 12, 13] rfl rfl rfl ?_ ?_); (focus ((conv => whnf); (repeat' (first | exact zC9 | ((refine ai.ptr rfl rfl ?_); (conv => whnf)) | ((refine ai.fn ?_); (conv => whnf)) | ((refine ai.tup ?_); (conv => whnf)) | ((refine And.intro ?_ ?_) <;> (conv => whnf)))))); (focus ((conv => whnf); (repeat' (first | exact zC9 | exact aQ (qo _) | ((refine And.intro ?_ ?_) <;> (conv => whnf))))))); done)
  | trace_state
end
end Go.Proofs.YtpdhdnhkhidmpaaGreat
