/- Lemmas of Hi3, Bk19, Rc1, Hi4, Hi5, Sx33, Sx34, Sx35, Sx36, Sx37, Sx38. No condition. -/
import Derived.Test.YtlplngmpggkloaaGreatMJ9
import Derived.Scope
import Derived.Laws.IdiomRangeMap
set_option linter.unusedVariables false
set_option linter.unusedSimpArgs false
set_option maxHeartbeats 80000000
set_option maxRecDepth 100000
namespace Go.Proofs.YtlplngmpggkloaaGreat
open Go.RowKit
section
open Hist
@[reducible] def sesS (ps : List Pol) (l : List HD) (spare : Int) : SV := .agg [.d (ak 4 Pol.D ps), .d (ak 13 HD.D l), .i .i64 spare]
theorem jc {ps : List Pol} (h : aG ps = 0) : newE ps 4096 = 0 := by unfold newE; rw [if_neg (by omega)]; exact h
@[reducible] def rplZ : Rpl := ⟨0, false, 0, 0, 0, 0⟩
@[reducible] def rplB6 (r : Rpl) : Blk := .cells [.i .i64 r.e, .b r.g, .i .i64 r.left, .i .i64 r.wait, .i .i64 r.serial, .i .i64 r.now]
theorem lL {l : List HD} {i : Nat} (h : i < l.length) : l.take (i + 1) = l.take i ++ [l.getD (i : Int).toNat default] := by
  rw [List.take_succ_eq_append_getElem h, Q13, Q1, Q0 h]; rfl
theorem bv {l : List HD} {i : Nat} (h : i < l.length) : l.getD (i : Int).toNat default ∈ l := by
  rw [Q13, Q1, Q0 h]; exact Q14 h
theorem ig {z m n : Nat} {f g : Nat → List D} (h : m = n) (hf : ∀ i, i < m → f i = g i) : SV.Le (.d (.sl z m f)) (.d (.sl z n g)) := by subst h; exact SV.Le.sl hf
theorem ku {ps : List Pol} (hp : aG ps = 0) (l : List HD) (spare : Int) (done : List HD) (d : HD) (hk : ∀ e ∈ done, IsB e.key) (hd : IsB d.key) (hlen : done.length ≤ 100) :
    Pure TC 23 [sesS ps l spare, .d (ak 13 HD.D done), d.S] (.b (lZ ps spare done d)) := by
  refine Pure.mk' Tryz.func23 rfl rfl (zzb rfl) ?_
  have hp32 := cw hp
  have hkL : ∀ e ∈ done ++ [d], IsB e.key := fun e he => by
    rcases List.mem_append.1 he with he | he
    · exact hk e he
    · rw [List.mem_singleton.1 he]; exact hd
  (repeat' (first
    | ((refine SlxD.of rfl rfl rfl rfl rfl ?_); conv => whnf)
    | ((with_reducible refine Or.inr (And.intro rfl ?_)); conv => whnf)
    | ((refine Or.inr (DApx.of rfl rfl rfl rfl rfl rfl ?hb ?_)); (case hb => exact zB); (conv => whnf))
    | with_reducible refine Wp.seq ?_
    | with_reducible refine Wp.block ?_
    | ((with_reducible first | refine Wp.region ?_ | refine Wp.drawL ac ?_ | refine Wp.cond ?_ | refine Wp.ret ?_ | refine Wp.skip ?_ | refine Wp.exit ?_ | refine Go.mk ?_ | apply ao.of); conv => whnf)
    | with_reducible exact rfl
    | ((with_reducible refine Ov.ok zO ?_); conv => whnf)
    | (with_reducible refine Ov.sh1 (by with_unfolding_all exact rfl) ?_)
    | ((with_reducible refine Ov.quo (by omega) (by omega) (by omega) (fun _ _ => ?_)); conv => whnf)
    | ((with_reducible refine And.intro (show ah _ _ _ _ = true by kernel_rfl) ?_); conv => whnf)
    | ((with_reducible refine And.intro zC ?_); conv => whnf)
    | ((with_reducible refine And.intro ?hb ?_); (case hb => exact ae (zzb rfl) (by omega)); (conv => whnf))
    | ((refine af.a rfl rfl rfl rfl rfl rfl ?hb ?_); (case hb => exact zB); (conv => whnf))
    | ((refine af.b rfl rfl rfl rfl rfl rfl rfl rfl ?hb ?ho ?_); (case hb => exact zB); (case ho => omega); (conv => whnf))
    | ((refine af.c rfl rfl rfl rfl rfl ?hb ?_); (case hb => exact zB); (conv => whnf))
    | ((refine af.d rfl rfl rfl rfl rfl rfl ?hb ?ho ?_); (case hb => exact zB); (case ho => omega); (conv => whnf))
    | (with_reducible refine Or.inl ?_)
    | ((with_reducible refine IxA.ptr ?_); conv => whnf)
    | ((with_reducible refine nil_no (by omega) ?_); (conv => whnf))
    | ((with_reducible refine ag ?_ (fun hn0 => ?_)) <;> (conv => whnf))
    | ((refine ab.fn (jA ps 4096 (jc hp)) [] rfl rfl rfl rfl rfl ?ha ?hh ?_); (case ha => exact zA); (case hh => exact zH); (conv => whnf))
    | ((refine ai.fn (jA ps 4096 (jc hp)) [] [] rfl rfl rfl rfl rfl ?ha ?hh ?hs ?_); (case ha => exact zA); (case hh => exact zH); (case hs => exact zK); (conv => whnf)) | ((refine ai.new (jA ps 4096 (jc hp)) [] [] rfl rfl rfl rfl rfl rfl ?ha ?hh ?hs ?_); (case ha => exact zA); (case hh => exact zH); (case hs => exact zK); (conv => whnf))
    | ((refine ap (fun hc => ?_) (fun hc => ?_)) <;> (try simp only [decide_eq_true_eq, decide_eq_false_iff_not, Q5, Q20, Bool.and_eq_false_iff, Bool.or_eq_false_iff, Bool.not_eq_true', Bool.not_eq_false', beq_iff_eq, bne_iff_ne, ne_eq, beq_eq_false_iff_ne, bne_eq_false_iff_eq, Bool.not_eq_true, Bool.not_eq_false] at hc) <;> (try (exfalso; omega)) <;> (conv => whnf))))
  refine Wp.loopP (ι := Nat × Rpl) (fun k => k.1 ≤ (done ++ [d]).length ∧ ∀ j, k.1 = j + 1 → k.2 = (doH ps spare (play ps spare ((done ++ [d]).take j)) ((done ++ [d]).getD (j : Int).toNat default)).1)
    (fun k => ⟨⟨Tryz.f23.ntmps, 0⟩, 5, [(3, .ptr 0 0), (5, .ptr 1 0), (7, .ptr 2 0), (9, .ptr 4 0), (28, .d (ak 13 HD.D (done ++ [d]))), (29, .i .i64 (done ++ [d]).length), (30, .i .i64 k.1)],
      [(0, some (.cells [.d (ak 4 Pol.D ps), .d (ak 13 HD.D l), .i .i64 spare])), (1, some (.cells [.i .i64 d.who, .i .u8 d.op, .i .i64 d.pol, .d (ak 1 (ar .u8) d.key), .i .i64 d.n, .i .i64 d.first, .i .i64 d.last, .i .i64 d.r.e, .b d.r.g, .i .i64 d.r.left, .i .i64 d.r.wait, .i .i64 d.r.serial, .i .i64 d.r.now])),
       (2, some (.cells [.d (ak 4 Pol.D ps), .i .i64 4096, .sl 3 4 0 (play ps spare ((done ++ [d]).take k.1)).length])), (3, some (aN 65 4 Cel.D (play ps spare ((done ++ [d]).take k.1)))), (4, some (rplB6 k.2))]⟩) (fun k => (done ++ [d]).length - k.1) (0, rplZ) ⟨Nat.zero_le _, fun j h => by cases h⟩ ?_ ?_
  · (refine Le.by [0,1,2,3,4] rfl rfl rfl rfl ?_ ?_ <;> (conv => whnf) <;> (repeat' (first | exact trivial | exact aa.rfl rfl | exact aa.ptr rfl | exact aa.sl rfl | ((with_reducible refine aa.fn ?_); (conv => whnf)) | ((refine aa.iref ?_); (conv => whnf)) | exact ⟨rfl, rfl, rfl⟩ | exact fun i hi => rfl | ((with_reducible refine And.intro ?_ ?_) <;> (conv => whnf)))))
    · exact aa.free (ig (by simp) fun k hk => bN HD.D 13 done d _ rfl k hk) rfl
    · exact aa.free (.i (by simp)) rfl
  · rintro ⟨i, R⟩ ⟨h1, h2⟩
    dsimp only at h1 h2 ⊢
    have hL : (done ++ [d]).length = done.length + 1 := by simp
    by_cases hi : i < (done ++ [d]).length
    · have hm := bv hi
      have hpl := lL hi
      have hB := i7 (spare := spare) hp32 (l := (done ++ [d]).take i) fun e he => hkL e (List.mem_of_mem_take he)
      have hDo := fun s => book_Do ps 4096 (play ps spare ((done ++ [d]).take i)) ((done ++ [d]).getD (i : Int).toNat default).op ((done ++ [d]).getD (i : Int).toNat default).pol ((done ++ [d]).getD (i : Int).toNat default).key ((done ++ [d]).getD (i : Int).toNat default).n ((done ++ [d]).getD (i : Int).toNat default).r.now s hB.ok (hkL _ hm)
      (repeat' (first
    | with_reducible refine Wp.seq ?_
    | with_reducible refine Wp.block ?_
    | ((with_reducible first | refine Wp.region ?_ | refine Wp.drawL ac ?_ | refine Wp.cond ?_ | refine Wp.ret ?_ | refine Wp.skip ?_ | refine Wp.exit ?_ | refine Go.mk ?_ | apply ao.of); conv => whnf)
    | with_reducible exact rfl
    | ((with_reducible refine Ov.ok zO ?_); conv => whnf)
    | (with_reducible refine Ov.sh1 (by with_unfolding_all exact rfl) ?_)
    | ((with_reducible refine Ov.quo (by omega) (by omega) (by omega) (fun _ _ => ?_)); conv => whnf)
    | ((with_reducible refine And.intro (show ah _ _ _ _ = true by kernel_rfl) ?_); conv => whnf)
    | ((with_reducible refine And.intro zC ?_); conv => whnf)
    | ((with_reducible refine And.intro ?hb ?_); (case hb => exact ae (zzb rfl) (by omega)); (conv => whnf))
    | ((refine af.a rfl rfl rfl rfl rfl rfl ?hb ?_); (case hb => exact zB); (conv => whnf))
    | ((refine af.b rfl rfl rfl rfl rfl rfl rfl rfl ?hb ?ho ?_); (case hb => exact zB); (case ho => omega); (conv => whnf))
    | ((refine af.c rfl rfl rfl rfl rfl ?hb ?_); (case hb => exact zB); (conv => whnf))
    | ((refine af.d rfl rfl rfl rfl rfl rfl ?hb ?ho ?_); (case hb => exact zB); (case ho => omega); (conv => whnf))
    | (with_reducible refine Or.inl ?_)
    | ((with_reducible refine IxA.ptr ?_); conv => whnf)
    | ((with_reducible refine nil_no (by omega) ?_); (conv => whnf))
    | ((with_reducible refine ag ?_ (fun hn0 => ?_)) <;> (conv => whnf))
    | ((refine ab.fn (hDo spare) [2,3] rfl rfl rfl rfl rfl ?ha ?hh ?_); (case ha => exact zA); (case hh => exact zH); (conv => whnf))
    | ((refine ai.fn (hDo spare) [2,3] [2,3] rfl rfl rfl rfl rfl ?ha ?hh ?hs ?_); (case ha => exact zA); (case hh => exact zH); (case hs => exact zK); (conv => whnf)) | ((refine ai.new (hDo spare) [2,3] [2,3] rfl rfl rfl rfl rfl rfl ?ha ?hh ?hs ?_); (case ha => exact zA); (case hh => exact zH); (case hs => exact zK); (conv => whnf))
    | ((refine ai.fn (hDo spare) [2,3] [] rfl rfl rfl rfl rfl ?ha ?hh ?hs ?_); (case ha => exact zA); (case hh => exact zH); (case hs => exact zK); (conv => whnf)) | ((refine ai.new (hDo spare) [2,3] [] rfl rfl rfl rfl rfl rfl ?ha ?hh ?hs ?_); (case ha => exact zA); (case hh => exact zH); (case hs => exact zK); (conv => whnf))
    | ((refine ab.fn (hDo ((done ++ [d]).getD (i : Int).toNat default).r.serial) [2,3] rfl rfl rfl rfl rfl ?ha ?hh ?_); (case ha => exact zA); (case hh => exact zH); (conv => whnf))
    | ((refine ai.fn (hDo ((done ++ [d]).getD (i : Int).toNat default).r.serial) [2,3] [2,3] rfl rfl rfl rfl rfl ?ha ?hh ?hs ?_); (case ha => exact zA); (case hh => exact zH); (case hs => exact zK); (conv => whnf)) | ((refine ai.new (hDo ((done ++ [d]).getD (i : Int).toNat default).r.serial) [2,3] [2,3] rfl rfl rfl rfl rfl rfl ?ha ?hh ?hs ?_); (case ha => exact zA); (case hh => exact zH); (case hs => exact zK); (conv => whnf))
    | ((refine ai.fn (hDo ((done ++ [d]).getD (i : Int).toNat default).r.serial) [2,3] [] rfl rfl rfl rfl rfl ?ha ?hh ?hs ?_); (case ha => exact zA); (case hh => exact zH); (case hs => exact zK); (conv => whnf)) | ((refine ai.new (hDo ((done ++ [d]).getD (i : Int).toNat default).r.serial) [2,3] [] rfl rfl rfl rfl rfl rfl ?ha ?hh ?hs ?_); (case ha => exact zA); (case hh => exact zH); (case hs => exact zK); (conv => whnf))
    | ((refine ap (fun hc => ?_) (fun hc => ?_)) <;> (try simp only [decide_eq_true_eq, decide_eq_false_iff_not, Q5, Q20, Bool.and_eq_false_iff, Bool.or_eq_false_iff, Bool.not_eq_true', Bool.not_eq_false', beq_iff_eq, bne_iff_ne, ne_eq, beq_eq_false_iff_ne, bne_eq_false_iff_eq, Bool.not_eq_true, Bool.not_eq_false] at hc) <;> (try (exfalso; omega)) <;> (conv => whnf))))
      all_goals
        have hser : ser spare ((done ++ [d]).getD (i : Int).toNat default) = if ((done ++ [d]).getD (i : Int).toNat default).r.serial = 0 then spare else ((done ++ [d]).getD (i : Int).toNat default).r.serial := rfl
        refine ⟨(i + 1, (doH ps spare (play ps spare ((done ++ [d]).take i)) ((done ++ [d]).getD (i : Int).toNat default)).1), ⟨by dsimp only; omega, fun j hj => ?_⟩, by dsimp only; omega, ?_⟩
        · have : j = i := by dsimp only at hj; omega
          rw [this]
      · rw [if_pos hc] at hser
        dsimp only
        rw [hpl, dY]
        unfold doH
        rw [hser]
        (refine Le.by [0,1,2,6,4] rfl rfl rfl rfl ?_ ?_ <;> (conv => whnf) <;> (repeat' (first | exact trivial | exact aa.rfl rfl | exact aa.ptr rfl | exact aa.sl rfl | ((with_reducible refine aa.fn ?_); (conv => whnf)) | ((refine aa.iref ?_); (conv => whnf)) | exact ⟨rfl, rfl, rfl⟩ | exact fun i hi => rfl | ((with_reducible refine And.intro ?_ ?_) <;> (conv => whnf)))))
      · rw [if_neg hc] at hser
        dsimp only
        rw [hpl, dY]
        unfold doH
        rw [hser]
        (refine Le.by [0,1,2,6,4] rfl rfl rfl rfl ?_ ?_ <;> (conv => whnf) <;> (repeat' (first | exact trivial | exact aa.rfl rfl | exact aa.ptr rfl | exact aa.sl rfl | ((with_reducible refine aa.fn ?_); (conv => whnf)) | ((refine aa.iref ?_); (conv => whnf)) | exact ⟨rfl, rfl, rfl⟩ | exact fun i hi => rfl | ((with_reducible refine And.intro ?_ ?_) <;> (conv => whnf)))))
    · obtain rfl : i = (done ++ [d]).length := by omega
      rw [List.take_length]
      (repeat' (first
    | with_reducible refine Wp.seq ?_
    | with_reducible refine Wp.block ?_
    | ((with_reducible first | refine Wp.region ?_ | refine Wp.drawL ac ?_ | refine Wp.cond ?_ | refine Wp.ret ?_ | refine Wp.skip ?_ | refine Wp.exit ?_ | refine Go.mk ?_ | apply ao.of); conv => whnf)
    | with_reducible exact rfl
    | ((with_reducible refine Ov.ok zO ?_); conv => whnf)
    | (with_reducible refine Ov.sh1 (by with_unfolding_all exact rfl) ?_)
    | ((with_reducible refine Ov.quo (by omega) (by omega) (by omega) (fun _ _ => ?_)); conv => whnf)
    | ((with_reducible refine And.intro (show ah _ _ _ _ = true by kernel_rfl) ?_); conv => whnf)
    | ((with_reducible refine And.intro zC ?_); conv => whnf)
    | ((with_reducible refine And.intro ?hb ?_); (case hb => exact ae (zzb rfl) (by omega)); (conv => whnf))
    | ((refine af.a rfl rfl rfl rfl rfl rfl ?hb ?_); (case hb => exact zB); (conv => whnf))
    | ((refine af.b rfl rfl rfl rfl rfl rfl rfl rfl ?hb ?ho ?_); (case hb => exact zB); (case ho => omega); (conv => whnf))
    | ((refine af.c rfl rfl rfl rfl rfl ?hb ?_); (case hb => exact zB); (conv => whnf))
    | ((refine af.d rfl rfl rfl rfl rfl rfl ?hb ?ho ?_); (case hb => exact zB); (case ho => omega); (conv => whnf))
    | (with_reducible refine Or.inl ?_)
    | ((with_reducible refine IxA.ptr ?_); conv => whnf)
    | ((with_reducible refine nil_no (by omega) ?_); (conv => whnf))
    | ((with_reducible refine ag ?_ (fun hn0 => ?_)) <;> (conv => whnf))
    
    | ((refine ap (fun hc => ?_) (fun hc => ?_)) <;> (try simp only [decide_eq_true_eq, decide_eq_false_iff_not, Q5, Q20, Bool.and_eq_false_iff, Bool.or_eq_false_iff, Bool.not_eq_true', Bool.not_eq_false', beq_iff_eq, bne_iff_ne, ne_eq, beq_eq_false_iff_ne, bne_eq_false_iff_eq, Bool.not_eq_true, Bool.not_eq_false] at hc) <;> (try (exfalso; omega)) <;> (conv => whnf))))
      have h3 := h2 done.length (by simp)
      rw [List.take_left, show (done ++ [d]).getD ((done.length : Nat) : Int).toNat default = d by simp] at h3
      exact .b (by unfold lZ; rw [← h3]; rfl)
end
def jH (n : Int) : List Int := if n = 0 then [] else if n / 4294967296 = 0 then [n % 4294967296] else [n % 4294967296, n / 4294967296]
theorem sl_eq {z m n : Nat} {f g : Nat → List D} (h : m = n) (hf : ∀ i, i < n → f i = g i) : SV.Le (.d (.sl z m f)) (.d (.sl z n g)) := by subst h; exact SV.Le.sl hf
theorem Pure.le {C : Cx} {g : Nat} {args args' : List SV} {r : SV} (h : Pure C g args' r) (ha : Les args args') : Pure C g args r :=
  ⟨h.ent, fun E w vs hIm hsz hargs => h.out E w vs hIm (hsz.trans ha.len) fun j hj => (ha.out j (by rw [ha.len]; exact hj) hj).out _ _ _ _ (hargs j (by rw [ha.len]; exact hj))⟩
theorem ol (n : Int) (h0 : 0 ≤ n) (h1 : n < 18446744073709551616) : Pure TC 95 [.i .u64 n] (.d (ak 1 (ar .u64) (jH n))) := by
  have hm : n.tmod 4294967296 = n % 4294967296 := Q6 h0
  have hd : n.tdiv 4294967296 = n / 4294967296 := Int.tdiv_eq_ediv_of_nonneg h0
  refine Pure.mk' Tryz.func95 rfl rfl (zzb rfl) ?_
  (repeat' (first
    | with_reducible refine Wp.seq ?_
    | with_reducible refine Wp.block ?_
    | ((with_reducible first | refine Wp.region ?_ | refine Wp.drawL ac ?_ | refine Wp.cond ?_ | refine Wp.ret ?_ | refine Wp.skip ?_ | refine Wp.exit ?_ | refine Go.mk ?_ | apply ao.of); conv => whnf)
    | with_reducible exact rfl
    | ((with_reducible refine Ov.ok zO ?_); conv => whnf)
    | (with_reducible refine Ov.sh1 (by with_unfolding_all exact rfl) ?_)
    | ((with_reducible refine Ov.quo (by omega) (by omega) (by omega) (fun _ _ => ?_)); conv => whnf)
    | ((with_reducible refine And.intro (show ah _ _ _ _ = true by kernel_rfl) ?_); conv => whnf)
    | ((with_reducible refine And.intro zC ?_); conv => whnf)
    | ((with_reducible refine And.intro ?hb ?_); (case hb => exact ae (zzb rfl) (by omega)); (conv => whnf))
    | ((refine af.a rfl rfl rfl rfl rfl rfl ?hb ?_); (case hb => exact zB); (conv => whnf))
    | ((refine af.b rfl rfl rfl rfl rfl rfl rfl rfl ?hb ?ho ?_); (case hb => exact zB); (case ho => omega); (conv => whnf))
    | ((refine af.c rfl rfl rfl rfl rfl ?hb ?_); (case hb => exact zB); (conv => whnf))
    | ((refine af.d rfl rfl rfl rfl rfl rfl ?hb ?ho ?_); (case hb => exact zB); (case ho => omega); (conv => whnf))
    | (with_reducible refine Or.inl ?_)
    | ((with_reducible refine IxA.ptr ?_); conv => whnf)
    | ((with_reducible refine nil_no (by omega) ?_); (conv => whnf))
    | ((with_reducible refine ag ?_ (fun hn0 => ?_)) <;> (conv => whnf))
    | (with_reducible refine ab.inline Tryz.func96 rfl rfl rfl (zzb rfl) ?_)
    | ((with_reducible refine Wp.loopN 4 ?_); conv => whnf)
    | ((refine ap (fun hc => ?_) (fun hc => ?_)) <;> (try simp only [decide_eq_true_eq, decide_eq_false_iff_not, Q5, Q20, Bool.and_eq_false_iff, Bool.or_eq_false_iff, Bool.not_eq_true', Bool.not_eq_false', beq_iff_eq, bne_iff_ne, ne_eq, beq_eq_false_iff_ne, bne_eq_false_iff_eq, Bool.not_eq_true, Bool.not_eq_false] at hc) <;> (try (exfalso; omega)) <;> (conv => whnf))))
  · rw [jH, if_pos (by omega)]; exact sl_eq rfl fun i hi => absurd hi (Nat.not_lt_zero _)
  · rw [jH, if_neg (by omega), if_pos (by omega), hm]
    exact sl_eq rfl fun i hi => by
      have : i = 0 := by simp at hi; omega
      subst this; rfl
  · rw [jH, if_neg (by omega), if_neg (by omega), hm, hd]
    exact sl_eq rfl fun i hi => by
      have : i = 0 ∨ i = 1 := by simp at hi; omega
      rcases this with rfl | rfl <;> rfl
def f1 (a : Int) : Nat → List D := fun _ => [.val (.int .u64 a)]
def f2 (a b : Int) : Nat → List D
  | 0 => [.val (.int .u64 a)]
  | _ + 1 => [.val (.int .u64 b)]
structure Ask where
  op : Int
  pol : Int
  key : List Int
  n : Int
  now : Int
  serial : Int
  deriving Inhabited
@[reducible] def Ask.D (a : Ask) : List D := [.val (.int .u8 a.op), .val (.int .i64 a.pol), ak 1 (ar .u8) a.key, .val (.int .i64 a.n), .val (.int .i64 a.now), .val (.int .i64 a.serial)]
@[reducible] def Ask.S (a : Ask) : SV := .agg [.i .u8 a.op, .i .i64 a.pol, .d (ak 1 (ar .u8) a.key), .i .i64 a.n, .i .i64 a.now, .i .i64 a.serial]
theorem nq {a b : List Int} (hl : a.length = b.length) (h : ∀ j, j < a.length → a.getD j default = b.getD j default) : a = b := by
  refine List.ext_getElem hl fun j h1 h2 => ?_
  have := h j h1
  rw [Q1, Q1, Q0 h1, Q0 h2] at this
  simpa using this
theorem c8 (a b : List Int) : Pure TC 8 [.d (ak 1 (ar .u8) a), .d (ak 1 (ar .u8) b)] (.b (decide (a = b))) := by
  refine Pure.lens (.mk Tryz.func8 rfl rfl) fun hlen => ?_
  have ha := hlen a.length (by simp [cy, ak])
  refine Pure.mk' Tryz.func8 rfl rfl (zzb rfl) ?_
  (repeat' (first
    | with_reducible refine Wp.seq ?_
    | with_reducible refine Wp.block ?_
    | ((with_reducible first | refine Wp.region ?_ | refine Wp.drawL ac ?_ | refine Wp.cond ?_ | refine Wp.ret ?_ | refine Wp.skip ?_ | refine Wp.exit ?_ | refine Go.mk ?_ | apply ao.of); conv => whnf)
    | with_reducible exact rfl
    | ((with_reducible refine Ov.ok zO ?_); conv => whnf)
    | (with_reducible refine Ov.sh1 (by with_unfolding_all exact rfl) ?_)
    | ((with_reducible refine Ov.quo (by omega) (by omega) (by omega) (fun _ _ => ?_)); conv => whnf)
    | ((with_reducible refine And.intro (show ah _ _ _ _ = true by kernel_rfl) ?_); conv => whnf)
    | ((with_reducible refine And.intro zC ?_); conv => whnf)
    | ((with_reducible refine And.intro ?hb ?_); (case hb => exact ae (zzb rfl) (by omega)); (conv => whnf))
    | ((refine af.a rfl rfl rfl rfl rfl rfl ?hb ?_); (case hb => exact zB); (conv => whnf))
    | ((refine af.b rfl rfl rfl rfl rfl rfl rfl rfl ?hb ?ho ?_); (case hb => exact zB); (case ho => omega); (conv => whnf))
    | ((refine af.c rfl rfl rfl rfl rfl ?hb ?_); (case hb => exact zB); (conv => whnf))
    | ((refine af.d rfl rfl rfl rfl rfl rfl ?hb ?ho ?_); (case hb => exact zB); (case ho => omega); (conv => whnf))
    | (with_reducible refine Or.inl ?_)
    | ((with_reducible refine IxA.ptr ?_); conv => whnf)
    | ((with_reducible refine nil_no (by omega) ?_); (conv => whnf))
    | ((with_reducible refine ag ?_ (fun hn0 => ?_)) <;> (conv => whnf))
    
    | ((refine ap (fun hc => ?_) (fun hc => ?_)) <;> (try simp only [decide_eq_true_eq, decide_eq_false_iff_not, Q5, Q20, Bool.and_eq_false_iff, Bool.or_eq_false_iff, Bool.not_eq_true', Bool.not_eq_false', beq_iff_eq, bne_iff_ne, ne_eq, beq_eq_false_iff_ne, bne_eq_false_iff_eq, Bool.not_eq_true, Bool.not_eq_false] at hc) <;> (try (exfalso; omega)) <;> (conv => whnf))))
  · exact .b (decide_eq_false fun e => by subst e; omega).symm
  refine Wp.loopP (ι := Nat) (fun i => i ≤ a.length ∧ ∀ j, j < i → a.getD j default = b.getD j default) (fun i => ⟨⟨Tryz.f8.ntmps, 0⟩, 0, [(0, .d (ak 1 (ar .u8) a)), (1, .d (ak 1 (ar .u8) b)), (12, .i .i64 a.length), (13, .i .i64 i)], []⟩) (fun i => a.length - i) 0 ⟨by simp, by simp⟩ ?_ ?_
  · (refine Le.by [] rfl rfl rfl rfl ?_ ?_ <;> (conv => whnf) <;> (repeat' (first | exact trivial | exact aa.rfl rfl | exact aa.ptr rfl | exact aa.sl rfl | ((with_reducible refine aa.fn ?_); (conv => whnf)) | ((refine aa.iref ?_); (conv => whnf)) | exact ⟨rfl, rfl, rfl⟩ | exact fun i hi => rfl | ((with_reducible refine And.intro ?_ ?_) <;> (conv => whnf)))))
  · rintro i ⟨h1, h2⟩
    (repeat' (first
    | with_reducible refine Wp.seq ?_
    | with_reducible refine Wp.block ?_
    | ((with_reducible first | refine Wp.region ?_ | refine Wp.drawL ac ?_ | refine Wp.cond ?_ | refine Wp.ret ?_ | refine Wp.skip ?_ | refine Wp.exit ?_ | refine Go.mk ?_ | apply ao.of); conv => whnf)
    | with_reducible exact rfl
    | ((with_reducible refine Ov.ok zO ?_); conv => whnf)
    | (with_reducible refine Ov.sh1 (by with_unfolding_all exact rfl) ?_)
    | ((with_reducible refine Ov.quo (by omega) (by omega) (by omega) (fun _ _ => ?_)); conv => whnf)
    | ((with_reducible refine And.intro (show ah _ _ _ _ = true by kernel_rfl) ?_); conv => whnf)
    | ((with_reducible refine And.intro zC ?_); conv => whnf)
    | ((with_reducible refine And.intro ?hb ?_); (case hb => exact ae (zzb rfl) (by omega)); (conv => whnf))
    | ((refine af.a rfl rfl rfl rfl rfl rfl ?hb ?_); (case hb => exact zB); (conv => whnf))
    | ((refine af.b rfl rfl rfl rfl rfl rfl rfl rfl ?hb ?ho ?_); (case hb => exact zB); (case ho => omega); (conv => whnf))
    | ((refine af.c rfl rfl rfl rfl rfl ?hb ?_); (case hb => exact zB); (conv => whnf))
    | ((refine af.d rfl rfl rfl rfl rfl rfl ?hb ?ho ?_); (case hb => exact zB); (case ho => omega); (conv => whnf))
    | (with_reducible refine Or.inl ?_)
    | ((with_reducible refine IxA.ptr ?_); conv => whnf)
    | ((with_reducible refine nil_no (by omega) ?_); (conv => whnf))
    | ((with_reducible refine ag ?_ (fun hn0 => ?_)) <;> (conv => whnf))
    
    | ((refine ap (fun hc => ?_) (fun hc => ?_)) <;> (try simp only [decide_eq_true_eq, decide_eq_false_iff_not, Q5, Q20, Bool.and_eq_false_iff, Bool.or_eq_false_iff, Bool.not_eq_true', Bool.not_eq_false', beq_iff_eq, bne_iff_ne, ne_eq, beq_eq_false_iff_ne, bne_eq_false_iff_eq, Bool.not_eq_true, Bool.not_eq_false] at hc) <;> (try (exfalso; omega)) <;> (conv => whnf))))
    all_goals try simp only [Q13] at *
    · exact .b (decide_eq_false fun e => by subst e; exact hc rfl).symm
    · refine ⟨i + 1, ⟨by omega, fun j hj => ?_⟩, by first | omega | (dsimp only; omega), ?_⟩
      · by_cases e : j = i
        · subst e; exact hc
        · exact h2 j (by omega)
      · (refine Le.by [] rfl rfl rfl rfl ?_ ?_ <;> (conv => whnf) <;> (repeat' (first | exact trivial | exact aa.rfl rfl | exact aa.ptr rfl | exact aa.sl rfl | ((with_reducible refine aa.fn ?_); (conv => whnf)) | ((refine aa.iref ?_); (conv => whnf)) | exact ⟨rfl, rfl, rfl⟩ | exact fun i hi => rfl | ((with_reducible refine And.intro ?_ ?_) <;> (conv => whnf)))))
    · exact .b (decide_eq_true (nq (by omega) fun j hj => h2 j (by omega))).symm
instance : DecidableEq Cel := fun a b => decidable_of_iff (a.pol = b.pol ∧ a.key = b.key ∧ a.tat = b.tat ∧ a.held = b.held) (by
  cases a; cases b; simp)
theorem ew (n : Int) : 0 ≤ aR n ∧ aR n ≤ 4611686018427387903 := by unfold aR; omega
theorem Pure.leX {C : Cx} {g : Nat} {args args' : List SV} {r : SV} (h : Pure C g args' r) (ha : Les args args') : Pure C g args r := h.le ha
section
open Hist
theorem Wp.label {C : Cx} {l : Nat} {S : St} {Q : Exit → St → Prop} (h : Q .normal S) : Wp C (.label l) S Q := ⟨fun _ E _ _ hs => wp_label ⟨S, E, h, hs⟩⟩
def noGo (Q : Exit → St → Prop) : Exit → St → Prop
  | .goto _, _ => False
  | e, S => Q e S
theorem Wp.scope {C : Cx} {c : Code} {S : St} {Q : Exit → St → Prop} (h : Wp C c S (noGo Q)) : Wp C (.scope c) S Q :=
  ⟨fun O E a w hs => wp_scope_straight (wp_mono (h.out O E a w hs) fun e a' w' ⟨S', E', h1, h2⟩ => by
    cases e with
    | goto l => exact h1.elim
    | _ => exact ⟨S', E', h1, h2⟩)⟩
theorem te : ∀ left : Nat, left < 256 → ∀ i : Nat, i < 8 → bits .and .i64 ((left : Int) / 2 ^ min (i : Int).toNat IntKind.i64.bits) 1 = if left.testBit i then 1 else 0 := by decide +kernel
theorem bit_out : ∀ left : Nat, left < 256 → ∀ i : Nat, i < 8 → left.testBit i = true → bits .andNot .i64 (left : Int) (IntKind.i64.wrap (1 * 2 ^ min (i : Int).toNat IntKind.i64.bits)) = ((left - 2 ^ i : Nat) : Int) := by decide +kernel
theorem l9 : ∀ left : Nat, left < 256 → ∀ i : Nat, i < 8 → left.testBit i = true → popc (left - 2 ^ i) + 1 = popc left ∧ left - 2 ^ i < 256 := by decide +kernel
theorem sI : ∀ left : Nat, left < 256 → popc left = 0 → left = 0 := by decide +kernel
theorem rj {ps : List Pol} {l : List HD} {spare : Int} {f left : Nat} {done : List HD} {i : Nat} (hi : i < l.length) (h1 : mZ ps l spare left done i = true) (h2 : srch ps l spare f (left - 2 ^ i) (done ++ [l.getD i default]) = true) : srch ps l spare (f + 1) left done = true := by
  unfold srch
  rw [Q20]
  right
  rw [List.any_eq_true]
  exact ⟨i, List.mem_range.2 hi, by rw [h1, h2]; rfl⟩
theorem srch_no {ps : List Pol} {l : List HD} {spare : Int} {f left : Nat} {done : List HD} (h0 : ¬ left = 0) (h : ∀ i, i < l.length → (mZ ps l spare left done i && srch ps l spare f (left - 2 ^ i) (done ++ [l.getD i default])) = false) : srch ps l spare (f + 1) left done = false := by
  unfold srch
  rw [Bool.or_eq_false_iff]
  refine ⟨by simpa using h0, ?_⟩
  rw [List.any_eq_false]
  intro i hi
  rw [h i (List.mem_range.1 hi)]; decide
theorem try_of {ps : List Pol} {l : List HD} {spare : Int} {left : Nat} {done : List HD} {i : Nat} (hb : left.testBit i = true) (hj : ∀ j, j < l.length → ¬ (left.testBit j = true ∧ (l.getD j default).last < (l.getD i default).first)) : mZ ps l spare left done i = lZ ps spare done (l.getD i default) := by
  unfold mZ
  have : ((List.range l.length).all fun j => !(left.testBit j && decide ((l.getD j default).last < (l.getD i default).first))) = true := by
    rw [Q23]
    intro j hj'
    have := hj j (List.mem_range.1 hj')
    rw [Bool.not_eq_true', Bool.and_eq_false_iff]
    by_cases e : left.testBit j = true
    · right; simpa using fun h => this ⟨e, h⟩
    · left; simpa using e
  rw [hb, this]; rfl
theorem try_no {ps : List Pol} {l : List HD} {spare : Int} {left : Nat} {done : List HD} {i j : Nat} (hj : j < l.length) (h1 : left.testBit j = true) (h2 : (l.getD j default).last < (l.getD i default).first) : mZ ps l spare left done i = false := by
  unfold mZ
  have : ((List.range l.length).all fun j => !(left.testBit j && decide ((l.getD j default).last < (l.getD i default).first))) = false := by
    rw [List.all_eq_false]
    exact ⟨j, List.mem_range.2 hj, by rw [h1, decide_eq_true h2]; decide⟩
  rw [this, Bool.and_false, Bool.false_and]
theorem kv {ps : List Pol} (hp : aG ps = 0) (l : List HD) (spare : Int) (hl8 : l.length ≤ 8) (hkl : ∀ e ∈ l, IsB e.key) : ∀ (f left : Nat) (done : List HD), left < 256 → popc left ≤ f → done.length + f ≤ 8 → (∀ e ∈ done, IsB e.key) →
    Pure TC 13 [sesS ps l spare, .i .i64 left, .d (ak 13 HD.D done)] (.b (srch ps l spare f left done))
  | 0, left, done, h1, h2, _, _ => by
    obtain rfl := sI left h1 (by omega)
    refine Pure.mk' Tryz.func13 rfl rfl (zzb rfl) ?_
    (repeat' (first
    | with_reducible refine Wp.seq ?_
    | with_reducible refine Wp.block ?_
    | ((with_reducible first | refine Wp.region ?_ | refine Wp.drawL ac ?_ | refine Wp.cond ?_ | refine Wp.ret ?_ | refine Wp.skip ?_ | refine Wp.exit ?_ | refine Go.mk ?_ | apply ao.of); conv => whnf)
    | with_reducible exact rfl
    | ((with_reducible refine Ov.ok zO ?_); conv => whnf)
    | (with_reducible refine Ov.sh1 (by with_unfolding_all exact rfl) ?_)
    | ((with_reducible refine Ov.quo (by omega) (by omega) (by omega) (fun _ _ => ?_)); conv => whnf)
    | ((with_reducible refine And.intro (show ah _ _ _ _ = true by kernel_rfl) ?_); conv => whnf)
    | ((with_reducible refine And.intro zC ?_); conv => whnf)
    | ((with_reducible refine And.intro ?hb ?_); (case hb => exact ae (zzb rfl) (by omega)); (conv => whnf))
    | ((refine af.a rfl rfl rfl rfl rfl rfl ?hb ?_); (case hb => exact zB); (conv => whnf))
    | ((refine af.b rfl rfl rfl rfl rfl rfl rfl rfl ?hb ?ho ?_); (case hb => exact zB); (case ho => omega); (conv => whnf))
    | ((refine af.c rfl rfl rfl rfl rfl ?hb ?_); (case hb => exact zB); (conv => whnf))
    | ((refine af.d rfl rfl rfl rfl rfl rfl ?hb ?ho ?_); (case hb => exact zB); (case ho => omega); (conv => whnf))
    | (with_reducible refine Or.inl ?_)
    | ((with_reducible refine IxA.ptr ?_); conv => whnf)
    | ((with_reducible refine nil_no (by omega) ?_); (conv => whnf))
    | ((with_reducible refine ag ?_ (fun hn0 => ?_)) <;> (conv => whnf))
    | ((with_reducible refine Wp.label ?_); conv => whnf)
    | ((with_reducible refine Wp.scope ?_))
    | ((refine ap (fun hc => ?_) (fun hc => ?_)) <;> (try simp only [decide_eq_true_eq, decide_eq_false_iff_not, Q5, Q20, Bool.and_eq_false_iff, Bool.or_eq_false_iff, Bool.not_eq_true', Bool.not_eq_false', beq_iff_eq, bne_iff_ne, ne_eq, beq_eq_false_iff_ne, bne_eq_false_iff_eq, Bool.not_eq_true, Bool.not_eq_false] at hc) <;> (try (exfalso; omega)) <;> (conv => whnf))))
    all_goals first
      | exact .b (by simp [srch])
      | (exfalso; omega)
  | f + 1, left, done, h1, h2, h3, h4 => by
    have ih := kv hp l spare hl8 hkl f
    refine Pure.mk' Tryz.func13 rfl rfl (zzb rfl) ?_
    (repeat' (first
    | with_reducible refine Wp.seq ?_
    | with_reducible refine Wp.block ?_
    | ((with_reducible first | refine Wp.region ?_ | refine Wp.drawL ac ?_ | refine Wp.cond ?_ | refine Wp.ret ?_ | refine Wp.skip ?_ | refine Wp.exit ?_ | refine Go.mk ?_ | apply ao.of); conv => whnf)
    | with_reducible exact rfl
    | ((with_reducible refine Ov.ok zO ?_); conv => whnf)
    | (with_reducible refine Ov.sh1 (by with_unfolding_all exact rfl) ?_)
    | ((with_reducible refine Ov.quo (by omega) (by omega) (by omega) (fun _ _ => ?_)); conv => whnf)
    | ((with_reducible refine And.intro (show ah _ _ _ _ = true by kernel_rfl) ?_); conv => whnf)
    | ((with_reducible refine And.intro zC ?_); conv => whnf)
    | ((with_reducible refine And.intro ?hb ?_); (case hb => exact ae (zzb rfl) (by omega)); (conv => whnf))
    | ((refine af.a rfl rfl rfl rfl rfl rfl ?hb ?_); (case hb => exact zB); (conv => whnf))
    | ((refine af.b rfl rfl rfl rfl rfl rfl rfl rfl ?hb ?ho ?_); (case hb => exact zB); (case ho => omega); (conv => whnf))
    | ((refine af.c rfl rfl rfl rfl rfl ?hb ?_); (case hb => exact zB); (conv => whnf))
    | ((refine af.d rfl rfl rfl rfl rfl rfl ?hb ?ho ?_); (case hb => exact zB); (case ho => omega); (conv => whnf))
    | (with_reducible refine Or.inl ?_)
    | ((with_reducible refine IxA.ptr ?_); conv => whnf)
    | ((with_reducible refine nil_no (by omega) ?_); (conv => whnf))
    | ((with_reducible refine ag ?_ (fun hn0 => ?_)) <;> (conv => whnf))
    | ((with_reducible refine Wp.label ?_); conv => whnf)
    | ((with_reducible refine Wp.scope ?_))
    | ((refine ap (fun hc => ?_) (fun hc => ?_)) <;> (try simp only [decide_eq_true_eq, decide_eq_false_iff_not, Q5, Q20, Bool.and_eq_false_iff, Bool.or_eq_false_iff, Bool.not_eq_true', Bool.not_eq_false', beq_iff_eq, bne_iff_ne, ne_eq, beq_eq_false_iff_ne, bne_eq_false_iff_eq, Bool.not_eq_true, Bool.not_eq_false] at hc) <;> (try (exfalso; omega)) <;> (conv => whnf))))
    · exact .b (by have : left = 0 := by omega
                   subst this; rfl)
    have hn0 : ¬ left = 0 := by omega
    refine Wp.loopP (ι := Nat) (fun i => i ≤ l.length ∧ ∀ i', i' < i → (mZ ps l spare left done i' && srch ps l spare f (left - 2 ^ i') (done ++ [l.getD i' default])) = false)
      (fun i => ⟨⟨Tryz.f13.ntmps, 0⟩, 1, [(1, .i .i64 left), (2, .d (ak 13 HD.D done)), (3, .ptr 0 0), (14, .d (ak 13 HD.D l)), (15, .i .i64 l.length), (16, .i .i64 i)], [(0, some (.cells [.d (ak 4 Pol.D ps), .d (ak 13 HD.D l), .i .i64 spare]))]⟩) (fun i => l.length - i) 0 ⟨Nat.zero_le _, fun i h => absurd h (Nat.not_lt_zero i)⟩ ?_ ?_
    · (refine Le.by [0] rfl rfl rfl rfl ?_ ?_ <;> (conv => whnf) <;> (repeat' (first | exact trivial | exact aa.rfl rfl | exact aa.ptr rfl | exact aa.sl rfl | ((with_reducible refine aa.fn ?_); (conv => whnf)) | ((refine aa.iref ?_); (conv => whnf)) | exact ⟨rfl, rfl, rfl⟩ | exact fun i hi => rfl | ((with_reducible refine And.intro ?_ ?_) <;> (conv => whnf)))))
    · rintro i ⟨hi0, hno⟩
      by_cases hi : i < l.length
      · have hbit := te left h1 i (by omega)
        have hD : l.getD (i : Int).toNat default = l.getD i default := by rw [Q13]
        cases hb : left.testBit i with
        | false =>
          rw [hb] at hbit
          rw [if_neg (by decide)] at hbit
          (repeat' (first
    | with_reducible refine Wp.seq ?_
    | with_reducible refine Wp.block ?_
    | ((with_reducible first | refine Wp.region ?_ | refine Wp.drawL ac ?_ | refine Wp.cond ?_ | refine Wp.ret ?_ | refine Wp.skip ?_ | refine Wp.exit ?_ | refine Go.mk ?_ | apply ao.of); conv => whnf)
    | with_reducible exact rfl
    | ((with_reducible refine Ov.ok zO ?_); conv => whnf)
    | (with_reducible refine Ov.sh1 (by with_unfolding_all exact rfl) ?_)
    | ((with_reducible refine Ov.quo (by omega) (by omega) (by omega) (fun _ _ => ?_)); conv => whnf)
    | ((with_reducible refine And.intro (show ah _ _ _ _ = true by kernel_rfl) ?_); conv => whnf)
    | ((with_reducible refine And.intro zC ?_); conv => whnf)
    | ((with_reducible refine And.intro ?hb ?_); (case hb => exact ae (zzb rfl) (by omega)); (conv => whnf))
    | ((refine af.a rfl rfl rfl rfl rfl rfl ?hb ?_); (case hb => exact zB); (conv => whnf))
    | ((refine af.b rfl rfl rfl rfl rfl rfl rfl rfl ?hb ?ho ?_); (case hb => exact zB); (case ho => omega); (conv => whnf))
    | ((refine af.c rfl rfl rfl rfl rfl ?hb ?_); (case hb => exact zB); (conv => whnf))
    | ((refine af.d rfl rfl rfl rfl rfl rfl ?hb ?ho ?_); (case hb => exact zB); (case ho => omega); (conv => whnf))
    | (with_reducible refine Or.inl ?_)
    | ((with_reducible refine IxA.ptr ?_); conv => whnf)
    | ((with_reducible refine nil_no (by omega) ?_); (conv => whnf))
    | ((with_reducible refine ag ?_ (fun hn0 => ?_)) <;> (conv => whnf))
    
    | ((refine ap (fun hc => ?_) (fun hc => ?_)) <;> (try simp only [decide_eq_true_eq, decide_eq_false_iff_not, Q5, Q20, Bool.and_eq_false_iff, Bool.or_eq_false_iff, Bool.not_eq_true', Bool.not_eq_false', beq_iff_eq, bne_iff_ne, ne_eq, beq_eq_false_iff_ne, bne_eq_false_iff_eq, Bool.not_eq_true, Bool.not_eq_false] at hc) <;> (try (exfalso; omega)) <;> (conv => whnf))))
          all_goals first
            | (exfalso; omega)
            | (refine ⟨i + 1, ⟨by omega, fun i' h => ?_⟩, by dsimp only; omega, ?_⟩
               · by_cases e : i' = i
                 · subst e; unfold mZ; rw [hb]; rfl
                 · exact hno i' (by omega)
               · (refine Le.by [0] rfl rfl rfl rfl ?_ ?_ <;> (conv => whnf) <;> (repeat' (first | exact trivial | exact aa.rfl rfl | exact aa.ptr rfl | exact aa.sl rfl | ((with_reducible refine aa.fn ?_); (conv => whnf)) | ((refine aa.iref ?_); (conv => whnf)) | exact ⟨rfl, rfl, rfl⟩ | exact fun i hi => rfl | ((with_reducible refine And.intro ?_ ?_) <;> (conv => whnf))))))
        | true =>
          rw [hb] at hbit
          rw [if_pos rfl] at hbit
          (repeat' (first
    | with_reducible refine Wp.seq ?_
    | with_reducible refine Wp.block ?_
    | ((with_reducible first | refine Wp.region ?_ | refine Wp.drawL ac ?_ | refine Wp.cond ?_ | refine Wp.ret ?_ | refine Wp.skip ?_ | refine Wp.exit ?_ | refine Go.mk ?_ | apply ao.of); conv => whnf)
    | with_reducible exact rfl
    | ((with_reducible refine Ov.ok zO ?_); conv => whnf)
    | (with_reducible refine Ov.sh1 (by with_unfolding_all exact rfl) ?_)
    | ((with_reducible refine Ov.quo (by omega) (by omega) (by omega) (fun _ _ => ?_)); conv => whnf)
    | ((with_reducible refine And.intro (show ah _ _ _ _ = true by kernel_rfl) ?_); conv => whnf)
    | ((with_reducible refine And.intro zC ?_); conv => whnf)
    | ((with_reducible refine And.intro ?hb ?_); (case hb => exact ae (zzb rfl) (by omega)); (conv => whnf))
    | ((refine af.a rfl rfl rfl rfl rfl rfl ?hb ?_); (case hb => exact zB); (conv => whnf))
    | ((refine af.b rfl rfl rfl rfl rfl rfl rfl rfl ?hb ?ho ?_); (case hb => exact zB); (case ho => omega); (conv => whnf))
    | ((refine af.c rfl rfl rfl rfl rfl ?hb ?_); (case hb => exact zB); (conv => whnf))
    | ((refine af.d rfl rfl rfl rfl rfl rfl ?hb ?ho ?_); (case hb => exact zB); (case ho => omega); (conv => whnf))
    | (with_reducible refine Or.inl ?_)
    | ((with_reducible refine IxA.ptr ?_); conv => whnf)
    | ((with_reducible refine nil_no (by omega) ?_); (conv => whnf))
    | ((with_reducible refine ag ?_ (fun hn0 => ?_)) <;> (conv => whnf))
    
    | ((refine ap (fun hc => ?_) (fun hc => ?_)) <;> (try simp only [decide_eq_true_eq, decide_eq_false_iff_not, Q5, Q20, Bool.and_eq_false_iff, Bool.or_eq_false_iff, Bool.not_eq_true', Bool.not_eq_false', beq_iff_eq, bne_iff_ne, ne_eq, beq_eq_false_iff_ne, bne_eq_false_iff_eq, Bool.not_eq_true, Bool.not_eq_false] at hc) <;> (try (exfalso; omega)) <;> (conv => whnf))))
          refine Wp.loopP (ι := Nat) (fun j => j ≤ l.length ∧ ∀ j', j' < j → ¬ (left.testBit j' = true ∧ (l.getD j' default).last < (l.getD i default).first))
            (fun j => ⟨⟨Tryz.f13.ntmps, 0⟩, 2, [(1, .i .i64 left), (2, .d (ak 13 HD.D done)), (3, .ptr 0 0), (7, .i .i64 i), (8, .ptr 1 0), (14, .d (ak 13 HD.D l)), (15, .i .i64 l.length), (16, .i .i64 i), (27, .d (ak 13 HD.D l)), (28, .i .i64 l.length), (29, .i .i64 j)],
              [(0, some (.cells [.d (ak 4 Pol.D ps), .d (ak 13 HD.D l), .i .i64 spare])), (1, some (.cells ((l.getD i default).D.map .d)))]⟩) (fun j => l.length - j) 0 ⟨Nat.zero_le _, fun j h => absurd h (Nat.not_lt_zero j)⟩ ?_ ?_
          · rw [hD]
            (refine Le.by [0,1] rfl rfl rfl rfl ?_ ?_ <;> (conv => whnf) <;> (repeat' (first | exact trivial | exact aa.rfl rfl | exact aa.ptr rfl | exact aa.sl rfl | ((with_reducible refine aa.fn ?_); (conv => whnf)) | ((refine aa.iref ?_); (conv => whnf)) | exact ⟨rfl, rfl, rfl⟩ | exact fun i hi => rfl | ((with_reducible refine And.intro ?_ ?_) <;> (conv => whnf)))))
          · rintro j ⟨hj0, hjn⟩
            by_cases hj : j < l.length
            · have hbj := te left h1 j (by omega)
              have hDj : l.getD (j : Int).toNat default = l.getD j default := by rw [Q13]
              cases hb2 : left.testBit j with
              | false =>
                rw [hb2] at hbj
                rw [if_neg (by decide)] at hbj
                (repeat' (first
    | with_reducible refine Wp.seq ?_
    | with_reducible refine Wp.block ?_
    | ((with_reducible first | refine Wp.region ?_ | refine Wp.drawL ac ?_ | refine Wp.cond ?_ | refine Wp.ret ?_ | refine Wp.skip ?_ | refine Wp.exit ?_ | refine Go.mk ?_ | apply ao.of); conv => whnf)
    | with_reducible exact rfl
    | ((with_reducible refine Ov.ok zO ?_); conv => whnf)
    | (with_reducible refine Ov.sh1 (by with_unfolding_all exact rfl) ?_)
    | ((with_reducible refine Ov.quo (by omega) (by omega) (by omega) (fun _ _ => ?_)); conv => whnf)
    | ((with_reducible refine And.intro (show ah _ _ _ _ = true by kernel_rfl) ?_); conv => whnf)
    | ((with_reducible refine And.intro zC ?_); conv => whnf)
    | ((with_reducible refine And.intro ?hb ?_); (case hb => exact ae (zzb rfl) (by omega)); (conv => whnf))
    | ((refine af.a rfl rfl rfl rfl rfl rfl ?hb ?_); (case hb => exact zB); (conv => whnf))
    | ((refine af.b rfl rfl rfl rfl rfl rfl rfl rfl ?hb ?ho ?_); (case hb => exact zB); (case ho => omega); (conv => whnf))
    | ((refine af.c rfl rfl rfl rfl rfl ?hb ?_); (case hb => exact zB); (conv => whnf))
    | ((refine af.d rfl rfl rfl rfl rfl rfl ?hb ?ho ?_); (case hb => exact zB); (case ho => omega); (conv => whnf))
    | (with_reducible refine Or.inl ?_)
    | ((with_reducible refine IxA.ptr ?_); conv => whnf)
    | ((with_reducible refine nil_no (by omega) ?_); (conv => whnf))
    | ((with_reducible refine ag ?_ (fun hn0 => ?_)) <;> (conv => whnf))
    
    | ((refine ap (fun hc => ?_) (fun hc => ?_)) <;> (try simp only [decide_eq_true_eq, decide_eq_false_iff_not, Q5, Q20, Bool.and_eq_false_iff, Bool.or_eq_false_iff, Bool.not_eq_true', Bool.not_eq_false', beq_iff_eq, bne_iff_ne, ne_eq, beq_eq_false_iff_ne, bne_eq_false_iff_eq, Bool.not_eq_true, Bool.not_eq_false] at hc) <;> (try (exfalso; omega)) <;> (conv => whnf))))
                all_goals first
                  | (exfalso; omega)
                  | (refine ⟨j + 1, ⟨by omega, fun j' h => ?_⟩, by dsimp only; omega, ?_⟩
                     · by_cases e : j' = j
                       · subst e; intro h9; rw [hb2] at h9; cases h9.1
                       · exact hjn j' (by omega)
                     · (refine Le.by [0,1] rfl rfl rfl rfl ?_ ?_ <;> (conv => whnf) <;> (repeat' (first | exact trivial | exact aa.rfl rfl | exact aa.ptr rfl | exact aa.sl rfl | ((with_reducible refine aa.fn ?_); (conv => whnf)) | ((refine aa.iref ?_); (conv => whnf)) | exact ⟨rfl, rfl, rfl⟩ | exact fun i hi => rfl | ((with_reducible refine And.intro ?_ ?_) <;> (conv => whnf))))))
              | true =>
                rw [hb2] at hbj
                rw [if_pos rfl] at hbj
                (repeat' (first
    | with_reducible refine Wp.seq ?_
    | with_reducible refine Wp.block ?_
    | ((with_reducible first | refine Wp.region ?_ | refine Wp.drawL ac ?_ | refine Wp.cond ?_ | refine Wp.ret ?_ | refine Wp.skip ?_ | refine Wp.exit ?_ | refine Go.mk ?_ | apply ao.of); conv => whnf)
    | with_reducible exact rfl
    | ((with_reducible refine Ov.ok zO ?_); conv => whnf)
    | (with_reducible refine Ov.sh1 (by with_unfolding_all exact rfl) ?_)
    | ((with_reducible refine Ov.quo (by omega) (by omega) (by omega) (fun _ _ => ?_)); conv => whnf)
    | ((with_reducible refine And.intro (show ah _ _ _ _ = true by kernel_rfl) ?_); conv => whnf)
    | ((with_reducible refine And.intro zC ?_); conv => whnf)
    | ((with_reducible refine And.intro ?hb ?_); (case hb => exact ae (zzb rfl) (by omega)); (conv => whnf))
    | ((refine af.a rfl rfl rfl rfl rfl rfl ?hb ?_); (case hb => exact zB); (conv => whnf))
    | ((refine af.b rfl rfl rfl rfl rfl rfl rfl rfl ?hb ?ho ?_); (case hb => exact zB); (case ho => omega); (conv => whnf))
    | ((refine af.c rfl rfl rfl rfl rfl ?hb ?_); (case hb => exact zB); (conv => whnf))
    | ((refine af.d rfl rfl rfl rfl rfl rfl ?hb ?ho ?_); (case hb => exact zB); (case ho => omega); (conv => whnf))
    | (with_reducible refine Or.inl ?_)
    | ((with_reducible refine IxA.ptr ?_); conv => whnf)
    | ((with_reducible refine nil_no (by omega) ?_); (conv => whnf))
    | ((with_reducible refine ag ?_ (fun hn0 => ?_)) <;> (conv => whnf))
    
    | ((refine ap (fun hc => ?_) (fun hc => ?_)) <;> (try simp only [decide_eq_true_eq, decide_eq_false_iff_not, Q5, Q20, Bool.and_eq_false_iff, Bool.or_eq_false_iff, Bool.not_eq_true', Bool.not_eq_false', beq_iff_eq, bne_iff_ne, ne_eq, beq_eq_false_iff_ne, bne_eq_false_iff_eq, Bool.not_eq_true, Bool.not_eq_false] at hc) <;> (try (exfalso; omega)) <;> (conv => whnf))))
                · rw [hDj] at hc
                  refine ⟨i + 1, ⟨by omega, fun i' h => ?_⟩, by dsimp only; omega, ?_⟩
                  · by_cases e : i' = i
                    · subst e; rw [try_no hj hb2 hc]; rfl
                    · exact hno i' (by omega)
                  · (refine Le.by [0] rfl rfl rfl rfl ?_ ?_ <;> (conv => whnf) <;> (repeat' (first | exact trivial | exact aa.rfl rfl | exact aa.ptr rfl | exact aa.sl rfl | ((with_reducible refine aa.fn ?_); (conv => whnf)) | ((refine aa.iref ?_); (conv => whnf)) | exact ⟨rfl, rfl, rfl⟩ | exact fun i hi => rfl | ((with_reducible refine And.intro ?_ ?_) <;> (conv => whnf)))))
                · rw [hDj] at hc
                  refine ⟨j + 1, ⟨by omega, fun j' h => ?_⟩, by dsimp only; omega, ?_⟩
                  · by_cases e : j' = j
                    · subst e; exact fun h9 => hc h9.2
                    · exact hjn j' (by omega)
                  · (refine Le.by [0,1] rfl rfl rfl rfl ?_ ?_ <;> (conv => whnf) <;> (repeat' (first | exact trivial | exact aa.rfl rfl | exact aa.ptr rfl | exact aa.sl rfl | ((with_reducible refine aa.fn ?_); (conv => whnf)) | ((refine aa.iref ?_); (conv => whnf)) | exact ⟨rfl, rfl, rfl⟩ | exact fun i hi => rfl | ((with_reducible refine And.intro ?_ ?_) <;> (conv => whnf)))))
            · obtain rfl : j = l.length := by omega
              have htry := try_of (ps := ps) (spare := spare) (done := done) hb hjn
              have hm : l.getD i default ∈ l := by rw [← hD]; exact bv hi
              have hR := ku hp l spare done (l.getD i default) h4 (hkl _ hm) (by omega)
              obtain ⟨p1, p2⟩ := l9 left h1 i (by omega) hb
              have hF := (ih (left - 2 ^ i) (done ++ [l.getD i default]) p2 (by omega) (by rw [Q9, List.length_singleton]; omega) fun e he => by
                rcases List.mem_append.1 he with he | he
                · exact h4 e he
                · rw [List.mem_singleton.1 he]; exact hkl _ hm).leX (args := [sesS ps l spare, .i .i64 (bits .andNot .i64 (left : Int) (IntKind.i64.wrap (1 * 2 ^ min (i : Int).toNat IntKind.i64.bits))), .d (.sl 13 (done.length + 1) (cq done.length (fun i => (done.getD i default).D) (bR (l.getD i default).D 13)))])
                (.cons (.rfl _) (.cons (.i (bit_out left h1 i (by omega) hb)) (.cons (ig (by simp) fun k hk => bN HD.D 13 done (l.getD i default) _ rfl k hk) .nil)))
              (repeat' (first
    | ((refine ai.pure hR rfl rfl ?_); conv => whnf)
    | ((refine ai.pure hF rfl rfl ?_); conv => whnf)
    | ((refine SlxD.of rfl rfl rfl rfl rfl ?_); conv => whnf)
    | ((with_reducible refine Or.inr (And.intro rfl ?_)); conv => whnf)
    | ((refine Or.inr (DApx.of rfl rfl rfl rfl rfl rfl ?hb ?_)); (case hb => exact zB); (conv => whnf))
    | with_reducible refine Wp.seq ?_
    | with_reducible refine Wp.block ?_
    | ((with_reducible first | refine Wp.region ?_ | refine Wp.drawL ac ?_ | refine Wp.cond ?_ | refine Wp.ret ?_ | refine Wp.skip ?_ | refine Wp.exit ?_ | refine Go.mk ?_ | apply ao.of); conv => whnf)
    | with_reducible exact rfl
    | ((with_reducible refine Ov.ok zO ?_); conv => whnf)
    | (with_reducible refine Ov.sh1 (by with_unfolding_all exact rfl) ?_)
    | ((with_reducible refine Ov.quo (by omega) (by omega) (by omega) (fun _ _ => ?_)); conv => whnf)
    | ((with_reducible refine And.intro (show ah _ _ _ _ = true by kernel_rfl) ?_); conv => whnf)
    | ((with_reducible refine And.intro zC ?_); conv => whnf)
    | ((with_reducible refine And.intro ?hb ?_); (case hb => exact ae (zzb rfl) (by omega)); (conv => whnf))
    | ((refine af.a rfl rfl rfl rfl rfl rfl ?hb ?_); (case hb => exact zB); (conv => whnf))
    | ((refine af.b rfl rfl rfl rfl rfl rfl rfl rfl ?hb ?ho ?_); (case hb => exact zB); (case ho => omega); (conv => whnf))
    | ((refine af.c rfl rfl rfl rfl rfl ?hb ?_); (case hb => exact zB); (conv => whnf))
    | ((refine af.d rfl rfl rfl rfl rfl rfl ?hb ?ho ?_); (case hb => exact zB); (case ho => omega); (conv => whnf))
    | (with_reducible refine Or.inl ?_)
    | ((with_reducible refine IxA.ptr ?_); conv => whnf)
    | ((with_reducible refine nil_no (by omega) ?_); (conv => whnf))
    | ((with_reducible refine ag ?_ (fun hn0 => ?_)) <;> (conv => whnf))
    
    | ((refine ap (fun hc => ?_) (fun hc => ?_)) <;> (try simp only [decide_eq_true_eq, decide_eq_false_iff_not, Q5, Q20, Bool.and_eq_false_iff, Bool.or_eq_false_iff, Bool.not_eq_true', Bool.not_eq_false', beq_iff_eq, bne_iff_ne, ne_eq, beq_eq_false_iff_ne, bne_eq_false_iff_eq, Bool.not_eq_true, Bool.not_eq_false] at hc) <;> (try (exfalso; omega)) <;> (conv => whnf))))
              · exact .b (rj hi (htry.trans ‹lZ ps spare done (l.getD i default) = true›) hc).symm
              all_goals
                refine ⟨i + 1, ⟨by omega, fun i' h => ?_⟩, by dsimp only; omega, ?_⟩
                · by_cases e : i' = i
                  · subst e
                    rw [htry, hc]
                    first | exact Bool.and_false _ | exact Bool.false_and _
                  · exact hno i' (by omega)
                · (refine Le.by [0] rfl rfl rfl rfl ?_ ?_ <;> (conv => whnf) <;> (repeat' (first | exact trivial | exact aa.rfl rfl | exact aa.ptr rfl | exact aa.sl rfl | ((with_reducible refine aa.fn ?_); (conv => whnf)) | ((refine aa.iref ?_); (conv => whnf)) | exact ⟨rfl, rfl, rfl⟩ | exact fun i hi => rfl | ((with_reducible refine And.intro ?_ ?_) <;> (conv => whnf)))))
      · obtain rfl : i = l.length := by omega
        (repeat' (first
    | with_reducible refine Wp.seq ?_
    | with_reducible refine Wp.block ?_
    | ((with_reducible first | refine Wp.region ?_ | refine Wp.drawL ac ?_ | refine Wp.cond ?_ | refine Wp.ret ?_ | refine Wp.skip ?_ | refine Wp.exit ?_ | refine Go.mk ?_ | apply ao.of); conv => whnf)
    | with_reducible exact rfl
    | ((with_reducible refine Ov.ok zO ?_); conv => whnf)
    | (with_reducible refine Ov.sh1 (by with_unfolding_all exact rfl) ?_)
    | ((with_reducible refine Ov.quo (by omega) (by omega) (by omega) (fun _ _ => ?_)); conv => whnf)
    | ((with_reducible refine And.intro (show ah _ _ _ _ = true by kernel_rfl) ?_); conv => whnf)
    | ((with_reducible refine And.intro zC ?_); conv => whnf)
    | ((with_reducible refine And.intro ?hb ?_); (case hb => exact ae (zzb rfl) (by omega)); (conv => whnf))
    | ((refine af.a rfl rfl rfl rfl rfl rfl ?hb ?_); (case hb => exact zB); (conv => whnf))
    | ((refine af.b rfl rfl rfl rfl rfl rfl rfl rfl ?hb ?ho ?_); (case hb => exact zB); (case ho => omega); (conv => whnf))
    | ((refine af.c rfl rfl rfl rfl rfl ?hb ?_); (case hb => exact zB); (conv => whnf))
    | ((refine af.d rfl rfl rfl rfl rfl rfl ?hb ?ho ?_); (case hb => exact zB); (case ho => omega); (conv => whnf))
    | (with_reducible refine Or.inl ?_)
    | ((with_reducible refine IxA.ptr ?_); conv => whnf)
    | ((with_reducible refine nil_no (by omega) ?_); (conv => whnf))
    | ((with_reducible refine ag ?_ (fun hn0 => ?_)) <;> (conv => whnf))
    
    | ((refine ap (fun hc => ?_) (fun hc => ?_)) <;> (try simp only [decide_eq_true_eq, decide_eq_false_iff_not, Q5, Q20, Bool.and_eq_false_iff, Bool.or_eq_false_iff, Bool.not_eq_true', Bool.not_eq_false', beq_iff_eq, bne_iff_ne, ne_eq, beq_eq_false_iff_ne, bne_eq_false_iff_eq, Bool.not_eq_true, Bool.not_eq_false] at hc) <;> (try (exfalso; omega)) <;> (conv => whnf))))
        exact .b (srch_no hn0 hno).symm
end
instance : LawfulBEq ByteArray where
  rfl := (MapKept.bytes_beq _ _).2 rfl
  eq_of_beq h := (MapKept.bytes_beq _ _).1 h
namespace Hist
def kb (d : HD) : ByteArray := ⟨((aZ d.pol d.key).map fun x => UInt8.ofNat x.toNat).toArray⟩
def dD (ps : List Pol) (d : HD) : Bool := decide (aG ps = 0) && decide (iE ps d.op d.pol d.key d.n ≠ 0)
def bM (ps : List Pol) (d : HD) : Bool := !dD ps d && (decide (aI d.pol d.key = 0) && cp d)
def aU (e f : Int) : Int := if e = 0 ∨ f < e then f else e
def grp (ps : List Pol) (l : List HD) (k : ByteArray) : List HD := l.filter fun d => bM ps d && decide (kb d = k)
def lr (ps : List Pol) : List ByteArray → List HD → List ByteArray
  | ks, [] => ks
  | ks, d :: l => lr ps (if bM ps d = true ∧ ¬ kb d ∈ ks then ks ++ [kb d] else ks) l
def ids (ps : List Pol) (l : List HD) : List ByteArray := lr ps [] l
theorem mw (ps : List Pol) (d : HD) : ∀ (l : List HD) (ks : List ByteArray), lr ps ks (l ++ [d]) = if bM ps d = true ∧ ¬ kb d ∈ lr ps ks l then lr ps ks l ++ [kb d] else lr ps ks l
  | [], ks => rfl
  | e :: l, ks => mw ps d l _
theorem dw (ps : List Pol) (l : List HD) (d : HD) : ids ps (l ++ [d]) = if bM ps d = true ∧ ¬ kb d ∈ ids ps l then ids ps l ++ [kb d] else ids ps l := mw ps d l []
theorem iv (ps : List Pol) : ∀ (l : List HD) (ks : List ByteArray), ks.Nodup → (lr ps ks l).Nodup
  | [], ks, h => h
  | d :: l, ks, h => by
    refine iv ps l _ ?_
    split
    · rename_i h1
      rw [List.nodup_append]
      exact ⟨h, by simp, fun a ha b hb e => by rw [List.mem_singleton] at hb; subst hb; subst e; exact h1.2 ha⟩
    · exact h
theorem oO (ps : List Pol) (l : List HD) : (ids ps l).Nodup := iv ps l [] .nil
theorem mt (ps : List Pol) : ∀ (l : List HD) (ks : List ByteArray) (k : ByteArray), k ∈ lr ps ks l ↔ k ∈ ks ∨ ∃ d ∈ l, bM ps d = true ∧ kb d = k
  | [], ks, k => by simp [lr]
  | d :: l, ks, k => by
    unfold lr
    rw [mt ps l]
    split
    · rename_i h
      constructor
      · rintro (h1 | ⟨e, he, h2⟩)
        · rcases List.mem_append.1 h1 with h1 | h1
          · exact .inl h1
          · rw [List.mem_singleton] at h1; exact .inr ⟨d, List.mem_cons_self .., h.1, h1.symm⟩
        · exact .inr ⟨e, List.mem_cons_of_mem _ he, h2⟩
      · rintro (h1 | ⟨e, he, h2⟩)
        · exact .inl (List.mem_append_left _ h1)
        · rcases Q22 he with rfl | he
          · exact .inl (by rw [← h2.2]; simp)
          · exact .inr ⟨e, he, h2⟩
    · rename_i h
      constructor
      · rintro (h1 | ⟨e, he, h2⟩)
        · exact .inl h1
        · exact .inr ⟨e, List.mem_cons_of_mem _ he, h2⟩
      · rintro (h1 | ⟨e, he, h2⟩)
        · exact .inl h1
        · rcases Q22 he with rfl | he
          · left
            rw [← h2.2]
            by_cases hm : kb e ∈ ks
            · exact hm
            · exact absurd ⟨h2.1, hm⟩ h
          · exact .inr ⟨e, he, h2⟩
theorem lq (ps : List Pol) (l : List HD) (k : ByteArray) : k ∈ ids ps l ↔ ∃ d ∈ l, bM ps d = true ∧ kb d = k := by
  unfold ids; rw [mt]; simp
theorem jl (ps : List Pol) : ∀ (l : List HD) (ks : List ByteArray), (lr ps ks l).length ≤ ks.length + l.length
  | [], ks => Q4 _
  | d :: l, ks => by
    have := jl ps l (if bM ps d = true ∧ ¬ kb d ∈ ks then ks ++ [kb d] else ks)
    unfold lr
    refine Nat.le_trans this ?_
    split
    · rw [Q9, List.length_singleton, List.length_cons]; omega
    · rw [List.length_cons]; omega
theorem bj (ps : List Pol) (l : List HD) (d : HD) (k : ByteArray) : grp ps (l ++ [d]) k = if bM ps d = true ∧ kb d = k then grp ps l k ++ [d] else grp ps l k := by
  unfold grp
  rw [List.filter_append]
  by_cases h : bM ps d = true ∧ kb d = k
  · rw [if_pos h, List.filter_cons, if_pos (by rw [h.1, decide_eq_true h.2]; rfl)]; rfl
  · rw [if_neg h, List.filter_cons, if_neg (by
      rw [Q5, decide_eq_true_iff]; exact h)]
    simp
theorem jn (ps : List Pol) (l : List HD) (k : ByteArray) (h : ¬ k ∈ ids ps l) : grp ps l k = [] := by
  unfold grp
  rw [List.filter_eq_nil_iff]
  intro d hd h1
  rw [Q5, decide_eq_true_iff] at h1
  exact h ((lq ps l k).2 ⟨d, hd, h1⟩)
theorem oS (ps : List Pol) (l : List HD) (k : ByteArray) : (grp ps l k).length ≤ l.length := List.length_filter_le _ _
def bO (ps : List Pol) (e : Int) (pre : List HD) (d : HD) : Int :=
  let e1 := if d.last < d.first then aU e 1 else e
  if dD ps d = true then aU e1 3 else if bM ps d = true then (if 8 < (grp ps (pre ++ [d]) (kb d)).length then aU e1 2 else e1) else e1
def o7 (ps : List Pol) : Int → List HD → List HD → Int
  | e, _, [] => e
  | e, pre, d :: l => o7 ps (bO ps e pre d) (pre ++ [d]) l
theorem mG (ps : List Pol) (d : HD) : ∀ (l pre : List HD) (e : Int), o7 ps e pre (l ++ [d]) = bO ps (o7 ps e pre l) (pre ++ l) d
  | [], pre, e => by simp [o7]
  | c :: l, pre, e => by
    show o7 ps (bO ps e pre c) (pre ++ [c]) (l ++ [d]) = _
    rw [mG ps d l]
    show bO ps (o7 ps (bO ps e pre c) (pre ++ [c]) l) (pre ++ [c] ++ l) d = bO ps (o7 ps (bO ps e pre c) (pre ++ [c]) l) (pre ++ c :: l) d
    rw [List.append_assoc]; rfl
def err0 (ps : List Pol) (n : Nat) : Int := if 4096 < n then aU (aG ps) 2 else aG ps
def ce (ps : List Pol) (n : Nat) (l : List HD) : Int := o7 ps (err0 ps n) [] l
theorem cD (ps : List Pol) (n : Nat) (l : List HD) (d : HD) : ce ps n (l ++ [d]) = bO ps (ce ps n l) l d := by
  unfold ce; rw [mG, List.nil_append]
end Hist
def Env.pi (E : Env) (π : Nat → Nat) : Env := ⟨fun i => E.ρ (π i), fun i => E.κ (π i), E.Im⟩
structure aL (π : Nat → Nat) (nx' : Nat) (x y : SV) : Prop where
  out : ∀ E nx w v, RS E nx w x v → RS (E.pi π) nx' w y v
theorem aL.free {π : Nat → Nat} {nx' : Nat} {x : SV} (h : x.free = true) : aL π nx' x x := ⟨fun E _ _ _ hv => RS.free (E := E) (E' := E.pi π) rfl h hv⟩
theorem aL.sl {π : Nat → Nat} {nx' l l' z o n : Nat} (h : π l' = l) (hl : l' < nx') : aL π nx' (.sl l z o n) (.sl l' z o n) := ⟨fun E nx w v hv => by
  subst h
  cases hv with
  | sl _ _ _ _ a cap hlx hc hm ha h0 => exact .sl _ _ _ _ a cap hl hc hm ha h0⟩
theorem aL.ptr {π : Nat → Nat} {nx' l l' o : Nat} (h : π l' = l) (hl : l' < nx') : aL π nx' (.ptr l o) (.ptr l' o) := ⟨fun E nx w v hv => by
  subst h
  cases hv with
  | ptr _ _ hlx => exact RS.ptr (E := E.pi π) l' o hl⟩
theorem aL.mono {π : Nat → Nat} {nx' : Nat} {x y z : SV} (h : SV.Le x y) (k : aL π nx' y z) : aL π nx' x z := ⟨fun E nx w v hv => k.out E nx w v (h.out E nx w v hv)⟩
structure cI (π : Nat → Nat) (nx nx' : Nat) (l k : Nat) (b b' : Blk) : Prop where
  real : ∀ κ, b'.real κ → b.real κ
  bs : ∀ E w, BS E nx w l b → BS (E.pi π) nx' w k b'
theorem cI.row {π : Nat → Nat} {nx nx' k e z n : Nat} {f : Nat → List D} : cI π nx nx' (π k) k (.row e z n f) (.row e z n f) :=
  ⟨fun _ h => h, fun E w hb => by
    obtain ⟨h1, h2, h3, h4, h5⟩ := hb
    exact ⟨h1, h2, h3, h4, h5⟩⟩
def jC (π : Nat → Nat) (nx' : Nat) : List SV → List SV → Prop
  | [], [] => True
  | x :: r, y :: s => aL π nx' x y ∧ jC π nx' r s
  | _, _ => False
theorem jC.out {π : Nat → Nat} {nx' : Nat} : ∀ {xs ys : List SV}, jC π nx' xs ys → xs.length = ys.length ∧ ∀ (j : Nat) (hx : j < xs.length) (hy : j < ys.length), aL π nx' xs[j] ys[j]
  | [], [], _ => ⟨rfl, fun j hx => by simp at hx⟩
  | x :: r, y :: s, ⟨h1, h2⟩ => by
    obtain ⟨g1, g2⟩ := jC.out h2
    refine ⟨by simp [g1], fun j hx hy => ?_⟩
    cases j with
    | zero => exact h1
    | succ j => exact g2 j (by simpa using hx) (by simpa using hy)
  | [], _ :: _, h => h.elim
  | _ :: _, [], h => h.elim
theorem cI.cells {π : Nat → Nat} {nx nx' k : Nat} {cs ds : List SV} (h : jC π nx' cs ds) : cI π nx nx' (π k) k (.cells cs) (.cells ds) :=
  ⟨fun _ h => h, fun E w hb => by
    obtain ⟨vs, T, h1, h2, h3⟩ := hb
    obtain ⟨g1, g2⟩ := h.out
    refine ⟨vs, T, h1, by omega, fun j hj => ?_⟩
    obtain ⟨h4, h5⟩ := h3 j (by omega)
    exact ⟨(g2 j (by omega) hj).out _ _ _ _ h4, h5⟩⟩
theorem Le.pi {nt : NT} {nx nx' : Nat} {fr fr' : List (Nat × SV)} {hp hp' : List (Nat × Option Blk)} (π : Nat → Nat) (hm : nt.m = 0)
    (hfr : ∀ p ∈ fr', aL π nx' (lk fr p.1) p.2) (hhp : ∀ k b', lkh hp' k = some b' → k < nx' ∧ ∃ b, lkh hp (π k) = some b ∧ cI π nx nx' (π k) k b b')
    (hinj : ∀ k k' b b', lkh hp' k = some b → lkh hp' k' = some b' → π k = π k' → k = k') : Le ⟨nt, nx, fr, hp⟩ ⟨nt, nx', fr', hp'⟩ := by
  refine ⟨fun O E a w hs => ⟨E.pi π, fun n => ?_, hs.nt, hs.df, fun l b hb => ?_, fun l b hb => (hhp l b hb).1, fun l l' b b' hb hb' hr hr' hne => ?_, fun b hb => ⟨(hs.im b hb).1, (hs.im b hb).2.1, fun l x hl hr => ?_⟩, fun l b hb hr => ?_, hs.kq, fun l hl => ?_, ?_, hs.imo⟩⟩
  · have key : ∀ l : List (Nat × SV), (∀ p ∈ l, aL π nx' (lk fr p.1) p.2) → RS (E.pi π) nx' w (lk l n) (a.tmps.getD n undef) := by
      intro l
      induction l with
      | nil => intro _; exact .any _
      | cons p l ih =>
        intro hl
        obtain ⟨m, v⟩ := p
        rw [cj]
        by_cases e : m = n
        · subst e; rw [if_pos rfl]; exact (hl (m, v) (by simp)).out _ _ _ _ (hs.fr m)
        · rw [if_neg e]; exact ih fun p hp => hl p (by simp [hp])
    exact key fr' hfr
  · obtain ⟨_, b0, h1, h2⟩ := hhp l b hb
    exact h2.bs E w (hs.hp _ _ h1)
  · obtain ⟨_, b0, h1, h2⟩ := hhp l b hb
    obtain ⟨_, b1, h3, h4⟩ := hhp l' b' hb'
    exact hs.inj (π l) (π l') b0 b1 h1 h3 (h2.real _ hr) (h4.real _ hr') fun e => hne (hinj l l' b b' hb hb' e)
  · obtain ⟨_, b0, h1, h2⟩ := hhp l x hl
    exact (hs.im b hb).2.2 (π l) b0 h1 (h2.real _ hr)
  · obtain ⟨_, b0, h1, h2⟩ := hhp l b hb
    exact hs.own (π l) b0 h1 (h2.real _ hr)
  · have h1 := hs.nt.2
    dsimp only at h1
    omega
  · have h1 := hs.nt.2
    dsimp only at h1 ⊢
    omega
@[reducible] def mpB (b m : Nat) (keys : List ByteArray) (g : Nat → SV) : Blk := .obj b m keys.length (mpP keys) g
@[reducible] def mpV (b : Nat) : SV := .d (.val (.map (some b)))
theorem bg.makeMap {C : Cx} {t nx : Nat} {nt : NT} {fr : List (Nat × SV)} {hp : List (Nat × Option Blk)} {k : St → SV → Prop} (h : ∀ b, k ⟨nt, nx + 1, fr, (nx, some (mpB b 0 [] fun _ => .any)) :: hp⟩ (mpV b)) : bg C ⟨nt, nx, fr, hp⟩ (.makeMap t none) k :=
  ⟨fun O E a w o ho hs => by
    have hE : ∀ l, l < nx → (E.new nx w.heap.size).ρ l = E.ρ l ∧ (E.new nx w.heap.size).κ l = E.κ l := fun l hl => ⟨by simp only [Env.new]; rw [if_neg (by omega)], rfl⟩
    have hr : (E.new nx w.heap.size).ρ nx = w.heap.size := by simp [Env.new]
    have s1 := hs.alloc_gen (E' := E.new nx w.heap.size) (.map #[] 0) (mpB w.heap.size 0 [] fun _ => .any) hE rfl hr ⟨hr, Nat.zero_le _, .map #[] 0, fun _ => undef, by rw [hr]; exact au w _, ⟨#[], rfl, rfl, fun j hj => by simp at hj⟩, fun j hj => by simp at hj⟩
    exact .val (m := Instr.makeMap t none) ⟨.map (some w.heap.size), _, _, _, _, rfl, h w.heap.size, s1, .d _ _ (.val _ rfl)⟩ (by simp [execOp, ho])⟩
theorem bg.look {C : Cx} {t : Nat} {m i : Operand} {S : St} {k : St → SV → Prop} (h : eE C t (ev S m) (ev S i) S.hp fun v _ => k S v) : bg C S (.lookup t m i false) k :=
  ⟨fun O E a w o ho hs => by
    obtain ⟨z, v, l, h1, h2, h3⟩ := mg hs (aB hs m) (aB hs i) h
    exact .val (m := Instr.lookup t (a.eval m) (a.eval i) false) ⟨_, _, _, _, _, h1, h2, hs, h3⟩ (by simp [execOp, ho])⟩
theorem eE.hit {C : Cx} {t kt et b l mm : Nat} {keys : List ByteArray} {g : Nat → SV} {s : ByteArray} {hp : List (Nat × Option Blk)} {k : SV → Nat → Prop} (h1 : C.P.underlying t = some (.map kt et)) (h2 : C.P.underlying kt = some .string) (h3 : ∀ w, (zeroValue et).run C.P w = .ok (.slice none 0 0) w)
    (hl : lkh hp l = some (mpB b mm keys g)) (j : Nat) (hj : j < keys.length) (hs : keys.getD j default = s) (hn : ∀ j', j' < keys.length → keys.getD j' default = s → j' = j) (h : k (g j) l) : eE C t (mpV b) (.d (.val (.string s))) hp k :=
  ⟨⟨kt, et, b, l, mm, keys, g, s, g j, h1, h2, h3, rfl, rfl, hl, .inl ⟨j, hj, hs, hn, rfl⟩, h⟩⟩
theorem eE.miss {C : Cx} {t kt et b l mm : Nat} {keys : List ByteArray} {g : Nat → SV} {s : ByteArray} {hp : List (Nat × Option Blk)} {k : SV → Nat → Prop} (h1 : C.P.underlying t = some (.map kt et)) (h2 : C.P.underlying kt = some .string) (h3 : ∀ w, (zeroValue et).run C.P w = .ok (.slice none 0 0) w)
    (hl : lkh hp l = some (mpB b mm keys g)) (hn : ∀ j, j < keys.length → keys.getD j default ≠ s) (h : k (.d (.val (.slice none 0 0))) l) : eE C t (mpV b) (.d (.val (.string s))) hp k :=
  ⟨⟨kt, et, b, l, mm, keys, g, s, _, h1, h2, h3, rfl, rfl, hl, .inr ⟨hn, rfl⟩, h⟩⟩
theorem SV.Lt.up {m n : Nat} (h : m ≤ n) {x : SV} (hx : SV.Lt m x) : SV.Lt n x := by
  induction hx with
  | any => exact .any
  | d x => exact .d x
  | ptr l o h1 => exact .ptr l o (by omega)
  | rp l z i o h1 => exact .rp l z i o (by omega)
  | sl l z o k h1 => exact .sl l z o k (by omega)
  | agg vs _ ih => exact .agg vs ih
  | tup vs _ ih => exact .tup vs ih
  | fn f vs _ ih => exact .fn f vs ih
  | iref vs o _ ih => exact .iref vs o ih
theorem kw {w : World} {r : Nat} {o o' : Obj} (hb : w.heap[r]? = some o) : (w.heap.setIfInBounds r o')[r]? = some o' := (MapKept.heap_set hb).1
theorem bg.mapUp {C : Cx} {t kt et b l mm nx : Nat} {m i v : Operand} {keys : List ByteArray} {g : Nat → SV} {s : ByteArray} {val : SV} {nt : NT} {fr : List (Nat × SV)} {hp : List (Nat × Option Blk)} {k : St → SV → Prop} (h1 : C.P.underlying t = some (.map kt et)) (h2 : C.P.underlying kt = some .string)
    (hm : ev ⟨nt, nx, fr, hp⟩ m = mpV b) (hi : ev ⟨nt, nx, fr, hp⟩ i = .d (.val (.string s))) (hv : ev ⟨nt, nx, fr, hp⟩ v = val) (hone : val.one = true) (hlt : SV.Lt nx val)
    (hl : lkh hp l = some (mpB b mm keys g))
    (h : ((∃ j, j < keys.length ∧ keys.getD j default = s ∧ (∀ j', j' < keys.length → keys.getD j' default = s → j' = j) ∧ k ⟨nt, nx, fr, (l, some (mpB b nx keys fun q => if q = j then val else g q)) :: hp⟩ .any) ∨
      ((∀ j, j < keys.length → keys.getD j default ≠ s) ∧ k ⟨nt, nx, fr, (l, some (mpB b nx (keys ++ [s]) fun q => if q = keys.length then val else g q)) :: hp⟩ .any))) : bg C ⟨nt, nx, fr, hp⟩ (.mapUpdate t m i v) k :=
  ⟨fun O E a w o ho hs => by
    have em := aB hs m
    rw [hm] at em
    have em := em.val_inv
    have ei := aB hs i
    rw [hi] at ei
    have ei := ei.val_inv
    have hval := aB hs v
    rw [hv] at hval
    obtain ⟨e0, hmm, oo, uu, hoo, ⟨es, rfl, hsz, hall⟩, hg⟩ := hs.hp l _ hl
    rw [e0] at hoo
    have hwr : ∀ (es' : Array MapEntry) (n' : Nat) (keys' : List ByteArray) (g' : Nat → SV), n' = keys'.length → (Instr.mapUpdate t (.map (some b)) (.string s) (a.eval v)).run C.P w = .ok () { w with heap := w.heap.setIfInBounds b (.map es' n') } →
        es'.size = keys'.length → (∀ j (hj : j < es'.size), es'[j].key = .string (keys'.getD j default) ∧ es'[j].born = j ∧ (SV.Lt nx (g' j) ∧ RS E nx w (g' j) es'[j].val ∧ es'[j].val.oneCell' = true)) →
        k ⟨nt, nx, fr, (l, some (mpB b nx keys' g')) :: hp⟩ .any → eF C O o a w k := by
      intro es' n' keys' g' hn' hrun hsz' hall' hk next Q hnext
      unfold Oper.wp
      rw [show (execOp a.eval o).run C.P w = .ok .skip { w with heap := w.heap.setIfInBounds b (.map es' n') } by simp [execOp, ho, em, ei, hrun]]
      have hother : ∀ q, q ≠ E.ρ l → ({ w with heap := w.heap.setIfInBounds b (.map es' n') } : World).heap[q]? = w.heap[q]? := fun q hq => (MapKept.heap_set hoo).2 q (by rw [← e0]; exact hq)
      have hs' := hs.seth_gen (w' := { w with heap := w.heap.setIfInBounds b (.map es' n') }) (b' := mpB b nx keys' g') hl trivial hother (by simp) ⟨rfl, rfl, rfl⟩ ?_
      · exact hnext undef E _ _ .any hk hs' (.any _)
      · refine ⟨e0, Q4 _, .map es' n', fun j => (es'[j]?.map (·.val)).getD undef, by rw [e0]; exact kw hoo, ⟨es', by rw [hn'], hsz', fun j hj => ?_⟩, fun j hj => ?_⟩
        · obtain ⟨p1, p2, _⟩ := hall' j hj
          exact ⟨p1, by simp [hj], p2⟩
        · have hj' : j < es'.size := by omega
          obtain ⟨_, _, p3, p4, p5⟩ := hall' j hj'
          have e9 : (es'[j]?.map (·.val)).getD undef = es'[j].val := by simp [hj']
          show SV.Lt nx (g' j) ∧ RS E nx _ (g' j) ((es'[j]?.map (·.val)).getD undef) ∧ ((es'[j]?.map (·.val)).getD undef).oneCell' = true
          rw [e9]
          refine ⟨p3, RS.mono (E := E) (fun _ _ => ⟨rfl, rfl⟩) (Q4 _) (fun _ h => h) (fun q hq => hother q fun e => (hs.im q hq).2.2 l _ hl trivial e.symm) p4, p5⟩
    have hkk := MapKept.run_checkKey (P := C.P) (w := w) (k := .string s) h2 trivial false 9999
    have hgL : ∀ j, j < keys.length → SV.Lt nx (g j) := fun j hj => (hg j hj).1.up hmm
    rcases oE hsz hall s with ⟨f1, f2⟩ | ⟨j, f1, f2, f3⟩
    · rcases h with ⟨j, j1, j2, _, _⟩ | ⟨_, hk⟩
      · exact absurd j2 (f2 j j1)
      · have hf := MapKept.run_findKey (P := C.P) (w := w) (l := es.toList) h2 f1
        refine hwr (es.push { key := .string s, val := a.eval v, born := keys.length }) (keys.length + 1) (keys ++ [s]) _ (by simp) ?_ (by simp [hsz]) (fun j hj => ?_) hk
        · unfold Instr.mapUpdate
          simp only [Sem.run_bind, run_underlying h1, Result.andThen, MapKept.run_getObj_map hoo, hkk, hf, MapKept.run_setObj_map _ hoo]
        · by_cases e : j < es.size
          · obtain ⟨p1, p2, p3⟩ := hall j e
            have hjk : j < keys.length := by omega
            simp only [Array.getElem_push, dif_pos e, if_neg (show ¬ j = keys.length by omega)]
            refine ⟨by rw [p1, Q1, Q1, Q11 hjk], p3, hgL j hjk, ?_, ?_⟩
            · rw [p2]; exact (hg j hjk).2.1
            · rw [p2]; exact (hg j hjk).2.2
          · have hj2 : j = es.size := by have : j < es.size + 1 := by simpa using hj
                                         omega
            subst hj2
            simp only [Array.getElem_push, Nat.lt_irrefl, dif_neg, not_false_iff, if_pos hsz]
            refine ⟨by simp [hsz], hsz.symm, hlt, hval, RS.one hval hone⟩
    · rcases h with ⟨j', j1, j2, j3, hk⟩ | ⟨n1, _⟩
      · obtain rfl := j3 j f2 f3
        have hf := MapKept.run_findKey (P := C.P) (w := w) (l := es.toList) h2 f1
        have hj : j < es.size := by omega
        have hkey : ((es[j]?).map (·.key)).getD (.string s) = .string s := by
          rw [Array.getElem?_eq_getElem hj]
          show es[j].key = _
          rw [(hall j hj).1, f3]
        have hstay : (Instr.keyThatStays (.string s) (.string s)).run C.P w = .ok (.string s) w := by
          unfold Instr.keyThatStays
          have : Instr.sameBits 10000 (.string s) (.string s) = true := by
            show (s == s) = true
            exact (MapKept.bytes_beq s s).2 rfl
          rw [if_pos this]; rfl
        refine hwr (es.modify j fun e => { e with key := .string s, val := a.eval v }) keys.length keys _ rfl ?_ (by simp [hsz]) (fun q hq => ?_) hk
        · unfold Instr.mapUpdate
          simp only [Sem.run_bind, run_underlying h1, Result.andThen, MapKept.run_getObj_map hoo, hkk, hf, hkey, hstay, MapKept.run_setObj_map _ hoo]
        · have hq' : q < es.size := by simpa using hq
          obtain ⟨p1, p2, p3⟩ := hall q hq'
          have hqk : q < keys.length := by omega
          rw [Array.getElem_modify]
          by_cases e : j = q
          · subst e
            simp only [if_true]
            exact ⟨by rw [f3], p3, hlt, hval, RS.one hval hone⟩
          · simp only [if_neg e, if_neg (fun e9 : q = j => e e9.symm)]
            refine ⟨p1, p3, hgL q hqk, ?_, ?_⟩
            · rw [p2]; exact (hg q hqk).2.1
            · rw [p2]; exact (hg q hqk).2.2
      · exact absurd f3 (n1 j f2)⟩
def itP (b n : Nat) (seen : List Nat) (o : Obj) (_ : Nat → Value) : Prop := o = .mapIter (some b) n seen.toArray n
@[reducible] def itB (r b n : Nat) (seen : List Nat) : Blk := .obj r 0 0 (itP b n seen) fun _ => .any
@[reducible] def itV (r : Nat) : SV := .d (.val (.pointer (some ⟨r, 0, none⟩)))
theorem bg.range {C : Cx} {t kt et b l mm nx : Nat} {x : Operand} {keys : List ByteArray} {g : Nat → SV} {nt : NT} {fr : List (Nat × SV)} {hp : List (Nat × Option Blk)} {k : St → SV → Prop} (h1 : C.P.underlying t = some (.map kt et)) (hx : ev ⟨nt, nx, fr, hp⟩ x = mpV b) (hl : lkh hp l = some (mpB b mm keys g))
    (h : ∀ r, k ⟨nt, nx + 1, fr, (nx, some (itB r b keys.length [])) :: hp⟩ (itV r)) : bg C ⟨nt, nx, fr, hp⟩ (.range t x) k :=
  ⟨fun O E a w o ho hs => by
    have ex := aB hs x
    rw [hx] at ex
    have ex := ex.val_inv
    obtain ⟨e0, hmm, oo, uu, hoo, ⟨es, rfl, hsz, hall⟩, hg⟩ := hs.hp l _ hl
    rw [e0] at hoo
    have hE : ∀ l, l < nx → (E.new nx w.heap.size).ρ l = E.ρ l ∧ (E.new nx w.heap.size).κ l = E.κ l := fun l hl => ⟨by simp only [Env.new]; rw [if_neg (by omega)], rfl⟩
    have hr : (E.new nx w.heap.size).ρ nx = w.heap.size := by simp [Env.new]
    have s1 := hs.alloc_gen (E' := E.new nx w.heap.size) (.mapIter (some b) keys.length #[] keys.length) (itB w.heap.size b keys.length []) hE rfl hr ⟨hr, Nat.zero_le _, _, fun _ => undef, by rw [hr]; exact au w _, rfl, fun j hj => by omega⟩
    exact .val (m := Instr.range t (a.eval x)) ⟨_, _, _, _, _, by rw [ex]; exact run_range_map w t kt et b es keys.length h1 hoo, h w.heap.size, s1, .d _ _ (.val _ rfl)⟩ (by simp [execOp, ho])⟩
theorem mp_left {keys : List ByteArray} {es : Array MapEntry} {u : Nat → Value} (hsz : es.size = keys.length) (hall : ∀ j (hj : j < es.size), es[j].key = .string (keys.getD j default) ∧ es[j].val = u j ∧ es[j].born = j) {seen : List Nat} {e : MapEntry} (he : e ∈ (leftOf es seen.toArray).toList) :
    ∃ j, j < keys.length ∧ ¬ j ∈ seen ∧ e.born = j ∧ e.key = .string (keys.getD j default) ∧ e.val = u j := by
  obtain ⟨h1, h2⟩ := mem_left he
  obtain ⟨j, hj, rfl⟩ := List.getElem_of_mem h1
  have hj' : j < es.size := by simpa using hj
  obtain ⟨p1, p2, p3⟩ := hall j hj'
  refine ⟨j, by omega, fun hm => ?_, by simpa using p3, by simpa using p1, by simpa using p2⟩
  have : seen.toArray.contains (es.toList[j]).born = true := by simp [p3, hm]
  rw [this] at h2; cases h2
theorem mp_none {keys : List ByteArray} {es : Array MapEntry} {u : Nat → Value} (hsz : es.size = keys.length) (hall : ∀ j (hj : j < es.size), es[j].key = .string (keys.getD j default) ∧ es[j].val = u j ∧ es[j].born = j) {seen : List Nat} (he : (leftOf es seen.toArray).size = 0) : ∀ j, j < keys.length → j ∈ seen := fun j hj => by
  have hj' : j < es.size := by omega
  have := all_seen es seen.toArray he es[j] (by simp)
  rw [(hall j hj').2.2] at this
  simpa using this
theorem lc {P : Program} (w : World) (ty r b n : Nat) (seen : List Nat) (es : Array MapEntry) (hr : w.heap[r]? = some (.mapIter (some b) n seen.toArray n)) (hb : w.heap[b]? = some (.map es n)) (hold : ∀ x ∈ es.toList, x.born < n) :
    ((leftOf es seen.toArray).size = 0 ∧ (Instr.next (.pointer (some ⟨r, 0, none⟩)) false ty).run P w = .ok (.tuple #[.bool false]) w) ∨
    ∃ e ∈ (leftOf es seen.toArray).toList, ∃ d : Nat, (Instr.next (.pointer (some ⟨r, 0, none⟩)) false ty).run P w = .ok (.tuple #[.bool true, e.key, e.val]) { w with drawn := d, heap := w.heap.setIfInBounds r (.mapIter (some b) n (seen.toArray.push e.born) n) } := by
  simp only [Instr.next, getObj, Sem.run_bind, Sem.run, hr, hb, Result.andThen, next_test_false seen.toArray es n n hold (Q4 _), Bool.false_eq_true, if_false]
  unfold leftOf
  have hmem : ∀ x ∈ (Array.filter (fun e => !seen.toArray.contains e.born) es).toList, x.born < n := fun x hx => hold x (by simp at hx ⊢; exact hx.1)
  generalize Array.filter (fun e => !seen.toArray.contains e.born) es = L at hmem ⊢
  have e1 : L.filter (fun x => decide (x.born < n)) = L := Array.filter_eq_self.2 (fun x hx => by simpa using hmem x (by simpa using hx))
  have e2 : L.filter (fun x => decide (x.born ≥ n)) = #[] := by
    rw [Array.filter_eq_empty_iff]
    intro x hx
    have := hmem x (by simpa using hx)
    simp
    omega
  simp only [e1, e2, Array.append_empty]
  by_cases h0 : L.size = 0
  · left
    have : L = #[] := Array.eq_empty_of_size_eq_zero h0
    subst this
    refine ⟨rfl, ?_⟩
    simp [choose, Sem.run, Question.forced]
  · right
    have hne : L.isEmpty = false := by simp [Array.isEmpty, h0]
    simp only [hne, Bool.false_eq_true, if_false, Array.empty_append, Array.size_map]
    have hch : ∃ (j d : Nat), j < L.size ∧ (choose (Question.mapNext L.size)).run P w = .ok j { w with drawn := d } := by
      by_cases hf : L.size ≤ 1
      · exact ⟨0, w.drawn, by omega, by simp [choose, Sem.run, Question.forced, hf]⟩
      · exact ⟨_, w.drawn + 1, Nat.mod_lt _ (by omega), by
          simp only [choose, Sem.run, Question.forced, decide_eq_true_eq, hf, if_false, Question.cut]
          rfl⟩
    obtain ⟨j, d, hj, hrun⟩ := hch
    refine ⟨L[j], by simp, d, ?_⟩
    have hset : (setObj r (.mapIter (some b) n (seen.toArray.push L[j].born) n)).run P { w with drawn := d } = .ok () { w with drawn := d, heap := w.heap.setIfInBounds r (.mapIter (some b) n (seen.toArray.push L[j].born) n) } := by
      simp only [setObj, Sem.run, hr]
    simp only [hrun, Array.getElem?_map, Array.getElem?_eq_getElem hj, Option.map_some, Sem.run_bind, hset, Result.andThen]
    rfl
theorem bg.next {C : Cx} {r b li lm mm nx n : Nat} {x : Operand} {keys : List ByteArray} {g : Nat → SV} {seen : List Nat} {nt : NT} {fr : List (Nat × SV)} {hp : List (Nat × Option Blk)} {k : St → SV → Prop} (hx : ev ⟨nt, nx, fr, hp⟩ x = itV r) (hli : lkh hp li = some (itB r b n seen)) (hlm : lkh hp lm = some (mpB b mm keys g)) (hn : n = keys.length) (hne : li ≠ lm)
    (h1 : ∀ j, j < n → ¬ j ∈ seen → k ⟨nt, nx, fr, (li, some (itB r b n (seen ++ [j]))) :: hp⟩ (.tup [.b true, .d (.val (.string (keys.getD j default))), g j])) (h2 : (∀ j, j < n → j ∈ seen) → k ⟨nt, nx, fr, hp⟩ (.tup [.b false])) : bg C ⟨nt, nx, fr, hp⟩ (.next x false) k :=
  ⟨fun O E a w o ho hs => by
    have ex := aB hs x
    rw [hx] at ex
    have ex := ex.val_inv
    obtain ⟨e0, hmm, oo, uu, hoo, ⟨es, rfl, hsz, hall⟩, hg⟩ := hs.hp lm _ hlm
    obtain ⟨e1, _, oi, ui, hoi, hit, _⟩ := hs.hp li _ hli
    have hit : oi = .mapIter (some b) n seen.toArray n := hit
    subst hit hn
    rw [e0] at hoo
    rw [e1] at hoi
    have hold : ∀ x ∈ es.toList, x.born < keys.length := fun x hx => by
      obtain ⟨j, hj, rfl⟩ := List.getElem_of_mem hx
      have hj' : j < es.size := by simpa using hj
      have := (hall j hj').2.2
      simp only [Array.getElem_toList]; omega
    rcases lc (P := C.P) w o.type r b keys.length seen es hoi hoo hold with ⟨g1, g2⟩ | ⟨e, he, d, g2⟩
    · exact .val (m := Instr.next (a.eval x) false o.type) ⟨_, w, E, _, _, by rw [ex]; exact g2, h2 (mp_none hsz hall g1), hs, .tup _ _ rfl fun j hj => by
        have : j = 0 := by simp at hj; omega
        subst this; exact .d _ _ (.val _ rfl)⟩ (by simp [execOp, ho])
    · obtain ⟨j, j1, j2, j3, j4, j5⟩ := mp_left hsz hall he
      have hother : ∀ q, q ≠ E.ρ li → ({ w with drawn := d, heap := w.heap.setIfInBounds r (.mapIter (some b) keys.length (seen.toArray.push e.born) keys.length) } : World).heap[q]? = w.heap[q]? := fun q hq => (MapKept.heap_set hoi).2 q (by rw [← e1]; exact hq)
      have hs' := hs.seth_gen (w' := { w with drawn := d, heap := w.heap.setIfInBounds r (.mapIter (some b) keys.length (seen.toArray.push e.born) keys.length) }) (b' := itB r b keys.length (seen ++ [j])) hli trivial hother (by simp) ⟨rfl, rfl, rfl⟩
        ⟨e1, Nat.zero_le _, _, fun _ => undef, by rw [e1]; exact kw hoi, by show _ = _; rw [j3]; simp, fun j hj => by omega⟩
      refine .val (m := Instr.next (a.eval x) false o.type) ⟨_, _, E, _, _, by rw [ex]; exact g2, h1 j j1 j2, hs', .tup _ _ rfl fun q hq => ?_⟩ (by simp [execOp, ho])
      have : q = 0 ∨ q = 1 ∨ q = 2 := by simp at hq; omega
      rcases this with rfl | rfl | rfl
      · exact .d _ _ (.val _ rfl)
      · show RS E nx _ (.d (.val (.string (keys.getD j default)))) e.key
        rw [j4]; exact .d _ _ (.val _ rfl)
      · show RS E nx _ (g j) e.val
        rw [j5]
        exact RS.mono (E := E) (fun _ _ => ⟨rfl, rfl⟩) (Q4 _) (fun _ h => h) (fun q hq => hother q fun e9 => (hs.im q hq).2.2 li _ hli trivial e9.symm) (hg j j1).2.1⟩
theorem bg.entry {C : Cx} {r b li lm mm nx n j : Nat} {x : Operand} {keys : List ByteArray} {g : Nat → SV} {seen : List Nat} {nt : NT} {fr : List (Nat × SV)} {hp : List (Nat × Option Blk)} {k : St → SV → Prop} (hx : ev ⟨nt, nx, fr, hp⟩ x = itV r) (hli : lkh hp li = some (itB r b n (seen ++ [j]))) (hlm : lkh hp lm = some (mpB b mm keys g)) (hn : n = keys.length) (hj : j < n)
    (h : k ⟨nt, nx, fr, hp⟩ (.tup [.d (.val (.string (keys.getD j default))), g j])) : bg C ⟨nt, nx, fr, hp⟩ (.entry x) k :=
  ⟨fun O E a w o ho hs => by
    have ex := aB hs x
    rw [hx] at ex
    have ex := ex.val_inv
    obtain ⟨e0, hmm, oo, uu, hoo, ⟨es, rfl, hsz, hall⟩, hg⟩ := hs.hp lm _ hlm
    obtain ⟨e1, _, oi, ui, hoi, hit, _⟩ := hs.hp li _ hli
    have hit : oi = .mapIter (some b) n (seen ++ [j]).toArray n := hit
    subst hit hn
    rw [e0] at hoo
    rw [e1] at hoi
    have hj' : j < es.size := by omega
    have hfind : es.find? (fun e => e.born == j) = some es[j] := by
      rw [← Array.find?_toList]
      have hb : es[j].born = j := (hall j hj').2.2
      have := find_born es[j] es.toList (by
        rw [List.nodup_iff_pairwise_ne, List.pairwise_iff_getElem]
        intro p q hp hq hpq
        have hp' : p < es.size := by simpa using hp
        have hq' : q < es.size := by simpa using hq
        simp only [List.getElem_map, Array.getElem_toList, (hall p hp').2.2, (hall q hq').2.2]
        omega) (by simp)
      rw [hb] at this
      exact this
    refine .val (m := Instr.entry (a.eval x)) ⟨.tuple #[es[j].key, es[j].val], w, E, _, _, ?_, h, hs, .tup _ _ rfl fun q hq => ?_⟩ (by simp [execOp, ho])
    · rw [ex]
      simp only [Instr.entry, getObj, Sem.run_bind, Sem.run, hoi, hoo, Result.andThen]
      simp [hfind, Sem.run, hoo, Result.andThen]
    · have : q = 0 ∨ q = 1 := by simp at hq; omega
      rcases this with rfl | rfl
      · show RS E nx _ (.d (.val (.string (keys.getD j default)))) es[j].key
        rw [(hall j hj').1]; exact .d _ _ (.val _ rfl)
      · show RS E nx _ (g j) es[j].val
        rw [(hall j hj').2.1]; exact (hg j hj).2.1⟩
theorem cI.obj {π : Nat → Nat} {nx nx' k b m m' n : Nat} {p : Obj → (Nat → Value) → Prop} {g g' : Nat → SV} (hm : m' ≤ nx') (h : ∀ j, j < n → SV.Lt m' (g' j) ∧ aL π nx' (g j) (g' j)) : cI π nx nx' (π k) k (.obj b m n p g) (.obj b m' n p g') :=
  ⟨fun _ h => h, fun E w hb => by
    obtain ⟨e0, h0, o, u, h1, h2, h3⟩ := hb
    exact ⟨e0, hm, o, u, h1, h2, fun j hj => ⟨(h j hj).1, (h j hj).2.out _ _ _ _ (h3 j hj).2.1, (h3 j hj).2.2⟩⟩⟩
def outB (lo hi : Nat) (hp : List (Nat × Option Blk)) : Bool := hp.all fun p => Nat.blt p.1 lo || Nat.ble hi p.1
theorem ax {hp T : List (Nat × Option Blk)} {l : Nat} {b : Blk} (h : lkh hp l = some b) : lkh (hp ++ T) l = some b := by
  induction hp with
  | nil => cases h
  | cons p r ih =>
    obtain ⟨n, v⟩ := p
    rw [List.cons_append, aj]
    rw [aj] at h
    by_cases e : n = l
    · rw [if_pos e] at h ⊢; exact h
    · rw [if_neg e] at h ⊢; exact ih h
theorem db {lo hi : Nat} {hp T : List (Nat × Option Blk)} (ho : outB lo hi hp = true) {l : Nat} (h1 : lo ≤ l) (h2 : l < hi) : lkh hp l = none ∧ lkh (hp ++ T) l = lkh T l := by
  induction hp with
  | nil => exact ⟨rfl, rfl⟩
  | cons p r ih =>
    obtain ⟨n, v⟩ := p
    unfold outB at ho
    rw [List.all_cons, Q5, Q20] at ho
    have hne : ¬ n = l := by
      rcases ho.1 with h | h
      · have : n < lo := by simpa using h
        omega
      · have := zzb h
        dsimp only at this
        omega
    rw [List.cons_append, aj, aj, if_neg hne, if_neg hne]
    exact ih ho.2
theorem eR {hp T : List (Nat × Option Blk)} {l : Nat} {b : Blk} (h : lkh (hp ++ T) l = some b) : lkh hp l = some b ∨ (lkh hp l = none ∧ lkh T l = some b) := by
  induction hp with
  | nil => exact .inr ⟨rfl, h⟩
  | cons p r ih =>
    obtain ⟨n, v⟩ := p
    rw [List.cons_append, aj] at h
    rw [aj]
    by_cases e : n = l
    · rw [if_pos e] at h ⊢; exact .inl h
    · rw [if_neg e] at h ⊢; exact ih h
def cH (lo hi : Nat) (T : List (Nat × Option Blk)) : Prop := ∀ k b, lkh T k = some b → lo ≤ k ∧ k < hi ∧ ∃ e z n f, b = .row e z n f
theorem Wp.frame {C : Cx} {c : Code} {n lo m nx : Nat} {fr : List (Nat × SV)} {hp T : List (Nat × Option Blk)} {Q : Exit → St → Prop} (hm : m ≤ nx) (hT : cH lo m T) (ho : outB lo m hp = true)
    (h : Wp C c ⟨⟨n, m⟩, nx, fr, hp⟩ (fun e S' => ∃ nx' fr' hp', S' = ⟨⟨n, m⟩, nx', fr', hp'⟩ ∧ outB lo m hp' = true ∧ Q e ⟨⟨n, 0⟩, nx', fr', hp' ++ T⟩)) : Wp C c ⟨⟨n, 0⟩, nx, fr, hp ++ T⟩ Q := by
  refine ⟨fun O E a w hs => ?_⟩
  let M : Nat → Prop := fun b => ∃ l x, lkh hp l = some x ∧ x.real (E.κ l) ∧ E.ρ l = b
  let O' : Org := ⟨w, M, E.Im, m, E.ρ, E.κ⟩
  have hs1 : Sat O' E ⟨⟨n, m⟩, nx, fr, hp⟩ a w :=
    ⟨hs.fr, ⟨hs.nt.1, rfl⟩, hs.df, fun l b hb => hs.hp l b (ax hb), fun l b hb => hs.nx l b (ax hb), fun l l' b b' hb hb' => hs.inj l l' b b' (ax hb) (ax hb'),
      fun b hb => ⟨(hs.im b hb).1, Or.inr (Or.inl hb), fun l x hl => (hs.im b hb).2.2 l x (ax hl)⟩, fun l b hb hr => Or.inl ⟨l, b, hb, hr, rfl⟩, Kq.refl _ _, fun l _ => ⟨rfl, rfl⟩, hm, fun b hb => hb⟩
  refine wp_mono (h.out O' E a w hs1) fun e a' w' hx => ?_
  obtain ⟨S', E', ⟨nx', fr', hp', rfl, ho', hQ⟩, hs2⟩ := hx
  have hlab : ∀ l, l < m → E'.ρ l = E.ρ l ∧ E'.κ l = E.κ l := hs2.lab
  have tT : ∀ {k b}, lkh T k = some b → lkh (hp ++ T) k = some b ∧ lkh hp k = none ∧ k < m ∧ lkh hp' k = none := fun {k b} hk => by
    obtain ⟨h1, h2, _⟩ := hT k b hk
    obtain ⟨g1, g2⟩ := db (T := T) ho h1 h2
    exact ⟨g2.trans hk, g1, h2, (db (T := T) ho' h1 h2).1⟩
  have hMown : ∀ b, M b → O.M b ∨ O.w0.heap.size ≤ b := by
    rintro b ⟨l, x, hl, hr, rfl⟩
    exact hs.own l x (ax hl) hr
  have notM : ∀ {k b}, lkh T k = some b → b.real (E.κ k) → ¬ M (E.ρ k) := fun {k b} hk hr hM => by
    obtain ⟨l, x, hl, hxr, e⟩ := hM
    obtain ⟨t1, t2, _, _⟩ := tT hk
    refine hs.inj l k x b (ax hl) t1 hxr hr (fun e9 => ?_) e
    subst e9; rw [t2] at hl; cases hl
  have ltT : ∀ {k b}, lkh T k = some b → b.real (E.κ k) → E.ρ k < w.heap.size := fun {k b} hk hr => (hs.hp k b (tT hk).1).lt hr
  have heapIm : ∀ b, E.Im b → w'.heap[b]? = w.heap[b]? := fun b hb => hs2.kq.block b (hs.im b hb).1 fun hM => by
    obtain ⟨l, x, hl, hr, e⟩ := hM
    exact (hs.im b hb).2.2 l x (ax hl) hr e
  have ownB : ∀ {l b}, lkh hp' l = some b → b.real (E'.κ l) → M (E'.ρ l) ∨ w.heap.size ≤ E'.ρ l := fun hl hr => hs2.own _ _ hl hr
  refine ⟨_, E', hQ, hs2.fr, ⟨hs2.nt.1, hs.nt.2⟩, hs2.df, fun l b hb => ?_, fun l b hb => ?_, fun l l' b b' hb hb' hr hr' hne => ?_, fun b hb => ⟨(hs2.im b hb).1, ?_, fun l x hl hr => ?_⟩, fun l b hb hr => ?_, ?_, fun l hl => ?_, ?_, fun b hb => hs2.imo b (hs.imo b hb)⟩
  · rcases eR hb with hb | ⟨_, hb⟩
    · exact hs2.hp l b hb
    · obtain ⟨_, _, e, z, q, f, rfl⟩ := hT l b hb
      obtain ⟨t1, t2, t3, t4⟩ := tT hb
      obtain ⟨h1, h2, h3, h4, h5⟩ := hs.hp l _ t1
      obtain ⟨p1, p2⟩ := hlab l t3
      refine ⟨by rw [p2]; exact h1, by rw [p2]; exact h2, h3, h4, fun hk => ?_⟩
      rw [p2] at hk
      obtain ⟨vs, g1, g2, g3, g4⟩ := h5 hk
      refine ⟨vs, ?_, by rw [p2]; exact g2, g3, fun i j hi hj => (g4 i j hi hj).mono (fun b hb => hs2.imo b hb) heapIm⟩
      rw [p1]
      exact (hs2.kq.block _ (ltT hb hk) (notM hb hk)).trans g1
  · rcases eR hb with hb | ⟨_, hb⟩
    · exact hs2.nx l b hb
    · exact Nat.lt_of_lt_of_le (tT hb).2.2.1 hs2.nl
  · rcases eR hb with hb | ⟨_, hb⟩ <;> rcases eR hb' with hb' | ⟨_, hb'⟩
    · exact hs2.inj l l' b b' hb hb' hr hr' hne
    · obtain ⟨p1, p2⟩ := hlab l' (tT hb').2.2.1
      rw [p2] at hr'
      rw [p1]
      intro e9
      rcases ownB hb hr with hM | hM
      · rw [e9] at hM; exact notM hb' hr' hM
      · have := ltT hb' hr'; omega
    · obtain ⟨p1, p2⟩ := hlab l (tT hb).2.2.1
      rw [p2] at hr
      rw [p1]
      intro e9
      rcases ownB hb' hr' with hM | hM
      · rw [← e9] at hM; exact notM hb hr hM
      · have := ltT hb hr; omega
    · obtain ⟨p1, p2⟩ := hlab l (tT hb).2.2.1
      obtain ⟨p3, p4⟩ := hlab l' (tT hb').2.2.1
      rw [p2] at hr
      rw [p4] at hr'
      rw [p1, p3]
      exact hs.inj l l' b b' (tT hb).1 (tT hb').1 hr hr' hne
  · rcases (hs2.im b hb).2.1 with h1 | h1 | h1
    · have := hs.kq.size
      exact Or.inl (Nat.le_trans this h1)
    · exact (hs.im b h1).2.1
    · rcases hMown b h1 with h2 | h2
      · exact Or.inr (Or.inr h2)
      · exact Or.inl h2
  · rcases eR hl with hl | ⟨_, hl⟩
    · exact (hs2.im b hb).2.2 l x hl hr
    · obtain ⟨p1, p2⟩ := hlab l (tT hl).2.2.1
      rw [p2] at hr
      rw [p1]
      rcases (hs2.im b hb).2.1 with h1 | h1 | h1
      · have h1 : w.heap.size ≤ b := h1
        have := ltT hl hr; omega
      · exact (hs.im b h1).2.2 l x (tT hl).1 hr
      · intro e9; rw [← e9] at h1; exact notM hl hr h1
  · rcases eR hb with hb | ⟨_, hb⟩
    · rcases ownB hb hr with hM | hM
      · exact hMown _ hM
      · have := hs.kq.size
        exact Or.inr (Nat.le_trans this hM)
    · obtain ⟨p1, p2⟩ := hlab l (tT hb).2.2.1
      rw [p2] at hr
      rw [p1]
      exact hs.own l b (tT hb).1 hr
  · have hk := hs.kq
    have hk2 := hs2.kq
    refine ⟨hk2.os.trans hk.os, hk2.tape.trans hk.tape, hk2.output.trans hk.output, Nat.le_trans hk.size hk2.size, fun k hk1 hk3 => ?_⟩
    rw [hk2.block k (Nat.lt_of_lt_of_le hk1 hk.size) fun hM => by
      rcases hMown k hM with h9 | h9
      · exact hk3 h9
      · omega]
    exact hk.block k hk1 hk3
  · have := hs.nt.2
    dsimp only at this
    omega
  · have := hs.nt.2
    dsimp only at this ⊢
    omega
theorem Le.frzT {nt : NT} {nx lm b mm z hi : Nat} {e : TypeId} {fr : List (Nat × SV)} {hp T : List (Nat × Option Blk)} {keys : List ByteArray} {g : Nat → SV} (cnt : Nat → Nat) (f : Nat → Nat → List D)
    (hT : ∀ j, j < keys.length → lkh T (1000 + j) = some (.row e z (cnt j) (f j))) (ho : outB 1000 hi hp = true) (hh : 1000 + keys.length ≤ hi) (hlm : lkh hp lm = some (mpB b mm keys g)) (hg : ∀ j, j < keys.length → g j = .sl (1000 + j) z 0 (cnt j)) :
    Le ⟨nt, nx, fr, hp ++ T⟩ ⟨nt, nx, fr, (lm, some (mpB b 0 keys fun j => .d (.sl z (cnt j) (f j)))) :: hp⟩ := by
  refine ⟨fun O E a w hs => ?_⟩
  have tT : ∀ j, j < keys.length → lkh (hp ++ T) (1000 + j) = some (.row e z (cnt j) (f j)) ∧ lkh hp (1000 + j) = none := fun j hj => by
    obtain ⟨g1, g2⟩ := db (T := T) ho (l := 1000 + j) (by omega) (by omega)
    exact ⟨g2.trans (hT j hj), g1⟩
  let E' : Env := ⟨E.ρ, E.κ, fun b => E.Im b ∨ ∃ j, j < keys.length ∧ 0 < E.κ (1000 + j) ∧ b = E.ρ (1000 + j)⟩
  have hlm' := ax (T := T) hlm
  have old : ∀ {l b0}, lkh ((lm, some (mpB b 0 keys fun j => SV.d (.sl z (cnt j) (f j)))) :: hp) l = some b0 → ∃ b1, lkh hp l = some b1 ∧ (∀ κ, b0.real κ → b1.real κ) := fun {l b0} h => by
    rw [aj] at h
    by_cases e1 : lm = l
    · subst e1; rw [if_pos rfl] at h; cases h; exact ⟨_, hlm, fun _ _ => trivial⟩
    · rw [if_neg e1] at h; exact ⟨b0, h, fun _ h => h⟩
  refine ⟨E', fun n => RS.mono (E := E) (fun _ _ => ⟨rfl, rfl⟩) (Q4 _) (fun _ h => Or.inl h) (fun _ _ => rfl) (hs.fr n), hs.nt, hs.df, fun l b0 hl => ?_, fun l b0 hl => ?_, fun l l' x x' hl hl' hr hr' hne => ?_, fun q hq => ⟨?_, ?_, fun l x hl hr => ?_⟩, fun l x hl hr => ?_, hs.kq, hs.lab, hs.nl, fun q hq => Or.inl (hs.imo q hq)⟩
  · rw [aj] at hl
    by_cases e1 : lm = l
    · subst e1; rw [if_pos rfl] at hl; cases hl
      obtain ⟨e0, _, o, u, h1, h2, h3⟩ := hs.hp lm _ hlm'
      refine ⟨e0, Nat.zero_le _, o, u, h1, h2, fun j hj => ⟨.d _, ?_, (h3 j hj).2.2⟩⟩
      have hv := (h3 j hj).2.1
      rw [hg j hj] at hv
      generalize u j = v at hv
      obtain ⟨k1, k2, k3, k4, k5⟩ := hs.hp _ _ (tT j hj).1
      cases hv with
      | sl _ _ _ _ a' cap hlx hc hmx ha h0 =>
        by_cases hcz : cnt j = 0
        · refine .d _ _ ?_
          rw [hcz] at hc ⊢
          exact .sl _ 0 _ a' cap (fun _ _ => undef) hc hmx (fun i hi => by omega) (fun h => by omega) fun i j hi => by omega
        · obtain ⟨vs, q1, q2, q3, q4⟩ := k5 (by omega)
          refine .d _ _ (.sl _ _ _ a' cap (fun i q => vs.getD (i * z + q) undef) hc hmx k4 (fun _ => ⟨E.ρ (1000 + j), 0 * z, ha (by omega), Or.inr ⟨j, hj, by omega, rfl⟩, fun i q hi hq => ?_⟩) fun i q hi hq => (q4 i q hi hq).mono (fun _ h => Or.inl h) fun _ _ => rfl)
          have h5 : (i + 1) * z ≤ E.κ (1000 + j) * z := Q8 _ (by omega)
          rw [Q18, Nat.one_mul] at h5
          have h6 : i * z + q < vs.size := by omega
          simp [World.cell?, q1, Array.getD, h6]
    · rw [if_neg e1] at hl
      exact BS.mono (E := E) (hs.nx l b0 (ax hl)) (fun _ _ => ⟨rfl, rfl⟩) (Q4 _) (fun _ h => Or.inl h) (fun _ _ => rfl) (fun _ => rfl) (hs.hp l b0 (ax hl))
  · obtain ⟨b1, h1, _⟩ := old hl
    exact hs.nx l b1 (ax h1)
  · obtain ⟨b1, h1, h2⟩ := old hl
    obtain ⟨b2, h3, h4⟩ := old hl'
    exact hs.inj l l' b1 b2 (ax h1) (ax h3) (h2 _ hr) (h4 _ hr') hne
  · rcases hq with hq | ⟨j, hj, hκ, rfl⟩
    · exact (hs.im q hq).1
    · exact (hs.hp _ _ (tT j hj).1).lt hκ
  · rcases hq with hq | ⟨j, hj, hκ, rfl⟩
    · exact (hs.im q hq).2.1
    · rcases hs.own _ _ (tT j hj).1 hκ with h9 | h9
      · exact Or.inr (Or.inr h9)
      · exact Or.inl h9
  · obtain ⟨b1, h1, h2⟩ := old hl
    rcases hq with hq | ⟨j, hj, hκ, rfl⟩
    · exact (hs.im q hq).2.2 l b1 (ax h1) (h2 _ hr)
    · refine hs.inj l (1000 + j) b1 _ (ax h1) (tT j hj).1 (h2 _ hr) hκ fun e9 => ?_
      subst e9
      rw [(tT j hj).2] at h1; cases h1
  · obtain ⟨b1, h1, h2⟩ := old hl
    exact hs.own l b1 (ax h1) (h2 _ hr)
theorem Wp.midE {C : Cx} {ι : Type} (id : Nat) {c y : Code} {S : St} {Q : Exit → St → Prop} (p : ι → Prop) (I : ι → St) (h1 : Wp C c S (fun e S' => e = .exit id ∧ ∃ i, p i ∧ Le S' (I i))) (h2 : ∀ i, p i → Wp C y (I i) Q) : Wp C c S (px id (thenQ C y Q)) :=
  h1.mono fun e S' ⟨he, i, hi, hl⟩ => by
    subst he
    show if id = id then _ else _
    rw [if_pos rfl]
    exact Wp.le hl (h2 i hi)
def lpO (id : Nat) : Code → Option Code
  | .block i b => if i = id then (match b with | .loop c => some c | _ => none) else lpO id b
  | .seq a b => (lpO id a).or (lpO id b)
  | .cond _ a b => (lpO id a).or (lpO id b)
  | .loop b => lpO id b
  | _ => none
theorem Le.nx {nt : NT} {nx nx' : Nat} {fr : List (Nat × SV)} {hp : List (Nat × Option Blk)} (h : nx ≤ nx') : Le ⟨nt, nx, fr, hp⟩ ⟨nt, nx', fr, hp⟩ :=
  ⟨fun O E a w hs => ⟨E, fun n => RS.mono (E := E) (fun _ _ => ⟨rfl, rfl⟩) h (fun _ h => h) (fun _ _ => rfl) (hs.fr n), hs.nt, hs.df, fun l b hb => BS.mono (E := E) (hs.nx l b hb) (fun _ _ => ⟨rfl, rfl⟩) h (fun _ h => h) (fun _ _ => rfl) (fun _ => rfl) (hs.hp l b hb), fun l b hb => Nat.lt_of_lt_of_le (hs.nx l b hb) h, hs.inj, hs.im, hs.own, hs.kq, hs.lab, Nat.le_trans hs.nl h, hs.imo⟩⟩
theorem aL.fn1 {π : Nat → Nat} {nx' : Nat} {f : Fn} {x y : SV} (h : aL π nx' x y) : aL π nx' (.fn f [x]) (.fn f [y]) := ⟨fun E nx w v hv => by
  cases hv with
  | fn _ _ us hs hh =>
    refine .fn f _ us (by simpa using hs) fun j hj => ?_
    have : j = 0 := by simp at hj; omega
    subst this
    exact h.out _ _ _ _ (hh 0 (by simp))⟩
def pP (π : Nat → Nat) (nx' : Nat) (fr : List (Nat × SV)) : List (Nat × SV) → Prop
  | [] => True
  | p :: r => aL π nx' (lk fr p.1) p.2 ∧ pP π nx' fr r
theorem pP.out {π : Nat → Nat} {nx' : Nat} {fr : List (Nat × SV)} : ∀ {l : List (Nat × SV)}, pP π nx' fr l → ∀ p ∈ l, aL π nx' (lk fr p.1) p.2
  | [], _, p, h => by cases h
  | q :: r, h, p, hp => by
    rcases Q22 hp with rfl | hp
    · exact h.1
    · exact pP.out h.2 p hp
def RowLe (b b' : Blk) : Prop := b = b' ∨ ∃ e z n f g, b = .row e z n f ∧ b' = .row e z n g ∧ ∀ i, i < n → f i = g i
theorem cI.rowE {π : Nat → Nat} {nx nx' k e z n : Nat} {f g : Nat → List D} (h : ∀ i, i < n → f i = g i) : cI π nx nx' (π k) k (.row e z n f) (.row e z n g) :=
  ⟨fun _ h => h, fun E w hb => by
    obtain ⟨h1, h2, h3, h4, h5⟩ := hb
    refine ⟨h1, h2, h3, fun i hi => by rw [← h i hi]; exact h4 i hi, fun hk => ?_⟩
    obtain ⟨vs, a1, a2, a3, a4⟩ := h5 hk
    refine ⟨vs, a1, a2, a3, fun i j hi => ?_⟩
    rw [← h i hi]
    exact a4 i j hi⟩
theorem Le.maps {nt : NT} {nx N b mm : Nat} {fr fr' : List (Nat × SV)} {hp T : List (Nat × Option Blk)} {keys : List ByteArray} {g g' : Nat → SV} {x y : SV} (π : Nat → Nat) (hm : nt.m = 0) (hN : 1000 ≤ N) (hfr : pP π N fr fr') (p0 : π 0 = 0) (p1 : π 1 = 1)
    (h0 : lkh hp 0 = some (.cells [x])) (hx : aL π N x y) (h1 : lkh hp 1 = some (mpB b mm keys g)) (hg : ∀ j, j < keys.length → SV.Lt N (g' j) ∧ aL π N (g j) (g' j)) (hR : cH 1000 N T) (hT : ∀ k b', lkh T k = some b' → ∃ b, lkh hp (π k) = some b ∧ RowLe b b' ∧ π k ≠ 0 ∧ π k ≠ 1)
    (hinj : ∀ k k' b b', lkh T k = some b → lkh T k' = some b' → π k = π k' → k = k') : Le ⟨nt, nx, fr, hp⟩ ⟨nt, N, fr', (0, some (.cells [y])) :: (1, some (mpB b N keys g')) :: T⟩ := by
  have hlk : ∀ {k b'}, lkh ((0, some (Blk.cells [y])) :: (1, some (mpB b N keys g')) :: T) k = some b' → (k = 0 ∧ b' = .cells [y]) ∨ (k = 1 ∧ b' = mpB b N keys g') ∨ (1000 ≤ k ∧ lkh T k = some b') := fun {k b'} h => by
    rw [aj, aj] at h
    by_cases e0 : 0 = k
    · rw [if_pos e0] at h; cases h; exact .inl ⟨e0.symm, rfl⟩
    · rw [if_neg e0] at h
      by_cases e1 : 1 = k
      · rw [if_pos e1] at h; cases h; exact .inr (.inl ⟨e1.symm, rfl⟩)
      · rw [if_neg e1] at h; exact .inr (.inr ⟨(hR k b' h).1, h⟩)
  refine Le.pi π hm hfr.out (fun k b' hk => ?_) fun k k' b1 b2 hk hk' e => ?_
  · rcases hlk hk with ⟨rfl, rfl⟩ | ⟨rfl, rfl⟩ | ⟨_, h⟩
    · refine ⟨by omega, _, by rw [p0]; exact h0, ?_⟩
      exact cI.cells ⟨hx, trivial⟩
    · refine ⟨by omega, _, by rw [p1]; exact h1, ?_⟩
      exact cI.obj (Q4 _) hg
    · obtain ⟨_, r2, e, z, n, f, rfl⟩ := hR k b' h
      obtain ⟨b, t1, t2, _⟩ := hT k _ h
      refine ⟨r2, b, t1, ?_⟩
      rcases t2 with rfl | ⟨e', z', n', f', g', rfl, t3, t4⟩
      · exact cI.row
      · cases t3
        exact cI.rowE t4
  · rcases hlk hk with ⟨rfl, _⟩ | ⟨rfl, _⟩ | ⟨a1, h⟩ <;> rcases hlk hk' with ⟨rfl, _⟩ | ⟨rfl, _⟩ | ⟨a2, h'⟩
    · rfl
    · rw [p0, p1] at e; cases e
    · rw [p0] at e; exact absurd e.symm (hT k' _ h').choose_spec.2.2.1
    · rw [p0, p1] at e; cases e
    · rfl
    · rw [p1] at e; exact absurd e.symm (hT k' _ h').choose_spec.2.2.2
    · rw [p0] at e; exact absurd e (hT k _ h).choose_spec.2.2.1
    · rw [p1] at e; exact absurd e (hT k _ h).choose_spec.2.2.2
    · exact hinj k k' _ _ h h' e
end Go.Proofs.YtlplngmpggkloaaGreat
