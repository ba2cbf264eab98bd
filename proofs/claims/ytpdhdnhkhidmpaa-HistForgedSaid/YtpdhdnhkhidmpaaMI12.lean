/- Lemmas of Hh7. No condition. -/
import Derived.Test.YtpdhdnhkhidmpaaMI11
set_option linter.unusedVariables false
set_option linter.unusedSimpArgs false
set_option maxHeartbeats 80000000
set_option maxRecDepth 100000
namespace Go.Proofs.Ytpdhdnhkhidmpaa
open Go.RowKit
open Hist
theorem Fun.leX {C : Cx} {g m m' : Nat} {args args0 : List SV} {H H' : List (Nat × Option Blk)} {r : SV} (h : Fun C g m args H m' r H') (hl : Les args0 args) : Fun C g m args0 H m' r H' :=
  ⟨h.ent, h.le, fun E w vs hS hsz hargs => h.out E w vs hS (hsz.trans hl.len) fun j hj => (hl.out j (by rw [hl.len]; exact hj) hj).out _ _ _ _ (hargs j (by rw [hl.len]; exact hj))⟩
theorem pq (l : List Hist.Ask) (m : Nat) {k : Nat} (hk : k = (l.take m).length) : SV.Le (.d (.sl 8 k fun i => (fun i => Hist.Ask.D (l.getD i default)) (0 + i))) (.d (ap 8 Hist.Ask.D (l.take m))) := by
  subst hk
  refine fd rfl fun i hi => ?_
  dsimp only
  rw [Q19, Q1, Q1, Q15, if_pos (by rw [Q10] at hi; omega)]
theorem kO (s : List Hist.Ask) : ∀ k, (aC s k).l.length ≤ k
  | 0 => Q4 _
  | k + 1 => by
    have ih := kO s k
    show (mkS (aC s k) k _).l.length ≤ k + 1
    unfold mkS
    split
    · omega
    · split
      · show (aC s k).l.length ≤ k + 1; omega
      · rw [Q9, List.length_singleton]; omega
theorem e5 {α : Type} [Inhabited α] (D : α → List D) (zs : List α) (d e : α) (c : Nat → List Go.Proofs.Ytpdhdnhkhidmpaa.D) (hc : c 0 = D d) (hd : c 1 = D e) : ∀ k, k < zs.length + 2 → cO zs.length (fun i => D (zs.getD i default)) c k = D ((zs ++ [d, e]).getD k default) := fun k hk => by
  simp only [cO]
  by_cases h : k < zs.length
  · rw [if_pos h, Q1, Q1, Q11 h]
  · rw [if_neg h, Q1, Q12 (by omega)]
    have : k - zs.length = 0 ∨ k - zs.length = 1 := by omega
    rcases this with h1 | h1
    · rw [h1, hc]; rfl
    · rw [h1, hd]; rfl
theorem eP {l : List HD} {i : Nat} (h : i < l.length) (hl : ∀ x ∈ l.take i, dd x = false) (hx : dd (l.getD (0 + (i : Int).toNat) default) = false) : ∀ x ∈ l.take (i + 1), dd x = false := fun x hxm => by
  rw [ku h] at hxm
  rcases List.mem_append.1 hxm with h1 | h1
  · exact hl x h1
  · rw [List.mem_singleton.1 h1]; rw [Q19] at hx; exact hx
@[reducible] noncomputable def fgS (FL : List HD) (q : Nat) : St := ⟨⟨Try.f4.ntmps, 0⟩, 1, [(7, .sl 0 13 0 FL.length), (85, .sl 0 13 0 FL.length), (86, .i .i64 FL.length), (87, .i .i64 q)], [(0, some (aI 39 13 HD.D FL))]⟩
theorem eO {s : List Hist.Ask} {how : Int} {key : List Int} (hs : ∀ a ∈ s, AfB a) (hh : 0 ≤ how ∧ how ≤ 255) (hk : IsB key) : Pure TC 4 [.d (ap 8 Hist.Ask.D s), .i .u8 how, .d (ap 1 (aQ .u8) key)] (.b true) := by
  have h5 : (s.take 5).length ≤ 5 := by rw [Q10]; omega
  have hs5 : ∀ a ∈ s.take 5, AfB a := fun a ha => hs a (List.mem_of_mem_take ha)
  have hM := MI.made (fun a ha => (hs5 a ha).f) (s.take 5).length (Q4 _)
  have hMd : Fun TC 7 0 [.d (.sl 8 ((if 5 < (s.length : Int) then 5 else (s.length : Int)).toNat - 0) fun i => (fun i => Hist.Ask.D (s.getD i default)) (0 + i))] [] 1 (.tup [.sl 0 13 0 (ak (s.take 5)).length, .b true]) [(0, some (aI 39 13 HD.D (ak (s.take 5))))] :=
    (eU hs5 (by omega)).leX (.cons (pq s 5 (by rw [Q10]; split <;> omega)) .nil)
  have hTw : Pure TC 10 [.d (.sl 1 ((if 2 < (key.length : Int) then 2 else (key.length : Int)).toNat - 0) fun i => (fun i => aQ .u8 (key.getD i default)) (0 + i))] (.d (ap 1 (aQ .u8) (key.take 2))) :=
    .leX (kI (key.take 2) (by rw [Q10]; omega)) (.cons (kr key (by rw [Q10]; split <;> omega)) .nil)
  have hk2 : IsB (key.take 2) := fun b hb => hk b (List.mem_of_mem_take hb)
  have hkl2 : (key.take 2).length ≤ 2 := by rw [Q10]; omega
  have hL5 : (ak (s.take 5)).length ≤ 5 := Nat.le_trans (kO _ _) h5
  have hm0 : how.tmod 4 = how % 4 := Q6 hh.1
  have hm4 : 0 ≤ how.tmod 4 ∧ how.tmod 4 < 4 := by omega
  refine Pure.mk' Try.func4 rfl rfl (zzb rfl) ?_
  (repeat' (first
    | with_reducible refine Wp.seq ?_
    | with_reducible refine Wp.block ?_
    | ((with_reducible first | refine Wp.region ?_ | refine Wp.drawL ac ?_ | refine Wp.cond ?_ | refine Wp.ret ?_ | refine Wp.skip ?_ | refine Wp.exit ?_ | refine Go.mk ?_ | apply aA.of); conv => whnf)
    | with_reducible exact rfl
    | ((with_reducible refine Ov.ok zO ?_); conv => whnf)
    | (with_reducible refine Ov.sh1 (by with_unfolding_all exact rfl) ?_)
    | ((with_reducible refine Ov.quo (by omega) (by omega) (by omega) (fun _ _ => ?_)); conv => whnf)
    | ((with_reducible refine And.intro (show aj _ _ _ _ = true by kernel_rfl) ?_); conv => whnf)
    | ((with_reducible refine And.intro zC ?_); conv => whnf)
    | ((with_reducible refine And.intro ?hb ?_); (case hb => exact ae (zzb rfl) (by omega)); (conv => whnf))
    | ((refine af.a rfl rfl rfl rfl rfl rfl ?hb ?_); (case hb => exact zB); (conv => whnf))
    | ((refine af.b rfl rfl rfl rfl rfl rfl rfl rfl ?hb ?ho ?_); (case hb => exact zB); (case ho => omega); (conv => whnf))
    | ((refine af.c rfl rfl rfl rfl rfl ?hb ?_); (case hb => exact zB); (conv => whnf))
    | ((refine af.d rfl rfl rfl rfl rfl rfl ?hb ?ho ?_); (case hb => exact zB); (case ho => omega); (conv => whnf))
    | (with_reducible refine Or.inl ?_)
    | ((with_reducible refine nil_no (by omega) ?_); (conv => whnf))
    | ((with_reducible refine ag ?_ (fun hn0 => ?_)) <;> (conv => whnf))
    | ((with_reducible refine aa.pure (iD) rfl rfl ?_); conv => whnf) | ((with_reducible refine ai.pure (iD) rfl rfl ?_); conv => whnf)
    | ((refine aa.fn (hMd) [] rfl rfl rfl rfl rfl ?ha ?hh ?_); (case ha => exact zA); (case hh => exact zH); (conv => whnf))
    | ((refine ai.fn (hMd) [] [] rfl rfl rfl rfl rfl ?ha ?hh ?hs ?_); (case ha => exact zA); (case hh => exact zH); (case hs => exact zK); (conv => whnf)) | ((refine ai.new (hMd) [] [] rfl rfl rfl rfl rfl rfl ?ha ?hh ?hs ?_); (case ha => exact zA); (case hh => exact zH); (case hs => exact zK); (conv => whnf))
    | ((with_reducible refine aa.pure (hTw) rfl rfl ?_); conv => whnf) | ((with_reducible refine ai.pure (hTw) rfl rfl ?_); conv => whnf)
    | ((with_reducible refine aa.pure (am) rfl rfl ?_); conv => whnf) | ((with_reducible refine ai.pure (am) rfl rfl ?_); conv => whnf)
    | ((refine aB (fun hc => ?_) (fun hc => ?_)) <;> (try simp only [decide_eq_true_eq, decide_eq_false_iff_not, Q5, Q20, Bool.and_eq_false_iff, Bool.or_eq_false_iff, Bool.not_eq_true', Bool.not_eq_false', beq_iff_eq, bne_iff_ne, ne_eq, beq_eq_false_iff_ne, bne_eq_false_iff_eq, Bool.not_eq_true, Bool.not_eq_false] at hc) <;> (try (exfalso; omega)) <;> (conv => whnf))))
  · have e : cj (how.tmod 4) (key.take 2) (ak (s.take 5)) = ak (s.take 5) ++ [fg0 (key.take 2), fg0 (key.take 2)] := by unfold cj; rw [if_pos hc]
    refine Wp.le (S' := fgS (ak (s.take 5) ++ [fg0 (key.take 2), fg0 (key.take 2)]) 0) ?_ ?_
    · (refine Le.by [3] rfl rfl rfl rfl ?_ ?_ <;> ((conv => whnf); repeat' (first | exact trivial | exact law_argR (by decide) (fun l hl => by rcases l with _ | _ | _ | _ | l <;> first | exact ⟨zzb rfl, rfl⟩ | exact ⟨zzb rfl, rfl, rfl⟩ | omega) (fun q hq => by rcases q with _ | _ | _ | _ | _ | _ | _ | _ | _ | q <;> first | exact ⟨zzb rfl, rfl⟩ | omega) | exact law_argI (by decide) (by decide) (fun l hl => by rcases l with _ | _ | _ | _ | l <;> first | exact ⟨zzb rfl, rfl⟩ | exact ⟨zzb rfl, rfl, rfl⟩ | omega) (fun q hq => by rcases q with _ | _ | _ | _ | _ | _ | _ | _ | _ | q <;> first | exact ⟨zzb rfl, rfl⟩ | omega) | exact ab.rfl rfl | exact ab.ptr rfl | exact ab.sl rfl | exact ab.free SV.Le.any rfl | exact ⟨rfl, rfl, rfl⟩ | exact ⟨rfl, zzb rfl⟩ | exact x_argRA (by assumption) rfl | exact x_argA (by assumption) | exact fun i hi => rfl | exact app_rowI _ _ | ((with_reducible refine And.intro ?_ ?_) <;> (conv => whnf)))))
      all_goals first
        | exact ab.sl rfl
        | (rw [Q9]; exact ab.sl rfl)
        | rfl
        | (rw [Q9]; rfl)
        | (rw [Q9]; exact ab.free (.i rfl) rfl)
        | exact bo HD.D 13 (ak (s.take 5)) (fg0 (key.take 2)) _ rfl
        | exact e5 HD.D (ak (s.take 5)) (fg0 (key.take 2)) (fg0 (key.take 2)) _ rfl rfl
    · have hG := fun h => k9 hM (by show (ak (s.take 5)).length ≤ 5; exact hL5) hk2 hkl2 (how.tmod 4) h
      rw [show (aC (s.take 5) (s.take 5).length).l = ak (s.take 5) from rfl, e] at hG
      have hkk : ∀ d ∈ ak (s.take 5) ++ [fg0 (key.take 2), fg0 (key.take 2)], IsB d.key := fun d hd => by
        rcases List.mem_append.1 hd with hd | hd
        · exact (hM.fm d hd).1.key
        · have : d = fg0 (key.take 2) := by simpa using hd
          rw [this]; exact hk2
      have hlen : (ak (s.take 5) ++ [fg0 (key.take 2), fg0 (key.take 2)]).length ≤ 7 := by rw [Q9]; simp only [List.length_cons, List.length_nil]; omega
      clear e
      generalize ak (s.take 5) ++ [fg0 (key.take 2), fg0 (key.take 2)] = FL at hG hkk hlen ⊢
      refine Wp.loopP (ι := Nat) (fun q => q ≤ FL.length ∧ ∀ x ∈ FL.take q, dd x = false) (fun q => fgS FL q) (fun q => FL.length - q) 0 ⟨Nat.zero_le _, fun x hx => by simp at hx⟩ ?_ ?_
      · exact Le.refl _
      · rintro q ⟨hq, hl⟩
        by_cases hi : q < FL.length
        · have hm : FL.getD (0 + (q : Int).toNat) default ∈ FL := by rw [Q19]; exact cg hi
          (repeat' (first
    | with_reducible refine Wp.seq ?_
    | with_reducible refine Wp.block ?_
    | ((with_reducible first | refine Wp.region ?_ | refine Wp.drawL ac ?_ | refine Wp.cond ?_ | refine Wp.ret ?_ | refine Wp.skip ?_ | refine Wp.exit ?_ | refine Go.mk ?_ | apply aA.of); conv => whnf)
    | with_reducible exact rfl
    | ((with_reducible refine Ov.ok zO ?_); conv => whnf)
    | (with_reducible refine Ov.sh1 (by with_unfolding_all exact rfl) ?_)
    | ((with_reducible refine Ov.quo (by omega) (by omega) (by omega) (fun _ _ => ?_)); conv => whnf)
    | ((with_reducible refine And.intro (show aj _ _ _ _ = true by kernel_rfl) ?_); conv => whnf)
    | ((with_reducible refine And.intro zC ?_); conv => whnf)
    | ((with_reducible refine And.intro ?hb ?_); (case hb => exact ae (zzb rfl) (by omega)); (conv => whnf))
    | ((refine af.a rfl rfl rfl rfl rfl rfl ?hb ?_); (case hb => exact zB); (conv => whnf))
    | ((refine af.b rfl rfl rfl rfl rfl rfl rfl rfl ?hb ?ho ?_); (case hb => exact zB); (case ho => omega); (conv => whnf))
    | ((refine af.c rfl rfl rfl rfl rfl ?hb ?_); (case hb => exact zB); (conv => whnf))
    | ((refine af.d rfl rfl rfl rfl rfl rfl ?hb ?ho ?_); (case hb => exact zB); (case ho => omega); (conv => whnf))
    | (with_reducible refine Or.inl ?_)
    | ((with_reducible refine nil_no (by omega) ?_); (conv => whnf))
    | ((with_reducible refine ag ?_ (fun hn0 => ?_)) <;> (conv => whnf))
    
    | ((refine aB (fun hc => ?_) (fun hc => ?_)) <;> (try simp only [decide_eq_true_eq, decide_eq_false_iff_not, Q5, Q20, Bool.and_eq_false_iff, Bool.or_eq_false_iff, Bool.not_eq_true', Bool.not_eq_false', beq_iff_eq, bne_iff_ne, ne_eq, beq_eq_false_iff_ne, bne_eq_false_iff_eq, Bool.not_eq_true, Bool.not_eq_false] at hc) <;> (try (exfalso; omega)) <;> (conv => whnf))))
          all_goals first
            | exact .b rfl
            | (refine ⟨q + 1, ⟨by omega, eP hi hl (by unfold dd; generalize FL.getD (0 + (q : Int).toNat) default = x at *; simp only [Bool.or_eq_false_iff, Bool.and_eq_false_iff, decide_eq_false_iff_not]; constructor <;> omega)⟩, by dsimp only; omega, ?_⟩
               (refine Le.by [0] rfl rfl rfl rfl ?_ ?_ <;> (conv => whnf) <;> (repeat' (first | exact trivial | exact ab.rfl rfl | exact ab.ptr rfl | exact ab.sl rfl | ((with_reducible refine ab.fn ?_); (conv => whnf)) | ((refine ab.iref ?_); (conv => whnf)) | exact ⟨rfl, rfl, rfl⟩ | exact fun i hi => rfl | ((with_reducible refine And.intro ?_ ?_) <;> (conv => whnf))))))
        · obtain rfl : q = FL.length := by omega
          rw [List.take_length] at hl
          have hg2 := hG hl
          have c1 := gG (ps := au) hkk (by omega)
          rw [hg2.1, hg2.2] at c1
          (repeat' (first
    | with_reducible refine Wp.seq ?_
    | with_reducible refine Wp.block ?_
    | ((with_reducible first | refine Wp.region ?_ | refine Wp.drawL ac ?_ | refine Wp.cond ?_ | refine Wp.ret ?_ | refine Wp.skip ?_ | refine Wp.exit ?_ | refine Go.mk ?_ | apply aA.of); conv => whnf)
    | with_reducible exact rfl
    | ((with_reducible refine Ov.ok zO ?_); conv => whnf)
    | (with_reducible refine Ov.sh1 (by with_unfolding_all exact rfl) ?_)
    | ((with_reducible refine Ov.quo (by omega) (by omega) (by omega) (fun _ _ => ?_)); conv => whnf)
    | ((with_reducible refine And.intro (show aj _ _ _ _ = true by kernel_rfl) ?_); conv => whnf)
    | ((with_reducible refine And.intro zC ?_); conv => whnf)
    | ((with_reducible refine And.intro ?hb ?_); (case hb => exact ae (zzb rfl) (by omega)); (conv => whnf))
    | ((refine af.a rfl rfl rfl rfl rfl rfl ?hb ?_); (case hb => exact zB); (conv => whnf))
    | ((refine af.b rfl rfl rfl rfl rfl rfl rfl rfl ?hb ?ho ?_); (case hb => exact zB); (case ho => omega); (conv => whnf))
    | ((refine af.c rfl rfl rfl rfl rfl ?hb ?_); (case hb => exact zB); (conv => whnf))
    | ((refine af.d rfl rfl rfl rfl rfl rfl ?hb ?ho ?_); (case hb => exact zB); (case ho => omega); (conv => whnf))
    | (with_reducible refine Or.inl ?_)
    | ((with_reducible refine nil_no (by omega) ?_); (conv => whnf))
    | ((with_reducible refine ag ?_ (fun hn0 => ?_)) <;> (conv => whnf))
    | ((with_reducible refine aa.pure (am) rfl rfl ?_); conv => whnf) | ((with_reducible refine ai.pure (am) rfl rfl ?_); conv => whnf)
    | ((refine aa.pureT c1 ?_); (conv => whnf); (refine And.intro (by omega) ?_); (refine And.intro ?hl ?_); (case hl => (exact .cons (.rfl _) (.cons (.rfl _) .nil))); (conv => whnf))
    | ((refine aB (fun hc => ?_) (fun hc => ?_)) <;> (try simp only [decide_eq_true_eq, decide_eq_false_iff_not, Q5, Q20, Bool.and_eq_false_iff, Bool.or_eq_false_iff, Bool.not_eq_true', Bool.not_eq_false', beq_iff_eq, bne_iff_ne, ne_eq, beq_eq_false_iff_ne, bne_eq_false_iff_eq, Bool.not_eq_true, Bool.not_eq_false] at hc) <;> (try (exfalso; omega)) <;> (conv => whnf))))
          exact .b rfl
  · have e : cj (how.tmod 4) (key.take 2) (ak (s.take 5)) = ak (s.take 5) ++ [fg1 (key.take 2)] := by unfold cj; rw [if_neg (by omega), if_pos hc]
    refine Wp.le (S' := fgS (ak (s.take 5) ++ [fg1 (key.take 2)]) 0) ?_ ?_
    · (refine Le.by [3] rfl rfl rfl rfl ?_ ?_ <;> ((conv => whnf); repeat' (first | exact trivial | exact law_argR (by decide) (fun l hl => by rcases l with _ | _ | _ | _ | l <;> first | exact ⟨zzb rfl, rfl⟩ | exact ⟨zzb rfl, rfl, rfl⟩ | omega) (fun q hq => by rcases q with _ | _ | _ | _ | _ | _ | _ | _ | _ | q <;> first | exact ⟨zzb rfl, rfl⟩ | omega) | exact law_argI (by decide) (by decide) (fun l hl => by rcases l with _ | _ | _ | _ | l <;> first | exact ⟨zzb rfl, rfl⟩ | exact ⟨zzb rfl, rfl, rfl⟩ | omega) (fun q hq => by rcases q with _ | _ | _ | _ | _ | _ | _ | _ | _ | q <;> first | exact ⟨zzb rfl, rfl⟩ | omega) | exact ab.rfl rfl | exact ab.ptr rfl | exact ab.sl rfl | exact ab.free SV.Le.any rfl | exact ⟨rfl, rfl, rfl⟩ | exact ⟨rfl, zzb rfl⟩ | exact x_argRA (by assumption) rfl | exact x_argA (by assumption) | exact fun i hi => rfl | exact app_rowI _ _ | ((with_reducible refine And.intro ?_ ?_) <;> (conv => whnf)))))
      all_goals first
        | exact ab.sl rfl
        | (rw [Q9]; exact ab.sl rfl)
        | rfl
        | (rw [Q9]; rfl)
        | (rw [Q9]; exact ab.free (.i rfl) rfl)
        | exact bo HD.D 13 (ak (s.take 5)) (fg1 (key.take 2)) _ rfl
        | exact e5 HD.D (ak (s.take 5)) (fg1 (key.take 2)) (fg1 (key.take 2)) _ rfl rfl
    · have hG := fun h => k9 hM (by show (ak (s.take 5)).length ≤ 5; exact hL5) hk2 hkl2 (how.tmod 4) h
      rw [show (aC (s.take 5) (s.take 5).length).l = ak (s.take 5) from rfl, e] at hG
      have hkk : ∀ d ∈ ak (s.take 5) ++ [fg1 (key.take 2)], IsB d.key := fun d hd => by
        rcases List.mem_append.1 hd with hd | hd
        · exact (hM.fm d hd).1.key
        · have : d = fg1 (key.take 2) := by simpa using hd
          rw [this]; exact hk2
      have hlen : (ak (s.take 5) ++ [fg1 (key.take 2)]).length ≤ 7 := by rw [Q9]; simp only [List.length_cons, List.length_nil]; omega
      clear e
      generalize ak (s.take 5) ++ [fg1 (key.take 2)] = FL at hG hkk hlen ⊢
      refine Wp.loopP (ι := Nat) (fun q => q ≤ FL.length ∧ ∀ x ∈ FL.take q, dd x = false) (fun q => fgS FL q) (fun q => FL.length - q) 0 ⟨Nat.zero_le _, fun x hx => by simp at hx⟩ ?_ ?_
      · exact Le.refl _
      · rintro q ⟨hq, hl⟩
        by_cases hi : q < FL.length
        · have hm : FL.getD (0 + (q : Int).toNat) default ∈ FL := by rw [Q19]; exact cg hi
          (repeat' (first
    | with_reducible refine Wp.seq ?_
    | with_reducible refine Wp.block ?_
    | ((with_reducible first | refine Wp.region ?_ | refine Wp.drawL ac ?_ | refine Wp.cond ?_ | refine Wp.ret ?_ | refine Wp.skip ?_ | refine Wp.exit ?_ | refine Go.mk ?_ | apply aA.of); conv => whnf)
    | with_reducible exact rfl
    | ((with_reducible refine Ov.ok zO ?_); conv => whnf)
    | (with_reducible refine Ov.sh1 (by with_unfolding_all exact rfl) ?_)
    | ((with_reducible refine Ov.quo (by omega) (by omega) (by omega) (fun _ _ => ?_)); conv => whnf)
    | ((with_reducible refine And.intro (show aj _ _ _ _ = true by kernel_rfl) ?_); conv => whnf)
    | ((with_reducible refine And.intro zC ?_); conv => whnf)
    | ((with_reducible refine And.intro ?hb ?_); (case hb => exact ae (zzb rfl) (by omega)); (conv => whnf))
    | ((refine af.a rfl rfl rfl rfl rfl rfl ?hb ?_); (case hb => exact zB); (conv => whnf))
    | ((refine af.b rfl rfl rfl rfl rfl rfl rfl rfl ?hb ?ho ?_); (case hb => exact zB); (case ho => omega); (conv => whnf))
    | ((refine af.c rfl rfl rfl rfl rfl ?hb ?_); (case hb => exact zB); (conv => whnf))
    | ((refine af.d rfl rfl rfl rfl rfl rfl ?hb ?ho ?_); (case hb => exact zB); (case ho => omega); (conv => whnf))
    | (with_reducible refine Or.inl ?_)
    | ((with_reducible refine nil_no (by omega) ?_); (conv => whnf))
    | ((with_reducible refine ag ?_ (fun hn0 => ?_)) <;> (conv => whnf))
    
    | ((refine aB (fun hc => ?_) (fun hc => ?_)) <;> (try simp only [decide_eq_true_eq, decide_eq_false_iff_not, Q5, Q20, Bool.and_eq_false_iff, Bool.or_eq_false_iff, Bool.not_eq_true', Bool.not_eq_false', beq_iff_eq, bne_iff_ne, ne_eq, beq_eq_false_iff_ne, bne_eq_false_iff_eq, Bool.not_eq_true, Bool.not_eq_false] at hc) <;> (try (exfalso; omega)) <;> (conv => whnf))))
          all_goals first
            | exact .b rfl
            | (refine ⟨q + 1, ⟨by omega, eP hi hl (by unfold dd; generalize FL.getD (0 + (q : Int).toNat) default = x at *; simp only [Bool.or_eq_false_iff, Bool.and_eq_false_iff, decide_eq_false_iff_not]; constructor <;> omega)⟩, by dsimp only; omega, ?_⟩
               (refine Le.by [0] rfl rfl rfl rfl ?_ ?_ <;> (conv => whnf) <;> (repeat' (first | exact trivial | exact ab.rfl rfl | exact ab.ptr rfl | exact ab.sl rfl | ((with_reducible refine ab.fn ?_); (conv => whnf)) | ((refine ab.iref ?_); (conv => whnf)) | exact ⟨rfl, rfl, rfl⟩ | exact fun i hi => rfl | ((with_reducible refine And.intro ?_ ?_) <;> (conv => whnf))))))
        · obtain rfl : q = FL.length := by omega
          rw [List.take_length] at hl
          have hg2 := hG hl
          have c1 := gG (ps := au) hkk (by omega)
          rw [hg2.1, hg2.2] at c1
          (repeat' (first
    | with_reducible refine Wp.seq ?_
    | with_reducible refine Wp.block ?_
    | ((with_reducible first | refine Wp.region ?_ | refine Wp.drawL ac ?_ | refine Wp.cond ?_ | refine Wp.ret ?_ | refine Wp.skip ?_ | refine Wp.exit ?_ | refine Go.mk ?_ | apply aA.of); conv => whnf)
    | with_reducible exact rfl
    | ((with_reducible refine Ov.ok zO ?_); conv => whnf)
    | (with_reducible refine Ov.sh1 (by with_unfolding_all exact rfl) ?_)
    | ((with_reducible refine Ov.quo (by omega) (by omega) (by omega) (fun _ _ => ?_)); conv => whnf)
    | ((with_reducible refine And.intro (show aj _ _ _ _ = true by kernel_rfl) ?_); conv => whnf)
    | ((with_reducible refine And.intro zC ?_); conv => whnf)
    | ((with_reducible refine And.intro ?hb ?_); (case hb => exact ae (zzb rfl) (by omega)); (conv => whnf))
    | ((refine af.a rfl rfl rfl rfl rfl rfl ?hb ?_); (case hb => exact zB); (conv => whnf))
    | ((refine af.b rfl rfl rfl rfl rfl rfl rfl rfl ?hb ?ho ?_); (case hb => exact zB); (case ho => omega); (conv => whnf))
    | ((refine af.c rfl rfl rfl rfl rfl ?hb ?_); (case hb => exact zB); (conv => whnf))
    | ((refine af.d rfl rfl rfl rfl rfl rfl ?hb ?ho ?_); (case hb => exact zB); (case ho => omega); (conv => whnf))
    | (with_reducible refine Or.inl ?_)
    | ((with_reducible refine nil_no (by omega) ?_); (conv => whnf))
    | ((with_reducible refine ag ?_ (fun hn0 => ?_)) <;> (conv => whnf))
    | ((with_reducible refine aa.pure (am) rfl rfl ?_); conv => whnf) | ((with_reducible refine ai.pure (am) rfl rfl ?_); conv => whnf)
    | ((refine aa.pureT c1 ?_); (conv => whnf); (refine And.intro (by omega) ?_); (refine And.intro ?hl ?_); (case hl => (exact .cons (.rfl _) (.cons (.rfl _) .nil))); (conv => whnf))
    | ((refine aB (fun hc => ?_) (fun hc => ?_)) <;> (try simp only [decide_eq_true_eq, decide_eq_false_iff_not, Q5, Q20, Bool.and_eq_false_iff, Bool.or_eq_false_iff, Bool.not_eq_true', Bool.not_eq_false', beq_iff_eq, bne_iff_ne, ne_eq, beq_eq_false_iff_ne, bne_eq_false_iff_eq, Bool.not_eq_true, Bool.not_eq_false] at hc) <;> (try (exfalso; omega)) <;> (conv => whnf))))
          exact .b rfl
  · have e : cj (how.tmod 4) (key.take 2) (ak (s.take 5)) = ak (s.take 5) ++ [fg2 (key.take 2)] := by unfold cj; rw [if_neg (by omega), if_neg (by omega), if_pos hc]
    refine Wp.le (S' := fgS (ak (s.take 5) ++ [fg2 (key.take 2)]) 0) ?_ ?_
    · (refine Le.by [3] rfl rfl rfl rfl ?_ ?_ <;> ((conv => whnf); repeat' (first | exact trivial | exact law_argR (by decide) (fun l hl => by rcases l with _ | _ | _ | _ | l <;> first | exact ⟨zzb rfl, rfl⟩ | exact ⟨zzb rfl, rfl, rfl⟩ | omega) (fun q hq => by rcases q with _ | _ | _ | _ | _ | _ | _ | _ | _ | q <;> first | exact ⟨zzb rfl, rfl⟩ | omega) | exact law_argI (by decide) (by decide) (fun l hl => by rcases l with _ | _ | _ | _ | l <;> first | exact ⟨zzb rfl, rfl⟩ | exact ⟨zzb rfl, rfl, rfl⟩ | omega) (fun q hq => by rcases q with _ | _ | _ | _ | _ | _ | _ | _ | _ | q <;> first | exact ⟨zzb rfl, rfl⟩ | omega) | exact ab.rfl rfl | exact ab.ptr rfl | exact ab.sl rfl | exact ab.free SV.Le.any rfl | exact ⟨rfl, rfl, rfl⟩ | exact ⟨rfl, zzb rfl⟩ | exact x_argRA (by assumption) rfl | exact x_argA (by assumption) | exact fun i hi => rfl | exact app_rowI _ _ | ((with_reducible refine And.intro ?_ ?_) <;> (conv => whnf)))))
      all_goals first
        | exact ab.sl rfl
        | (rw [Q9]; exact ab.sl rfl)
        | rfl
        | (rw [Q9]; rfl)
        | (rw [Q9]; exact ab.free (.i rfl) rfl)
        | exact bo HD.D 13 (ak (s.take 5)) (fg2 (key.take 2)) _ rfl
        | exact e5 HD.D (ak (s.take 5)) (fg2 (key.take 2)) (fg2 (key.take 2)) _ rfl rfl
    · have hG := fun h => k9 hM (by show (ak (s.take 5)).length ≤ 5; exact hL5) hk2 hkl2 (how.tmod 4) h
      rw [show (aC (s.take 5) (s.take 5).length).l = ak (s.take 5) from rfl, e] at hG
      have hkk : ∀ d ∈ ak (s.take 5) ++ [fg2 (key.take 2)], IsB d.key := fun d hd => by
        rcases List.mem_append.1 hd with hd | hd
        · exact (hM.fm d hd).1.key
        · have : d = fg2 (key.take 2) := by simpa using hd
          rw [this]; exact hk2
      have hlen : (ak (s.take 5) ++ [fg2 (key.take 2)]).length ≤ 7 := by rw [Q9]; simp only [List.length_cons, List.length_nil]; omega
      clear e
      generalize ak (s.take 5) ++ [fg2 (key.take 2)] = FL at hG hkk hlen ⊢
      refine Wp.loopP (ι := Nat) (fun q => q ≤ FL.length ∧ ∀ x ∈ FL.take q, dd x = false) (fun q => fgS FL q) (fun q => FL.length - q) 0 ⟨Nat.zero_le _, fun x hx => by simp at hx⟩ ?_ ?_
      · exact Le.refl _
      · rintro q ⟨hq, hl⟩
        by_cases hi : q < FL.length
        · have hm : FL.getD (0 + (q : Int).toNat) default ∈ FL := by rw [Q19]; exact cg hi
          (repeat' (first
    | with_reducible refine Wp.seq ?_
    | with_reducible refine Wp.block ?_
    | ((with_reducible first | refine Wp.region ?_ | refine Wp.drawL ac ?_ | refine Wp.cond ?_ | refine Wp.ret ?_ | refine Wp.skip ?_ | refine Wp.exit ?_ | refine Go.mk ?_ | apply aA.of); conv => whnf)
    | with_reducible exact rfl
    | ((with_reducible refine Ov.ok zO ?_); conv => whnf)
    | (with_reducible refine Ov.sh1 (by with_unfolding_all exact rfl) ?_)
    | ((with_reducible refine Ov.quo (by omega) (by omega) (by omega) (fun _ _ => ?_)); conv => whnf)
    | ((with_reducible refine And.intro (show aj _ _ _ _ = true by kernel_rfl) ?_); conv => whnf)
    | ((with_reducible refine And.intro zC ?_); conv => whnf)
    | ((with_reducible refine And.intro ?hb ?_); (case hb => exact ae (zzb rfl) (by omega)); (conv => whnf))
    | ((refine af.a rfl rfl rfl rfl rfl rfl ?hb ?_); (case hb => exact zB); (conv => whnf))
    | ((refine af.b rfl rfl rfl rfl rfl rfl rfl rfl ?hb ?ho ?_); (case hb => exact zB); (case ho => omega); (conv => whnf))
    | ((refine af.c rfl rfl rfl rfl rfl ?hb ?_); (case hb => exact zB); (conv => whnf))
    | ((refine af.d rfl rfl rfl rfl rfl rfl ?hb ?ho ?_); (case hb => exact zB); (case ho => omega); (conv => whnf))
    | (with_reducible refine Or.inl ?_)
    | ((with_reducible refine nil_no (by omega) ?_); (conv => whnf))
    | ((with_reducible refine ag ?_ (fun hn0 => ?_)) <;> (conv => whnf))
    
    | ((refine aB (fun hc => ?_) (fun hc => ?_)) <;> (try simp only [decide_eq_true_eq, decide_eq_false_iff_not, Q5, Q20, Bool.and_eq_false_iff, Bool.or_eq_false_iff, Bool.not_eq_true', Bool.not_eq_false', beq_iff_eq, bne_iff_ne, ne_eq, beq_eq_false_iff_ne, bne_eq_false_iff_eq, Bool.not_eq_true, Bool.not_eq_false] at hc) <;> (try (exfalso; omega)) <;> (conv => whnf))))
          all_goals first
            | exact .b rfl
            | (refine ⟨q + 1, ⟨by omega, eP hi hl (by unfold dd; generalize FL.getD (0 + (q : Int).toNat) default = x at *; simp only [Bool.or_eq_false_iff, Bool.and_eq_false_iff, decide_eq_false_iff_not]; constructor <;> omega)⟩, by dsimp only; omega, ?_⟩
               (refine Le.by [0] rfl rfl rfl rfl ?_ ?_ <;> (conv => whnf) <;> (repeat' (first | exact trivial | exact ab.rfl rfl | exact ab.ptr rfl | exact ab.sl rfl | ((with_reducible refine ab.fn ?_); (conv => whnf)) | ((refine ab.iref ?_); (conv => whnf)) | exact ⟨rfl, rfl, rfl⟩ | exact fun i hi => rfl | ((with_reducible refine And.intro ?_ ?_) <;> (conv => whnf))))))
        · obtain rfl : q = FL.length := by omega
          rw [List.take_length] at hl
          have hg2 := hG hl
          have c1 := gG (ps := au) hkk (by omega)
          rw [hg2.1, hg2.2] at c1
          (repeat' (first
    | with_reducible refine Wp.seq ?_
    | with_reducible refine Wp.block ?_
    | ((with_reducible first | refine Wp.region ?_ | refine Wp.drawL ac ?_ | refine Wp.cond ?_ | refine Wp.ret ?_ | refine Wp.skip ?_ | refine Wp.exit ?_ | refine Go.mk ?_ | apply aA.of); conv => whnf)
    | with_reducible exact rfl
    | ((with_reducible refine Ov.ok zO ?_); conv => whnf)
    | (with_reducible refine Ov.sh1 (by with_unfolding_all exact rfl) ?_)
    | ((with_reducible refine Ov.quo (by omega) (by omega) (by omega) (fun _ _ => ?_)); conv => whnf)
    | ((with_reducible refine And.intro (show aj _ _ _ _ = true by kernel_rfl) ?_); conv => whnf)
    | ((with_reducible refine And.intro zC ?_); conv => whnf)
    | ((with_reducible refine And.intro ?hb ?_); (case hb => exact ae (zzb rfl) (by omega)); (conv => whnf))
    | ((refine af.a rfl rfl rfl rfl rfl rfl ?hb ?_); (case hb => exact zB); (conv => whnf))
    | ((refine af.b rfl rfl rfl rfl rfl rfl rfl rfl ?hb ?ho ?_); (case hb => exact zB); (case ho => omega); (conv => whnf))
    | ((refine af.c rfl rfl rfl rfl rfl ?hb ?_); (case hb => exact zB); (conv => whnf))
    | ((refine af.d rfl rfl rfl rfl rfl rfl ?hb ?ho ?_); (case hb => exact zB); (case ho => omega); (conv => whnf))
    | (with_reducible refine Or.inl ?_)
    | ((with_reducible refine nil_no (by omega) ?_); (conv => whnf))
    | ((with_reducible refine ag ?_ (fun hn0 => ?_)) <;> (conv => whnf))
    | ((with_reducible refine aa.pure (am) rfl rfl ?_); conv => whnf) | ((with_reducible refine ai.pure (am) rfl rfl ?_); conv => whnf)
    | ((refine aa.pureT c1 ?_); (conv => whnf); (refine And.intro (by omega) ?_); (refine And.intro ?hl ?_); (case hl => (exact .cons (.rfl _) (.cons (.rfl _) .nil))); (conv => whnf))
    | ((refine aB (fun hc => ?_) (fun hc => ?_)) <;> (try simp only [decide_eq_true_eq, decide_eq_false_iff_not, Q5, Q20, Bool.and_eq_false_iff, Bool.or_eq_false_iff, Bool.not_eq_true', Bool.not_eq_false', beq_iff_eq, bne_iff_ne, ne_eq, beq_eq_false_iff_ne, bne_eq_false_iff_eq, Bool.not_eq_true, Bool.not_eq_false] at hc) <;> (try (exfalso; omega)) <;> (conv => whnf))))
          exact .b rfl
  · have e : cj (how.tmod 4) (key.take 2) (ak (s.take 5)) = ak (s.take 5) ++ [fg3 (key.take 2)] := by unfold cj; rw [if_neg (by omega), if_neg (by omega), if_neg (by omega)]
    refine Wp.le (S' := fgS (ak (s.take 5) ++ [fg3 (key.take 2)]) 0) ?_ ?_
    · (refine Le.by [3] rfl rfl rfl rfl ?_ ?_ <;> ((conv => whnf); repeat' (first | exact trivial | exact law_argR (by decide) (fun l hl => by rcases l with _ | _ | _ | _ | l <;> first | exact ⟨zzb rfl, rfl⟩ | exact ⟨zzb rfl, rfl, rfl⟩ | omega) (fun q hq => by rcases q with _ | _ | _ | _ | _ | _ | _ | _ | _ | q <;> first | exact ⟨zzb rfl, rfl⟩ | omega) | exact law_argI (by decide) (by decide) (fun l hl => by rcases l with _ | _ | _ | _ | l <;> first | exact ⟨zzb rfl, rfl⟩ | exact ⟨zzb rfl, rfl, rfl⟩ | omega) (fun q hq => by rcases q with _ | _ | _ | _ | _ | _ | _ | _ | _ | q <;> first | exact ⟨zzb rfl, rfl⟩ | omega) | exact ab.rfl rfl | exact ab.ptr rfl | exact ab.sl rfl | exact ab.free SV.Le.any rfl | exact ⟨rfl, rfl, rfl⟩ | exact ⟨rfl, zzb rfl⟩ | exact x_argRA (by assumption) rfl | exact x_argA (by assumption) | exact fun i hi => rfl | exact app_rowI _ _ | ((with_reducible refine And.intro ?_ ?_) <;> (conv => whnf)))))
      all_goals first
        | exact ab.sl rfl
        | (rw [Q9]; exact ab.sl rfl)
        | rfl
        | (rw [Q9]; rfl)
        | (rw [Q9]; exact ab.free (.i rfl) rfl)
        | exact bo HD.D 13 (ak (s.take 5)) (fg3 (key.take 2)) _ rfl
        | exact e5 HD.D (ak (s.take 5)) (fg3 (key.take 2)) (fg3 (key.take 2)) _ rfl rfl
    · have hG := fun h => k9 hM (by show (ak (s.take 5)).length ≤ 5; exact hL5) hk2 hkl2 (how.tmod 4) h
      rw [show (aC (s.take 5) (s.take 5).length).l = ak (s.take 5) from rfl, e] at hG
      have hkk : ∀ d ∈ ak (s.take 5) ++ [fg3 (key.take 2)], IsB d.key := fun d hd => by
        rcases List.mem_append.1 hd with hd | hd
        · exact (hM.fm d hd).1.key
        · have : d = fg3 (key.take 2) := by simpa using hd
          rw [this]; exact hk2
      have hlen : (ak (s.take 5) ++ [fg3 (key.take 2)]).length ≤ 7 := by rw [Q9]; simp only [List.length_cons, List.length_nil]; omega
      clear e
      generalize ak (s.take 5) ++ [fg3 (key.take 2)] = FL at hG hkk hlen ⊢
      refine Wp.loopP (ι := Nat) (fun q => q ≤ FL.length ∧ ∀ x ∈ FL.take q, dd x = false) (fun q => fgS FL q) (fun q => FL.length - q) 0 ⟨Nat.zero_le _, fun x hx => by simp at hx⟩ ?_ ?_
      · exact Le.refl _
      · rintro q ⟨hq, hl⟩
        by_cases hi : q < FL.length
        · have hm : FL.getD (0 + (q : Int).toNat) default ∈ FL := by rw [Q19]; exact cg hi
          (repeat' (first
    | with_reducible refine Wp.seq ?_
    | with_reducible refine Wp.block ?_
    | ((with_reducible first | refine Wp.region ?_ | refine Wp.drawL ac ?_ | refine Wp.cond ?_ | refine Wp.ret ?_ | refine Wp.skip ?_ | refine Wp.exit ?_ | refine Go.mk ?_ | apply aA.of); conv => whnf)
    | with_reducible exact rfl
    | ((with_reducible refine Ov.ok zO ?_); conv => whnf)
    | (with_reducible refine Ov.sh1 (by with_unfolding_all exact rfl) ?_)
    | ((with_reducible refine Ov.quo (by omega) (by omega) (by omega) (fun _ _ => ?_)); conv => whnf)
    | ((with_reducible refine And.intro (show aj _ _ _ _ = true by kernel_rfl) ?_); conv => whnf)
    | ((with_reducible refine And.intro zC ?_); conv => whnf)
    | ((with_reducible refine And.intro ?hb ?_); (case hb => exact ae (zzb rfl) (by omega)); (conv => whnf))
    | ((refine af.a rfl rfl rfl rfl rfl rfl ?hb ?_); (case hb => exact zB); (conv => whnf))
    | ((refine af.b rfl rfl rfl rfl rfl rfl rfl rfl ?hb ?ho ?_); (case hb => exact zB); (case ho => omega); (conv => whnf))
    | ((refine af.c rfl rfl rfl rfl rfl ?hb ?_); (case hb => exact zB); (conv => whnf))
    | ((refine af.d rfl rfl rfl rfl rfl rfl ?hb ?ho ?_); (case hb => exact zB); (case ho => omega); (conv => whnf))
    | (with_reducible refine Or.inl ?_)
    | ((with_reducible refine nil_no (by omega) ?_); (conv => whnf))
    | ((with_reducible refine ag ?_ (fun hn0 => ?_)) <;> (conv => whnf))
    
    | ((refine aB (fun hc => ?_) (fun hc => ?_)) <;> (try simp only [decide_eq_true_eq, decide_eq_false_iff_not, Q5, Q20, Bool.and_eq_false_iff, Bool.or_eq_false_iff, Bool.not_eq_true', Bool.not_eq_false', beq_iff_eq, bne_iff_ne, ne_eq, beq_eq_false_iff_ne, bne_eq_false_iff_eq, Bool.not_eq_true, Bool.not_eq_false] at hc) <;> (try (exfalso; omega)) <;> (conv => whnf))))
          all_goals first
            | exact .b rfl
            | (refine ⟨q + 1, ⟨by omega, eP hi hl (by unfold dd; generalize FL.getD (0 + (q : Int).toNat) default = x at *; simp only [Bool.or_eq_false_iff, Bool.and_eq_false_iff, decide_eq_false_iff_not]; constructor <;> omega)⟩, by dsimp only; omega, ?_⟩
               (refine Le.by [0] rfl rfl rfl rfl ?_ ?_ <;> (conv => whnf) <;> (repeat' (first | exact trivial | exact ab.rfl rfl | exact ab.ptr rfl | exact ab.sl rfl | ((with_reducible refine ab.fn ?_); (conv => whnf)) | ((refine ab.iref ?_); (conv => whnf)) | exact ⟨rfl, rfl, rfl⟩ | exact fun i hi => rfl | ((with_reducible refine And.intro ?_ ?_) <;> (conv => whnf))))))
        · obtain rfl : q = FL.length := by omega
          rw [List.take_length] at hl
          have hg2 := hG hl
          have c1 := gG (ps := au) hkk (by omega)
          rw [hg2.1, hg2.2] at c1
          (repeat' (first
    | with_reducible refine Wp.seq ?_
    | with_reducible refine Wp.block ?_
    | ((with_reducible first | refine Wp.region ?_ | refine Wp.drawL ac ?_ | refine Wp.cond ?_ | refine Wp.ret ?_ | refine Wp.skip ?_ | refine Wp.exit ?_ | refine Go.mk ?_ | apply aA.of); conv => whnf)
    | with_reducible exact rfl
    | ((with_reducible refine Ov.ok zO ?_); conv => whnf)
    | (with_reducible refine Ov.sh1 (by with_unfolding_all exact rfl) ?_)
    | ((with_reducible refine Ov.quo (by omega) (by omega) (by omega) (fun _ _ => ?_)); conv => whnf)
    | ((with_reducible refine And.intro (show aj _ _ _ _ = true by kernel_rfl) ?_); conv => whnf)
    | ((with_reducible refine And.intro zC ?_); conv => whnf)
    | ((with_reducible refine And.intro ?hb ?_); (case hb => exact ae (zzb rfl) (by omega)); (conv => whnf))
    | ((refine af.a rfl rfl rfl rfl rfl rfl ?hb ?_); (case hb => exact zB); (conv => whnf))
    | ((refine af.b rfl rfl rfl rfl rfl rfl rfl rfl ?hb ?ho ?_); (case hb => exact zB); (case ho => omega); (conv => whnf))
    | ((refine af.c rfl rfl rfl rfl rfl ?hb ?_); (case hb => exact zB); (conv => whnf))
    | ((refine af.d rfl rfl rfl rfl rfl rfl ?hb ?ho ?_); (case hb => exact zB); (case ho => omega); (conv => whnf))
    | (with_reducible refine Or.inl ?_)
    | ((with_reducible refine nil_no (by omega) ?_); (conv => whnf))
    | ((with_reducible refine ag ?_ (fun hn0 => ?_)) <;> (conv => whnf))
    | ((with_reducible refine aa.pure (am) rfl rfl ?_); conv => whnf) | ((with_reducible refine ai.pure (am) rfl rfl ?_); conv => whnf)
    | ((refine aa.pureT c1 ?_); (conv => whnf); (refine And.intro (by omega) ?_); (refine And.intro ?hl ?_); (case hl => (exact .cons (.rfl _) (.cons (.rfl _) .nil))); (conv => whnf))
    | ((refine aB (fun hc => ?_) (fun hc => ?_)) <;> (try simp only [decide_eq_true_eq, decide_eq_false_iff_not, Q5, Q20, Bool.and_eq_false_iff, Bool.or_eq_false_iff, Bool.not_eq_true', Bool.not_eq_false', beq_iff_eq, bne_iff_ne, ne_eq, beq_eq_false_iff_ne, bne_eq_false_iff_eq, Bool.not_eq_true, Bool.not_eq_false] at hc) <;> (try (exfalso; omega)) <;> (conv => whnf))))
          exact .b rfl
end Go.Proofs.Ytpdhdnhkhidmpaa
