/- Parts of the proof, one behind the other: Dr29, Br8. Lemmas and contracts of functions; no condition of its own. -/
import Derived.Test.YtbdclkjelhlfbaaGreatM13
import Derived.Lib.SmallJoins
import Derived.SizedLaws
import Derived.Deep.Slices
set_option linter.unusedVariables false
set_option linter.unusedSimpArgs false
set_option maxHeartbeats 1000000
namespace Go.Proofs.YtbdclkjelhlfbaaGreat
open Go.RowKit
set_option maxRecDepth 100000
theorem pk_at {script : List Pk} (hs : ∀ a ∈ script, a.ok) (j : Nat) : (script.getD j default).ok := by
  rw [List.getD_eq_getElem?_getD]
  cases e : script[j]? with
  | none => exact ⟨by decide, by decide, fun x hx => absurd hx (by simp [default, instInhabitedPk.default]), by decide⟩
  | some a => exact hs a (List.mem_of_getElem? e)
structure Fit (p : Pk) (w : Nat) : Prop where
  who : p.who = w
  w5 : w < 5
  op0 : 0 ≤ p.op
  op4 : p.op ≤ 4
  len : p.key.length ≤ 3
  b : IsB p.key
  v : tickB p.val = true
theorem fit_fit {p : Pk} (h : p.ok) : ∃ w, Fit (fitP p) w := by
  obtain ⟨⟨b1, b2⟩, b3, b4, b5, b6⟩ := fitP_bd h
  have hu : 0 ≤ (IntKind.u64.wrap p.who) % 5 ∧ (IntKind.u64.wrap p.who) % 5 < 5 := by omega
  refine ⟨(fitP p).who.toNat, ?_, ?_, b1, b2, b3, b4, by simp [tickB]; omega⟩
  · simp only [fitP]; omega
  · simp only [fitP]; omega
theorem Hn_le {k : Nat} {M : Dir.Mc} (h : ∀ w, Dir.Hn k (M.Hd w)) (hk : k ≤ 100000) : ∀ w, Dir.Hn 100000 (M.Hd w) := fun w => (h w).mono hk
theorem LawE.entries {k : Nat} {M : Dir.Mc} {cs : Nat → Dir.CS} {nl : Nat} {cnt : Int} (h : LawE k M cs nl cnt) (hk : k ≤ 100000) (f : Nat → List D) (clk : Int) :
    Fun TC 31 5 [.ptr 0 0] (dirH (gOf cs) M nl f clk cnt) 5 (.d (slOf 2 entD (Dir.ents M))) (dirH (gOf cs) M nl f clk cnt) :=
  law_entries (gOf_lt cs) M nl f clk cnt h.s.inv.iw.d.1 h.s.inv.iw.d.2 (Hn_le h.s.hd hk) h.s.inv.iw h.ih h.kh
theorem ents_ext {M M' : Dir.Mc} {B B' : Int} (h : Dir.Iw M.W B) (hI : Dir.Ih M) (h' : Dir.Iw M'.W B') (hI' : Dir.Ih M') (e : ∀ q, Dir.own M' q = Dir.own M q) : Dir.ents M' = Dir.ents M := by
  obtain ⟨a1, a2⟩ := Dir.ents_ok h hI
  obtain ⟨b1, b2⟩ := Dir.ents_ok h' hI'
  exact Dir.srt_ext b1 a1 fun q => by rw [b2, a2, e]
theorem ents_len {M : Dir.Mc} (h0 : 0 ≤ M.W 0) (h8 : M.W 0 ≤ 8) (hH : ∀ w, (M.Hd w).length ≤ 30000) : (Dir.ents M).length ≤ 960000 := by
  show (Dir.sortE (Dir.allE M)).length ≤ _
  rw [(Dir.sortE_perm (Dir.allE M)).length_eq, ← Dir.allE_eq]
  have h2 : (Dir.allL M).flatten.length ≤ (Dir.allL M).length * 30000 := flat_len fun l hl => by
    obtain ⟨i, _, hi⟩ := List.mem_flatMap.1 hl
    exact part_short hH hi
  have h3 := parts_len M (2 ^ Dir.lvl M)
  have h4 : 2 ^ Dir.lvl M ≤ 2 ^ 4 := Nat.pow_le_pow_right (by omega) (by unfold Dir.lvl; omega)
  have h5 : (Dir.allL M).length ≤ 32 := by
    show ((List.range (2 ^ Dir.lvl M)).flatMap (Dir.partL M)).length ≤ 32
    omega
  have h6 : (Dir.allL M).length * 30000 ≤ 32 * 30000 := Nat.mul_le_mul_right _ h5
  omega
set_option maxHeartbeats 8000000 in
theorem DirAlone_holds (script : List Pk) (hs : ∀ a ∈ script, a.ok) (last : Pk) (hl : last.ok) : Pure TC 7 [.d (slOf 4 Pk.D script), last.S] (.b true) := by
  refine Pure.lens (.mk Tryz.func7 rfl rfl) fun hlen => ?_
  have hl0 := hlen script.length (by simp [lensOf, slOf])
  clear hlen
  refine Pure.mk' Tryz.func7 rfl rfl (Nat.le_of_ble_eq_true rfl) ?_
  (repeat' (first
    | with_reducible refine Wp.seq ?_
    | with_reducible refine Wp.block ?_
    | ((with_reducible first | refine Wp.region ?_ | refine Wp.drawL TC_mixed ?_ | refine Wp.cond ?_ | refine Wp.ret ?_ | refine Wp.skip ?_ | refine Wp.exit ?_ | refine Go.mk ?_ | apply Eff1.of); conv => whnf)
    | with_reducible exact rfl
    | ((with_reducible refine Ov.ok zO ?_); conv => whnf)
    | (with_reducible refine Ov.sh1 (by with_unfolding_all exact rfl) ?_)
    | ((with_reducible refine Ov.quo (by omega) (by omega) (by omega) (fun _ _ => ?_)); conv => whnf)
    | ((with_reducible refine And.intro (show drawOK _ _ _ _ = true by kernel_rfl) ?_); conv => whnf)
    | ((with_reducible refine And.intro zC ?_); conv => whnf)
    | ((with_reducible refine And.intro ?hb ?_); (case hb => exact bytes_bd (Nat.le_of_ble_eq_true rfl) (by omega)); (conv => whnf))
    | ((refine DApp.a rfl rfl rfl rfl rfl rfl ?hb ?_); (case hb => exact zB); (conv => whnf))
    | ((refine DApp.b rfl rfl rfl rfl rfl rfl rfl rfl ?hb ?ho ?_); (case hb => exact zB); (case ho => omega); (conv => whnf))
    | ((refine DApp.c rfl rfl rfl rfl rfl ?hb ?_); (case hb => exact zB); (conv => whnf))
    | ((refine DApp.d rfl rfl rfl rfl rfl rfl ?hb ?ho ?_); (case hb => exact zB); (case ho => omega); (conv => whnf))
    | ((with_reducible refine nil_no (by omega) ?_); (conv => whnf))
    | ((with_reducible refine nil_any ?_ (fun hn0 => ?_)) <;> (conv => whnf))
    | ((with_reducible refine CallStop.pure (awake_T) rfl rfl ?_); conv => whnf) | ((with_reducible refine DCall.pure (awake_T) rfl rfl ?_); conv => whnf)
    | ((refine CallStop.fn (law_New) [] rfl rfl rfl rfl rfl ?ha ?hh ?_); (case ha => exact zA); (case hh => exact zH); (conv => whnf))
    | ((refine DCall.fn (law_New) [] [] rfl rfl rfl rfl rfl ?ha ?hh ?hs ?_); (case ha => exact zA); (case hh => exact zH); (case hs => exact zK); (conv => whnf)) | ((refine DCall.new (law_New) [] [] rfl rfl rfl rfl rfl rfl ?ha ?hh ?hs ?_); (case ha => exact zA); (case hh => exact zH); (case hs => exact zK); (conv => whnf))
    | ((refine ways (fun hc => ?_) (fun hc => ?_)) <;> (try simp only [decide_eq_true_eq, decide_eq_false_iff_not, Bool.and_eq_true, Bool.or_eq_true, Bool.and_eq_false_iff, Bool.or_eq_false_iff, Bool.not_eq_true', Bool.not_eq_false', beq_iff_eq, bne_iff_ne, ne_eq, beq_eq_false_iff_ne, bne_eq_false_iff_eq, Bool.not_eq_true, Bool.not_eq_false] at hc) <;> (try (exfalso; omega)) <;> (conv => whnf))))
  refine Wp.loopP (ι := Nat × Nat × Dst)
    (fun k => k.1 ≤ script.length ∧ k.1 ≤ 300 ∧ k.2.1 ≤ k.1 ∧ LawE k.2.1 k.2.2.M k.2.2.cs k.2.2.nl ((k.2.1 : Int) + 1) ∧ ∀ j, 5 ≤ j → k.2.2.cs j = .none)
    (fun k => ⟨⟨Tryz.f7.ntmps, 0⟩, 6, [(3, .ptr 5 0), (5, .ptr 0 0), (18, .d (slOf 4 Pk.D script)), (19, .i .i64 script.length), (20, .i .i64 k.1)], dirH (gOf k.2.2.cs) k.2.2.M k.2.2.nl k.2.2.f 0 ((k.2.1 : Int) + 1) ++ [(5, some (.cells [.i .i64 last.who, .i .u8 last.op, .d (slOf 1 (encI .u8) last.key), .i .i64 last.val]))]⟩)
    (fun k => script.length - k.1) (0, 0, ⟨Dir.M0, fun _ => .none, noteN 0, noteF 0 (fun _ => []) (accD 0 2 1 0 1 true)⟩)
    ⟨Nat.zero_le _, Nat.zero_le _, Nat.le_refl _, LawE.zero, fun _ _ => rfl⟩ ?_ ?_
  · (refine Le.by [1, 2, 3, 4, 5, 0] rfl rfl rfl rfl ?_ ?_ <;> (conv => whnf) <;> (repeat' (first | exact trivial | exact ArgLe.rfl rfl | exact ArgLe.ptr rfl | exact ArgLe.sl rfl | exact dir_argP rfl rfl rfl rfl | exact ⟨rfl, rfl, rfl⟩ | exact ⟨rfl, Nat.le_of_ble_eq_true rfl⟩ | exact fun i hi => rfl | ((with_reducible refine And.intro ?_ ?_) <;> (conv => whnf)))))
  · rintro ⟨i, k, ⟨M, cs, nl, f⟩⟩ ⟨h1, h2, h3, h4, h5⟩
    dsimp only at h1 h2 h3 h4 h5 ⊢
    have hok := pk_at hs (i : Int).toNat
    have hfit := law_fit _ hok
    obtain ⟨w, hw⟩ := fit_fit hok
    generalize fitP (script.getD (i : Int).toNat default) = p at hfit hw
    obtain ⟨pw, pop, pk, pv⟩ := p
    obtain ⟨w0, w5, o0, o4, kl, kb, kv⟩ := hw
    dsimp only at w0 o0 o4 kl kb kv
    subst w0
    by_cases hi : i < script.length ∧ i < 300
    · by_cases hop : pop = 0
      · subst hop
        cases hc : isC (cs w) with
        | true =>
          obtain ⟨a, hS⟩ := law_Step (f := f) (clk := 0) h4.s (by omega) w (by omega) hc
          have hN := h4.step (by omega) (isC_ne hc)
          have hoth : ∀ j, 5 ≤ j → Dir.upd cs w (Dir.step dirOps M (cs w)).2.1 j = .none := fun j hj => by rw [Dir.upd_ne _ _ (by omega)]; exact h5 j hj
          have hcnt : ((k + 1 : Nat) : Int) + 1 = (k : Int) + 1 + 1 := by omega
          rw [← hcnt] at hN
          generalize Dir.step dirOps M (cs w) = Q at hS hN hoth
          obtain ⟨M', s', r⟩ := Q
          dsimp only at hS hN hoth
          generalize Dir.upd cs w s' = cs' at hS hN hoth
          (repeat' (first
    | with_reducible refine Wp.seq ?_
    | with_reducible refine Wp.block ?_
    | ((with_reducible first | refine Wp.region ?_ | refine Wp.drawL TC_mixed ?_ | refine Wp.cond ?_ | refine Wp.ret ?_ | refine Wp.skip ?_ | refine Wp.exit ?_ | refine Go.mk ?_ | apply Eff1.of); conv => whnf)
    | with_reducible exact rfl
    | ((with_reducible refine Ov.ok zO ?_); conv => whnf)
    | (with_reducible refine Ov.sh1 (by with_unfolding_all exact rfl) ?_)
    | ((with_reducible refine Ov.quo (by omega) (by omega) (by omega) (fun _ _ => ?_)); conv => whnf)
    | ((with_reducible refine And.intro (show drawOK _ _ _ _ = true by kernel_rfl) ?_); conv => whnf)
    | ((with_reducible refine And.intro zC ?_); conv => whnf)
    | ((with_reducible refine And.intro ?hb ?_); (case hb => exact bytes_bd (Nat.le_of_ble_eq_true rfl) (by omega)); (conv => whnf))
    | ((refine DApp.a rfl rfl rfl rfl rfl rfl ?hb ?_); (case hb => exact zB); (conv => whnf))
    | ((refine DApp.b rfl rfl rfl rfl rfl rfl rfl rfl ?hb ?ho ?_); (case hb => exact zB); (case ho => omega); (conv => whnf))
    | ((refine DApp.c rfl rfl rfl rfl rfl ?hb ?_); (case hb => exact zB); (conv => whnf))
    | ((refine DApp.d rfl rfl rfl rfl rfl rfl ?hb ?ho ?_); (case hb => exact zB); (case ho => omega); (conv => whnf))
    | ((with_reducible refine nil_no (by omega) ?_); (conv => whnf))
    | ((with_reducible refine nil_any ?_ (fun hn0 => ?_)) <;> (conv => whnf))
    | ((with_reducible refine CallStop.pure (hfit) rfl rfl ?_); conv => whnf) | ((with_reducible refine DCall.pure (hfit) rfl rfl ?_); conv => whnf)
    | ((apply CallStop.fn5 (h := hS)); (case hh => exact zG); (case ha => exact zA); (case hd => exact rfl); (case hlive => exact rfl); (case hkeys => exact rfl); (case hlt => exact rfl); (conv => whnf))
    | ((refine ways (fun hc => ?_) (fun hc => ?_)) <;> (try simp only [decide_eq_true_eq, decide_eq_false_iff_not, Bool.and_eq_true, Bool.or_eq_true, Bool.and_eq_false_iff, Bool.or_eq_false_iff, Bool.not_eq_true', Bool.not_eq_false', beq_iff_eq, bne_iff_ne, ne_eq, beq_eq_false_iff_ne, bne_eq_false_iff_eq, Bool.not_eq_true, Bool.not_eq_false] at hc) <;> (try (exfalso; omega)) <;> (conv => whnf))))
          refine ⟨(i + 1, k + 1, ⟨M', cs', noteN nl, noteF nl f a⟩), ⟨by dsimp only; omega, by dsimp only; omega, by dsimp only; omega, hN, hoth⟩, by dsimp only; omega, ?_⟩
          dsimp only
          rw [hcnt]
          (refine Le.by [0,1,2,3,7,5] rfl rfl rfl rfl ?_ ?_ <;> (conv => whnf) <;> (repeat' (first | exact trivial | exact ArgLe.rfl rfl | exact ArgLe.ptr rfl | exact ArgLe.sl rfl | exact dir_arg4 | exact dir_argR4 (fun l hl => by rcases l with _ | _ | _ | _ | l <;> first | rfl | omega) | exact ⟨rfl, rfl, rfl⟩ | exact ⟨rfl, Nat.le_of_ble_eq_true rfl⟩ | exact fun i hi => rfl | ((with_reducible refine And.intro ?_ ?_) <;> (conv => whnf)))))
        | false =>
          have hS := law_StepNone (M := M) (nl := nl) (f := f) (clk := 0) (cnt := (k : Int) + 1) w (by omega) hc
          (repeat' (first
    | with_reducible refine Wp.seq ?_
    | with_reducible refine Wp.block ?_
    | ((with_reducible first | refine Wp.region ?_ | refine Wp.drawL TC_mixed ?_ | refine Wp.cond ?_ | refine Wp.ret ?_ | refine Wp.skip ?_ | refine Wp.exit ?_ | refine Go.mk ?_ | apply Eff1.of); conv => whnf)
    | with_reducible exact rfl
    | ((with_reducible refine Ov.ok zO ?_); conv => whnf)
    | (with_reducible refine Ov.sh1 (by with_unfolding_all exact rfl) ?_)
    | ((with_reducible refine Ov.quo (by omega) (by omega) (by omega) (fun _ _ => ?_)); conv => whnf)
    | ((with_reducible refine And.intro (show drawOK _ _ _ _ = true by kernel_rfl) ?_); conv => whnf)
    | ((with_reducible refine And.intro zC ?_); conv => whnf)
    | ((with_reducible refine And.intro ?hb ?_); (case hb => exact bytes_bd (Nat.le_of_ble_eq_true rfl) (by omega)); (conv => whnf))
    | ((refine DApp.a rfl rfl rfl rfl rfl rfl ?hb ?_); (case hb => exact zB); (conv => whnf))
    | ((refine DApp.b rfl rfl rfl rfl rfl rfl rfl rfl ?hb ?ho ?_); (case hb => exact zB); (case ho => omega); (conv => whnf))
    | ((refine DApp.c rfl rfl rfl rfl rfl ?hb ?_); (case hb => exact zB); (conv => whnf))
    | ((refine DApp.d rfl rfl rfl rfl rfl rfl ?hb ?ho ?_); (case hb => exact zB); (case ho => omega); (conv => whnf))
    | ((with_reducible refine nil_no (by omega) ?_); (conv => whnf))
    | ((with_reducible refine nil_any ?_ (fun hn0 => ?_)) <;> (conv => whnf))
    | ((with_reducible refine CallStop.pure (hfit) rfl rfl ?_); conv => whnf) | ((with_reducible refine DCall.pure (hfit) rfl rfl ?_); conv => whnf)
    | ((apply CallStop.fn5 (h := hS)); (case hh => exact zG); (case ha => exact zA); (case hd => exact rfl); (case hlive => exact rfl); (case hkeys => exact rfl); (case hlt => exact rfl); (conv => whnf))
    | ((refine ways (fun hc => ?_) (fun hc => ?_)) <;> (try simp only [decide_eq_true_eq, decide_eq_false_iff_not, Bool.and_eq_true, Bool.or_eq_true, Bool.and_eq_false_iff, Bool.or_eq_false_iff, Bool.not_eq_true', Bool.not_eq_false', beq_iff_eq, bne_iff_ne, ne_eq, beq_eq_false_iff_ne, bne_eq_false_iff_eq, Bool.not_eq_true, Bool.not_eq_false] at hc) <;> (try (exfalso; omega)) <;> (conv => whnf))))
          refine ⟨(i + 1, k, ⟨M, cs, nl, f⟩), ⟨by dsimp only; omega, by dsimp only; omega, by dsimp only; omega, h4, h5⟩, by dsimp only; omega, ?_⟩
          dsimp only
          (refine Le.by [0,1,2,3,4,5] rfl rfl rfl rfl ?_ ?_ <;> (conv => whnf) <;> (repeat' (first | exact trivial | exact ArgLe.rfl rfl | exact ArgLe.ptr rfl | exact ArgLe.sl rfl | exact dir_arg4 | exact dir_argR4 (fun l hl => by rcases l with _ | _ | _ | _ | l <;> first | rfl | omega) | exact ⟨rfl, rfl, rfl⟩ | exact ⟨rfl, Nat.le_of_ble_eq_true rfl⟩ | exact fun i hi => rfl | ((with_reducible refine And.intro ?_ ?_) <;> (conv => whnf)))))
      · cases hc : isC (cs w) with
        | true =>
          have hS := law_StartBusy (M := M) (nl := nl) (f := f) (clk := 0) (cnt := (k : Int) + 1) w (by omega) pop pk pv (by omega) o4 (by omega) kv hc
          (repeat' (first
    | with_reducible refine Wp.seq ?_
    | with_reducible refine Wp.block ?_
    | ((with_reducible first | refine Wp.region ?_ | refine Wp.drawL TC_mixed ?_ | refine Wp.cond ?_ | refine Wp.ret ?_ | refine Wp.skip ?_ | refine Wp.exit ?_ | refine Go.mk ?_ | apply Eff1.of); conv => whnf)
    | with_reducible exact rfl
    | ((with_reducible refine Ov.ok zO ?_); conv => whnf)
    | (with_reducible refine Ov.sh1 (by with_unfolding_all exact rfl) ?_)
    | ((with_reducible refine Ov.quo (by omega) (by omega) (by omega) (fun _ _ => ?_)); conv => whnf)
    | ((with_reducible refine And.intro (show drawOK _ _ _ _ = true by kernel_rfl) ?_); conv => whnf)
    | ((with_reducible refine And.intro zC ?_); conv => whnf)
    | ((with_reducible refine And.intro ?hb ?_); (case hb => exact bytes_bd (Nat.le_of_ble_eq_true rfl) (by omega)); (conv => whnf))
    | ((refine DApp.a rfl rfl rfl rfl rfl rfl ?hb ?_); (case hb => exact zB); (conv => whnf))
    | ((refine DApp.b rfl rfl rfl rfl rfl rfl rfl rfl ?hb ?ho ?_); (case hb => exact zB); (case ho => omega); (conv => whnf))
    | ((refine DApp.c rfl rfl rfl rfl rfl ?hb ?_); (case hb => exact zB); (conv => whnf))
    | ((refine DApp.d rfl rfl rfl rfl rfl rfl ?hb ?ho ?_); (case hb => exact zB); (case ho => omega); (conv => whnf))
    | ((with_reducible refine nil_no (by omega) ?_); (conv => whnf))
    | ((with_reducible refine nil_any ?_ (fun hn0 => ?_)) <;> (conv => whnf))
    | ((with_reducible refine CallStop.pure (hfit) rfl rfl ?_); conv => whnf) | ((with_reducible refine DCall.pure (hfit) rfl rfl ?_); conv => whnf)
    | ((apply CallStop.fn5 (h := hS)); (case hh => exact zG); (case ha => exact zA); (case hd => exact rfl); (case hlive => exact rfl); (case hkeys => exact rfl); (case hlt => exact rfl); (conv => whnf))
    | ((refine ways (fun hc => ?_) (fun hc => ?_)) <;> (try simp only [decide_eq_true_eq, decide_eq_false_iff_not, Bool.and_eq_true, Bool.or_eq_true, Bool.and_eq_false_iff, Bool.or_eq_false_iff, Bool.not_eq_true', Bool.not_eq_false', beq_iff_eq, bne_iff_ne, ne_eq, beq_eq_false_iff_ne, bne_eq_false_iff_eq, Bool.not_eq_true, Bool.not_eq_false] at hc) <;> (try (exfalso; omega)) <;> (conv => whnf))))
          refine ⟨(i + 1, k, ⟨M, cs, nl, f⟩), ⟨by dsimp only; omega, by dsimp only; omega, by dsimp only; omega, h4, h5⟩, by dsimp only; omega, ?_⟩
          dsimp only
          (refine Le.by [0,1,2,3,4,5] rfl rfl rfl rfl ?_ ?_ <;> (conv => whnf) <;> (repeat' (first | exact trivial | exact ArgLe.rfl rfl | exact ArgLe.ptr rfl | exact ArgLe.sl rfl | exact dir_arg4 | exact dir_argR4 (fun l hl => by rcases l with _ | _ | _ | _ | l <;> first | rfl | omega) | exact ⟨rfl, rfl, rfl⟩ | exact ⟨rfl, Nat.le_of_ble_eq_true rfl⟩ | exact fun i hi => rfl | ((with_reducible refine And.intro ?_ ?_) <;> (conv => whnf)))))
        | false =>
          have hS := law_Start (M := M) (nl := nl) (f := f) (clk := 0) (cnt := (k : Int) + 1) w (by omega) pop pk pv (by omega) o4 (by omega) kv (isC_no hc)
          have hN := h4.start w pop pk pv kb ⟨by omega, o4⟩ (by omega)
          have hoth : ∀ j, 5 ≤ j → Dir.upd cs w (startS pop pk pv) j = .none := fun j hj => by rw [Dir.upd_ne _ _ (by omega)]; exact h5 j hj
          generalize Dir.upd cs w (startS pop pk pv) = cs' at hS hN hoth
          (repeat' (first
    | with_reducible refine Wp.seq ?_
    | with_reducible refine Wp.block ?_
    | ((with_reducible first | refine Wp.region ?_ | refine Wp.drawL TC_mixed ?_ | refine Wp.cond ?_ | refine Wp.ret ?_ | refine Wp.skip ?_ | refine Wp.exit ?_ | refine Go.mk ?_ | apply Eff1.of); conv => whnf)
    | with_reducible exact rfl
    | ((with_reducible refine Ov.ok zO ?_); conv => whnf)
    | (with_reducible refine Ov.sh1 (by with_unfolding_all exact rfl) ?_)
    | ((with_reducible refine Ov.quo (by omega) (by omega) (by omega) (fun _ _ => ?_)); conv => whnf)
    | ((with_reducible refine And.intro (show drawOK _ _ _ _ = true by kernel_rfl) ?_); conv => whnf)
    | ((with_reducible refine And.intro zC ?_); conv => whnf)
    | ((with_reducible refine And.intro ?hb ?_); (case hb => exact bytes_bd (Nat.le_of_ble_eq_true rfl) (by omega)); (conv => whnf))
    | ((refine DApp.a rfl rfl rfl rfl rfl rfl ?hb ?_); (case hb => exact zB); (conv => whnf))
    | ((refine DApp.b rfl rfl rfl rfl rfl rfl rfl rfl ?hb ?ho ?_); (case hb => exact zB); (case ho => omega); (conv => whnf))
    | ((refine DApp.c rfl rfl rfl rfl rfl ?hb ?_); (case hb => exact zB); (conv => whnf))
    | ((refine DApp.d rfl rfl rfl rfl rfl rfl ?hb ?ho ?_); (case hb => exact zB); (case ho => omega); (conv => whnf))
    | ((with_reducible refine nil_no (by omega) ?_); (conv => whnf))
    | ((with_reducible refine nil_any ?_ (fun hn0 => ?_)) <;> (conv => whnf))
    | ((with_reducible refine CallStop.pure (hfit) rfl rfl ?_); conv => whnf) | ((with_reducible refine DCall.pure (hfit) rfl rfl ?_); conv => whnf)
    | ((apply CallStop.fn5 (h := hS)); (case hh => exact zG); (case ha => exact zA); (case hd => exact rfl); (case hlive => exact rfl); (case hkeys => exact rfl); (case hlt => exact rfl); (conv => whnf))
    | ((refine ways (fun hc => ?_) (fun hc => ?_)) <;> (try simp only [decide_eq_true_eq, decide_eq_false_iff_not, Bool.and_eq_true, Bool.or_eq_true, Bool.and_eq_false_iff, Bool.or_eq_false_iff, Bool.not_eq_true', Bool.not_eq_false', beq_iff_eq, bne_iff_ne, ne_eq, beq_eq_false_iff_ne, bne_eq_false_iff_eq, Bool.not_eq_true, Bool.not_eq_false] at hc) <;> (try (exfalso; omega)) <;> (conv => whnf))))
          refine ⟨(i + 1, k, ⟨M, cs', nl, f⟩), ⟨by dsimp only; omega, by dsimp only; omega, by dsimp only; omega, hN, hoth⟩, by dsimp only; omega, ?_⟩
          dsimp only
          (refine Le.by [0,1,2,3,4,5] rfl rfl rfl rfl ?_ ?_ <;> (conv => whnf) <;> (repeat' (first | exact trivial | exact ArgLe.rfl rfl | exact ArgLe.ptr rfl | exact ArgLe.sl rfl | exact dir_arg4 | exact dir_argR4 (fun l hl => by rcases l with _ | _ | _ | _ | l <;> first | rfl | omega) | exact ⟨rfl, rfl, rfl⟩ | exact ⟨rfl, Nat.le_of_ble_eq_true rfl⟩ | exact fun i hi => rfl | ((with_reducible refine And.intro ?_ ?_) <;> (conv => whnf)))))
    · clear hs hok hfit
      have hfitL := law_fit _ hl
      obtain ⟨wl, hwl⟩ := fit_fit hl
      generalize fitP last = q at hfitL hwl
      obtain ⟨qw, qop, qk, qv⟩ := q
      obtain ⟨w0', w5', o0', o4', kl', kb', kv'⟩ := hwl
      dsimp only at w0' o0' o4' kl' kb' kv'
      have hfitL : Pure TC 34 [.agg [.i .i64 last.who, .i .u8 last.op, .d (slOf 1 (encI .u8) last.key), .i .i64 last.val]] (.agg [.i .i64 qw, .i .u8 qop, .d (slOf 1 (encI .u8) qk), .i .i64 qv]) := hfitL
      have hm : qop.tmod 4 = qop % 4 := Int.tmod_eq_emod_of_nonneg o0'
      have hE1 := h4.entries (by omega) f 0
      obtain ⟨u1, u2⟩ := Dir.ents_ok h4.s.inv.iw h4.ih
      have hel := ents_len h4.s.inv.iw.d.1 h4.s.inv.iw.d.2 (fun w => by have := (h4.s.hd w).1; omega)
      have hLv := law_Level h4.s f 0
      have hc9 := h5 9 (by omega)
      obtain ⟨op', hop'⟩ : ∃ op', op' = 1 + qop.tmod 4 := ⟨_, rfl⟩
      have ob : 1 ≤ op' ∧ op' ≤ 4 := by omega
      have hme : Dir.upd cs 9 (startS op' qk qv) 9 = startS op' qk qv := Dir.upd_same _ _ _
      have hN := h4.start 9 op' qk qv kb' ob (by omega)
      obtain ⟨n, hn, tr, rs, A⟩ := alone 9 (by omega) 0 53 k ⟨M, Dir.upd cs 9 (startS op' qk qv), nl, f⟩ (Dir.T_le (hN.s.inv.cw 9)) (by show Dir.upd cs 9 (startS op' qk qv) 9 ≠ .none; rw [hme]; exact isC_ne (startS_is _ _ _)) (by omega) hN
      have hR := law_run (w := 9) (k := k) (by omega) (s := ⟨M, cs, nl, f⟩) hc9 op' qk qv ob.1 ob.2 (by omega) kb' kv' 128 (by omega) (by omega) (by omega) A hn
      have hLn := A.law n (Nat.le_refl _)
      have hcn : ((k + n : Nat) : Int) + 1 = (k : Int) + n + 1 := by omega
      rw [← hcn] at hLn hR
      have hE2 := hLn.entries (by omega) (tr n).f 0
      have heff := A.eff
      rw [show (Dst.mk M (Dir.upd cs 9 (startS op' qk qv)) nl f).cs 9 = startS op' qk qv from hme] at heff
      obtain ⟨v1, v2⟩ := Dir.ents_ok hLn.s.inv.iw hLn.ih
      have hdone := Dir.done_ok u1 ⟨qw, op', qk, qv⟩
      have hD : Pure TC 35 [.d (slOf 2 entD (Dir.ents M)), .agg [.i .i64 qw, .i .u8 op', .d (slOf 1 (encI .u8) qk), .i .i64 qv]] _ := law_done (Dir.ents M) ⟨qw, op', qk, qv⟩ (by omega)
      by_cases h4' : op' = 4
      · have hst : Dir.callOf (startS op' qk qv) = none := by unfold startS; rw [if_pos h4']; rfl
        rw [hst] at heff
        obtain ⟨hr, hown⟩ := heff
        have hents : Dir.ents (tr n).M = Dir.ents M := Dir.srt_ext v1 u1 fun q => by rw [v2, u2, hown]
        rw [hents] at hE2
        rw [hdone.four h4'] at hD
        have hW : rs (n - 1) = ⟨true, 5, 0⟩ → M.W 0 / 2 = 4 := fun e => by
          rcases hr with e2 | ⟨_, e2⟩
          · rw [e] at e2; cases e2
          · have := e2 (M.W 0) (by unfold startS; rw [if_pos h4']; rfl)
            have := h4.s.inv.iw.d
            omega
        have hr2 : rs (n - 1) = ⟨true, 0, 0⟩ ∨ rs (n - 1) = ⟨true, 5, 0⟩ := hr.imp id fun h => h.1
        clear hdone A hN v1 v2 u1 u2 hr hown hents
        generalize tr n = Sn at hR hE2 hLn
        obtain ⟨Mn, cn, nn, fn⟩ := Sn
        dsimp only at hR hE2 hLn
        generalize rs (n - 1) = r at hR hW hr2
        subst hop'
        rcases hr2 with rfl | rfl
        · (repeat' (first
    | with_reducible refine Wp.seq ?_
    | with_reducible refine Wp.block ?_
    | ((with_reducible first | refine Wp.region ?_ | refine Wp.drawL TC_mixed ?_ | refine Wp.cond ?_ | refine Wp.ret ?_ | refine Wp.skip ?_ | refine Wp.exit ?_ | refine Go.mk ?_ | apply Eff1.of); conv => whnf)
    | with_reducible exact rfl
    | ((with_reducible refine Ov.ok zO ?_); conv => whnf)
    | (with_reducible refine Ov.sh1 (by with_unfolding_all exact rfl) ?_)
    | ((with_reducible refine Ov.quo (by omega) (by omega) (by omega) (fun _ _ => ?_)); conv => whnf)
    | ((with_reducible refine And.intro (show drawOK _ _ _ _ = true by kernel_rfl) ?_); conv => whnf)
    | ((with_reducible refine And.intro zC ?_); conv => whnf)
    | ((with_reducible refine And.intro ?hb ?_); (case hb => exact bytes_bd (Nat.le_of_ble_eq_true rfl) (by omega)); (conv => whnf))
    | ((refine DApp.a rfl rfl rfl rfl rfl rfl ?hb ?_); (case hb => exact zB); (conv => whnf))
    | ((refine DApp.b rfl rfl rfl rfl rfl rfl rfl rfl ?hb ?ho ?_); (case hb => exact zB); (case ho => omega); (conv => whnf))
    | ((refine DApp.c rfl rfl rfl rfl rfl ?hb ?_); (case hb => exact zB); (conv => whnf))
    | ((refine DApp.d rfl rfl rfl rfl rfl rfl ?hb ?ho ?_); (case hb => exact zB); (case ho => omega); (conv => whnf))
    | ((with_reducible refine nil_no (by omega) ?_); (conv => whnf))
    | ((with_reducible refine nil_any ?_ (fun hn0 => ?_)) <;> (conv => whnf))
    | ((with_reducible refine CallStop.pure (hfitL) rfl rfl ?_); conv => whnf) | ((with_reducible refine DCall.pure (hfitL) rfl rfl ?_); conv => whnf)
    | ((with_reducible refine CallStop.pure (hD) rfl rfl ?_); conv => whnf) | ((with_reducible refine DCall.pure (hD) rfl rfl ?_); conv => whnf)
    | ((apply CallStop.fn5 (h := hE1)); (case hh => exact zG); (case ha => exact zA); (case hd => exact rfl); (case hlive => exact rfl); (case hkeys => exact rfl); (case hlt => exact rfl); (conv => whnf))
    | ((apply CallStop.fn5 (h := hLv)); (case hh => exact zG); (case ha => exact zA); (case hd => exact rfl); (case hlive => exact rfl); (case hkeys => exact rfl); (case hlt => exact rfl); (conv => whnf))
    | ((apply CallStop.fn5 (h := hR)); (case hh => exact zG); (case ha => exact zA); (case hd => exact rfl); (case hlive => exact rfl); (case hkeys => exact rfl); (case hlt => exact rfl); (conv => whnf))
    | ((apply CallStop.fn5 (h := hE2)); (case hh => exact zG); (case ha => exact zA); (case hd => exact rfl); (case hlive => exact rfl); (case hkeys => exact rfl); (case hlt => exact rfl); (conv => whnf))
    | ((with_reducible refine CallStop.pure (r14_Same _ _) rfl rfl ?_); conv => whnf) | ((with_reducible refine DCall.pure (r14_Same _ _) rfl rfl ?_); conv => whnf)
    | ((refine StrOf.mk' qk rfl (fun i hi => rfl) ?_); (conv => whnf))
    | ((refine ways (fun hc => ?_) (fun hc => ?_)) <;> (try simp only [decide_eq_true_eq, decide_eq_false_iff_not, Bool.and_eq_true, Bool.or_eq_true, Bool.and_eq_false_iff, Bool.or_eq_false_iff, Bool.not_eq_true', Bool.not_eq_false', beq_iff_eq, bne_iff_ne, ne_eq, beq_eq_false_iff_ne, bne_eq_false_iff_eq, Bool.not_eq_true, Bool.not_eq_false] at hc) <;> (try (exfalso; omega)) <;> (conv => whnf))))
          all_goals first
            | exact .rfl _
            | exact absurd trivial hc
            | exact absurd rfl hc
            | (exfalso; simp at hc; done)
        · have hW := hW rfl
          (repeat' (first
    | with_reducible refine Wp.seq ?_
    | with_reducible refine Wp.block ?_
    | ((with_reducible first | refine Wp.region ?_ | refine Wp.drawL TC_mixed ?_ | refine Wp.cond ?_ | refine Wp.ret ?_ | refine Wp.skip ?_ | refine Wp.exit ?_ | refine Go.mk ?_ | apply Eff1.of); conv => whnf)
    | with_reducible exact rfl
    | ((with_reducible refine Ov.ok zO ?_); conv => whnf)
    | (with_reducible refine Ov.sh1 (by with_unfolding_all exact rfl) ?_)
    | ((with_reducible refine Ov.quo (by omega) (by omega) (by omega) (fun _ _ => ?_)); conv => whnf)
    | ((with_reducible refine And.intro (show drawOK _ _ _ _ = true by kernel_rfl) ?_); conv => whnf)
    | ((with_reducible refine And.intro zC ?_); conv => whnf)
    | ((with_reducible refine And.intro ?hb ?_); (case hb => exact bytes_bd (Nat.le_of_ble_eq_true rfl) (by omega)); (conv => whnf))
    | ((refine DApp.a rfl rfl rfl rfl rfl rfl ?hb ?_); (case hb => exact zB); (conv => whnf))
    | ((refine DApp.b rfl rfl rfl rfl rfl rfl rfl rfl ?hb ?ho ?_); (case hb => exact zB); (case ho => omega); (conv => whnf))
    | ((refine DApp.c rfl rfl rfl rfl rfl ?hb ?_); (case hb => exact zB); (conv => whnf))
    | ((refine DApp.d rfl rfl rfl rfl rfl rfl ?hb ?ho ?_); (case hb => exact zB); (case ho => omega); (conv => whnf))
    | ((with_reducible refine nil_no (by omega) ?_); (conv => whnf))
    | ((with_reducible refine nil_any ?_ (fun hn0 => ?_)) <;> (conv => whnf))
    | ((with_reducible refine CallStop.pure (hfitL) rfl rfl ?_); conv => whnf) | ((with_reducible refine DCall.pure (hfitL) rfl rfl ?_); conv => whnf)
    | ((with_reducible refine CallStop.pure (hD) rfl rfl ?_); conv => whnf) | ((with_reducible refine DCall.pure (hD) rfl rfl ?_); conv => whnf)
    | ((apply CallStop.fn5 (h := hE1)); (case hh => exact zG); (case ha => exact zA); (case hd => exact rfl); (case hlive => exact rfl); (case hkeys => exact rfl); (case hlt => exact rfl); (conv => whnf))
    | ((apply CallStop.fn5 (h := hLv)); (case hh => exact zG); (case ha => exact zA); (case hd => exact rfl); (case hlive => exact rfl); (case hkeys => exact rfl); (case hlt => exact rfl); (conv => whnf))
    | ((apply CallStop.fn5 (h := hR)); (case hh => exact zG); (case ha => exact zA); (case hd => exact rfl); (case hlive => exact rfl); (case hkeys => exact rfl); (case hlt => exact rfl); (conv => whnf))
    | ((apply CallStop.fn5 (h := hE2)); (case hh => exact zG); (case ha => exact zA); (case hd => exact rfl); (case hlive => exact rfl); (case hkeys => exact rfl); (case hlt => exact rfl); (conv => whnf))
    | ((with_reducible refine CallStop.pure (r14_Same _ _) rfl rfl ?_); conv => whnf) | ((with_reducible refine DCall.pure (r14_Same _ _) rfl rfl ?_); conv => whnf)
    | ((refine StrOf.mk' qk rfl (fun i hi => rfl) ?_); (conv => whnf))
    | ((refine ways (fun hc => ?_) (fun hc => ?_)) <;> (try simp only [decide_eq_true_eq, decide_eq_false_iff_not, Bool.and_eq_true, Bool.or_eq_true, Bool.and_eq_false_iff, Bool.or_eq_false_iff, Bool.not_eq_true', Bool.not_eq_false', beq_iff_eq, bne_iff_ne, ne_eq, beq_eq_false_iff_ne, bne_eq_false_iff_eq, Bool.not_eq_true, Bool.not_eq_false] at hc) <;> (try (exfalso; omega)) <;> (conv => whnf))))
          all_goals first
            | exact .rfl _
            | exact absurd trivial hc
            | exact .b (by rw [hW]; rfl)
      · have hst : Dir.callOf (startS op' qk qv) = some (Dir.pkc ⟨qw, op', qk, qv⟩) := by unfold startS; rw [if_neg h4']; rfl
        rw [hst] at heff
        obtain ⟨hr, hown⟩ := heff
        have e1 := hdone.ans h4'
        have e2 := hdone.lk h4'
        rw [u2] at e1
        have hrr : rs (n - 1) = (doneE (Dir.ents M) ⟨qw, op', qk, qv⟩).2 := hr.trans e1.symm
        have hents : Dir.ents (tr n).M = (doneE (Dir.ents M) ⟨qw, op', qk, qv⟩).1 := Dir.srt_ext v1 hdone.s fun q => by rw [v2, hown, e2, u2, u2]; rfl
        rw [hents] at hE2
        rw [hrr] at hR
        clear hdone A hN v1 v2 u1 u2 hr hown hents hrr e1 e2
        generalize tr n = Sn at hR hE2 hLn
        obtain ⟨Mn, cn, nn, fn⟩ := Sn
        dsimp only at hR hE2 hLn
        generalize doneE (Dir.ents M) ⟨qw, op', qk, qv⟩ = dn at hR hE2 hD
        obtain ⟨dl, ⟨rd, re, rn⟩⟩ := dn
        dsimp only at hR hE2 hD
        subst hop'
        (repeat' (first
    | with_reducible refine Wp.seq ?_
    | with_reducible refine Wp.block ?_
    | ((with_reducible first | refine Wp.region ?_ | refine Wp.drawL TC_mixed ?_ | refine Wp.cond ?_ | refine Wp.ret ?_ | refine Wp.skip ?_ | refine Wp.exit ?_ | refine Go.mk ?_ | apply Eff1.of); conv => whnf)
    | with_reducible exact rfl
    | ((with_reducible refine Ov.ok zO ?_); conv => whnf)
    | (with_reducible refine Ov.sh1 (by with_unfolding_all exact rfl) ?_)
    | ((with_reducible refine Ov.quo (by omega) (by omega) (by omega) (fun _ _ => ?_)); conv => whnf)
    | ((with_reducible refine And.intro (show drawOK _ _ _ _ = true by kernel_rfl) ?_); conv => whnf)
    | ((with_reducible refine And.intro zC ?_); conv => whnf)
    | ((with_reducible refine And.intro ?hb ?_); (case hb => exact bytes_bd (Nat.le_of_ble_eq_true rfl) (by omega)); (conv => whnf))
    | ((refine DApp.a rfl rfl rfl rfl rfl rfl ?hb ?_); (case hb => exact zB); (conv => whnf))
    | ((refine DApp.b rfl rfl rfl rfl rfl rfl rfl rfl ?hb ?ho ?_); (case hb => exact zB); (case ho => omega); (conv => whnf))
    | ((refine DApp.c rfl rfl rfl rfl rfl ?hb ?_); (case hb => exact zB); (conv => whnf))
    | ((refine DApp.d rfl rfl rfl rfl rfl rfl ?hb ?ho ?_); (case hb => exact zB); (case ho => omega); (conv => whnf))
    | ((with_reducible refine nil_no (by omega) ?_); (conv => whnf))
    | ((with_reducible refine nil_any ?_ (fun hn0 => ?_)) <;> (conv => whnf))
    | ((with_reducible refine CallStop.pure (hfitL) rfl rfl ?_); conv => whnf) | ((with_reducible refine DCall.pure (hfitL) rfl rfl ?_); conv => whnf)
    | ((with_reducible refine CallStop.pure (hD) rfl rfl ?_); conv => whnf) | ((with_reducible refine DCall.pure (hD) rfl rfl ?_); conv => whnf)
    | ((apply CallStop.fn5 (h := hE1)); (case hh => exact zG); (case ha => exact zA); (case hd => exact rfl); (case hlive => exact rfl); (case hkeys => exact rfl); (case hlt => exact rfl); (conv => whnf))
    | ((apply CallStop.fn5 (h := hLv)); (case hh => exact zG); (case ha => exact zA); (case hd => exact rfl); (case hlive => exact rfl); (case hkeys => exact rfl); (case hlt => exact rfl); (conv => whnf))
    | ((apply CallStop.fn5 (h := hR)); (case hh => exact zG); (case ha => exact zA); (case hd => exact rfl); (case hlive => exact rfl); (case hkeys => exact rfl); (case hlt => exact rfl); (conv => whnf))
    | ((apply CallStop.fn5 (h := hE2)); (case hh => exact zG); (case ha => exact zA); (case hd => exact rfl); (case hlive => exact rfl); (case hkeys => exact rfl); (case hlt => exact rfl); (conv => whnf))
    | ((with_reducible refine CallStop.pure (r14_Same _ _) rfl rfl ?_); conv => whnf) | ((with_reducible refine DCall.pure (r14_Same _ _) rfl rfl ?_); conv => whnf)
    | ((refine StrOf.mk' qk rfl (fun i hi => rfl) ?_); (conv => whnf))
    | ((refine ways (fun hc => ?_) (fun hc => ?_)) <;> (try simp only [decide_eq_true_eq, decide_eq_false_iff_not, Bool.and_eq_true, Bool.or_eq_true, Bool.and_eq_false_iff, Bool.or_eq_false_iff, Bool.not_eq_true', Bool.not_eq_false', beq_iff_eq, bne_iff_ne, ne_eq, beq_eq_false_iff_ne, bne_eq_false_iff_eq, Bool.not_eq_true, Bool.not_eq_false] at hc) <;> (try (exfalso; omega)) <;> (conv => whnf))))
        all_goals first
          | exact .rfl _
          | exact absurd trivial hc
          | (exfalso; simp at hc; done)
          | exact .b (by simp)
end Go.Proofs.YtbdclkjelhlfbaaGreat

set_option linter.constructorNameAsVariable false
namespace Go.Proofs.YtbdclkjelhlfbaaGreat
open Go.ChangeShapes Go.WideShapes Go.ChangeAt Go.RowKit
theorem rd_len {W : World} {I : Nat → Prop} {z n m cap : Nat} {f : Nat → List D} {a : Option Addr} (h : RD W I (.sl z n f) (.slice a m cap)) : n = m := by cases h; rfl
theorem argPick {H : Type} {enc : TypeId × Value → H} {W : World} {base : Nat} {v : Value} {d : DataW H} {p : List MemPlace} (hv : Value.okWide Tryz.prog W .any base 47 v) (h : DataW.Trod enc Tryz.prog W 0 (fun _ => true) true 47 v d p)
    {ts : List TypeId} {ds : List (DataW H)} (hsz : (DataW.weightsEach Tryz.prog ts ds).all (· ≤ reachBytes) = true) {j : Nat} (hts : ts[j]? = some 47) (hds : ds[j]? = some d) :
    ∃ a : Pk, a.ok ∧ a.key.length ≤ 140737488355328 ∧ ∀ E : Env, E.Im = (fun b => b < W.heap.size) → RS E 0 W a.S v := by
  simp only [Value.okWide, Tryz.underlying47] at hv
  obtain ⟨cs, rfl, _, _⟩ := hv
  have hw : ∀ n ∈ d.weights Tryz.prog 47, n ≤ reachBytes := fun n hn => by
    simpa using List.all_eq_true.1 hsz n (DataW.weights_mem_each hts hds n hn)
  obtain ⟨n, h⟩ := h
  obtain ⟨ds, f, g⟩ := opened 8 n _ _ _ shPk h (by kernel_rfl)
  obtain ⟨y0, y1, y2, y3, m, hx, -, -, -, h2, -⟩ := Go.Joins.trod_struct4 Tryz.underlying47 h
  have hd : d = .agg [y0.1, y1.1, y2.1, y3.1] := congrArg Prod.fst hx
  subst hd
  obtain ⟨a, le, hok⟩ := fit_pk f
  have hl4 : ds.length = 4 := le.len
  have hl5 : cs.size = 4 := by have := g.len; simp [Value.cells] at this; omega
  have hout : ∀ j (hj : j < 4), RD W (fun b => b < W.heap.size) (a.D[j]'(by simpa using hj)) (cs.getD j undef) := fun j hj => by
    have hj' : j < cs.size := by omega
    exact (le.out j _ _ (List.getElem?_eq_getElem (by omega : j < ds.length)) (List.getElem?_eq_getElem (by simpa using hj))).out _ _ _ (g.out j _ _ (List.getElem?_eq_getElem (by omega : j < ds.length)) (by simp [Value.cells, Array.getD, hj']))
  have hc2 : ((Value.agg cs).cells.toList.drop 2).take 1 = [cs.getD 2 undef] := by
    show (cs.toList.drop 2).take 1 = _
    have h3 : 2 < cs.toList.length := by simpa using (by omega : 2 < cs.size)
    rw [List.drop_eq_getElem_cons h3]
    simp [Array.getD, (by omega : 2 < cs.size)]
    omega
  have hce : Tryz.prog.cellsOf 32 = 1 := by kernel_rfl
  refine ⟨a, hok, ?_, fun E hE => .agg _ _ (by rw [hl5]; rfl) (fun j hj => (hout j (by omega)).one) fun j hj => ?_⟩
  · have hk := hout 2 (by omega)
    have h2' : DataW.trod enc Tryz.prog W 0 (fun _ => true) true m 32 [cs.getD 2 undef] = some y2 := by
      rw [← hc2]
      have := h2
      simp only [hce] at this
      exact this
    generalize hg2 : cs.getD 2 undef = c at hk h2'
    change RD W _ (slOf 1 (encI .u8) a.key) c at hk
    rcases Go.Deep.open_slice Tryz.underlying32 h2' with ⟨e1, _⟩ | ⟨ad, len, cap, m', n', D, Pl, e1, _, _, _, _, e2, _⟩
    · obtain rfl : c = .slice none 0 0 := by simpa using e1
      have := rd_len hk; omega
    · obtain rfl : c = .slice (some ad) len cap := by simpa using e1
      have hw2 := hw ((((List.range len).map D).length + ((List.range (m' - len)).map fun j => D (len + j)).length) * Tryz.prog.bytesOf 5) (by
        rw [show y2.1 = _ from congrArg Prod.fst e2]
        simp [DataW.weights, DataW.weightsEach, Tryz.underlying47, Tryz.underlying32])
      have hb : Tryz.prog.bytesOf 5 = 1 := by kernel_rfl
      have := reachBytes_lt
      rw [hb] at hw2
      simp at hw2
      have := rd_len hk; omega
  · have hj4 : j < 4 := hj
    have := hout j hj4
    have : j = 0 ∨ j = 1 ∨ j = 2 ∨ j = 3 := by omega
    rcases this with rfl | rfl | rfl | rfl <;> exact .d _ _ (by rw [hE]; exact this)
end Go.Proofs.YtbdclkjelhlfbaaGreat
