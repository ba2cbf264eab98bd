/- Parts of the proof, one behind the other: Dr29, Dr30. Lemmas and contracts of functions; no condition of its own. -/
import Derived.Test.YtbdclkjelhlfbaaGreatM13
set_option linter.unusedVariables false
set_option linter.unusedSimpArgs false
set_option maxHeartbeats 1000000
namespace Go.Proofs.YtbdclkjelhlfbaaGreat
open Go.RowKit
set_option maxRecDepth 100000
theorem pk_at {script : List Pk} (hs : ∀ a ∈ script, a.ok) (j : Nat) : (script.getD j default).ok := by
  rw [List.getD_eq_getElem?_getD]
  cases e : script[j]? with
  | none => exact ⟨by decide, by decide, fun x hx => absurd hx (by simp [default, instInhabitedPk.default]), by decide⟩
  | some a => exact hs a (List.mem_of_getElem? e)
structure Fit (p : Pk) (w : Nat) : Prop where
  who : p.who = w
  w5 : w < 5
  op0 : 0 ≤ p.op
  op4 : p.op ≤ 4
  len : p.key.length ≤ 3
  b : IsB p.key
  v : tickB p.val = true
theorem fit_fit {p : Pk} (h : p.ok) : ∃ w, Fit (fitP p) w := by
  obtain ⟨⟨b1, b2⟩, b3, b4, b5, b6⟩ := fitP_bd h
  have hu : 0 ≤ (IntKind.u64.wrap p.who) % 5 ∧ (IntKind.u64.wrap p.who) % 5 < 5 := by omega
  refine ⟨(fitP p).who.toNat, ?_, ?_, b1, b2, b3, b4, by simp [tickB]; omega⟩
  · simp only [fitP]; omega
  · simp only [fitP]; omega
theorem Hn_le {k : Nat} {M : Dir.Mc} (h : ∀ w, Dir.Hn k (M.Hd w)) (hk : k ≤ 100000) : ∀ w, Dir.Hn 100000 (M.Hd w) := fun w => (h w).mono hk
theorem LawE.entries {k : Nat} {M : Dir.Mc} {cs : Nat → Dir.CS} {nl : Nat} {cnt : Int} (h : LawE k M cs nl cnt) (hk : k ≤ 100000) (f : Nat → List D) (clk : Int) :
    Fun TC 31 5 [.ptr 0 0] (dirH (gOf cs) M nl f clk cnt) 5 (.d (slOf 2 entD (Dir.ents M))) (dirH (gOf cs) M nl f clk cnt) :=
  law_entries (gOf_lt cs) M nl f clk cnt h.s.inv.iw.d.1 h.s.inv.iw.d.2 (Hn_le h.s.hd hk) h.s.inv.iw h.ih h.kh
theorem ents_ext {M M' : Dir.Mc} {B B' : Int} (h : Dir.Iw M.W B) (hI : Dir.Ih M) (h' : Dir.Iw M'.W B') (hI' : Dir.Ih M') (e : ∀ q, Dir.own M' q = Dir.own M q) : Dir.ents M' = Dir.ents M := by
  obtain ⟨a1, a2⟩ := Dir.ents_ok h hI
  obtain ⟨b1, b2⟩ := Dir.ents_ok h' hI'
  exact Dir.srt_ext b1 a1 fun q => by rw [b2, a2, e]
theorem ents_len {M : Dir.Mc} (h0 : 0 ≤ M.W 0) (h8 : M.W 0 ≤ 8) (hH : ∀ w, (M.Hd w).length ≤ 30000) : (Dir.ents M).length ≤ 960000 := by
  show (Dir.sortE (Dir.allE M)).length ≤ _
  rw [(Dir.sortE_perm (Dir.allE M)).length_eq, ← Dir.allE_eq]
  have h2 : (Dir.allL M).flatten.length ≤ (Dir.allL M).length * 30000 := flat_len fun l hl => by
    obtain ⟨i, _, hi⟩ := List.mem_flatMap.1 hl
    exact part_short hH hi
  have h3 := parts_len M (2 ^ Dir.lvl M)
  have h4 : 2 ^ Dir.lvl M ≤ 2 ^ 4 := Nat.pow_le_pow_right (by omega) (by unfold Dir.lvl; omega)
  have h5 : (Dir.allL M).length ≤ 32 := by
    show ((List.range (2 ^ Dir.lvl M)).flatMap (Dir.partL M)).length ≤ 32
    omega
  have h6 : (Dir.allL M).length * 30000 ≤ 32 * 30000 := Nat.mul_le_mul_right _ h5
  omega
set_option maxHeartbeats 8000000 in
theorem DirAlone_holds (script : List Pk) (hs : ∀ a ∈ script, a.ok) (last : Pk) (hl : last.ok) : Pure TC 7 [.d (slOf 4 Pk.D script), last.S] (.b true) := by
  refine Pure.lens (.mk Tryz.func7 rfl rfl) fun hlen => ?_
  have hl0 := hlen script.length (by simp [lensOf, slOf])
  clear hlen
  refine Pure.mk' Tryz.func7 rfl rfl (Nat.le_of_ble_eq_true rfl) ?_
  (repeat' (first
    | with_reducible refine Wp.seq ?_
    | with_reducible refine Wp.block ?_
    | ((with_reducible first | refine Wp.region ?_ | refine Wp.drawL TC_mixed ?_ | refine Wp.cond ?_ | refine Wp.ret ?_ | refine Wp.skip ?_ | refine Wp.exit ?_ | refine Go.mk ?_ | apply Eff1.of); conv => whnf)
    | with_reducible exact rfl
    | ((with_reducible refine Ov.ok zO ?_); conv => whnf)
    | (with_reducible refine Ov.sh1 (by with_unfolding_all exact rfl) ?_)
    | ((with_reducible refine Ov.quo (by omega) (by omega) (by omega) (fun _ _ => ?_)); conv => whnf)
    | ((with_reducible refine And.intro (show drawOK _ _ _ _ = true by kernel_rfl) ?_); conv => whnf)
    | ((with_reducible refine And.intro zC ?_); conv => whnf)
    | ((with_reducible refine And.intro ?hb ?_); (case hb => exact bytes_bd (Nat.le_of_ble_eq_true rfl) (by omega)); (conv => whnf))
    | ((refine DApp.a rfl rfl rfl rfl rfl rfl ?hb ?_); (case hb => exact zB); (conv => whnf))
    | ((refine DApp.b rfl rfl rfl rfl rfl rfl rfl rfl ?hb ?ho ?_); (case hb => exact zB); (case ho => omega); (conv => whnf))
    | ((refine DApp.c rfl rfl rfl rfl rfl ?hb ?_); (case hb => exact zB); (conv => whnf))
    | ((refine DApp.d rfl rfl rfl rfl rfl rfl ?hb ?ho ?_); (case hb => exact zB); (case ho => omega); (conv => whnf))
    | ((with_reducible refine nil_no (by omega) ?_); (conv => whnf))
    | ((with_reducible refine nil_any ?_ (fun hn0 => ?_)) <;> (conv => whnf))
    | ((with_reducible refine CallStop.pure (awake_T) rfl rfl ?_); conv => whnf) | ((with_reducible refine DCall.pure (awake_T) rfl rfl ?_); conv => whnf)
    | ((refine CallStop.fn (law_New) [] rfl rfl rfl rfl rfl ?ha ?hh ?_); (case ha => exact zA); (case hh => exact zH); (conv => whnf))
    | ((refine DCall.fn (law_New) [] [] rfl rfl rfl rfl rfl ?ha ?hh ?hs ?_); (case ha => exact zA); (case hh => exact zH); (case hs => exact zK); (conv => whnf)) | ((refine DCall.new (law_New) [] [] rfl rfl rfl rfl rfl rfl ?ha ?hh ?hs ?_); (case ha => exact zA); (case hh => exact zH); (case hs => exact zK); (conv => whnf))
    | ((refine ways (fun hc => ?_) (fun hc => ?_)) <;> (try simp only [decide_eq_true_eq, decide_eq_false_iff_not, Bool.and_eq_true, Bool.or_eq_true, Bool.and_eq_false_iff, Bool.or_eq_false_iff, Bool.not_eq_true', Bool.not_eq_false', beq_iff_eq, bne_iff_ne, ne_eq, beq_eq_false_iff_ne, bne_eq_false_iff_eq, Bool.not_eq_true, Bool.not_eq_false] at hc) <;> (try (exfalso; omega)) <;> (conv => whnf))))
  refine Wp.loopP (ι := Nat × Nat × Dst)
    (fun k => k.1 ≤ script.length ∧ k.1 ≤ 300 ∧ k.2.1 ≤ k.1 ∧ LawE k.2.1 k.2.2.M k.2.2.cs k.2.2.nl ((k.2.1 : Int) + 1) ∧ ∀ j, 5 ≤ j → k.2.2.cs j = .none)
    (fun k => ⟨⟨Tryz.f7.ntmps, 0⟩, 6, [(3, .ptr 5 0), (5, .ptr 0 0), (18, .d (slOf 4 Pk.D script)), (19, .i .i64 script.length), (20, .i .i64 k.1)], dirH (gOf k.2.2.cs) k.2.2.M k.2.2.nl k.2.2.f 0 ((k.2.1 : Int) + 1) ++ [(5, some (.cells [.i .i64 last.who, .i .u8 last.op, .d (slOf 1 (encI .u8) last.key), .i .i64 last.val]))]⟩)
    (fun k => script.length - k.1) (0, 0, ⟨Dir.M0, fun _ => .none, noteN 0, noteF 0 (fun _ => []) (accD 0 2 1 0 1 true)⟩)
    ⟨Nat.zero_le _, Nat.zero_le _, Nat.le_refl _, LawE.zero, fun _ _ => rfl⟩ ?_ ?_
  · (refine Le.by [1, 2, 3, 4, 5, 0] rfl rfl rfl rfl ?_ ?_ <;> (conv => whnf) <;> (repeat' (first | exact trivial | exact ArgLe.rfl rfl | exact ArgLe.ptr rfl | exact ArgLe.sl rfl | exact dir_argP rfl rfl rfl rfl | exact ⟨rfl, rfl, rfl⟩ | exact ⟨rfl, Nat.le_of_ble_eq_true rfl⟩ | exact fun i hi => rfl | ((with_reducible refine And.intro ?_ ?_) <;> (conv => whnf)))))
  · rintro ⟨i, k, ⟨M, cs, nl, f⟩⟩ ⟨h1, h2, h3, h4, h5⟩
    dsimp only at h1 h2 h3 h4 h5 ⊢
    have hok := pk_at hs (i : Int).toNat
    have hfit := law_fit _ hok
    obtain ⟨w, hw⟩ := fit_fit hok
    generalize fitP (script.getD (i : Int).toNat default) = p at hfit hw
    obtain ⟨pw, pop, pk, pv⟩ := p
    obtain ⟨w0, w5, o0, o4, kl, kb, kv⟩ := hw
    dsimp only at w0 o0 o4 kl kb kv
    subst w0
    by_cases hi : i < script.length ∧ i < 300
    · by_cases hop : pop = 0
      · subst hop
        cases hc : isC (cs w) with
        | true =>
          obtain ⟨a, hS⟩ := law_Step (f := f) (clk := 0) h4.s (by omega) w (by omega) hc
          have hN := h4.step (by omega) (isC_ne hc)
          have hoth : ∀ j, 5 ≤ j → Dir.upd cs w (Dir.step dirOps M (cs w)).2.1 j = .none := fun j hj => by rw [Dir.upd_ne _ _ (by omega)]; exact h5 j hj
          have hcnt : ((k + 1 : Nat) : Int) + 1 = (k : Int) + 1 + 1 := by omega
          rw [← hcnt] at hN
          generalize Dir.step dirOps M (cs w) = Q at hS hN hoth
          obtain ⟨M', s', r⟩ := Q
          dsimp only at hS hN hoth
          generalize Dir.upd cs w s' = cs' at hS hN hoth
          (repeat' (first
    | with_reducible refine Wp.seq ?_
    | with_reducible refine Wp.block ?_
    | ((with_reducible first | refine Wp.region ?_ | refine Wp.drawL TC_mixed ?_ | refine Wp.cond ?_ | refine Wp.ret ?_ | refine Wp.skip ?_ | refine Wp.exit ?_ | refine Go.mk ?_ | apply Eff1.of); conv => whnf)
    | with_reducible exact rfl
    | ((with_reducible refine Ov.ok zO ?_); conv => whnf)
    | (with_reducible refine Ov.sh1 (by with_unfolding_all exact rfl) ?_)
    | ((with_reducible refine Ov.quo (by omega) (by omega) (by omega) (fun _ _ => ?_)); conv => whnf)
    | ((with_reducible refine And.intro (show drawOK _ _ _ _ = true by kernel_rfl) ?_); conv => whnf)
    | ((with_reducible refine And.intro zC ?_); conv => whnf)
    | ((with_reducible refine And.intro ?hb ?_); (case hb => exact bytes_bd (Nat.le_of_ble_eq_true rfl) (by omega)); (conv => whnf))
    | ((refine DApp.a rfl rfl rfl rfl rfl rfl ?hb ?_); (case hb => exact zB); (conv => whnf))
    | ((refine DApp.b rfl rfl rfl rfl rfl rfl rfl rfl ?hb ?ho ?_); (case hb => exact zB); (case ho => omega); (conv => whnf))
    | ((refine DApp.c rfl rfl rfl rfl rfl ?hb ?_); (case hb => exact zB); (conv => whnf))
    | ((refine DApp.d rfl rfl rfl rfl rfl rfl ?hb ?ho ?_); (case hb => exact zB); (case ho => omega); (conv => whnf))
    | ((with_reducible refine nil_no (by omega) ?_); (conv => whnf))
    | ((with_reducible refine nil_any ?_ (fun hn0 => ?_)) <;> (conv => whnf))
    | ((with_reducible refine CallStop.pure (hfit) rfl rfl ?_); conv => whnf) | ((with_reducible refine DCall.pure (hfit) rfl rfl ?_); conv => whnf)
    | ((apply CallStop.fn5 (h := hS)); (case hh => exact zG); (case ha => exact zA); (case hd => exact rfl); (case hlive => exact rfl); (case hkeys => exact rfl); (case hlt => exact rfl); (conv => whnf))
    | ((refine ways (fun hc => ?_) (fun hc => ?_)) <;> (try simp only [decide_eq_true_eq, decide_eq_false_iff_not, Bool.and_eq_true, Bool.or_eq_true, Bool.and_eq_false_iff, Bool.or_eq_false_iff, Bool.not_eq_true', Bool.not_eq_false', beq_iff_eq, bne_iff_ne, ne_eq, beq_eq_false_iff_ne, bne_eq_false_iff_eq, Bool.not_eq_true, Bool.not_eq_false] at hc) <;> (try (exfalso; omega)) <;> (conv => whnf))))
          refine ⟨(i + 1, k + 1, ⟨M', cs', noteN nl, noteF nl f a⟩), ⟨by dsimp only; omega, by dsimp only; omega, by dsimp only; omega, hN, hoth⟩, by dsimp only; omega, ?_⟩
          dsimp only
          rw [hcnt]
          (refine Le.by [0,1,2,3,7,5] rfl rfl rfl rfl ?_ ?_ <;> (conv => whnf) <;> (repeat' (first | exact trivial | exact ArgLe.rfl rfl | exact ArgLe.ptr rfl | exact ArgLe.sl rfl | exact dir_arg4 | exact dir_argR4 (fun l hl => by rcases l with _ | _ | _ | _ | l <;> first | rfl | omega) | exact ⟨rfl, rfl, rfl⟩ | exact ⟨rfl, Nat.le_of_ble_eq_true rfl⟩ | exact fun i hi => rfl | ((with_reducible refine And.intro ?_ ?_) <;> (conv => whnf)))))
        | false =>
          have hS := law_StepNone (M := M) (nl := nl) (f := f) (clk := 0) (cnt := (k : Int) + 1) w (by omega) hc
          (repeat' (first
    | with_reducible refine Wp.seq ?_
    | with_reducible refine Wp.block ?_
    | ((with_reducible first | refine Wp.region ?_ | refine Wp.drawL TC_mixed ?_ | refine Wp.cond ?_ | refine Wp.ret ?_ | refine Wp.skip ?_ | refine Wp.exit ?_ | refine Go.mk ?_ | apply Eff1.of); conv => whnf)
    | with_reducible exact rfl
    | ((with_reducible refine Ov.ok zO ?_); conv => whnf)
    | (with_reducible refine Ov.sh1 (by with_unfolding_all exact rfl) ?_)
    | ((with_reducible refine Ov.quo (by omega) (by omega) (by omega) (fun _ _ => ?_)); conv => whnf)
    | ((with_reducible refine And.intro (show drawOK _ _ _ _ = true by kernel_rfl) ?_); conv => whnf)
    | ((with_reducible refine And.intro zC ?_); conv => whnf)
    | ((with_reducible refine And.intro ?hb ?_); (case hb => exact bytes_bd (Nat.le_of_ble_eq_true rfl) (by omega)); (conv => whnf))
    | ((refine DApp.a rfl rfl rfl rfl rfl rfl ?hb ?_); (case hb => exact zB); (conv => whnf))
    | ((refine DApp.b rfl rfl rfl rfl rfl rfl rfl rfl ?hb ?ho ?_); (case hb => exact zB); (case ho => omega); (conv => whnf))
    | ((refine DApp.c rfl rfl rfl rfl rfl ?hb ?_); (case hb => exact zB); (conv => whnf))
    | ((refine DApp.d rfl rfl rfl rfl rfl rfl ?hb ?ho ?_); (case hb => exact zB); (case ho => omega); (conv => whnf))
    | ((with_reducible refine nil_no (by omega) ?_); (conv => whnf))
    | ((with_reducible refine nil_any ?_ (fun hn0 => ?_)) <;> (conv => whnf))
    | ((with_reducible refine CallStop.pure (hfit) rfl rfl ?_); conv => whnf) | ((with_reducible refine DCall.pure (hfit) rfl rfl ?_); conv => whnf)
    | ((apply CallStop.fn5 (h := hS)); (case hh => exact zG); (case ha => exact zA); (case hd => exact rfl); (case hlive => exact rfl); (case hkeys => exact rfl); (case hlt => exact rfl); (conv => whnf))
    | ((refine ways (fun hc => ?_) (fun hc => ?_)) <;> (try simp only [decide_eq_true_eq, decide_eq_false_iff_not, Bool.and_eq_true, Bool.or_eq_true, Bool.and_eq_false_iff, Bool.or_eq_false_iff, Bool.not_eq_true', Bool.not_eq_false', beq_iff_eq, bne_iff_ne, ne_eq, beq_eq_false_iff_ne, bne_eq_false_iff_eq, Bool.not_eq_true, Bool.not_eq_false] at hc) <;> (try (exfalso; omega)) <;> (conv => whnf))))
          refine ⟨(i + 1, k, ⟨M, cs, nl, f⟩), ⟨by dsimp only; omega, by dsimp only; omega, by dsimp only; omega, h4, h5⟩, by dsimp only; omega, ?_⟩
          dsimp only
          (refine Le.by [0,1,2,3,4,5] rfl rfl rfl rfl ?_ ?_ <;> (conv => whnf) <;> (repeat' (first | exact trivial | exact ArgLe.rfl rfl | exact ArgLe.ptr rfl | exact ArgLe.sl rfl | exact dir_arg4 | exact dir_argR4 (fun l hl => by rcases l with _ | _ | _ | _ | l <;> first | rfl | omega) | exact ⟨rfl, rfl, rfl⟩ | exact ⟨rfl, Nat.le_of_ble_eq_true rfl⟩ | exact fun i hi => rfl | ((with_reducible refine And.intro ?_ ?_) <;> (conv => whnf)))))
      · cases hc : isC (cs w) with
        | true =>
          have hS := law_StartBusy (M := M) (nl := nl) (f := f) (clk := 0) (cnt := (k : Int) + 1) w (by omega) pop pk pv (by omega) o4 (by omega) kv hc
          (repeat' (first
    | with_reducible refine Wp.seq ?_
    | with_reducible refine Wp.block ?_
    | ((with_reducible first | refine Wp.region ?_ | refine Wp.drawL TC_mixed ?_ | refine Wp.cond ?_ | refine Wp.ret ?_ | refine Wp.skip ?_ | refine Wp.exit ?_ | refine Go.mk ?_ | apply Eff1.of); conv => whnf)
    | with_reducible exact rfl
    | ((with_reducible refine Ov.ok zO ?_); conv => whnf)
    | (with_reducible refine Ov.sh1 (by with_unfolding_all exact rfl) ?_)
    | ((with_reducible refine Ov.quo (by omega) (by omega) (by omega) (fun _ _ => ?_)); conv => whnf)
    | ((with_reducible refine And.intro (show drawOK _ _ _ _ = true by kernel_rfl) ?_); conv => whnf)
    | ((with_reducible refine And.intro zC ?_); conv => whnf)
    | ((with_reducible refine And.intro ?hb ?_); (case hb => exact bytes_bd (Nat.le_of_ble_eq_true rfl) (by omega)); (conv => whnf))
    | ((refine DApp.a rfl rfl rfl rfl rfl rfl ?hb ?_); (case hb => exact zB); (conv => whnf))
    | ((refine DApp.b rfl rfl rfl rfl rfl rfl rfl rfl ?hb ?ho ?_); (case hb => exact zB); (case ho => omega); (conv => whnf))
    | ((refine DApp.c rfl rfl rfl rfl rfl ?hb ?_); (case hb => exact zB); (conv => whnf))
    | ((refine DApp.d rfl rfl rfl rfl rfl rfl ?hb ?ho ?_); (case hb => exact zB); (case ho => omega); (conv => whnf))
    | ((with_reducible refine nil_no (by omega) ?_); (conv => whnf))
    | ((with_reducible refine nil_any ?_ (fun hn0 => ?_)) <;> (conv => whnf))
    | ((with_reducible refine CallStop.pure (hfit) rfl rfl ?_); conv => whnf) | ((with_reducible refine DCall.pure (hfit) rfl rfl ?_); conv => whnf)
    | ((apply CallStop.fn5 (h := hS)); (case hh => exact zG); (case ha => exact zA); (case hd => exact rfl); (case hlive => exact rfl); (case hkeys => exact rfl); (case hlt => exact rfl); (conv => whnf))
    | ((refine ways (fun hc => ?_) (fun hc => ?_)) <;> (try simp only [decide_eq_true_eq, decide_eq_false_iff_not, Bool.and_eq_true, Bool.or_eq_true, Bool.and_eq_false_iff, Bool.or_eq_false_iff, Bool.not_eq_true', Bool.not_eq_false', beq_iff_eq, bne_iff_ne, ne_eq, beq_eq_false_iff_ne, bne_eq_false_iff_eq, Bool.not_eq_true, Bool.not_eq_false] at hc) <;> (try (exfalso; omega)) <;> (conv => whnf))))
          refine ⟨(i + 1, k, ⟨M, cs, nl, f⟩), ⟨by dsimp only; omega, by dsimp only; omega, by dsimp only; omega, h4, h5⟩, by dsimp only; omega, ?_⟩
          dsimp only
          (refine Le.by [0,1,2,3,4,5] rfl rfl rfl rfl ?_ ?_ <;> (conv => whnf) <;> (repeat' (first | exact trivial | exact ArgLe.rfl rfl | exact ArgLe.ptr rfl | exact ArgLe.sl rfl | exact dir_arg4 | exact dir_argR4 (fun l hl => by rcases l with _ | _ | _ | _ | l <;> first | rfl | omega) | exact ⟨rfl, rfl, rfl⟩ | exact ⟨rfl, Nat.le_of_ble_eq_true rfl⟩ | exact fun i hi => rfl | ((with_reducible refine And.intro ?_ ?_) <;> (conv => whnf)))))
        | false =>
          have hS := law_Start (M := M) (nl := nl) (f := f) (clk := 0) (cnt := (k : Int) + 1) w (by omega) pop pk pv (by omega) o4 (by omega) kv (isC_no hc)
          have hN := h4.start w pop pk pv kb ⟨by omega, o4⟩ (by omega)
          have hoth : ∀ j, 5 ≤ j → Dir.upd cs w (startS pop pk pv) j = .none := fun j hj => by rw [Dir.upd_ne _ _ (by omega)]; exact h5 j hj
          generalize Dir.upd cs w (startS pop pk pv) = cs' at hS hN hoth
          (repeat' (first
    | with_reducible refine Wp.seq ?_
    | with_reducible refine Wp.block ?_
    | ((with_reducible first | refine Wp.region ?_ | refine Wp.drawL TC_mixed ?_ | refine Wp.cond ?_ | refine Wp.ret ?_ | refine Wp.skip ?_ | refine Wp.exit ?_ | refine Go.mk ?_ | apply Eff1.of); conv => whnf)
    | with_reducible exact rfl
    | ((with_reducible refine Ov.ok zO ?_); conv => whnf)
    | (with_reducible refine Ov.sh1 (by with_unfolding_all exact rfl) ?_)
    | ((with_reducible refine Ov.quo (by omega) (by omega) (by omega) (fun _ _ => ?_)); conv => whnf)
    | ((with_reducible refine And.intro (show drawOK _ _ _ _ = true by kernel_rfl) ?_); conv => whnf)
    | ((with_reducible refine And.intro zC ?_); conv => whnf)
    | ((with_reducible refine And.intro ?hb ?_); (case hb => exact bytes_bd (Nat.le_of_ble_eq_true rfl) (by omega)); (conv => whnf))
    | ((refine DApp.a rfl rfl rfl rfl rfl rfl ?hb ?_); (case hb => exact zB); (conv => whnf))
    | ((refine DApp.b rfl rfl rfl rfl rfl rfl rfl rfl ?hb ?ho ?_); (case hb => exact zB); (case ho => omega); (conv => whnf))
    | ((refine DApp.c rfl rfl rfl rfl rfl ?hb ?_); (case hb => exact zB); (conv => whnf))
    | ((refine DApp.d rfl rfl rfl rfl rfl rfl ?hb ?ho ?_); (case hb => exact zB); (case ho => omega); (conv => whnf))
    | ((with_reducible refine nil_no (by omega) ?_); (conv => whnf))
    | ((with_reducible refine nil_any ?_ (fun hn0 => ?_)) <;> (conv => whnf))
    | ((with_reducible refine CallStop.pure (hfit) rfl rfl ?_); conv => whnf) | ((with_reducible refine DCall.pure (hfit) rfl rfl ?_); conv => whnf)
    | ((apply CallStop.fn5 (h := hS)); (case hh => exact zG); (case ha => exact zA); (case hd => exact rfl); (case hlive => exact rfl); (case hkeys => exact rfl); (case hlt => exact rfl); (conv => whnf))
    | ((refine ways (fun hc => ?_) (fun hc => ?_)) <;> (try simp only [decide_eq_true_eq, decide_eq_false_iff_not, Bool.and_eq_true, Bool.or_eq_true, Bool.and_eq_false_iff, Bool.or_eq_false_iff, Bool.not_eq_true', Bool.not_eq_false', beq_iff_eq, bne_iff_ne, ne_eq, beq_eq_false_iff_ne, bne_eq_false_iff_eq, Bool.not_eq_true, Bool.not_eq_false] at hc) <;> (try (exfalso; omega)) <;> (conv => whnf))))
          refine ⟨(i + 1, k, ⟨M, cs', nl, f⟩), ⟨by dsimp only; omega, by dsimp only; omega, by dsimp only; omega, hN, hoth⟩, by dsimp only; omega, ?_⟩
          dsimp only
          (refine Le.by [0,1,2,3,4,5] rfl rfl rfl rfl ?_ ?_ <;> (conv => whnf) <;> (repeat' (first | exact trivial | exact ArgLe.rfl rfl | exact ArgLe.ptr rfl | exact ArgLe.sl rfl | exact dir_arg4 | exact dir_argR4 (fun l hl => by rcases l with _ | _ | _ | _ | l <;> first | rfl | omega) | exact ⟨rfl, rfl, rfl⟩ | exact ⟨rfl, Nat.le_of_ble_eq_true rfl⟩ | exact fun i hi => rfl | ((with_reducible refine And.intro ?_ ?_) <;> (conv => whnf)))))
    · clear hs hok hfit
      have hfitL := law_fit _ hl
      obtain ⟨wl, hwl⟩ := fit_fit hl
      generalize fitP last = q at hfitL hwl
      obtain ⟨qw, qop, qk, qv⟩ := q
      obtain ⟨w0', w5', o0', o4', kl', kb', kv'⟩ := hwl
      dsimp only at w0' o0' o4' kl' kb' kv'
      have hfitL : Pure TC 34 [.agg [.i .i64 last.who, .i .u8 last.op, .d (slOf 1 (encI .u8) last.key), .i .i64 last.val]] (.agg [.i .i64 qw, .i .u8 qop, .d (slOf 1 (encI .u8) qk), .i .i64 qv]) := hfitL
      have hm : qop.tmod 4 = qop % 4 := Int.tmod_eq_emod_of_nonneg o0'
      have hE1 := h4.entries (by omega) f 0
      obtain ⟨u1, u2⟩ := Dir.ents_ok h4.s.inv.iw h4.ih
      have hel := ents_len h4.s.inv.iw.d.1 h4.s.inv.iw.d.2 (fun w => by have := (h4.s.hd w).1; omega)
      have hLv := law_Level h4.s f 0
      have hc9 := h5 9 (by omega)
      obtain ⟨op', hop'⟩ : ∃ op', op' = 1 + qop.tmod 4 := ⟨_, rfl⟩
      have ob : 1 ≤ op' ∧ op' ≤ 4 := by omega
      have hme : Dir.upd cs 9 (startS op' qk qv) 9 = startS op' qk qv := Dir.upd_same _ _ _
      have hN := h4.start 9 op' qk qv kb' ob (by omega)
      obtain ⟨n, hn, tr, rs, A⟩ := alone 9 (by omega) 0 53 k ⟨M, Dir.upd cs 9 (startS op' qk qv), nl, f⟩ (Dir.T_le (hN.s.inv.cw 9)) (by show Dir.upd cs 9 (startS op' qk qv) 9 ≠ .none; rw [hme]; exact isC_ne (startS_is _ _ _)) (by omega) hN
      have hR := law_run (w := 9) (k := k) (by omega) (s := ⟨M, cs, nl, f⟩) hc9 op' qk qv ob.1 ob.2 (by omega) kb' kv' 128 (by omega) (by omega) (by omega) A hn
      have hLn := A.law n (Nat.le_refl _)
      have hcn : ((k + n : Nat) : Int) + 1 = (k : Int) + n + 1 := by omega
      rw [← hcn] at hLn hR
      have hE2 := hLn.entries (by omega) (tr n).f 0
      have heff := A.eff
      rw [show (Dst.mk M (Dir.upd cs 9 (startS op' qk qv)) nl f).cs 9 = startS op' qk qv from hme] at heff
      obtain ⟨v1, v2⟩ := Dir.ents_ok hLn.s.inv.iw hLn.ih
      have hdone := Dir.done_ok u1 ⟨qw, op', qk, qv⟩
      have hD : Pure TC 35 [.d (slOf 2 entD (Dir.ents M)), .agg [.i .i64 qw, .i .u8 op', .d (slOf 1 (encI .u8) qk), .i .i64 qv]] _ := law_done (Dir.ents M) ⟨qw, op', qk, qv⟩ (by omega)
      by_cases h4' : op' = 4
      · have hst : Dir.callOf (startS op' qk qv) = none := by unfold startS; rw [if_pos h4']; rfl
        rw [hst] at heff
        obtain ⟨hr, hown⟩ := heff
        have hents : Dir.ents (tr n).M = Dir.ents M := Dir.srt_ext v1 u1 fun q => by rw [v2, u2, hown]
        rw [hents] at hE2
        rw [hdone.four h4'] at hD
        have hW : rs (n - 1) = ⟨true, 5, 0⟩ → M.W 0 / 2 = 4 := fun e => by
          rcases hr with e2 | ⟨_, e2⟩
          · rw [e] at e2; cases e2
          · have := e2 (M.W 0) (by unfold startS; rw [if_pos h4']; rfl)
            have := h4.s.inv.iw.d
            omega
        have hr2 : rs (n - 1) = ⟨true, 0, 0⟩ ∨ rs (n - 1) = ⟨true, 5, 0⟩ := hr.imp id fun h => h.1
        clear hdone A hN v1 v2 u1 u2 hr hown hents
        generalize tr n = Sn at hR hE2 hLn
        obtain ⟨Mn, cn, nn, fn⟩ := Sn
        dsimp only at hR hE2 hLn
        generalize rs (n - 1) = r at hR hW hr2
        subst hop'
        rcases hr2 with rfl | rfl
        · (repeat' (first
    | with_reducible refine Wp.seq ?_
    | with_reducible refine Wp.block ?_
    | ((with_reducible first | refine Wp.region ?_ | refine Wp.drawL TC_mixed ?_ | refine Wp.cond ?_ | refine Wp.ret ?_ | refine Wp.skip ?_ | refine Wp.exit ?_ | refine Go.mk ?_ | apply Eff1.of); conv => whnf)
    | with_reducible exact rfl
    | ((with_reducible refine Ov.ok zO ?_); conv => whnf)
    | (with_reducible refine Ov.sh1 (by with_unfolding_all exact rfl) ?_)
    | ((with_reducible refine Ov.quo (by omega) (by omega) (by omega) (fun _ _ => ?_)); conv => whnf)
    | ((with_reducible refine And.intro (show drawOK _ _ _ _ = true by kernel_rfl) ?_); conv => whnf)
    | ((with_reducible refine And.intro zC ?_); conv => whnf)
    | ((with_reducible refine And.intro ?hb ?_); (case hb => exact bytes_bd (Nat.le_of_ble_eq_true rfl) (by omega)); (conv => whnf))
    | ((refine DApp.a rfl rfl rfl rfl rfl rfl ?hb ?_); (case hb => exact zB); (conv => whnf))
    | ((refine DApp.b rfl rfl rfl rfl rfl rfl rfl rfl ?hb ?ho ?_); (case hb => exact zB); (case ho => omega); (conv => whnf))
    | ((refine DApp.c rfl rfl rfl rfl rfl ?hb ?_); (case hb => exact zB); (conv => whnf))
    | ((refine DApp.d rfl rfl rfl rfl rfl rfl ?hb ?ho ?_); (case hb => exact zB); (case ho => omega); (conv => whnf))
    | ((with_reducible refine nil_no (by omega) ?_); (conv => whnf))
    | ((with_reducible refine nil_any ?_ (fun hn0 => ?_)) <;> (conv => whnf))
    | ((with_reducible refine CallStop.pure (hfitL) rfl rfl ?_); conv => whnf) | ((with_reducible refine DCall.pure (hfitL) rfl rfl ?_); conv => whnf)
    | ((with_reducible refine CallStop.pure (hD) rfl rfl ?_); conv => whnf) | ((with_reducible refine DCall.pure (hD) rfl rfl ?_); conv => whnf)
    | ((apply CallStop.fn5 (h := hE1)); (case hh => exact zG); (case ha => exact zA); (case hd => exact rfl); (case hlive => exact rfl); (case hkeys => exact rfl); (case hlt => exact rfl); (conv => whnf))
    | ((apply CallStop.fn5 (h := hLv)); (case hh => exact zG); (case ha => exact zA); (case hd => exact rfl); (case hlive => exact rfl); (case hkeys => exact rfl); (case hlt => exact rfl); (conv => whnf))
    | ((apply CallStop.fn5 (h := hR)); (case hh => exact zG); (case ha => exact zA); (case hd => exact rfl); (case hlive => exact rfl); (case hkeys => exact rfl); (case hlt => exact rfl); (conv => whnf))
    | ((apply CallStop.fn5 (h := hE2)); (case hh => exact zG); (case ha => exact zA); (case hd => exact rfl); (case hlive => exact rfl); (case hkeys => exact rfl); (case hlt => exact rfl); (conv => whnf))
    | ((with_reducible refine CallStop.pure (r14_Same _ _) rfl rfl ?_); conv => whnf) | ((with_reducible refine DCall.pure (r14_Same _ _) rfl rfl ?_); conv => whnf)
    | ((refine StrOf.mk' qk rfl (fun i hi => rfl) ?_); (conv => whnf))
    | ((refine ways (fun hc => ?_) (fun hc => ?_)) <;> (try simp only [decide_eq_true_eq, decide_eq_false_iff_not, Bool.and_eq_true, Bool.or_eq_true, Bool.and_eq_false_iff, Bool.or_eq_false_iff, Bool.not_eq_true', Bool.not_eq_false', beq_iff_eq, bne_iff_ne, ne_eq, beq_eq_false_iff_ne, bne_eq_false_iff_eq, Bool.not_eq_true, Bool.not_eq_false] at hc) <;> (try (exfalso; omega)) <;> (conv => whnf))))
          all_goals first
            | exact .rfl _
            | exact absurd trivial hc
            | exact absurd rfl hc
            | (exfalso; simp at hc; done)
        · have hW := hW rfl
          (repeat' (first
    | with_reducible refine Wp.seq ?_
    | with_reducible refine Wp.block ?_
    | ((with_reducible first | refine Wp.region ?_ | refine Wp.drawL TC_mixed ?_ | refine Wp.cond ?_ | refine Wp.ret ?_ | refine Wp.skip ?_ | refine Wp.exit ?_ | refine Go.mk ?_ | apply Eff1.of); conv => whnf)
    | with_reducible exact rfl
    | ((with_reducible refine Ov.ok zO ?_); conv => whnf)
    | (with_reducible refine Ov.sh1 (by with_unfolding_all exact rfl) ?_)
    | ((with_reducible refine Ov.quo (by omega) (by omega) (by omega) (fun _ _ => ?_)); conv => whnf)
    | ((with_reducible refine And.intro (show drawOK _ _ _ _ = true by kernel_rfl) ?_); conv => whnf)
    | ((with_reducible refine And.intro zC ?_); conv => whnf)
    | ((with_reducible refine And.intro ?hb ?_); (case hb => exact bytes_bd (Nat.le_of_ble_eq_true rfl) (by omega)); (conv => whnf))
    | ((refine DApp.a rfl rfl rfl rfl rfl rfl ?hb ?_); (case hb => exact zB); (conv => whnf))
    | ((refine DApp.b rfl rfl rfl rfl rfl rfl rfl rfl ?hb ?ho ?_); (case hb => exact zB); (case ho => omega); (conv => whnf))
    | ((refine DApp.c rfl rfl rfl rfl rfl ?hb ?_); (case hb => exact zB); (conv => whnf))
    | ((refine DApp.d rfl rfl rfl rfl rfl rfl ?hb ?ho ?_); (case hb => exact zB); (case ho => omega); (conv => whnf))
    | ((with_reducible refine nil_no (by omega) ?_); (conv => whnf))
    | ((with_reducible refine nil_any ?_ (fun hn0 => ?_)) <;> (conv => whnf))
    | ((with_reducible refine CallStop.pure (hfitL) rfl rfl ?_); conv => whnf) | ((with_reducible refine DCall.pure (hfitL) rfl rfl ?_); conv => whnf)
    | ((with_reducible refine CallStop.pure (hD) rfl rfl ?_); conv => whnf) | ((with_reducible refine DCall.pure (hD) rfl rfl ?_); conv => whnf)
    | ((apply CallStop.fn5 (h := hE1)); (case hh => exact zG); (case ha => exact zA); (case hd => exact rfl); (case hlive => exact rfl); (case hkeys => exact rfl); (case hlt => exact rfl); (conv => whnf))
    | ((apply CallStop.fn5 (h := hLv)); (case hh => exact zG); (case ha => exact zA); (case hd => exact rfl); (case hlive => exact rfl); (case hkeys => exact rfl); (case hlt => exact rfl); (conv => whnf))
    | ((apply CallStop.fn5 (h := hR)); (case hh => exact zG); (case ha => exact zA); (case hd => exact rfl); (case hlive => exact rfl); (case hkeys => exact rfl); (case hlt => exact rfl); (conv => whnf))
    | ((apply CallStop.fn5 (h := hE2)); (case hh => exact zG); (case ha => exact zA); (case hd => exact rfl); (case hlive => exact rfl); (case hkeys => exact rfl); (case hlt => exact rfl); (conv => whnf))
    | ((with_reducible refine CallStop.pure (r14_Same _ _) rfl rfl ?_); conv => whnf) | ((with_reducible refine DCall.pure (r14_Same _ _) rfl rfl ?_); conv => whnf)
    | ((refine StrOf.mk' qk rfl (fun i hi => rfl) ?_); (conv => whnf))
    | ((refine ways (fun hc => ?_) (fun hc => ?_)) <;> (try simp only [decide_eq_true_eq, decide_eq_false_iff_not, Bool.and_eq_true, Bool.or_eq_true, Bool.and_eq_false_iff, Bool.or_eq_false_iff, Bool.not_eq_true', Bool.not_eq_false', beq_iff_eq, bne_iff_ne, ne_eq, beq_eq_false_iff_ne, bne_eq_false_iff_eq, Bool.not_eq_true, Bool.not_eq_false] at hc) <;> (try (exfalso; omega)) <;> (conv => whnf))))
          all_goals first
            | exact .rfl _
            | exact absurd trivial hc
            | exact .b (by rw [hW]; rfl)
      · have hst : Dir.callOf (startS op' qk qv) = some (Dir.pkc ⟨qw, op', qk, qv⟩) := by unfold startS; rw [if_neg h4']; rfl
        rw [hst] at heff
        obtain ⟨hr, hown⟩ := heff
        have e1 := hdone.ans h4'
        have e2 := hdone.lk h4'
        rw [u2] at e1
        have hrr : rs (n - 1) = (doneE (Dir.ents M) ⟨qw, op', qk, qv⟩).2 := hr.trans e1.symm
        have hents : Dir.ents (tr n).M = (doneE (Dir.ents M) ⟨qw, op', qk, qv⟩).1 := Dir.srt_ext v1 hdone.s fun q => by rw [v2, hown, e2, u2, u2]; rfl
        rw [hents] at hE2
        rw [hrr] at hR
        clear hdone A hN v1 v2 u1 u2 hr hown hents hrr e1 e2
        generalize tr n = Sn at hR hE2 hLn
        obtain ⟨Mn, cn, nn, fn⟩ := Sn
        dsimp only at hR hE2 hLn
        generalize doneE (Dir.ents M) ⟨qw, op', qk, qv⟩ = dn at hR hE2 hD
        obtain ⟨dl, ⟨rd, re, rn⟩⟩ := dn
        dsimp only at hR hE2 hD
        subst hop'
        (repeat' (first
    | with_reducible refine Wp.seq ?_
    | with_reducible refine Wp.block ?_
    | ((with_reducible first | refine Wp.region ?_ | refine Wp.drawL TC_mixed ?_ | refine Wp.cond ?_ | refine Wp.ret ?_ | refine Wp.skip ?_ | refine Wp.exit ?_ | refine Go.mk ?_ | apply Eff1.of); conv => whnf)
    | with_reducible exact rfl
    | ((with_reducible refine Ov.ok zO ?_); conv => whnf)
    | (with_reducible refine Ov.sh1 (by with_unfolding_all exact rfl) ?_)
    | ((with_reducible refine Ov.quo (by omega) (by omega) (by omega) (fun _ _ => ?_)); conv => whnf)
    | ((with_reducible refine And.intro (show drawOK _ _ _ _ = true by kernel_rfl) ?_); conv => whnf)
    | ((with_reducible refine And.intro zC ?_); conv => whnf)
    | ((with_reducible refine And.intro ?hb ?_); (case hb => exact bytes_bd (Nat.le_of_ble_eq_true rfl) (by omega)); (conv => whnf))
    | ((refine DApp.a rfl rfl rfl rfl rfl rfl ?hb ?_); (case hb => exact zB); (conv => whnf))
    | ((refine DApp.b rfl rfl rfl rfl rfl rfl rfl rfl ?hb ?ho ?_); (case hb => exact zB); (case ho => omega); (conv => whnf))
    | ((refine DApp.c rfl rfl rfl rfl rfl ?hb ?_); (case hb => exact zB); (conv => whnf))
    | ((refine DApp.d rfl rfl rfl rfl rfl rfl ?hb ?ho ?_); (case hb => exact zB); (case ho => omega); (conv => whnf))
    | ((with_reducible refine nil_no (by omega) ?_); (conv => whnf))
    | ((with_reducible refine nil_any ?_ (fun hn0 => ?_)) <;> (conv => whnf))
    | ((with_reducible refine CallStop.pure (hfitL) rfl rfl ?_); conv => whnf) | ((with_reducible refine DCall.pure (hfitL) rfl rfl ?_); conv => whnf)
    | ((with_reducible refine CallStop.pure (hD) rfl rfl ?_); conv => whnf) | ((with_reducible refine DCall.pure (hD) rfl rfl ?_); conv => whnf)
    | ((apply CallStop.fn5 (h := hE1)); (case hh => exact zG); (case ha => exact zA); (case hd => exact rfl); (case hlive => exact rfl); (case hkeys => exact rfl); (case hlt => exact rfl); (conv => whnf))
    | ((apply CallStop.fn5 (h := hLv)); (case hh => exact zG); (case ha => exact zA); (case hd => exact rfl); (case hlive => exact rfl); (case hkeys => exact rfl); (case hlt => exact rfl); (conv => whnf))
    | ((apply CallStop.fn5 (h := hR)); (case hh => exact zG); (case ha => exact zA); (case hd => exact rfl); (case hlive => exact rfl); (case hkeys => exact rfl); (case hlt => exact rfl); (conv => whnf))
    | ((apply CallStop.fn5 (h := hE2)); (case hh => exact zG); (case ha => exact zA); (case hd => exact rfl); (case hlive => exact rfl); (case hkeys => exact rfl); (case hlt => exact rfl); (conv => whnf))
    | ((with_reducible refine CallStop.pure (r14_Same _ _) rfl rfl ?_); conv => whnf) | ((with_reducible refine DCall.pure (r14_Same _ _) rfl rfl ?_); conv => whnf)
    | ((refine StrOf.mk' qk rfl (fun i hi => rfl) ?_); (conv => whnf))
    | ((refine ways (fun hc => ?_) (fun hc => ?_)) <;> (try simp only [decide_eq_true_eq, decide_eq_false_iff_not, Bool.and_eq_true, Bool.or_eq_true, Bool.and_eq_false_iff, Bool.or_eq_false_iff, Bool.not_eq_true', Bool.not_eq_false', beq_iff_eq, bne_iff_ne, ne_eq, beq_eq_false_iff_ne, bne_eq_false_iff_eq, Bool.not_eq_true, Bool.not_eq_false] at hc) <;> (try (exfalso; omega)) <;> (conv => whnf))))
        all_goals first
          | exact .rfl _
          | exact absurd trivial hc
          | (exfalso; simp at hc; done)
          | exact .b (by simp)
end Go.Proofs.YtbdclkjelhlfbaaGreat

namespace Go.Proofs.YtbdclkjelhlfbaaGreat
open Go.RowKit
set_option maxRecDepth 100000
@[reducible] def pkS (p : Pk) : List SV := [.i .i64 p.who, .i .u8 p.op, .d (slOf 1 (encI .u8) p.key), .i .i64 p.val]
def Rel (p : Pk) (s : Dir.CS) : Prop := s ≠ .none → Dir.callOf s = if p.op = 4 then none else some (Dir.pkc p)
set_option maxHeartbeats 8000000 in
theorem DirAtOnce_holds (script : List Pk) (hs : ∀ a ∈ script, a.ok) : Pure TC 6 [.d (slOf 4 Pk.D script)] (.b true) := by
  refine Pure.lens (.mk Tryz.func6 rfl rfl) fun hlen => ?_
  have hl0 := hlen script.length (by simp [lensOf, slOf])
  clear hlen
  refine Pure.mk' Tryz.func6 rfl rfl (Nat.le_of_ble_eq_true rfl) ?_
  (repeat' (first
    | with_reducible refine Wp.seq ?_
    | with_reducible refine Wp.block ?_
    | ((with_reducible first | refine Wp.region ?_ | refine Wp.drawL TC_mixed ?_ | refine Wp.cond ?_ | refine Wp.ret ?_ | refine Wp.skip ?_ | refine Wp.exit ?_ | refine Go.mk ?_ | apply Eff1.of); conv => whnf)
    | with_reducible exact rfl
    | ((with_reducible refine Ov.ok zO ?_); conv => whnf)
    | (with_reducible refine Ov.sh1 (by with_unfolding_all exact rfl) ?_)
    | ((with_reducible refine Ov.quo (by omega) (by omega) (by omega) (fun _ _ => ?_)); conv => whnf)
    | ((with_reducible refine And.intro (show drawOK _ _ _ _ = true by kernel_rfl) ?_); conv => whnf)
    | ((with_reducible refine And.intro zC ?_); conv => whnf)
    | ((with_reducible refine And.intro ?hb ?_); (case hb => exact bytes_bd (Nat.le_of_ble_eq_true rfl) (by omega)); (conv => whnf))
    | ((refine DApp.a rfl rfl rfl rfl rfl rfl ?hb ?_); (case hb => exact zB); (conv => whnf))
    | ((refine DApp.b rfl rfl rfl rfl rfl rfl rfl rfl ?hb ?ho ?_); (case hb => exact zB); (case ho => omega); (conv => whnf))
    | ((refine DApp.c rfl rfl rfl rfl rfl ?hb ?_); (case hb => exact zB); (conv => whnf))
    | ((refine DApp.d rfl rfl rfl rfl rfl rfl ?hb ?ho ?_); (case hb => exact zB); (case ho => omega); (conv => whnf))
    | ((with_reducible refine nil_no (by omega) ?_); (conv => whnf))
    | ((with_reducible refine nil_any ?_ (fun hn0 => ?_)) <;> (conv => whnf))
    | ((with_reducible refine CallStop.pure (awake_T) rfl rfl ?_); conv => whnf) | ((with_reducible refine DCall.pure (awake_T) rfl rfl ?_); conv => whnf)
    | ((refine CallStop.fn (law_New) [] rfl rfl rfl rfl rfl ?ha ?hh ?_); (case ha => exact zA); (case hh => exact zH); (conv => whnf))
    | ((refine DCall.fn (law_New) [] [] rfl rfl rfl rfl rfl ?ha ?hh ?hs ?_); (case ha => exact zA); (case hh => exact zH); (case hs => exact zK); (conv => whnf)) | ((refine DCall.new (law_New) [] [] rfl rfl rfl rfl rfl rfl ?ha ?hh ?hs ?_); (case ha => exact zA); (case hh => exact zH); (case hs => exact zK); (conv => whnf))
    | ((refine ways (fun hc => ?_) (fun hc => ?_)) <;> (try simp only [decide_eq_true_eq, decide_eq_false_iff_not, Bool.and_eq_true, Bool.or_eq_true, Bool.and_eq_false_iff, Bool.or_eq_false_iff, Bool.not_eq_true', Bool.not_eq_false', beq_iff_eq, bne_iff_ne, ne_eq, beq_eq_false_iff_ne, bne_eq_false_iff_eq, Bool.not_eq_true, Bool.not_eq_false] at hc) <;> (try (exfalso; omega)) <;> (conv => whnf))))
  refine Wp.loopP (ι := Nat × Nat × Dst × List Dir.Ent × (Nat → Pk))
    (fun k => k.1 ≤ script.length ∧ k.1 ≤ 400 ∧ k.2.1 ≤ k.1 ∧ LawE k.2.1 k.2.2.1.M k.2.2.1.cs k.2.2.1.nl ((k.2.1 : Int) + 1) ∧ Dir.srt k.2.2.2.1 ∧ k.2.2.2.1.length ≤ k.1 ∧ (∀ q, Dir.lk k.2.2.2.1 q = Dir.own k.2.2.1.M q) ∧ ∀ j, Rel (k.2.2.2.2 j) (k.2.2.1.cs j))
    (fun k => ⟨⟨Tryz.f6.ntmps, 0⟩, 6, [(3, .ptr 0 0), (4, .d (slOf 2 entD k.2.2.2.1)), (5, .ptr 5 0), (17, .d (slOf 4 Pk.D script)), (18, .i .i64 script.length), (19, .i .i64 k.1)],
      dirH (gOf k.2.2.1.cs) k.2.2.1.M k.2.2.1.nl k.2.2.1.f 0 ((k.2.1 : Int) + 1) ++ [(5, some (.cells (pkS (k.2.2.2.2 0) ++ pkS (k.2.2.2.2 1) ++ pkS (k.2.2.2.2 2) ++ pkS (k.2.2.2.2 3) ++ pkS (k.2.2.2.2 4))))]⟩)
    (fun k => script.length - k.1) (0, 0, ⟨Dir.M0, fun _ => .none, noteN 0, noteF 0 (fun _ => []) (accD 0 2 1 0 1 true)⟩, [], fun _ => ⟨0, 0, [], 0⟩)
    ⟨Nat.zero_le _, Nat.zero_le _, Nat.le_refl _, LawE.zero, .nil, Nat.le_refl _, fun q => (by unfold Dir.own; rfl), fun j h => absurd rfl h⟩ ?_ ?_
  · (refine Le.by [0, 1, 2, 3, 4, 5] rfl rfl rfl rfl ?_ ?_ <;> (conv => whnf) <;> (repeat' (first | exact trivial | exact ArgLe.rfl rfl | exact ArgLe.free SV.Le.nil rfl | exact ArgLe.ptr rfl | exact ArgLe.sl rfl | exact dir_argP rfl rfl rfl rfl | exact ⟨rfl, rfl, rfl⟩ | exact ⟨rfl, Nat.le_of_ble_eq_true rfl⟩ | exact fun i hi => rfl | ((with_reducible refine And.intro ?_ ?_) <;> (conv => whnf)))))
  · rintro ⟨i, k, ⟨M, cs, nl, f⟩, l, c⟩ ⟨h1, h2, h3, h4, h5, h6, h7, h8⟩
    dsimp only at h1 h2 h3 h4 h5 h6 h7 h8 ⊢
    have hok := pk_at hs (i : Int).toNat
    have hfit := law_fit _ hok
    obtain ⟨w, hw⟩ := fit_fit hok
    generalize fitP (script.getD (i : Int).toNat default) = p at hfit hw
    obtain ⟨pw, pop, pk, pv⟩ := p
    obtain ⟨w0, w5, o0, o4, kl, kb, kv⟩ := hw
    dsimp only at w0 o0 o4 kl kb kv
    subst w0
    replace hfit : Pure TC 34 [.agg [.i .i64 (script.getD (i : Int).toNat default).who, .i .u8 (script.getD (i : Int).toNat default).op, .d (slOf 1 (encI .u8) (script.getD (i : Int).toNat default).key), .i .i64 (script.getD (i : Int).toNat default).val]] (.agg [.i .i64 w, .i .u8 pop, .d (slOf 1 (encI .u8) pk), .i .i64 pv]) := hfit
    have hP := law_Pending (M := M) (cs := cs) (nl := nl) (f := f) (clk := 0) (cnt := (k : Int) + 1) w (by omega)
    obtain ⟨u1, u2⟩ := Dir.ents_ok h4.s.inv.iw h4.ih
    have hents : Dir.ents M = l := Dir.srt_ext u1 h5 fun q => by rw [u2, h7]
    by_cases hi : i < script.length ∧ i < 400
    · cases hc : isC (cs w) with
      | false =>
        rw [hc] at hP
        by_cases hop : pop = 0
        · subst hop
          (repeat' (first
    | with_reducible refine Wp.seq ?_
    | with_reducible refine Wp.block ?_
    | ((with_reducible first | refine Wp.region ?_ | refine Wp.drawL TC_mixed ?_ | refine Wp.cond ?_ | refine Wp.ret ?_ | refine Wp.skip ?_ | refine Wp.exit ?_ | refine Go.mk ?_ | apply Eff1.of); conv => whnf)
    | with_reducible exact rfl
    | ((with_reducible refine Ov.ok zO ?_); conv => whnf)
    | (with_reducible refine Ov.sh1 (by with_unfolding_all exact rfl) ?_)
    | ((with_reducible refine Ov.quo (by omega) (by omega) (by omega) (fun _ _ => ?_)); conv => whnf)
    | ((with_reducible refine And.intro (show drawOK _ _ _ _ = true by kernel_rfl) ?_); conv => whnf)
    | ((with_reducible refine And.intro zC ?_); conv => whnf)
    | ((with_reducible refine And.intro ?hb ?_); (case hb => exact bytes_bd (Nat.le_of_ble_eq_true rfl) (by omega)); (conv => whnf))
    | ((refine DApp.a rfl rfl rfl rfl rfl rfl ?hb ?_); (case hb => exact zB); (conv => whnf))
    | ((refine DApp.b rfl rfl rfl rfl rfl rfl rfl rfl ?hb ?ho ?_); (case hb => exact zB); (case ho => omega); (conv => whnf))
    | ((refine DApp.c rfl rfl rfl rfl rfl ?hb ?_); (case hb => exact zB); (conv => whnf))
    | ((refine DApp.d rfl rfl rfl rfl rfl rfl ?hb ?ho ?_); (case hb => exact zB); (case ho => omega); (conv => whnf))
    | ((with_reducible refine nil_no (by omega) ?_); (conv => whnf))
    | ((with_reducible refine nil_any ?_ (fun hn0 => ?_)) <;> (conv => whnf))
    | ((with_reducible refine CallStop.pure (hfit) rfl rfl ?_); conv => whnf) | ((with_reducible refine DCall.pure (hfit) rfl rfl ?_); conv => whnf)
    | ((apply CallStop.fn5 (h := hP)); (case hh => exact zG); (case ha => exact zA); (case hd => exact rfl); (case hlive => exact rfl); (case hkeys => exact rfl); (case hlt => exact rfl); (conv => whnf))
    | ((refine ways (fun hc => ?_) (fun hc => ?_)) <;> (try simp only [decide_eq_true_eq, decide_eq_false_iff_not, Bool.and_eq_true, Bool.or_eq_true, Bool.and_eq_false_iff, Bool.or_eq_false_iff, Bool.not_eq_true', Bool.not_eq_false', beq_iff_eq, bne_iff_ne, ne_eq, beq_eq_false_iff_ne, bne_eq_false_iff_eq, Bool.not_eq_true, Bool.not_eq_false] at hc) <;> (try (exfalso; omega)) <;> (conv => whnf))))
          refine ⟨(i + 1, k, ⟨M, cs, nl, f⟩, l, c), ⟨by dsimp only; omega, by dsimp only; omega, by dsimp only; omega, h4, h5, by dsimp only; omega, h7, h8⟩, by dsimp only; omega, ?_⟩
          dsimp only
          (refine Le.by [0,1,2,3,4,5] rfl rfl rfl rfl ?_ ?_ <;> (conv => whnf) <;> (repeat' (first | exact trivial | exact ArgLe.rfl rfl | exact ArgLe.ptr rfl | exact ArgLe.sl rfl | exact dir_arg4 | exact dir_argR4 (fun l hl => by rcases l with _ | _ | _ | _ | l <;> first | rfl | omega) | exact ⟨rfl, rfl, rfl⟩ | exact ⟨rfl, Nat.le_of_ble_eq_true rfl⟩ | exact fun i hi => rfl | ((with_reducible refine And.intro ?_ ?_) <;> (conv => whnf)))))
        · have hS := law_Start (M := M) (nl := nl) (f := f) (clk := 0) (cnt := (k : Int) + 1) w (by omega) pop pk pv (by omega) o4 (by omega) kv (isC_no hc)
          have hN := h4.start w pop pk pv kb ⟨by omega, o4⟩ (by omega)
          have hR : ∀ j, Rel (Dir.upd c w ⟨w, pop, pk, pv⟩ j) (Dir.upd cs w (startS pop pk pv) j) := fun j => by
            unfold Dir.upd
            split
            · intro _; unfold startS; split <;> rfl
            · exact h8 j
          generalize Dir.upd cs w (startS pop pk pv) = cs' at hS hN hR
          have h5w : w = 0 ∨ w = 1 ∨ w = 2 ∨ w = 3 ∨ w = 4 := by omega
          rcases h5w with rfl | rfl | rfl | rfl | rfl
          · (repeat' (first
    | with_reducible refine Wp.seq ?_
    | with_reducible refine Wp.block ?_
    | ((with_reducible first | refine Wp.region ?_ | refine Wp.drawL TC_mixed ?_ | refine Wp.cond ?_ | refine Wp.ret ?_ | refine Wp.skip ?_ | refine Wp.exit ?_ | refine Go.mk ?_ | apply Eff1.of); conv => whnf)
    | with_reducible exact rfl
    | ((with_reducible refine Ov.ok zO ?_); conv => whnf)
    | (with_reducible refine Ov.sh1 (by with_unfolding_all exact rfl) ?_)
    | ((with_reducible refine Ov.quo (by omega) (by omega) (by omega) (fun _ _ => ?_)); conv => whnf)
    | ((with_reducible refine And.intro (show drawOK _ _ _ _ = true by kernel_rfl) ?_); conv => whnf)
    | ((with_reducible refine And.intro zC ?_); conv => whnf)
    | ((with_reducible refine And.intro ?hb ?_); (case hb => exact bytes_bd (Nat.le_of_ble_eq_true rfl) (by omega)); (conv => whnf))
    | ((refine DApp.a rfl rfl rfl rfl rfl rfl ?hb ?_); (case hb => exact zB); (conv => whnf))
    | ((refine DApp.b rfl rfl rfl rfl rfl rfl rfl rfl ?hb ?ho ?_); (case hb => exact zB); (case ho => omega); (conv => whnf))
    | ((refine DApp.c rfl rfl rfl rfl rfl ?hb ?_); (case hb => exact zB); (conv => whnf))
    | ((refine DApp.d rfl rfl rfl rfl rfl rfl ?hb ?ho ?_); (case hb => exact zB); (case ho => omega); (conv => whnf))
    | ((with_reducible refine nil_no (by omega) ?_); (conv => whnf))
    | ((with_reducible refine nil_any ?_ (fun hn0 => ?_)) <;> (conv => whnf))
    | ((with_reducible refine CallStop.pure (hfit) rfl rfl ?_); conv => whnf) | ((with_reducible refine DCall.pure (hfit) rfl rfl ?_); conv => whnf)
    | ((apply CallStop.fn5 (h := hP)); (case hh => exact zG); (case ha => exact zA); (case hd => exact rfl); (case hlive => exact rfl); (case hkeys => exact rfl); (case hlt => exact rfl); (conv => whnf))
    | ((apply CallStop.fn5 (h := hS)); (case hh => exact zG); (case ha => exact zA); (case hd => exact rfl); (case hlive => exact rfl); (case hkeys => exact rfl); (case hlt => exact rfl); (conv => whnf))
    | ((refine ways (fun hc => ?_) (fun hc => ?_)) <;> (try simp only [decide_eq_true_eq, decide_eq_false_iff_not, Bool.and_eq_true, Bool.or_eq_true, Bool.and_eq_false_iff, Bool.or_eq_false_iff, Bool.not_eq_true', Bool.not_eq_false', beq_iff_eq, bne_iff_ne, ne_eq, beq_eq_false_iff_ne, bne_eq_false_iff_eq, Bool.not_eq_true, Bool.not_eq_false] at hc) <;> (try (exfalso; omega)) <;> (conv => whnf))))
            refine ⟨(i + 1, k, ⟨M, cs', nl, f⟩, l, Dir.upd c 0 ⟨(0 : Nat), pop, pk, pv⟩), ⟨by dsimp only; omega, by dsimp only; omega, by dsimp only; omega, hN, h5, by dsimp only; omega, h7, hR⟩, by dsimp only; omega, ?_⟩
            dsimp only
            (refine Le.by [0,1,2,3,4,5] rfl rfl rfl rfl ?_ ?_ <;> (conv => whnf) <;> (repeat' (first | exact trivial | exact ArgLe.rfl rfl | exact ArgLe.ptr rfl | exact ArgLe.sl rfl | exact dir_arg4 | exact dir_argR4 (fun l hl => by rcases l with _ | _ | _ | _ | l <;> first | rfl | omega) | exact ⟨rfl, rfl, rfl⟩ | exact ⟨rfl, Nat.le_of_ble_eq_true rfl⟩ | exact fun i hi => rfl | ((with_reducible refine And.intro ?_ ?_) <;> (conv => whnf)))))
          · (repeat' (first
    | with_reducible refine Wp.seq ?_
    | with_reducible refine Wp.block ?_
    | ((with_reducible first | refine Wp.region ?_ | refine Wp.drawL TC_mixed ?_ | refine Wp.cond ?_ | refine Wp.ret ?_ | refine Wp.skip ?_ | refine Wp.exit ?_ | refine Go.mk ?_ | apply Eff1.of); conv => whnf)
    | with_reducible exact rfl
    | ((with_reducible refine Ov.ok zO ?_); conv => whnf)
    | (with_reducible refine Ov.sh1 (by with_unfolding_all exact rfl) ?_)
    | ((with_reducible refine Ov.quo (by omega) (by omega) (by omega) (fun _ _ => ?_)); conv => whnf)
    | ((with_reducible refine And.intro (show drawOK _ _ _ _ = true by kernel_rfl) ?_); conv => whnf)
    | ((with_reducible refine And.intro zC ?_); conv => whnf)
    | ((with_reducible refine And.intro ?hb ?_); (case hb => exact bytes_bd (Nat.le_of_ble_eq_true rfl) (by omega)); (conv => whnf))
    | ((refine DApp.a rfl rfl rfl rfl rfl rfl ?hb ?_); (case hb => exact zB); (conv => whnf))
    | ((refine DApp.b rfl rfl rfl rfl rfl rfl rfl rfl ?hb ?ho ?_); (case hb => exact zB); (case ho => omega); (conv => whnf))
    | ((refine DApp.c rfl rfl rfl rfl rfl ?hb ?_); (case hb => exact zB); (conv => whnf))
    | ((refine DApp.d rfl rfl rfl rfl rfl rfl ?hb ?ho ?_); (case hb => exact zB); (case ho => omega); (conv => whnf))
    | ((with_reducible refine nil_no (by omega) ?_); (conv => whnf))
    | ((with_reducible refine nil_any ?_ (fun hn0 => ?_)) <;> (conv => whnf))
    | ((with_reducible refine CallStop.pure (hfit) rfl rfl ?_); conv => whnf) | ((with_reducible refine DCall.pure (hfit) rfl rfl ?_); conv => whnf)
    | ((apply CallStop.fn5 (h := hP)); (case hh => exact zG); (case ha => exact zA); (case hd => exact rfl); (case hlive => exact rfl); (case hkeys => exact rfl); (case hlt => exact rfl); (conv => whnf))
    | ((apply CallStop.fn5 (h := hS)); (case hh => exact zG); (case ha => exact zA); (case hd => exact rfl); (case hlive => exact rfl); (case hkeys => exact rfl); (case hlt => exact rfl); (conv => whnf))
    | ((refine ways (fun hc => ?_) (fun hc => ?_)) <;> (try simp only [decide_eq_true_eq, decide_eq_false_iff_not, Bool.and_eq_true, Bool.or_eq_true, Bool.and_eq_false_iff, Bool.or_eq_false_iff, Bool.not_eq_true', Bool.not_eq_false', beq_iff_eq, bne_iff_ne, ne_eq, beq_eq_false_iff_ne, bne_eq_false_iff_eq, Bool.not_eq_true, Bool.not_eq_false] at hc) <;> (try (exfalso; omega)) <;> (conv => whnf))))
            refine ⟨(i + 1, k, ⟨M, cs', nl, f⟩, l, Dir.upd c 1 ⟨(1 : Nat), pop, pk, pv⟩), ⟨by dsimp only; omega, by dsimp only; omega, by dsimp only; omega, hN, h5, by dsimp only; omega, h7, hR⟩, by dsimp only; omega, ?_⟩
            dsimp only
            (refine Le.by [0,1,2,3,4,5] rfl rfl rfl rfl ?_ ?_ <;> (conv => whnf) <;> (repeat' (first | exact trivial | exact ArgLe.rfl rfl | exact ArgLe.ptr rfl | exact ArgLe.sl rfl | exact dir_arg4 | exact dir_argR4 (fun l hl => by rcases l with _ | _ | _ | _ | l <;> first | rfl | omega) | exact ⟨rfl, rfl, rfl⟩ | exact ⟨rfl, Nat.le_of_ble_eq_true rfl⟩ | exact fun i hi => rfl | ((with_reducible refine And.intro ?_ ?_) <;> (conv => whnf)))))
          · (repeat' (first
    | with_reducible refine Wp.seq ?_
    | with_reducible refine Wp.block ?_
    | ((with_reducible first | refine Wp.region ?_ | refine Wp.drawL TC_mixed ?_ | refine Wp.cond ?_ | refine Wp.ret ?_ | refine Wp.skip ?_ | refine Wp.exit ?_ | refine Go.mk ?_ | apply Eff1.of); conv => whnf)
    | with_reducible exact rfl
    | ((with_reducible refine Ov.ok zO ?_); conv => whnf)
    | (with_reducible refine Ov.sh1 (by with_unfolding_all exact rfl) ?_)
    | ((with_reducible refine Ov.quo (by omega) (by omega) (by omega) (fun _ _ => ?_)); conv => whnf)
    | ((with_reducible refine And.intro (show drawOK _ _ _ _ = true by kernel_rfl) ?_); conv => whnf)
    | ((with_reducible refine And.intro zC ?_); conv => whnf)
    | ((with_reducible refine And.intro ?hb ?_); (case hb => exact bytes_bd (Nat.le_of_ble_eq_true rfl) (by omega)); (conv => whnf))
    | ((refine DApp.a rfl rfl rfl rfl rfl rfl ?hb ?_); (case hb => exact zB); (conv => whnf))
    | ((refine DApp.b rfl rfl rfl rfl rfl rfl rfl rfl ?hb ?ho ?_); (case hb => exact zB); (case ho => omega); (conv => whnf))
    | ((refine DApp.c rfl rfl rfl rfl rfl ?hb ?_); (case hb => exact zB); (conv => whnf))
    | ((refine DApp.d rfl rfl rfl rfl rfl rfl ?hb ?ho ?_); (case hb => exact zB); (case ho => omega); (conv => whnf))
    | ((with_reducible refine nil_no (by omega) ?_); (conv => whnf))
    | ((with_reducible refine nil_any ?_ (fun hn0 => ?_)) <;> (conv => whnf))
    | ((with_reducible refine CallStop.pure (hfit) rfl rfl ?_); conv => whnf) | ((with_reducible refine DCall.pure (hfit) rfl rfl ?_); conv => whnf)
    | ((apply CallStop.fn5 (h := hP)); (case hh => exact zG); (case ha => exact zA); (case hd => exact rfl); (case hlive => exact rfl); (case hkeys => exact rfl); (case hlt => exact rfl); (conv => whnf))
    | ((apply CallStop.fn5 (h := hS)); (case hh => exact zG); (case ha => exact zA); (case hd => exact rfl); (case hlive => exact rfl); (case hkeys => exact rfl); (case hlt => exact rfl); (conv => whnf))
    | ((refine ways (fun hc => ?_) (fun hc => ?_)) <;> (try simp only [decide_eq_true_eq, decide_eq_false_iff_not, Bool.and_eq_true, Bool.or_eq_true, Bool.and_eq_false_iff, Bool.or_eq_false_iff, Bool.not_eq_true', Bool.not_eq_false', beq_iff_eq, bne_iff_ne, ne_eq, beq_eq_false_iff_ne, bne_eq_false_iff_eq, Bool.not_eq_true, Bool.not_eq_false] at hc) <;> (try (exfalso; omega)) <;> (conv => whnf))))
            refine ⟨(i + 1, k, ⟨M, cs', nl, f⟩, l, Dir.upd c 2 ⟨(2 : Nat), pop, pk, pv⟩), ⟨by dsimp only; omega, by dsimp only; omega, by dsimp only; omega, hN, h5, by dsimp only; omega, h7, hR⟩, by dsimp only; omega, ?_⟩
            dsimp only
            (refine Le.by [0,1,2,3,4,5] rfl rfl rfl rfl ?_ ?_ <;> (conv => whnf) <;> (repeat' (first | exact trivial | exact ArgLe.rfl rfl | exact ArgLe.ptr rfl | exact ArgLe.sl rfl | exact dir_arg4 | exact dir_argR4 (fun l hl => by rcases l with _ | _ | _ | _ | l <;> first | rfl | omega) | exact ⟨rfl, rfl, rfl⟩ | exact ⟨rfl, Nat.le_of_ble_eq_true rfl⟩ | exact fun i hi => rfl | ((with_reducible refine And.intro ?_ ?_) <;> (conv => whnf)))))
          · (repeat' (first
    | with_reducible refine Wp.seq ?_
    | with_reducible refine Wp.block ?_
    | ((with_reducible first | refine Wp.region ?_ | refine Wp.drawL TC_mixed ?_ | refine Wp.cond ?_ | refine Wp.ret ?_ | refine Wp.skip ?_ | refine Wp.exit ?_ | refine Go.mk ?_ | apply Eff1.of); conv => whnf)
    | with_reducible exact rfl
    | ((with_reducible refine Ov.ok zO ?_); conv => whnf)
    | (with_reducible refine Ov.sh1 (by with_unfolding_all exact rfl) ?_)
    | ((with_reducible refine Ov.quo (by omega) (by omega) (by omega) (fun _ _ => ?_)); conv => whnf)
    | ((with_reducible refine And.intro (show drawOK _ _ _ _ = true by kernel_rfl) ?_); conv => whnf)
    | ((with_reducible refine And.intro zC ?_); conv => whnf)
    | ((with_reducible refine And.intro ?hb ?_); (case hb => exact bytes_bd (Nat.le_of_ble_eq_true rfl) (by omega)); (conv => whnf))
    | ((refine DApp.a rfl rfl rfl rfl rfl rfl ?hb ?_); (case hb => exact zB); (conv => whnf))
    | ((refine DApp.b rfl rfl rfl rfl rfl rfl rfl rfl ?hb ?ho ?_); (case hb => exact zB); (case ho => omega); (conv => whnf))
    | ((refine DApp.c rfl rfl rfl rfl rfl ?hb ?_); (case hb => exact zB); (conv => whnf))
    | ((refine DApp.d rfl rfl rfl rfl rfl rfl ?hb ?ho ?_); (case hb => exact zB); (case ho => omega); (conv => whnf))
    | ((with_reducible refine nil_no (by omega) ?_); (conv => whnf))
    | ((with_reducible refine nil_any ?_ (fun hn0 => ?_)) <;> (conv => whnf))
    | ((with_reducible refine CallStop.pure (hfit) rfl rfl ?_); conv => whnf) | ((with_reducible refine DCall.pure (hfit) rfl rfl ?_); conv => whnf)
    | ((apply CallStop.fn5 (h := hP)); (case hh => exact zG); (case ha => exact zA); (case hd => exact rfl); (case hlive => exact rfl); (case hkeys => exact rfl); (case hlt => exact rfl); (conv => whnf))
    | ((apply CallStop.fn5 (h := hS)); (case hh => exact zG); (case ha => exact zA); (case hd => exact rfl); (case hlive => exact rfl); (case hkeys => exact rfl); (case hlt => exact rfl); (conv => whnf))
    | ((refine ways (fun hc => ?_) (fun hc => ?_)) <;> (try simp only [decide_eq_true_eq, decide_eq_false_iff_not, Bool.and_eq_true, Bool.or_eq_true, Bool.and_eq_false_iff, Bool.or_eq_false_iff, Bool.not_eq_true', Bool.not_eq_false', beq_iff_eq, bne_iff_ne, ne_eq, beq_eq_false_iff_ne, bne_eq_false_iff_eq, Bool.not_eq_true, Bool.not_eq_false] at hc) <;> (try (exfalso; omega)) <;> (conv => whnf))))
            refine ⟨(i + 1, k, ⟨M, cs', nl, f⟩, l, Dir.upd c 3 ⟨(3 : Nat), pop, pk, pv⟩), ⟨by dsimp only; omega, by dsimp only; omega, by dsimp only; omega, hN, h5, by dsimp only; omega, h7, hR⟩, by dsimp only; omega, ?_⟩
            dsimp only
            (refine Le.by [0,1,2,3,4,5] rfl rfl rfl rfl ?_ ?_ <;> (conv => whnf) <;> (repeat' (first | exact trivial | exact ArgLe.rfl rfl | exact ArgLe.ptr rfl | exact ArgLe.sl rfl | exact dir_arg4 | exact dir_argR4 (fun l hl => by rcases l with _ | _ | _ | _ | l <;> first | rfl | omega) | exact ⟨rfl, rfl, rfl⟩ | exact ⟨rfl, Nat.le_of_ble_eq_true rfl⟩ | exact fun i hi => rfl | ((with_reducible refine And.intro ?_ ?_) <;> (conv => whnf)))))
          · (repeat' (first
    | with_reducible refine Wp.seq ?_
    | with_reducible refine Wp.block ?_
    | ((with_reducible first | refine Wp.region ?_ | refine Wp.drawL TC_mixed ?_ | refine Wp.cond ?_ | refine Wp.ret ?_ | refine Wp.skip ?_ | refine Wp.exit ?_ | refine Go.mk ?_ | apply Eff1.of); conv => whnf)
    | with_reducible exact rfl
    | ((with_reducible refine Ov.ok zO ?_); conv => whnf)
    | (with_reducible refine Ov.sh1 (by with_unfolding_all exact rfl) ?_)
    | ((with_reducible refine Ov.quo (by omega) (by omega) (by omega) (fun _ _ => ?_)); conv => whnf)
    | ((with_reducible refine And.intro (show drawOK _ _ _ _ = true by kernel_rfl) ?_); conv => whnf)
    | ((with_reducible refine And.intro zC ?_); conv => whnf)
    | ((with_reducible refine And.intro ?hb ?_); (case hb => exact bytes_bd (Nat.le_of_ble_eq_true rfl) (by omega)); (conv => whnf))
    | ((refine DApp.a rfl rfl rfl rfl rfl rfl ?hb ?_); (case hb => exact zB); (conv => whnf))
    | ((refine DApp.b rfl rfl rfl rfl rfl rfl rfl rfl ?hb ?ho ?_); (case hb => exact zB); (case ho => omega); (conv => whnf))
    | ((refine DApp.c rfl rfl rfl rfl rfl ?hb ?_); (case hb => exact zB); (conv => whnf))
    | ((refine DApp.d rfl rfl rfl rfl rfl rfl ?hb ?ho ?_); (case hb => exact zB); (case ho => omega); (conv => whnf))
    | ((with_reducible refine nil_no (by omega) ?_); (conv => whnf))
    | ((with_reducible refine nil_any ?_ (fun hn0 => ?_)) <;> (conv => whnf))
    | ((with_reducible refine CallStop.pure (hfit) rfl rfl ?_); conv => whnf) | ((with_reducible refine DCall.pure (hfit) rfl rfl ?_); conv => whnf)
    | ((apply CallStop.fn5 (h := hP)); (case hh => exact zG); (case ha => exact zA); (case hd => exact rfl); (case hlive => exact rfl); (case hkeys => exact rfl); (case hlt => exact rfl); (conv => whnf))
    | ((apply CallStop.fn5 (h := hS)); (case hh => exact zG); (case ha => exact zA); (case hd => exact rfl); (case hlive => exact rfl); (case hkeys => exact rfl); (case hlt => exact rfl); (conv => whnf))
    | ((refine ways (fun hc => ?_) (fun hc => ?_)) <;> (try simp only [decide_eq_true_eq, decide_eq_false_iff_not, Bool.and_eq_true, Bool.or_eq_true, Bool.and_eq_false_iff, Bool.or_eq_false_iff, Bool.not_eq_true', Bool.not_eq_false', beq_iff_eq, bne_iff_ne, ne_eq, beq_eq_false_iff_ne, bne_eq_false_iff_eq, Bool.not_eq_true, Bool.not_eq_false] at hc) <;> (try (exfalso; omega)) <;> (conv => whnf))))
            refine ⟨(i + 1, k, ⟨M, cs', nl, f⟩, l, Dir.upd c 4 ⟨(4 : Nat), pop, pk, pv⟩), ⟨by dsimp only; omega, by dsimp only; omega, by dsimp only; omega, hN, h5, by dsimp only; omega, h7, hR⟩, by dsimp only; omega, ?_⟩
            dsimp only
            (refine Le.by [0,1,2,3,4,5] rfl rfl rfl rfl ?_ ?_ <;> (conv => whnf) <;> (repeat' (first | exact trivial | exact ArgLe.rfl rfl | exact ArgLe.ptr rfl | exact ArgLe.sl rfl | exact dir_arg4 | exact dir_argR4 (fun l hl => by rcases l with _ | _ | _ | _ | l <;> first | rfl | omega) | exact ⟨rfl, rfl, rfl⟩ | exact ⟨rfl, Nat.le_of_ble_eq_true rfl⟩ | exact fun i hi => rfl | ((with_reducible refine And.intro ?_ ?_) <;> (conv => whnf)))))
      | true =>
        rw [hc] at hP
        by_cases hop : pop = 0
        · subst hop
          obtain ⟨a, hS⟩ := law_Step (f := f) (clk := 0) h4.s (by omega) w (by omega) hc
          have hLv := law_Level h4.s f 0
          have hN := h4.step (by omega) (isC_ne hc)
          have hE := h4.eff (by omega) (isC_ne hc)
          have hrel := h8 w (isC_ne hc)
          have hcnt : ((k + 1 : Nat) : Int) + 1 = (k : Int) + 1 + 1 := by omega
          have hR : ∀ j, j ≠ w → Rel (c j) (Dir.upd cs w (Dir.step dirOps M (cs w)).2.1 j) := fun j hj => by rw [Dir.upd_ne _ _ hj]; exact h8 j
          have hme : Dir.upd cs w (Dir.step dirOps M (cs w)).2.1 w = (Dir.step dirOps M (cs w)).2.1 := Dir.upd_same _ _ _
          unfold dirN at hS
          rw [← hcnt] at hN
          generalize Dir.step dirOps M (cs w) = Q at hS hN hE hR hme
          obtain ⟨M', s', r⟩ := Q
          dsimp only at hS hN hE hR hme
          generalize Dir.upd cs w s' = cs' at hS hN hR hme
          have hEn := hN.entries (by omega) (noteF nl f a) 0
          obtain ⟨v1, v2⟩ := Dir.ents_ok hN.s.inv.iw hN.ih
          rw [hcnt] at hEn
          cases e : r.done with
          | false =>
            obtain ⟨e1, e2, e3, e4⟩ := hE.no e
            subst e1
            have hents' : Dir.ents M' = l := Dir.srt_ext v1 h5 fun q => by rw [v2, e4, h7]
            rw [hents'] at hEn
            have hR' : ∀ j, Rel (c j) (cs' j) := fun j => by
              by_cases ej : j = w
              · subst ej; intro _; rw [hme, e3]; exact hrel
              · exact hR j ej
            have h7' : ∀ q, Dir.lk l q = Dir.own M' q := fun q => by rw [h7, e4]
            have hS : Fun TC 21 5 [.ptr 0 0, .i .i64 w] (dirH (gOf cs) M nl f 0 ((k : Int) + 1)) 6 (.tup [.agg [.b false, .i .i64 0, .i .i64 0], .i .i64 0]) _ := hS
            (repeat' (first
    | with_reducible refine Wp.seq ?_
    | with_reducible refine Wp.block ?_
    | ((with_reducible first | refine Wp.region ?_ | refine Wp.drawL TC_mixed ?_ | refine Wp.cond ?_ | refine Wp.ret ?_ | refine Wp.skip ?_ | refine Wp.exit ?_ | refine Go.mk ?_ | apply Eff1.of); conv => whnf)
    | with_reducible exact rfl
    | ((with_reducible refine Ov.ok zO ?_); conv => whnf)
    | (with_reducible refine Ov.sh1 (by with_unfolding_all exact rfl) ?_)
    | ((with_reducible refine Ov.quo (by omega) (by omega) (by omega) (fun _ _ => ?_)); conv => whnf)
    | ((with_reducible refine And.intro (show drawOK _ _ _ _ = true by kernel_rfl) ?_); conv => whnf)
    | ((with_reducible refine And.intro zC ?_); conv => whnf)
    | ((with_reducible refine And.intro ?hb ?_); (case hb => exact bytes_bd (Nat.le_of_ble_eq_true rfl) (by omega)); (conv => whnf))
    | ((refine DApp.a rfl rfl rfl rfl rfl rfl ?hb ?_); (case hb => exact zB); (conv => whnf))
    | ((refine DApp.b rfl rfl rfl rfl rfl rfl rfl rfl ?hb ?ho ?_); (case hb => exact zB); (case ho => omega); (conv => whnf))
    | ((refine DApp.c rfl rfl rfl rfl rfl ?hb ?_); (case hb => exact zB); (conv => whnf))
    | ((refine DApp.d rfl rfl rfl rfl rfl rfl ?hb ?ho ?_); (case hb => exact zB); (case ho => omega); (conv => whnf))
    | ((with_reducible refine nil_no (by omega) ?_); (conv => whnf))
    | ((with_reducible refine nil_any ?_ (fun hn0 => ?_)) <;> (conv => whnf))
    | ((with_reducible refine CallStop.pure (hfit) rfl rfl ?_); conv => whnf) | ((with_reducible refine DCall.pure (hfit) rfl rfl ?_); conv => whnf)
    | ((apply CallStop.fn5 (h := hP)); (case hh => exact zG); (case ha => exact zA); (case hd => exact rfl); (case hlive => exact rfl); (case hkeys => exact rfl); (case hlt => exact rfl); (conv => whnf))
    | ((apply CallStop.fn5 (h := hLv)); (case hh => exact zG); (case ha => exact zA); (case hd => exact rfl); (case hlive => exact rfl); (case hkeys => exact rfl); (case hlt => exact rfl); (conv => whnf))
    | ((apply CallStop.fn5 (h := hS)); (case hh => exact zG); (case ha => exact zA); (case hd => exact rfl); (case hlive => exact rfl); (case hkeys => exact rfl); (case hlt => exact rfl); (conv => whnf))
    | ((apply CallStop.fn5 (h := hEn)); (case hh => exact zG); (case ha => exact zA); (case hd => exact rfl); (case hlive => exact rfl); (case hkeys => exact rfl); (case hlt => exact rfl); (conv => whnf))
    | ((with_reducible refine CallStop.pure (r14_Same _ _) rfl rfl ?_); conv => whnf) | ((with_reducible refine DCall.pure (r14_Same _ _) rfl rfl ?_); conv => whnf)
    | ((refine ways (fun hc => ?_) (fun hc => ?_)) <;> (try simp only [decide_eq_true_eq, decide_eq_false_iff_not, Bool.and_eq_true, Bool.or_eq_true, Bool.and_eq_false_iff, Bool.or_eq_false_iff, Bool.not_eq_true', Bool.not_eq_false', beq_iff_eq, bne_iff_ne, ne_eq, beq_eq_false_iff_ne, bne_eq_false_iff_eq, Bool.not_eq_true, Bool.not_eq_false] at hc) <;> (try (exfalso; omega)) <;> (conv => whnf))))
            all_goals first
              | (exfalso; simp at hc; done)
              | exact absurd trivial hc
              | (refine ⟨(i + 1, k + 1, ⟨M', cs', noteN nl, noteF nl f a⟩, l, c), ⟨by dsimp only; omega, by dsimp only; omega, by dsimp only; omega, hN, h5, by dsimp only; omega, h7', hR'⟩, by dsimp only; omega, ?_⟩
                 dsimp only
                 rw [hcnt]
                 (refine Le.by [0,1,2,3,7,5] rfl rfl rfl rfl ?_ ?_ <;> (conv => whnf) <;> (repeat' (first | exact trivial | exact ArgLe.rfl rfl | exact ArgLe.ptr rfl | exact ArgLe.sl rfl | exact dir_arg4 | exact dir_argR4 (fun l hl => by rcases l with _ | _ | _ | _ | l <;> first | rfl | omega) | exact ⟨rfl, rfl, rfl⟩ | exact ⟨rfl, Nat.le_of_ble_eq_true rfl⟩ | exact fun i hi => rfl | ((with_reducible refine And.intro ?_ ?_) <;> (conv => whnf))))))
          | true =>
            obtain ⟨e1, e2⟩ := hE.yes e
            rw [hrel] at e2
            have hR' : ∀ j, Rel (c j) (cs' j) := fun j => by
              by_cases ej : j = w
              · subst ej; intro h9; exact absurd (hme.trans e1) h9
              · exact hR j ej
            have hdone := Dir.done_ok h5 (c w)
            have hD : Pure TC 35 [.d (slOf 2 entD l), .agg (pkS (c w))] _ := law_done l (c w) (by omega)
            have hfin : (doneE l (c w)).1.length ≤ i + 1 := by have := hdone.len; omega
            by_cases h4' : (c w).op = 4
            · rw [if_pos h4'] at e2
              obtain ⟨e3, e4⟩ := e2
              rw [hdone.four h4'] at hD hfin
              have hents' : Dir.ents M' = l := Dir.srt_ext v1 h5 fun q => by rw [v2, e4, h7]
              rw [hents'] at hEn
              have h7' : ∀ q, Dir.lk l q = Dir.own M' q := fun q => by rw [h7, e4]
              have hd8 := h4.s.inv.iw.d
              clear hdone hE u1 u2 v1 v2 hents hents' hR hme hrel e1
              have h5w : w = 0 ∨ w = 1 ∨ w = 2 ∨ w = 3 ∨ w = 4 := by omega
              rcases e3 with rfl | ⟨rfl, h8W⟩
              · rcases h5w with rfl | rfl | rfl | rfl | rfl
                all_goals
                  (repeat' (first
    | with_reducible refine Wp.seq ?_
    | with_reducible refine Wp.block ?_
    | ((with_reducible first | refine Wp.region ?_ | refine Wp.drawL TC_mixed ?_ | refine Wp.cond ?_ | refine Wp.ret ?_ | refine Wp.skip ?_ | refine Wp.exit ?_ | refine Go.mk ?_ | apply Eff1.of); conv => whnf)
    | with_reducible exact rfl
    | ((with_reducible refine Ov.ok zO ?_); conv => whnf)
    | (with_reducible refine Ov.sh1 (by with_unfolding_all exact rfl) ?_)
    | ((with_reducible refine Ov.quo (by omega) (by omega) (by omega) (fun _ _ => ?_)); conv => whnf)
    | ((with_reducible refine And.intro (show drawOK _ _ _ _ = true by kernel_rfl) ?_); conv => whnf)
    | ((with_reducible refine And.intro zC ?_); conv => whnf)
    | ((with_reducible refine And.intro ?hb ?_); (case hb => exact bytes_bd (Nat.le_of_ble_eq_true rfl) (by omega)); (conv => whnf))
    | ((refine DApp.a rfl rfl rfl rfl rfl rfl ?hb ?_); (case hb => exact zB); (conv => whnf))
    | ((refine DApp.b rfl rfl rfl rfl rfl rfl rfl rfl ?hb ?ho ?_); (case hb => exact zB); (case ho => omega); (conv => whnf))
    | ((refine DApp.c rfl rfl rfl rfl rfl ?hb ?_); (case hb => exact zB); (conv => whnf))
    | ((refine DApp.d rfl rfl rfl rfl rfl rfl ?hb ?ho ?_); (case hb => exact zB); (case ho => omega); (conv => whnf))
    | ((with_reducible refine nil_no (by omega) ?_); (conv => whnf))
    | ((with_reducible refine nil_any ?_ (fun hn0 => ?_)) <;> (conv => whnf))
    | ((with_reducible refine CallStop.pure (hfit) rfl rfl ?_); conv => whnf) | ((with_reducible refine DCall.pure (hfit) rfl rfl ?_); conv => whnf)
    | ((with_reducible refine CallStop.pure (hD) rfl rfl ?_); conv => whnf) | ((with_reducible refine DCall.pure (hD) rfl rfl ?_); conv => whnf)
    | ((apply CallStop.fn5 (h := hP)); (case hh => exact zG); (case ha => exact zA); (case hd => exact rfl); (case hlive => exact rfl); (case hkeys => exact rfl); (case hlt => exact rfl); (conv => whnf))
    | ((apply CallStop.fn5 (h := hLv)); (case hh => exact zG); (case ha => exact zA); (case hd => exact rfl); (case hlive => exact rfl); (case hkeys => exact rfl); (case hlt => exact rfl); (conv => whnf))
    | ((apply CallStop.fn5 (h := hS)); (case hh => exact zG); (case ha => exact zA); (case hd => exact rfl); (case hlive => exact rfl); (case hkeys => exact rfl); (case hlt => exact rfl); (conv => whnf))
    | ((apply CallStop.fn5 (h := hEn)); (case hh => exact zG); (case ha => exact zA); (case hd => exact rfl); (case hlive => exact rfl); (case hkeys => exact rfl); (case hlt => exact rfl); (conv => whnf))
    | ((with_reducible refine CallStop.pure (r14_Same _ _) rfl rfl ?_); conv => whnf) | ((with_reducible refine DCall.pure (r14_Same _ _) rfl rfl ?_); conv => whnf)
    | ((refine ways (fun hc => ?_) (fun hc => ?_)) <;> (try simp only [decide_eq_true_eq, decide_eq_false_iff_not, Bool.and_eq_true, Bool.or_eq_true, Bool.and_eq_false_iff, Bool.or_eq_false_iff, Bool.not_eq_true', Bool.not_eq_false', beq_iff_eq, bne_iff_ne, ne_eq, beq_eq_false_iff_ne, bne_eq_false_iff_eq, Bool.not_eq_true, Bool.not_eq_false] at hc) <;> (try (exfalso; omega)) <;> (conv => whnf))))
                all_goals first
                  | (exfalso; simp at hc; done)
                  | exact absurd trivial hc
                  | (refine ⟨(i + 1, k + 1, ⟨M', cs', noteN nl, noteF nl f a⟩, l, c), ⟨by dsimp only; omega, by dsimp only; omega, by dsimp only; omega, hN, h5, by dsimp only; omega, h7', hR'⟩, by dsimp only; omega, ?_⟩
                     dsimp only
                     rw [hcnt]
                     (refine Le.by [0,1,2,3,7,5] rfl rfl rfl rfl ?_ ?_ <;> (conv => whnf) <;> (repeat' (first | exact trivial | exact ArgLe.rfl rfl | exact ArgLe.ptr rfl | exact ArgLe.sl rfl | exact dir_arg4 | exact dir_argR4 (fun l hl => by rcases l with _ | _ | _ | _ | l <;> first | rfl | omega) | exact ⟨rfl, rfl, rfl⟩ | exact ⟨rfl, Nat.le_of_ble_eq_true rfl⟩ | exact fun i hi => rfl | ((with_reducible refine And.intro ?_ ?_) <;> (conv => whnf))))))
              · have h8V : M.W 0 / 2 = 4 := by omega
                rcases h5w with rfl | rfl | rfl | rfl | rfl
                all_goals
                  (repeat' (first
    | with_reducible refine Wp.seq ?_
    | with_reducible refine Wp.block ?_
    | ((with_reducible first | refine Wp.region ?_ | refine Wp.drawL TC_mixed ?_ | refine Wp.cond ?_ | refine Wp.ret ?_ | refine Wp.skip ?_ | refine Wp.exit ?_ | refine Go.mk ?_ | apply Eff1.of); conv => whnf)
    | with_reducible exact rfl
    | ((with_reducible refine Ov.ok zO ?_); conv => whnf)
    | (with_reducible refine Ov.sh1 (by with_unfolding_all exact rfl) ?_)
    | ((with_reducible refine Ov.quo (by omega) (by omega) (by omega) (fun _ _ => ?_)); conv => whnf)
    | ((with_reducible refine And.intro (show drawOK _ _ _ _ = true by kernel_rfl) ?_); conv => whnf)
    | ((with_reducible refine And.intro zC ?_); conv => whnf)
    | ((with_reducible refine And.intro ?hb ?_); (case hb => exact bytes_bd (Nat.le_of_ble_eq_true rfl) (by omega)); (conv => whnf))
    | ((refine DApp.a rfl rfl rfl rfl rfl rfl ?hb ?_); (case hb => exact zB); (conv => whnf))
    | ((refine DApp.b rfl rfl rfl rfl rfl rfl rfl rfl ?hb ?ho ?_); (case hb => exact zB); (case ho => omega); (conv => whnf))
    | ((refine DApp.c rfl rfl rfl rfl rfl ?hb ?_); (case hb => exact zB); (conv => whnf))
    | ((refine DApp.d rfl rfl rfl rfl rfl rfl ?hb ?ho ?_); (case hb => exact zB); (case ho => omega); (conv => whnf))
    | ((with_reducible refine nil_no (by omega) ?_); (conv => whnf))
    | ((with_reducible refine nil_any ?_ (fun hn0 => ?_)) <;> (conv => whnf))
    | ((with_reducible refine CallStop.pure (hfit) rfl rfl ?_); conv => whnf) | ((with_reducible refine DCall.pure (hfit) rfl rfl ?_); conv => whnf)
    | ((with_reducible refine CallStop.pure (hD) rfl rfl ?_); conv => whnf) | ((with_reducible refine DCall.pure (hD) rfl rfl ?_); conv => whnf)
    | ((apply CallStop.fn5 (h := hP)); (case hh => exact zG); (case ha => exact zA); (case hd => exact rfl); (case hlive => exact rfl); (case hkeys => exact rfl); (case hlt => exact rfl); (conv => whnf))
    | ((apply CallStop.fn5 (h := hLv)); (case hh => exact zG); (case ha => exact zA); (case hd => exact rfl); (case hlive => exact rfl); (case hkeys => exact rfl); (case hlt => exact rfl); (conv => whnf))
    | ((apply CallStop.fn5 (h := hS)); (case hh => exact zG); (case ha => exact zA); (case hd => exact rfl); (case hlive => exact rfl); (case hkeys => exact rfl); (case hlt => exact rfl); (conv => whnf))
    | ((apply CallStop.fn5 (h := hEn)); (case hh => exact zG); (case ha => exact zA); (case hd => exact rfl); (case hlive => exact rfl); (case hkeys => exact rfl); (case hlt => exact rfl); (conv => whnf))
    | ((with_reducible refine CallStop.pure (r14_Same _ _) rfl rfl ?_); conv => whnf) | ((with_reducible refine DCall.pure (r14_Same _ _) rfl rfl ?_); conv => whnf)
    | ((refine ways (fun hc => ?_) (fun hc => ?_)) <;> (try simp only [decide_eq_true_eq, decide_eq_false_iff_not, Bool.and_eq_true, Bool.or_eq_true, Bool.and_eq_false_iff, Bool.or_eq_false_iff, Bool.not_eq_true', Bool.not_eq_false', beq_iff_eq, bne_iff_ne, ne_eq, beq_eq_false_iff_ne, bne_eq_false_iff_eq, Bool.not_eq_true, Bool.not_eq_false] at hc) <;> (try (exfalso; omega)) <;> (conv => whnf))))
                all_goals first
                  | (exfalso; simp at hc; done)
                  | exact absurd trivial hc
                  | (refine ⟨(i + 1, k + 1, ⟨M', cs', noteN nl, noteF nl f a⟩, l, c), ⟨by dsimp only; omega, by dsimp only; omega, by dsimp only; omega, hN, h5, by dsimp only; omega, h7', hR'⟩, by dsimp only; omega, ?_⟩
                     dsimp only
                     rw [hcnt]
                     (refine Le.by [0,1,2,3,7,5] rfl rfl rfl rfl ?_ ?_ <;> (conv => whnf) <;> (repeat' (first | exact trivial | exact ArgLe.rfl rfl | exact ArgLe.ptr rfl | exact ArgLe.sl rfl | exact dir_arg4 | exact dir_argR4 (fun l hl => by rcases l with _ | _ | _ | _ | l <;> first | rfl | omega) | exact ⟨rfl, rfl, rfl⟩ | exact ⟨rfl, Nat.le_of_ble_eq_true rfl⟩ | exact fun i hi => rfl | ((with_reducible refine And.intro ?_ ?_) <;> (conv => whnf))))))
            · rw [if_neg h4'] at e2
              obtain ⟨e3, e4⟩ := e2
              have e5 := hdone.ans h4'
              have e6 := hdone.lk h4'
              have e7 : r = (doneE l (c w)).2 := by rw [e5, h7, e3]; rfl
              have h7' : ∀ q, Dir.lk (doneE l (c w)).1 q = Dir.own M' q := fun q => by rw [e6, h7, h7, e4]; rfl
              have hents' : Dir.ents M' = (doneE l (c w)).1 := Dir.srt_ext v1 hdone.s fun q => by rw [v2, h7']
              rw [hents'] at hEn
              have h5' := hdone.s
              have e8 : (doneE l (c w)).2.done = true := by rw [← e7]; exact e
              rw [e7] at hS
              clear hdone hE u1 u2 v1 v2 hents hents' hR hme hrel e1 e3 e4 e5 e6 e7
              generalize doneE l (c w) = dn at hS hD hEn h7' h5' hfin e8
              obtain ⟨dl, ⟨rd, re, rn⟩⟩ := dn
              dsimp only at hS hD hEn h7' h5' hfin e8
              subst e8
              have h5w : w = 0 ∨ w = 1 ∨ w = 2 ∨ w = 3 ∨ w = 4 := by omega
              rcases h5w with rfl | rfl | rfl | rfl | rfl
              all_goals
                (repeat' (first
    | with_reducible refine Wp.seq ?_
    | with_reducible refine Wp.block ?_
    | ((with_reducible first | refine Wp.region ?_ | refine Wp.drawL TC_mixed ?_ | refine Wp.cond ?_ | refine Wp.ret ?_ | refine Wp.skip ?_ | refine Wp.exit ?_ | refine Go.mk ?_ | apply Eff1.of); conv => whnf)
    | with_reducible exact rfl
    | ((with_reducible refine Ov.ok zO ?_); conv => whnf)
    | (with_reducible refine Ov.sh1 (by with_unfolding_all exact rfl) ?_)
    | ((with_reducible refine Ov.quo (by omega) (by omega) (by omega) (fun _ _ => ?_)); conv => whnf)
    | ((with_reducible refine And.intro (show drawOK _ _ _ _ = true by kernel_rfl) ?_); conv => whnf)
    | ((with_reducible refine And.intro zC ?_); conv => whnf)
    | ((with_reducible refine And.intro ?hb ?_); (case hb => exact bytes_bd (Nat.le_of_ble_eq_true rfl) (by omega)); (conv => whnf))
    | ((refine DApp.a rfl rfl rfl rfl rfl rfl ?hb ?_); (case hb => exact zB); (conv => whnf))
    | ((refine DApp.b rfl rfl rfl rfl rfl rfl rfl rfl ?hb ?ho ?_); (case hb => exact zB); (case ho => omega); (conv => whnf))
    | ((refine DApp.c rfl rfl rfl rfl rfl ?hb ?_); (case hb => exact zB); (conv => whnf))
    | ((refine DApp.d rfl rfl rfl rfl rfl rfl ?hb ?ho ?_); (case hb => exact zB); (case ho => omega); (conv => whnf))
    | ((with_reducible refine nil_no (by omega) ?_); (conv => whnf))
    | ((with_reducible refine nil_any ?_ (fun hn0 => ?_)) <;> (conv => whnf))
    | ((with_reducible refine CallStop.pure (hfit) rfl rfl ?_); conv => whnf) | ((with_reducible refine DCall.pure (hfit) rfl rfl ?_); conv => whnf)
    | ((with_reducible refine CallStop.pure (hD) rfl rfl ?_); conv => whnf) | ((with_reducible refine DCall.pure (hD) rfl rfl ?_); conv => whnf)
    | ((apply CallStop.fn5 (h := hP)); (case hh => exact zG); (case ha => exact zA); (case hd => exact rfl); (case hlive => exact rfl); (case hkeys => exact rfl); (case hlt => exact rfl); (conv => whnf))
    | ((apply CallStop.fn5 (h := hLv)); (case hh => exact zG); (case ha => exact zA); (case hd => exact rfl); (case hlive => exact rfl); (case hkeys => exact rfl); (case hlt => exact rfl); (conv => whnf))
    | ((apply CallStop.fn5 (h := hS)); (case hh => exact zG); (case ha => exact zA); (case hd => exact rfl); (case hlive => exact rfl); (case hkeys => exact rfl); (case hlt => exact rfl); (conv => whnf))
    | ((apply CallStop.fn5 (h := hEn)); (case hh => exact zG); (case ha => exact zA); (case hd => exact rfl); (case hlive => exact rfl); (case hkeys => exact rfl); (case hlt => exact rfl); (conv => whnf))
    | ((with_reducible refine CallStop.pure (r14_Same _ _) rfl rfl ?_); conv => whnf) | ((with_reducible refine DCall.pure (r14_Same _ _) rfl rfl ?_); conv => whnf)
    | ((refine ways (fun hc => ?_) (fun hc => ?_)) <;> (try simp only [decide_eq_true_eq, decide_eq_false_iff_not, Bool.and_eq_true, Bool.or_eq_true, Bool.and_eq_false_iff, Bool.or_eq_false_iff, Bool.not_eq_true', Bool.not_eq_false', beq_iff_eq, bne_iff_ne, ne_eq, beq_eq_false_iff_ne, bne_eq_false_iff_eq, Bool.not_eq_true, Bool.not_eq_false] at hc) <;> (try (exfalso; omega)) <;> (conv => whnf))))
                all_goals first
                  | (exfalso; simp at hc; done)
                  | exact absurd trivial hc
                  | (refine ⟨(i + 1, k + 1, ⟨M', cs', noteN nl, noteF nl f a⟩, dl, c), ⟨by dsimp only; omega, by dsimp only; omega, by dsimp only; omega, hN, h5', hfin, h7', hR'⟩, by dsimp only; omega, ?_⟩
                     dsimp only
                     rw [hcnt]
                     (refine Le.by [0,1,2,3,7,5] rfl rfl rfl rfl ?_ ?_ <;> (conv => whnf) <;> (repeat' (first | exact trivial | exact ArgLe.rfl rfl | exact ArgLe.ptr rfl | exact ArgLe.sl rfl | exact dir_arg4 | exact dir_argR4 (fun l hl => by rcases l with _ | _ | _ | _ | l <;> first | rfl | omega) | exact ⟨rfl, rfl, rfl⟩ | exact ⟨rfl, Nat.le_of_ble_eq_true rfl⟩ | exact fun i hi => rfl | ((with_reducible refine And.intro ?_ ?_) <;> (conv => whnf))))))
        · (repeat' (first
    | with_reducible refine Wp.seq ?_
    | with_reducible refine Wp.block ?_
    | ((with_reducible first | refine Wp.region ?_ | refine Wp.drawL TC_mixed ?_ | refine Wp.cond ?_ | refine Wp.ret ?_ | refine Wp.skip ?_ | refine Wp.exit ?_ | refine Go.mk ?_ | apply Eff1.of); conv => whnf)
    | with_reducible exact rfl
    | ((with_reducible refine Ov.ok zO ?_); conv => whnf)
    | (with_reducible refine Ov.sh1 (by with_unfolding_all exact rfl) ?_)
    | ((with_reducible refine Ov.quo (by omega) (by omega) (by omega) (fun _ _ => ?_)); conv => whnf)
    | ((with_reducible refine And.intro (show drawOK _ _ _ _ = true by kernel_rfl) ?_); conv => whnf)
    | ((with_reducible refine And.intro zC ?_); conv => whnf)
    | ((with_reducible refine And.intro ?hb ?_); (case hb => exact bytes_bd (Nat.le_of_ble_eq_true rfl) (by omega)); (conv => whnf))
    | ((refine DApp.a rfl rfl rfl rfl rfl rfl ?hb ?_); (case hb => exact zB); (conv => whnf))
    | ((refine DApp.b rfl rfl rfl rfl rfl rfl rfl rfl ?hb ?ho ?_); (case hb => exact zB); (case ho => omega); (conv => whnf))
    | ((refine DApp.c rfl rfl rfl rfl rfl ?hb ?_); (case hb => exact zB); (conv => whnf))
    | ((refine DApp.d rfl rfl rfl rfl rfl rfl ?hb ?ho ?_); (case hb => exact zB); (case ho => omega); (conv => whnf))
    | ((with_reducible refine nil_no (by omega) ?_); (conv => whnf))
    | ((with_reducible refine nil_any ?_ (fun hn0 => ?_)) <;> (conv => whnf))
    | ((with_reducible refine CallStop.pure (hfit) rfl rfl ?_); conv => whnf) | ((with_reducible refine DCall.pure (hfit) rfl rfl ?_); conv => whnf)
    | ((apply CallStop.fn5 (h := hP)); (case hh => exact zG); (case ha => exact zA); (case hd => exact rfl); (case hlive => exact rfl); (case hkeys => exact rfl); (case hlt => exact rfl); (conv => whnf))
    | ((refine ways (fun hc => ?_) (fun hc => ?_)) <;> (try simp only [decide_eq_true_eq, decide_eq_false_iff_not, Bool.and_eq_true, Bool.or_eq_true, Bool.and_eq_false_iff, Bool.or_eq_false_iff, Bool.not_eq_true', Bool.not_eq_false', beq_iff_eq, bne_iff_ne, ne_eq, beq_eq_false_iff_ne, bne_eq_false_iff_eq, Bool.not_eq_true, Bool.not_eq_false] at hc) <;> (try (exfalso; omega)) <;> (conv => whnf))))
          refine ⟨(i + 1, k, ⟨M, cs, nl, f⟩, l, c), ⟨by dsimp only; omega, by dsimp only; omega, by dsimp only; omega, h4, h5, by dsimp only; omega, h7, h8⟩, by dsimp only; omega, ?_⟩
          dsimp only
          (refine Le.by [0,1,2,3,4,5] rfl rfl rfl rfl ?_ ?_ <;> (conv => whnf) <;> (repeat' (first | exact trivial | exact ArgLe.rfl rfl | exact ArgLe.ptr rfl | exact ArgLe.sl rfl | exact dir_arg4 | exact dir_argR4 (fun l hl => by rcases l with _ | _ | _ | _ | l <;> first | rfl | omega) | exact ⟨rfl, rfl, rfl⟩ | exact ⟨rfl, Nat.le_of_ble_eq_true rfl⟩ | exact fun i hi => rfl | ((with_reducible refine And.intro ?_ ?_) <;> (conv => whnf)))))
    · have hEn := h4.entries (by omega) f 0
      rw [hents] at hEn
      (repeat' (first
    | with_reducible refine Wp.seq ?_
    | with_reducible refine Wp.block ?_
    | ((with_reducible first | refine Wp.region ?_ | refine Wp.drawL TC_mixed ?_ | refine Wp.cond ?_ | refine Wp.ret ?_ | refine Wp.skip ?_ | refine Wp.exit ?_ | refine Go.mk ?_ | apply Eff1.of); conv => whnf)
    | with_reducible exact rfl
    | ((with_reducible refine Ov.ok zO ?_); conv => whnf)
    | (with_reducible refine Ov.sh1 (by with_unfolding_all exact rfl) ?_)
    | ((with_reducible refine Ov.quo (by omega) (by omega) (by omega) (fun _ _ => ?_)); conv => whnf)
    | ((with_reducible refine And.intro (show drawOK _ _ _ _ = true by kernel_rfl) ?_); conv => whnf)
    | ((with_reducible refine And.intro zC ?_); conv => whnf)
    | ((with_reducible refine And.intro ?hb ?_); (case hb => exact bytes_bd (Nat.le_of_ble_eq_true rfl) (by omega)); (conv => whnf))
    | ((refine DApp.a rfl rfl rfl rfl rfl rfl ?hb ?_); (case hb => exact zB); (conv => whnf))
    | ((refine DApp.b rfl rfl rfl rfl rfl rfl rfl rfl ?hb ?ho ?_); (case hb => exact zB); (case ho => omega); (conv => whnf))
    | ((refine DApp.c rfl rfl rfl rfl rfl ?hb ?_); (case hb => exact zB); (conv => whnf))
    | ((refine DApp.d rfl rfl rfl rfl rfl rfl ?hb ?ho ?_); (case hb => exact zB); (case ho => omega); (conv => whnf))
    | ((with_reducible refine nil_no (by omega) ?_); (conv => whnf))
    | ((with_reducible refine nil_any ?_ (fun hn0 => ?_)) <;> (conv => whnf))
    | ((with_reducible refine CallStop.pure (hfit) rfl rfl ?_); conv => whnf) | ((with_reducible refine DCall.pure (hfit) rfl rfl ?_); conv => whnf)
    | ((apply CallStop.fn5 (h := hEn)); (case hh => exact zG); (case ha => exact zA); (case hd => exact rfl); (case hlive => exact rfl); (case hkeys => exact rfl); (case hlt => exact rfl); (conv => whnf))
    | ((with_reducible refine CallStop.pure (r14_Same _ _) rfl rfl ?_); conv => whnf) | ((with_reducible refine DCall.pure (r14_Same _ _) rfl rfl ?_); conv => whnf)
    | ((refine ways (fun hc => ?_) (fun hc => ?_)) <;> (try simp only [decide_eq_true_eq, decide_eq_false_iff_not, Bool.and_eq_true, Bool.or_eq_true, Bool.and_eq_false_iff, Bool.or_eq_false_iff, Bool.not_eq_true', Bool.not_eq_false', beq_iff_eq, bne_iff_ne, ne_eq, beq_eq_false_iff_ne, bne_eq_false_iff_eq, Bool.not_eq_true, Bool.not_eq_false] at hc) <;> (try (exfalso; omega)) <;> (conv => whnf))))
      all_goals exact .b (by simp)
end Go.Proofs.YtbdclkjelhlfbaaGreat
