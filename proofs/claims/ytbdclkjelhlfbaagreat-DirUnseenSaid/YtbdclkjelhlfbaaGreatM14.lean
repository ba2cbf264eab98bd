/- Parts of the proof, one behind the other: Dr29, Dr31. Lemmas and contracts of functions; no condition of its own. -/
import Derived.Test.YtbdclkjelhlfbaaGreatM13
set_option linter.unusedVariables false
set_option linter.unusedSimpArgs false
set_option maxHeartbeats 1000000
namespace Go.Proofs.YtbdclkjelhlfbaaGreat
open Go.RowKit
set_option maxRecDepth 100000
theorem pk_at {script : List Pk} (hs : ∀ a ∈ script, a.ok) (j : Nat) : (script.getD j default).ok := by
  rw [List.getD_eq_getElem?_getD]
  cases e : script[j]? with
  | none => exact ⟨by decide, by decide, fun x hx => absurd hx (by simp [default, instInhabitedPk.default]), by decide⟩
  | some a => exact hs a (List.mem_of_getElem? e)
structure Fit (p : Pk) (w : Nat) : Prop where
  who : p.who = w
  w5 : w < 5
  op0 : 0 ≤ p.op
  op4 : p.op ≤ 4
  len : p.key.length ≤ 3
  b : IsB p.key
  v : tickB p.val = true
theorem fit_fit {p : Pk} (h : p.ok) : ∃ w, Fit (fitP p) w := by
  obtain ⟨⟨b1, b2⟩, b3, b4, b5, b6⟩ := fitP_bd h
  have hu : 0 ≤ (IntKind.u64.wrap p.who) % 5 ∧ (IntKind.u64.wrap p.who) % 5 < 5 := by omega
  refine ⟨(fitP p).who.toNat, ?_, ?_, b1, b2, b3, b4, by simp [tickB]; omega⟩
  · simp only [fitP]; omega
  · simp only [fitP]; omega
theorem Hn_le {k : Nat} {M : Dir.Mc} (h : ∀ w, Dir.Hn k (M.Hd w)) (hk : k ≤ 100000) : ∀ w, Dir.Hn 100000 (M.Hd w) := fun w => (h w).mono hk
theorem LawE.entries {k : Nat} {M : Dir.Mc} {cs : Nat → Dir.CS} {nl : Nat} {cnt : Int} (h : LawE k M cs nl cnt) (hk : k ≤ 100000) (f : Nat → List D) (clk : Int) :
    Fun TC 31 5 [.ptr 0 0] (dirH (gOf cs) M nl f clk cnt) 5 (.d (slOf 2 entD (Dir.ents M))) (dirH (gOf cs) M nl f clk cnt) :=
  law_entries (gOf_lt cs) M nl f clk cnt h.s.inv.iw.d.1 h.s.inv.iw.d.2 (Hn_le h.s.hd hk) h.s.inv.iw h.ih h.kh
theorem ents_ext {M M' : Dir.Mc} {B B' : Int} (h : Dir.Iw M.W B) (hI : Dir.Ih M) (h' : Dir.Iw M'.W B') (hI' : Dir.Ih M') (e : ∀ q, Dir.own M' q = Dir.own M q) : Dir.ents M' = Dir.ents M := by
  obtain ⟨a1, a2⟩ := Dir.ents_ok h hI
  obtain ⟨b1, b2⟩ := Dir.ents_ok h' hI'
  exact Dir.srt_ext b1 a1 fun q => by rw [b2, a2, e]
theorem ents_len {M : Dir.Mc} (h0 : 0 ≤ M.W 0) (h8 : M.W 0 ≤ 8) (hH : ∀ w, (M.Hd w).length ≤ 30000) : (Dir.ents M).length ≤ 960000 := by
  show (Dir.sortE (Dir.allE M)).length ≤ _
  rw [(Dir.sortE_perm (Dir.allE M)).length_eq, ← Dir.allE_eq]
  have h2 : (Dir.allL M).flatten.length ≤ (Dir.allL M).length * 30000 := flat_len fun l hl => by
    obtain ⟨i, _, hi⟩ := List.mem_flatMap.1 hl
    exact part_short hH hi
  have h3 := parts_len M (2 ^ Dir.lvl M)
  have h4 : 2 ^ Dir.lvl M ≤ 2 ^ 4 := Nat.pow_le_pow_right (by omega) (by unfold Dir.lvl; omega)
  have h5 : (Dir.allL M).length ≤ 32 := by
    show ((List.range (2 ^ Dir.lvl M)).flatMap (Dir.partL M)).length ≤ 32
    omega
  have h6 : (Dir.allL M).length * 30000 ≤ 32 * 30000 := Nat.mul_le_mul_right _ h5
  omega
set_option maxHeartbeats 8000000 in
theorem DirAlone_holds (script : List Pk) (hs : ∀ a ∈ script, a.ok) (last : Pk) (hl : last.ok) : Pure TC 7 [.d (slOf 4 Pk.D script), last.S] (.b true) := by
  refine Pure.lens (.mk Tryz.func7 rfl rfl) fun hlen => ?_
  have hl0 := hlen script.length (by simp [lensOf, slOf])
  clear hlen
  refine Pure.mk' Tryz.func7 rfl rfl (Nat.le_of_ble_eq_true rfl) ?_
  (repeat' (first
    | with_reducible refine Wp.seq ?_
    | with_reducible refine Wp.block ?_
    | ((with_reducible first | refine Wp.region ?_ | refine Wp.drawL TC_mixed ?_ | refine Wp.cond ?_ | refine Wp.ret ?_ | refine Wp.skip ?_ | refine Wp.exit ?_ | refine Go.mk ?_ | apply Eff1.of); conv => whnf)
    | with_reducible exact rfl
    | ((with_reducible refine Ov.ok zO ?_); conv => whnf)
    | (with_reducible refine Ov.sh1 (by with_unfolding_all exact rfl) ?_)
    | ((with_reducible refine Ov.quo (by omega) (by omega) (by omega) (fun _ _ => ?_)); conv => whnf)
    | ((with_reducible refine And.intro (show drawOK _ _ _ _ = true by kernel_rfl) ?_); conv => whnf)
    | ((with_reducible refine And.intro zC ?_); conv => whnf)
    | ((with_reducible refine And.intro ?hb ?_); (case hb => exact bytes_bd (Nat.le_of_ble_eq_true rfl) (by omega)); (conv => whnf))
    | ((refine DApp.a rfl rfl rfl rfl rfl rfl ?hb ?_); (case hb => exact zB); (conv => whnf))
    | ((refine DApp.b rfl rfl rfl rfl rfl rfl rfl rfl ?hb ?ho ?_); (case hb => exact zB); (case ho => omega); (conv => whnf))
    | ((refine DApp.c rfl rfl rfl rfl rfl ?hb ?_); (case hb => exact zB); (conv => whnf))
    | ((refine DApp.d rfl rfl rfl rfl rfl rfl ?hb ?ho ?_); (case hb => exact zB); (case ho => omega); (conv => whnf))
    | ((with_reducible refine nil_no (by omega) ?_); (conv => whnf))
    | ((with_reducible refine nil_any ?_ (fun hn0 => ?_)) <;> (conv => whnf))
    | ((with_reducible refine CallStop.pure (awake_T) rfl rfl ?_); conv => whnf) | ((with_reducible refine DCall.pure (awake_T) rfl rfl ?_); conv => whnf)
    | ((refine CallStop.fn (law_New) [] rfl rfl rfl rfl rfl ?ha ?hh ?_); (case ha => exact zA); (case hh => exact zH); (conv => whnf))
    | ((refine DCall.fn (law_New) [] [] rfl rfl rfl rfl rfl ?ha ?hh ?hs ?_); (case ha => exact zA); (case hh => exact zH); (case hs => exact zK); (conv => whnf)) | ((refine DCall.new (law_New) [] [] rfl rfl rfl rfl rfl rfl ?ha ?hh ?hs ?_); (case ha => exact zA); (case hh => exact zH); (case hs => exact zK); (conv => whnf))
    | ((refine ways (fun hc => ?_) (fun hc => ?_)) <;> (try simp only [decide_eq_true_eq, decide_eq_false_iff_not, Bool.and_eq_true, Bool.or_eq_true, Bool.and_eq_false_iff, Bool.or_eq_false_iff, Bool.not_eq_true', Bool.not_eq_false', beq_iff_eq, bne_iff_ne, ne_eq, beq_eq_false_iff_ne, bne_eq_false_iff_eq, Bool.not_eq_true, Bool.not_eq_false] at hc) <;> (try (exfalso; omega)) <;> (conv => whnf))))
  refine Wp.loopP (ι := Nat × Nat × Dst)
    (fun k => k.1 ≤ script.length ∧ k.1 ≤ 300 ∧ k.2.1 ≤ k.1 ∧ LawE k.2.1 k.2.2.M k.2.2.cs k.2.2.nl ((k.2.1 : Int) + 1) ∧ ∀ j, 5 ≤ j → k.2.2.cs j = .none)
    (fun k => ⟨⟨Tryz.f7.ntmps, 0⟩, 6, [(3, .ptr 5 0), (5, .ptr 0 0), (18, .d (slOf 4 Pk.D script)), (19, .i .i64 script.length), (20, .i .i64 k.1)], dirH (gOf k.2.2.cs) k.2.2.M k.2.2.nl k.2.2.f 0 ((k.2.1 : Int) + 1) ++ [(5, some (.cells [.i .i64 last.who, .i .u8 last.op, .d (slOf 1 (encI .u8) last.key), .i .i64 last.val]))]⟩)
    (fun k => script.length - k.1) (0, 0, ⟨Dir.M0, fun _ => .none, noteN 0, noteF 0 (fun _ => []) (accD 0 2 1 0 1 true)⟩)
    ⟨Nat.zero_le _, Nat.zero_le _, Nat.le_refl _, LawE.zero, fun _ _ => rfl⟩ ?_ ?_
  · (refine Le.by [1, 2, 3, 4, 5, 0] rfl rfl rfl rfl ?_ ?_ <;> (conv => whnf) <;> (repeat' (first | exact trivial | exact ArgLe.rfl rfl | exact ArgLe.ptr rfl | exact ArgLe.sl rfl | exact dir_argP rfl rfl rfl rfl | exact ⟨rfl, rfl, rfl⟩ | exact ⟨rfl, Nat.le_of_ble_eq_true rfl⟩ | exact fun i hi => rfl | ((with_reducible refine And.intro ?_ ?_) <;> (conv => whnf)))))
  · rintro ⟨i, k, ⟨M, cs, nl, f⟩⟩ ⟨h1, h2, h3, h4, h5⟩
    dsimp only at h1 h2 h3 h4 h5 ⊢
    have hok := pk_at hs (i : Int).toNat
    have hfit := law_fit _ hok
    obtain ⟨w, hw⟩ := fit_fit hok
    generalize fitP (script.getD (i : Int).toNat default) = p at hfit hw
    obtain ⟨pw, pop, pk, pv⟩ := p
    obtain ⟨w0, w5, o0, o4, kl, kb, kv⟩ := hw
    dsimp only at w0 o0 o4 kl kb kv
    subst w0
    by_cases hi : i < script.length ∧ i < 300
    · by_cases hop : pop = 0
      · subst hop
        cases hc : isC (cs w) with
        | true =>
          obtain ⟨a, hS⟩ := law_Step (f := f) (clk := 0) h4.s (by omega) w (by omega) hc
          have hN := h4.step (by omega) (isC_ne hc)
          have hoth : ∀ j, 5 ≤ j → Dir.upd cs w (Dir.step dirOps M (cs w)).2.1 j = .none := fun j hj => by rw [Dir.upd_ne _ _ (by omega)]; exact h5 j hj
          have hcnt : ((k + 1 : Nat) : Int) + 1 = (k : Int) + 1 + 1 := by omega
          rw [← hcnt] at hN
          generalize Dir.step dirOps M (cs w) = Q at hS hN hoth
          obtain ⟨M', s', r⟩ := Q
          dsimp only at hS hN hoth
          generalize Dir.upd cs w s' = cs' at hS hN hoth
          (repeat' (first
    | with_reducible refine Wp.seq ?_
    | with_reducible refine Wp.block ?_
    | ((with_reducible first | refine Wp.region ?_ | refine Wp.drawL TC_mixed ?_ | refine Wp.cond ?_ | refine Wp.ret ?_ | refine Wp.skip ?_ | refine Wp.exit ?_ | refine Go.mk ?_ | apply Eff1.of); conv => whnf)
    | with_reducible exact rfl
    | ((with_reducible refine Ov.ok zO ?_); conv => whnf)
    | (with_reducible refine Ov.sh1 (by with_unfolding_all exact rfl) ?_)
    | ((with_reducible refine Ov.quo (by omega) (by omega) (by omega) (fun _ _ => ?_)); conv => whnf)
    | ((with_reducible refine And.intro (show drawOK _ _ _ _ = true by kernel_rfl) ?_); conv => whnf)
    | ((with_reducible refine And.intro zC ?_); conv => whnf)
    | ((with_reducible refine And.intro ?hb ?_); (case hb => exact bytes_bd (Nat.le_of_ble_eq_true rfl) (by omega)); (conv => whnf))
    | ((refine DApp.a rfl rfl rfl rfl rfl rfl ?hb ?_); (case hb => exact zB); (conv => whnf))
    | ((refine DApp.b rfl rfl rfl rfl rfl rfl rfl rfl ?hb ?ho ?_); (case hb => exact zB); (case ho => omega); (conv => whnf))
    | ((refine DApp.c rfl rfl rfl rfl rfl ?hb ?_); (case hb => exact zB); (conv => whnf))
    | ((refine DApp.d rfl rfl rfl rfl rfl rfl ?hb ?ho ?_); (case hb => exact zB); (case ho => omega); (conv => whnf))
    | ((with_reducible refine nil_no (by omega) ?_); (conv => whnf))
    | ((with_reducible refine nil_any ?_ (fun hn0 => ?_)) <;> (conv => whnf))
    | ((with_reducible refine CallStop.pure (hfit) rfl rfl ?_); conv => whnf) | ((with_reducible refine DCall.pure (hfit) rfl rfl ?_); conv => whnf)
    | ((apply CallStop.fn5 (h := hS)); (case hh => exact zG); (case ha => exact zA); (case hd => exact rfl); (case hlive => exact rfl); (case hkeys => exact rfl); (case hlt => exact rfl); (conv => whnf))
    | ((refine ways (fun hc => ?_) (fun hc => ?_)) <;> (try simp only [decide_eq_true_eq, decide_eq_false_iff_not, Bool.and_eq_true, Bool.or_eq_true, Bool.and_eq_false_iff, Bool.or_eq_false_iff, Bool.not_eq_true', Bool.not_eq_false', beq_iff_eq, bne_iff_ne, ne_eq, beq_eq_false_iff_ne, bne_eq_false_iff_eq, Bool.not_eq_true, Bool.not_eq_false] at hc) <;> (try (exfalso; omega)) <;> (conv => whnf))))
          refine ⟨(i + 1, k + 1, ⟨M', cs', noteN nl, noteF nl f a⟩), ⟨by dsimp only; omega, by dsimp only; omega, by dsimp only; omega, hN, hoth⟩, by dsimp only; omega, ?_⟩
          dsimp only
          rw [hcnt]
          (refine Le.by [0,1,2,3,7,5] rfl rfl rfl rfl ?_ ?_ <;> (conv => whnf) <;> (repeat' (first | exact trivial | exact ArgLe.rfl rfl | exact ArgLe.ptr rfl | exact ArgLe.sl rfl | exact dir_arg4 | exact dir_argR4 (fun l hl => by rcases l with _ | _ | _ | _ | l <;> first | rfl | omega) | exact ⟨rfl, rfl, rfl⟩ | exact ⟨rfl, Nat.le_of_ble_eq_true rfl⟩ | exact fun i hi => rfl | ((with_reducible refine And.intro ?_ ?_) <;> (conv => whnf)))))
        | false =>
          have hS := law_StepNone (M := M) (nl := nl) (f := f) (clk := 0) (cnt := (k : Int) + 1) w (by omega) hc
          (repeat' (first
    | with_reducible refine Wp.seq ?_
    | with_reducible refine Wp.block ?_
    | ((with_reducible first | refine Wp.region ?_ | refine Wp.drawL TC_mixed ?_ | refine Wp.cond ?_ | refine Wp.ret ?_ | refine Wp.skip ?_ | refine Wp.exit ?_ | refine Go.mk ?_ | apply Eff1.of); conv => whnf)
    | with_reducible exact rfl
    | ((with_reducible refine Ov.ok zO ?_); conv => whnf)
    | (with_reducible refine Ov.sh1 (by with_unfolding_all exact rfl) ?_)
    | ((with_reducible refine Ov.quo (by omega) (by omega) (by omega) (fun _ _ => ?_)); conv => whnf)
    | ((with_reducible refine And.intro (show drawOK _ _ _ _ = true by kernel_rfl) ?_); conv => whnf)
    | ((with_reducible refine And.intro zC ?_); conv => whnf)
    | ((with_reducible refine And.intro ?hb ?_); (case hb => exact bytes_bd (Nat.le_of_ble_eq_true rfl) (by omega)); (conv => whnf))
    | ((refine DApp.a rfl rfl rfl rfl rfl rfl ?hb ?_); (case hb => exact zB); (conv => whnf))
    | ((refine DApp.b rfl rfl rfl rfl rfl rfl rfl rfl ?hb ?ho ?_); (case hb => exact zB); (case ho => omega); (conv => whnf))
    | ((refine DApp.c rfl rfl rfl rfl rfl ?hb ?_); (case hb => exact zB); (conv => whnf))
    | ((refine DApp.d rfl rfl rfl rfl rfl rfl ?hb ?ho ?_); (case hb => exact zB); (case ho => omega); (conv => whnf))
    | ((with_reducible refine nil_no (by omega) ?_); (conv => whnf))
    | ((with_reducible refine nil_any ?_ (fun hn0 => ?_)) <;> (conv => whnf))
    | ((with_reducible refine CallStop.pure (hfit) rfl rfl ?_); conv => whnf) | ((with_reducible refine DCall.pure (hfit) rfl rfl ?_); conv => whnf)
    | ((apply CallStop.fn5 (h := hS)); (case hh => exact zG); (case ha => exact zA); (case hd => exact rfl); (case hlive => exact rfl); (case hkeys => exact rfl); (case hlt => exact rfl); (conv => whnf))
    | ((refine ways (fun hc => ?_) (fun hc => ?_)) <;> (try simp only [decide_eq_true_eq, decide_eq_false_iff_not, Bool.and_eq_true, Bool.or_eq_true, Bool.and_eq_false_iff, Bool.or_eq_false_iff, Bool.not_eq_true', Bool.not_eq_false', beq_iff_eq, bne_iff_ne, ne_eq, beq_eq_false_iff_ne, bne_eq_false_iff_eq, Bool.not_eq_true, Bool.not_eq_false] at hc) <;> (try (exfalso; omega)) <;> (conv => whnf))))
          refine ⟨(i + 1, k, ⟨M, cs, nl, f⟩), ⟨by dsimp only; omega, by dsimp only; omega, by dsimp only; omega, h4, h5⟩, by dsimp only; omega, ?_⟩
          dsimp only
          (refine Le.by [0,1,2,3,4,5] rfl rfl rfl rfl ?_ ?_ <;> (conv => whnf) <;> (repeat' (first | exact trivial | exact ArgLe.rfl rfl | exact ArgLe.ptr rfl | exact ArgLe.sl rfl | exact dir_arg4 | exact dir_argR4 (fun l hl => by rcases l with _ | _ | _ | _ | l <;> first | rfl | omega) | exact ⟨rfl, rfl, rfl⟩ | exact ⟨rfl, Nat.le_of_ble_eq_true rfl⟩ | exact fun i hi => rfl | ((with_reducible refine And.intro ?_ ?_) <;> (conv => whnf)))))
      · cases hc : isC (cs w) with
        | true =>
          have hS := law_StartBusy (M := M) (nl := nl) (f := f) (clk := 0) (cnt := (k : Int) + 1) w (by omega) pop pk pv (by omega) o4 (by omega) kv hc
          (repeat' (first
    | with_reducible refine Wp.seq ?_
    | with_reducible refine Wp.block ?_
    | ((with_reducible first | refine Wp.region ?_ | refine Wp.drawL TC_mixed ?_ | refine Wp.cond ?_ | refine Wp.ret ?_ | refine Wp.skip ?_ | refine Wp.exit ?_ | refine Go.mk ?_ | apply Eff1.of); conv => whnf)
    | with_reducible exact rfl
    | ((with_reducible refine Ov.ok zO ?_); conv => whnf)
    | (with_reducible refine Ov.sh1 (by with_unfolding_all exact rfl) ?_)
    | ((with_reducible refine Ov.quo (by omega) (by omega) (by omega) (fun _ _ => ?_)); conv => whnf)
    | ((with_reducible refine And.intro (show drawOK _ _ _ _ = true by kernel_rfl) ?_); conv => whnf)
    | ((with_reducible refine And.intro zC ?_); conv => whnf)
    | ((with_reducible refine And.intro ?hb ?_); (case hb => exact bytes_bd (Nat.le_of_ble_eq_true rfl) (by omega)); (conv => whnf))
    | ((refine DApp.a rfl rfl rfl rfl rfl rfl ?hb ?_); (case hb => exact zB); (conv => whnf))
    | ((refine DApp.b rfl rfl rfl rfl rfl rfl rfl rfl ?hb ?ho ?_); (case hb => exact zB); (case ho => omega); (conv => whnf))
    | ((refine DApp.c rfl rfl rfl rfl rfl ?hb ?_); (case hb => exact zB); (conv => whnf))
    | ((refine DApp.d rfl rfl rfl rfl rfl rfl ?hb ?ho ?_); (case hb => exact zB); (case ho => omega); (conv => whnf))
    | ((with_reducible refine nil_no (by omega) ?_); (conv => whnf))
    | ((with_reducible refine nil_any ?_ (fun hn0 => ?_)) <;> (conv => whnf))
    | ((with_reducible refine CallStop.pure (hfit) rfl rfl ?_); conv => whnf) | ((with_reducible refine DCall.pure (hfit) rfl rfl ?_); conv => whnf)
    | ((apply CallStop.fn5 (h := hS)); (case hh => exact zG); (case ha => exact zA); (case hd => exact rfl); (case hlive => exact rfl); (case hkeys => exact rfl); (case hlt => exact rfl); (conv => whnf))
    | ((refine ways (fun hc => ?_) (fun hc => ?_)) <;> (try simp only [decide_eq_true_eq, decide_eq_false_iff_not, Bool.and_eq_true, Bool.or_eq_true, Bool.and_eq_false_iff, Bool.or_eq_false_iff, Bool.not_eq_true', Bool.not_eq_false', beq_iff_eq, bne_iff_ne, ne_eq, beq_eq_false_iff_ne, bne_eq_false_iff_eq, Bool.not_eq_true, Bool.not_eq_false] at hc) <;> (try (exfalso; omega)) <;> (conv => whnf))))
          refine ⟨(i + 1, k, ⟨M, cs, nl, f⟩), ⟨by dsimp only; omega, by dsimp only; omega, by dsimp only; omega, h4, h5⟩, by dsimp only; omega, ?_⟩
          dsimp only
          (refine Le.by [0,1,2,3,4,5] rfl rfl rfl rfl ?_ ?_ <;> (conv => whnf) <;> (repeat' (first | exact trivial | exact ArgLe.rfl rfl | exact ArgLe.ptr rfl | exact ArgLe.sl rfl | exact dir_arg4 | exact dir_argR4 (fun l hl => by rcases l with _ | _ | _ | _ | l <;> first | rfl | omega) | exact ⟨rfl, rfl, rfl⟩ | exact ⟨rfl, Nat.le_of_ble_eq_true rfl⟩ | exact fun i hi => rfl | ((with_reducible refine And.intro ?_ ?_) <;> (conv => whnf)))))
        | false =>
          have hS := law_Start (M := M) (nl := nl) (f := f) (clk := 0) (cnt := (k : Int) + 1) w (by omega) pop pk pv (by omega) o4 (by omega) kv (isC_no hc)
          have hN := h4.start w pop pk pv kb ⟨by omega, o4⟩ (by omega)
          have hoth : ∀ j, 5 ≤ j → Dir.upd cs w (startS pop pk pv) j = .none := fun j hj => by rw [Dir.upd_ne _ _ (by omega)]; exact h5 j hj
          generalize Dir.upd cs w (startS pop pk pv) = cs' at hS hN hoth
          (repeat' (first
    | with_reducible refine Wp.seq ?_
    | with_reducible refine Wp.block ?_
    | ((with_reducible first | refine Wp.region ?_ | refine Wp.drawL TC_mixed ?_ | refine Wp.cond ?_ | refine Wp.ret ?_ | refine Wp.skip ?_ | refine Wp.exit ?_ | refine Go.mk ?_ | apply Eff1.of); conv => whnf)
    | with_reducible exact rfl
    | ((with_reducible refine Ov.ok zO ?_); conv => whnf)
    | (with_reducible refine Ov.sh1 (by with_unfolding_all exact rfl) ?_)
    | ((with_reducible refine Ov.quo (by omega) (by omega) (by omega) (fun _ _ => ?_)); conv => whnf)
    | ((with_reducible refine And.intro (show drawOK _ _ _ _ = true by kernel_rfl) ?_); conv => whnf)
    | ((with_reducible refine And.intro zC ?_); conv => whnf)
    | ((with_reducible refine And.intro ?hb ?_); (case hb => exact bytes_bd (Nat.le_of_ble_eq_true rfl) (by omega)); (conv => whnf))
    | ((refine DApp.a rfl rfl rfl rfl rfl rfl ?hb ?_); (case hb => exact zB); (conv => whnf))
    | ((refine DApp.b rfl rfl rfl rfl rfl rfl rfl rfl ?hb ?ho ?_); (case hb => exact zB); (case ho => omega); (conv => whnf))
    | ((refine DApp.c rfl rfl rfl rfl rfl ?hb ?_); (case hb => exact zB); (conv => whnf))
    | ((refine DApp.d rfl rfl rfl rfl rfl rfl ?hb ?ho ?_); (case hb => exact zB); (case ho => omega); (conv => whnf))
    | ((with_reducible refine nil_no (by omega) ?_); (conv => whnf))
    | ((with_reducible refine nil_any ?_ (fun hn0 => ?_)) <;> (conv => whnf))
    | ((with_reducible refine CallStop.pure (hfit) rfl rfl ?_); conv => whnf) | ((with_reducible refine DCall.pure (hfit) rfl rfl ?_); conv => whnf)
    | ((apply CallStop.fn5 (h := hS)); (case hh => exact zG); (case ha => exact zA); (case hd => exact rfl); (case hlive => exact rfl); (case hkeys => exact rfl); (case hlt => exact rfl); (conv => whnf))
    | ((refine ways (fun hc => ?_) (fun hc => ?_)) <;> (try simp only [decide_eq_true_eq, decide_eq_false_iff_not, Bool.and_eq_true, Bool.or_eq_true, Bool.and_eq_false_iff, Bool.or_eq_false_iff, Bool.not_eq_true', Bool.not_eq_false', beq_iff_eq, bne_iff_ne, ne_eq, beq_eq_false_iff_ne, bne_eq_false_iff_eq, Bool.not_eq_true, Bool.not_eq_false] at hc) <;> (try (exfalso; omega)) <;> (conv => whnf))))
          refine ⟨(i + 1, k, ⟨M, cs', nl, f⟩), ⟨by dsimp only; omega, by dsimp only; omega, by dsimp only; omega, hN, hoth⟩, by dsimp only; omega, ?_⟩
          dsimp only
          (refine Le.by [0,1,2,3,4,5] rfl rfl rfl rfl ?_ ?_ <;> (conv => whnf) <;> (repeat' (first | exact trivial | exact ArgLe.rfl rfl | exact ArgLe.ptr rfl | exact ArgLe.sl rfl | exact dir_arg4 | exact dir_argR4 (fun l hl => by rcases l with _ | _ | _ | _ | l <;> first | rfl | omega) | exact ⟨rfl, rfl, rfl⟩ | exact ⟨rfl, Nat.le_of_ble_eq_true rfl⟩ | exact fun i hi => rfl | ((with_reducible refine And.intro ?_ ?_) <;> (conv => whnf)))))
    · clear hs hok hfit
      have hfitL := law_fit _ hl
      obtain ⟨wl, hwl⟩ := fit_fit hl
      generalize fitP last = q at hfitL hwl
      obtain ⟨qw, qop, qk, qv⟩ := q
      obtain ⟨w0', w5', o0', o4', kl', kb', kv'⟩ := hwl
      dsimp only at w0' o0' o4' kl' kb' kv'
      have hfitL : Pure TC 34 [.agg [.i .i64 last.who, .i .u8 last.op, .d (slOf 1 (encI .u8) last.key), .i .i64 last.val]] (.agg [.i .i64 qw, .i .u8 qop, .d (slOf 1 (encI .u8) qk), .i .i64 qv]) := hfitL
      have hm : qop.tmod 4 = qop % 4 := Int.tmod_eq_emod_of_nonneg o0'
      have hE1 := h4.entries (by omega) f 0
      obtain ⟨u1, u2⟩ := Dir.ents_ok h4.s.inv.iw h4.ih
      have hel := ents_len h4.s.inv.iw.d.1 h4.s.inv.iw.d.2 (fun w => by have := (h4.s.hd w).1; omega)
      have hLv := law_Level h4.s f 0
      have hc9 := h5 9 (by omega)
      obtain ⟨op', hop'⟩ : ∃ op', op' = 1 + qop.tmod 4 := ⟨_, rfl⟩
      have ob : 1 ≤ op' ∧ op' ≤ 4 := by omega
      have hme : Dir.upd cs 9 (startS op' qk qv) 9 = startS op' qk qv := Dir.upd_same _ _ _
      have hN := h4.start 9 op' qk qv kb' ob (by omega)
      obtain ⟨n, hn, tr, rs, A⟩ := alone 9 (by omega) 0 53 k ⟨M, Dir.upd cs 9 (startS op' qk qv), nl, f⟩ (Dir.T_le (hN.s.inv.cw 9)) (by show Dir.upd cs 9 (startS op' qk qv) 9 ≠ .none; rw [hme]; exact isC_ne (startS_is _ _ _)) (by omega) hN
      have hR := law_run (w := 9) (k := k) (by omega) (s := ⟨M, cs, nl, f⟩) hc9 op' qk qv ob.1 ob.2 (by omega) kb' kv' 128 (by omega) (by omega) (by omega) A hn
      have hLn := A.law n (Nat.le_refl _)
      have hcn : ((k + n : Nat) : Int) + 1 = (k : Int) + n + 1 := by omega
      rw [← hcn] at hLn hR
      have hE2 := hLn.entries (by omega) (tr n).f 0
      have heff := A.eff
      rw [show (Dst.mk M (Dir.upd cs 9 (startS op' qk qv)) nl f).cs 9 = startS op' qk qv from hme] at heff
      obtain ⟨v1, v2⟩ := Dir.ents_ok hLn.s.inv.iw hLn.ih
      have hdone := Dir.done_ok u1 ⟨qw, op', qk, qv⟩
      have hD : Pure TC 35 [.d (slOf 2 entD (Dir.ents M)), .agg [.i .i64 qw, .i .u8 op', .d (slOf 1 (encI .u8) qk), .i .i64 qv]] _ := law_done (Dir.ents M) ⟨qw, op', qk, qv⟩ (by omega)
      by_cases h4' : op' = 4
      · have hst : Dir.callOf (startS op' qk qv) = none := by unfold startS; rw [if_pos h4']; rfl
        rw [hst] at heff
        obtain ⟨hr, hown⟩ := heff
        have hents : Dir.ents (tr n).M = Dir.ents M := Dir.srt_ext v1 u1 fun q => by rw [v2, u2, hown]
        rw [hents] at hE2
        rw [hdone.four h4'] at hD
        have hW : rs (n - 1) = ⟨true, 5, 0⟩ → M.W 0 / 2 = 4 := fun e => by
          rcases hr with e2 | ⟨_, e2⟩
          · rw [e] at e2; cases e2
          · have := e2 (M.W 0) (by unfold startS; rw [if_pos h4']; rfl)
            have := h4.s.inv.iw.d
            omega
        have hr2 : rs (n - 1) = ⟨true, 0, 0⟩ ∨ rs (n - 1) = ⟨true, 5, 0⟩ := hr.imp id fun h => h.1
        clear hdone A hN v1 v2 u1 u2 hr hown hents
        generalize tr n = Sn at hR hE2 hLn
        obtain ⟨Mn, cn, nn, fn⟩ := Sn
        dsimp only at hR hE2 hLn
        generalize rs (n - 1) = r at hR hW hr2
        subst hop'
        rcases hr2 with rfl | rfl
        · (repeat' (first
    | with_reducible refine Wp.seq ?_
    | with_reducible refine Wp.block ?_
    | ((with_reducible first | refine Wp.region ?_ | refine Wp.drawL TC_mixed ?_ | refine Wp.cond ?_ | refine Wp.ret ?_ | refine Wp.skip ?_ | refine Wp.exit ?_ | refine Go.mk ?_ | apply Eff1.of); conv => whnf)
    | with_reducible exact rfl
    | ((with_reducible refine Ov.ok zO ?_); conv => whnf)
    | (with_reducible refine Ov.sh1 (by with_unfolding_all exact rfl) ?_)
    | ((with_reducible refine Ov.quo (by omega) (by omega) (by omega) (fun _ _ => ?_)); conv => whnf)
    | ((with_reducible refine And.intro (show drawOK _ _ _ _ = true by kernel_rfl) ?_); conv => whnf)
    | ((with_reducible refine And.intro zC ?_); conv => whnf)
    | ((with_reducible refine And.intro ?hb ?_); (case hb => exact bytes_bd (Nat.le_of_ble_eq_true rfl) (by omega)); (conv => whnf))
    | ((refine DApp.a rfl rfl rfl rfl rfl rfl ?hb ?_); (case hb => exact zB); (conv => whnf))
    | ((refine DApp.b rfl rfl rfl rfl rfl rfl rfl rfl ?hb ?ho ?_); (case hb => exact zB); (case ho => omega); (conv => whnf))
    | ((refine DApp.c rfl rfl rfl rfl rfl ?hb ?_); (case hb => exact zB); (conv => whnf))
    | ((refine DApp.d rfl rfl rfl rfl rfl rfl ?hb ?ho ?_); (case hb => exact zB); (case ho => omega); (conv => whnf))
    | ((with_reducible refine nil_no (by omega) ?_); (conv => whnf))
    | ((with_reducible refine nil_any ?_ (fun hn0 => ?_)) <;> (conv => whnf))
    | ((with_reducible refine CallStop.pure (hfitL) rfl rfl ?_); conv => whnf) | ((with_reducible refine DCall.pure (hfitL) rfl rfl ?_); conv => whnf)
    | ((with_reducible refine CallStop.pure (hD) rfl rfl ?_); conv => whnf) | ((with_reducible refine DCall.pure (hD) rfl rfl ?_); conv => whnf)
    | ((apply CallStop.fn5 (h := hE1)); (case hh => exact zG); (case ha => exact zA); (case hd => exact rfl); (case hlive => exact rfl); (case hkeys => exact rfl); (case hlt => exact rfl); (conv => whnf))
    | ((apply CallStop.fn5 (h := hLv)); (case hh => exact zG); (case ha => exact zA); (case hd => exact rfl); (case hlive => exact rfl); (case hkeys => exact rfl); (case hlt => exact rfl); (conv => whnf))
    | ((apply CallStop.fn5 (h := hR)); (case hh => exact zG); (case ha => exact zA); (case hd => exact rfl); (case hlive => exact rfl); (case hkeys => exact rfl); (case hlt => exact rfl); (conv => whnf))
    | ((apply CallStop.fn5 (h := hE2)); (case hh => exact zG); (case ha => exact zA); (case hd => exact rfl); (case hlive => exact rfl); (case hkeys => exact rfl); (case hlt => exact rfl); (conv => whnf))
    | ((with_reducible refine CallStop.pure (r14_Same _ _) rfl rfl ?_); conv => whnf) | ((with_reducible refine DCall.pure (r14_Same _ _) rfl rfl ?_); conv => whnf)
    | ((refine StrOf.mk' qk rfl (fun i hi => rfl) ?_); (conv => whnf))
    | ((refine ways (fun hc => ?_) (fun hc => ?_)) <;> (try simp only [decide_eq_true_eq, decide_eq_false_iff_not, Bool.and_eq_true, Bool.or_eq_true, Bool.and_eq_false_iff, Bool.or_eq_false_iff, Bool.not_eq_true', Bool.not_eq_false', beq_iff_eq, bne_iff_ne, ne_eq, beq_eq_false_iff_ne, bne_eq_false_iff_eq, Bool.not_eq_true, Bool.not_eq_false] at hc) <;> (try (exfalso; omega)) <;> (conv => whnf))))
          all_goals first
            | exact .rfl _
            | exact absurd trivial hc
            | exact absurd rfl hc
            | (exfalso; simp at hc; done)
        · have hW := hW rfl
          (repeat' (first
    | with_reducible refine Wp.seq ?_
    | with_reducible refine Wp.block ?_
    | ((with_reducible first | refine Wp.region ?_ | refine Wp.drawL TC_mixed ?_ | refine Wp.cond ?_ | refine Wp.ret ?_ | refine Wp.skip ?_ | refine Wp.exit ?_ | refine Go.mk ?_ | apply Eff1.of); conv => whnf)
    | with_reducible exact rfl
    | ((with_reducible refine Ov.ok zO ?_); conv => whnf)
    | (with_reducible refine Ov.sh1 (by with_unfolding_all exact rfl) ?_)
    | ((with_reducible refine Ov.quo (by omega) (by omega) (by omega) (fun _ _ => ?_)); conv => whnf)
    | ((with_reducible refine And.intro (show drawOK _ _ _ _ = true by kernel_rfl) ?_); conv => whnf)
    | ((with_reducible refine And.intro zC ?_); conv => whnf)
    | ((with_reducible refine And.intro ?hb ?_); (case hb => exact bytes_bd (Nat.le_of_ble_eq_true rfl) (by omega)); (conv => whnf))
    | ((refine DApp.a rfl rfl rfl rfl rfl rfl ?hb ?_); (case hb => exact zB); (conv => whnf))
    | ((refine DApp.b rfl rfl rfl rfl rfl rfl rfl rfl ?hb ?ho ?_); (case hb => exact zB); (case ho => omega); (conv => whnf))
    | ((refine DApp.c rfl rfl rfl rfl rfl ?hb ?_); (case hb => exact zB); (conv => whnf))
    | ((refine DApp.d rfl rfl rfl rfl rfl rfl ?hb ?ho ?_); (case hb => exact zB); (case ho => omega); (conv => whnf))
    | ((with_reducible refine nil_no (by omega) ?_); (conv => whnf))
    | ((with_reducible refine nil_any ?_ (fun hn0 => ?_)) <;> (conv => whnf))
    | ((with_reducible refine CallStop.pure (hfitL) rfl rfl ?_); conv => whnf) | ((with_reducible refine DCall.pure (hfitL) rfl rfl ?_); conv => whnf)
    | ((with_reducible refine CallStop.pure (hD) rfl rfl ?_); conv => whnf) | ((with_reducible refine DCall.pure (hD) rfl rfl ?_); conv => whnf)
    | ((apply CallStop.fn5 (h := hE1)); (case hh => exact zG); (case ha => exact zA); (case hd => exact rfl); (case hlive => exact rfl); (case hkeys => exact rfl); (case hlt => exact rfl); (conv => whnf))
    | ((apply CallStop.fn5 (h := hLv)); (case hh => exact zG); (case ha => exact zA); (case hd => exact rfl); (case hlive => exact rfl); (case hkeys => exact rfl); (case hlt => exact rfl); (conv => whnf))
    | ((apply CallStop.fn5 (h := hR)); (case hh => exact zG); (case ha => exact zA); (case hd => exact rfl); (case hlive => exact rfl); (case hkeys => exact rfl); (case hlt => exact rfl); (conv => whnf))
    | ((apply CallStop.fn5 (h := hE2)); (case hh => exact zG); (case ha => exact zA); (case hd => exact rfl); (case hlive => exact rfl); (case hkeys => exact rfl); (case hlt => exact rfl); (conv => whnf))
    | ((with_reducible refine CallStop.pure (r14_Same _ _) rfl rfl ?_); conv => whnf) | ((with_reducible refine DCall.pure (r14_Same _ _) rfl rfl ?_); conv => whnf)
    | ((refine StrOf.mk' qk rfl (fun i hi => rfl) ?_); (conv => whnf))
    | ((refine ways (fun hc => ?_) (fun hc => ?_)) <;> (try simp only [decide_eq_true_eq, decide_eq_false_iff_not, Bool.and_eq_true, Bool.or_eq_true, Bool.and_eq_false_iff, Bool.or_eq_false_iff, Bool.not_eq_true', Bool.not_eq_false', beq_iff_eq, bne_iff_ne, ne_eq, beq_eq_false_iff_ne, bne_eq_false_iff_eq, Bool.not_eq_true, Bool.not_eq_false] at hc) <;> (try (exfalso; omega)) <;> (conv => whnf))))
          all_goals first
            | exact .rfl _
            | exact absurd trivial hc
            | exact .b (by rw [hW]; rfl)
      · have hst : Dir.callOf (startS op' qk qv) = some (Dir.pkc ⟨qw, op', qk, qv⟩) := by unfold startS; rw [if_neg h4']; rfl
        rw [hst] at heff
        obtain ⟨hr, hown⟩ := heff
        have e1 := hdone.ans h4'
        have e2 := hdone.lk h4'
        rw [u2] at e1
        have hrr : rs (n - 1) = (doneE (Dir.ents M) ⟨qw, op', qk, qv⟩).2 := hr.trans e1.symm
        have hents : Dir.ents (tr n).M = (doneE (Dir.ents M) ⟨qw, op', qk, qv⟩).1 := Dir.srt_ext v1 hdone.s fun q => by rw [v2, hown, e2, u2, u2]; rfl
        rw [hents] at hE2
        rw [hrr] at hR
        clear hdone A hN v1 v2 u1 u2 hr hown hents hrr e1 e2
        generalize tr n = Sn at hR hE2 hLn
        obtain ⟨Mn, cn, nn, fn⟩ := Sn
        dsimp only at hR hE2 hLn
        generalize doneE (Dir.ents M) ⟨qw, op', qk, qv⟩ = dn at hR hE2 hD
        obtain ⟨dl, ⟨rd, re, rn⟩⟩ := dn
        dsimp only at hR hE2 hD
        subst hop'
        (repeat' (first
    | with_reducible refine Wp.seq ?_
    | with_reducible refine Wp.block ?_
    | ((with_reducible first | refine Wp.region ?_ | refine Wp.drawL TC_mixed ?_ | refine Wp.cond ?_ | refine Wp.ret ?_ | refine Wp.skip ?_ | refine Wp.exit ?_ | refine Go.mk ?_ | apply Eff1.of); conv => whnf)
    | with_reducible exact rfl
    | ((with_reducible refine Ov.ok zO ?_); conv => whnf)
    | (with_reducible refine Ov.sh1 (by with_unfolding_all exact rfl) ?_)
    | ((with_reducible refine Ov.quo (by omega) (by omega) (by omega) (fun _ _ => ?_)); conv => whnf)
    | ((with_reducible refine And.intro (show drawOK _ _ _ _ = true by kernel_rfl) ?_); conv => whnf)
    | ((with_reducible refine And.intro zC ?_); conv => whnf)
    | ((with_reducible refine And.intro ?hb ?_); (case hb => exact bytes_bd (Nat.le_of_ble_eq_true rfl) (by omega)); (conv => whnf))
    | ((refine DApp.a rfl rfl rfl rfl rfl rfl ?hb ?_); (case hb => exact zB); (conv => whnf))
    | ((refine DApp.b rfl rfl rfl rfl rfl rfl rfl rfl ?hb ?ho ?_); (case hb => exact zB); (case ho => omega); (conv => whnf))
    | ((refine DApp.c rfl rfl rfl rfl rfl ?hb ?_); (case hb => exact zB); (conv => whnf))
    | ((refine DApp.d rfl rfl rfl rfl rfl rfl ?hb ?ho ?_); (case hb => exact zB); (case ho => omega); (conv => whnf))
    | ((with_reducible refine nil_no (by omega) ?_); (conv => whnf))
    | ((with_reducible refine nil_any ?_ (fun hn0 => ?_)) <;> (conv => whnf))
    | ((with_reducible refine CallStop.pure (hfitL) rfl rfl ?_); conv => whnf) | ((with_reducible refine DCall.pure (hfitL) rfl rfl ?_); conv => whnf)
    | ((with_reducible refine CallStop.pure (hD) rfl rfl ?_); conv => whnf) | ((with_reducible refine DCall.pure (hD) rfl rfl ?_); conv => whnf)
    | ((apply CallStop.fn5 (h := hE1)); (case hh => exact zG); (case ha => exact zA); (case hd => exact rfl); (case hlive => exact rfl); (case hkeys => exact rfl); (case hlt => exact rfl); (conv => whnf))
    | ((apply CallStop.fn5 (h := hLv)); (case hh => exact zG); (case ha => exact zA); (case hd => exact rfl); (case hlive => exact rfl); (case hkeys => exact rfl); (case hlt => exact rfl); (conv => whnf))
    | ((apply CallStop.fn5 (h := hR)); (case hh => exact zG); (case ha => exact zA); (case hd => exact rfl); (case hlive => exact rfl); (case hkeys => exact rfl); (case hlt => exact rfl); (conv => whnf))
    | ((apply CallStop.fn5 (h := hE2)); (case hh => exact zG); (case ha => exact zA); (case hd => exact rfl); (case hlive => exact rfl); (case hkeys => exact rfl); (case hlt => exact rfl); (conv => whnf))
    | ((with_reducible refine CallStop.pure (r14_Same _ _) rfl rfl ?_); conv => whnf) | ((with_reducible refine DCall.pure (r14_Same _ _) rfl rfl ?_); conv => whnf)
    | ((refine StrOf.mk' qk rfl (fun i hi => rfl) ?_); (conv => whnf))
    | ((refine ways (fun hc => ?_) (fun hc => ?_)) <;> (try simp only [decide_eq_true_eq, decide_eq_false_iff_not, Bool.and_eq_true, Bool.or_eq_true, Bool.and_eq_false_iff, Bool.or_eq_false_iff, Bool.not_eq_true', Bool.not_eq_false', beq_iff_eq, bne_iff_ne, ne_eq, beq_eq_false_iff_ne, bne_eq_false_iff_eq, Bool.not_eq_true, Bool.not_eq_false] at hc) <;> (try (exfalso; omega)) <;> (conv => whnf))))
        all_goals first
          | exact .rfl _
          | exact absurd trivial hc
          | (exfalso; simp at hc; done)
          | exact .b (by simp)
end Go.Proofs.YtbdclkjelhlfbaaGreat

namespace Go.Proofs.YtbdclkjelhlfbaaGreat
open Go.RowKit
set_option maxRecDepth 100000
theorem CallStop.fn5b {C : Cx} {nt : NT} {nx : Nat} {fr : List (Nat × SV)} {hp : List (Nat × Option Blk)} {g : Nat} {args : List SV} {k : St → SV → Prop} {m' : Nat} {args0 : List SV} {H H' : List (Nat × Option Blk)} {r : SV} {l : Nat} (h : Fun C g 5 args0 H m' r H')
    (hh : HeapLe hp [5, 6, 7, 8, l] H) (ha : ArgLes [5, 6, 7, 8, l] args args0) (hd : noDup [5, 6, 7, 8, l] = true) (hlive : liveK H 5 = true) (hkeys : keysK H' 5 = true) (hlt : keysLt H' m' = true)
    (hk : k ⟨nt, nx + (m' - 5), fr, postH (πf [5, 6, 7, 8, l] nx) hp H'⟩ (ren2 (πf [5, 6, 7, 8, l] nx) r)) : CallStop C ⟨nt, nx, fr, hp⟩ g args k :=
  .fn h _ rfl hd hlive hkeys hlt ha hh hk
theorem ArgLe.sl5b {l z o n : Nat} : ArgLe [5, 6, 7, 8, l] (.sl l z o n) (.sl 4 z o n) := by
  refine ⟨fun E nx w v hv => ?_⟩
  cases hv with
  | sl _ _ _ _ ad cap hl hc hm ha h0 => exact .sl _ _ _ _ _ _ (by simp) hc hm ha h0
theorem lt_ren {π : Nat → Nat} {m n : Nat} (H : ∀ l, l < m → π l < n) {x : SV} (hx : SV.Lt m x) : SV.Lt n (SV.ren π x) := by
  induction hx with
  | any => exact .any
  | d x => exact .d x
  | ptr l off hl => exact .ptr _ _ (H l hl)
  | rp l esz i off hl => exact .rp _ _ _ _ (H l hl)
  | sl l esz off len hl => exact .sl _ _ _ _ (H l hl)
  | agg vs hv ih => simp only [SV.ren, SV.renL_map]; exact .agg _ fun y hy => by obtain ⟨x, hx, rfl⟩ := List.mem_map.1 hy; exact ih x hx
  | tup vs hv ih => simp only [SV.ren, SV.renL_map]; exact .tup _ fun y hy => by obtain ⟨x, hx, rfl⟩ := List.mem_map.1 hy; exact ih x hx
  | fn f vs hv ih => simp only [SV.ren, SV.renL_map]; exact .fn _ _ fun y hy => by obtain ⟨x, hx, rfl⟩ := List.mem_map.1 hy; exact ih x hx
  | iref vs off hv ih => simp only [SV.ren, SV.renL_map]; exact .iref _ _ fun y hy => by obtain ⟨x, hx, rfl⟩ := List.mem_map.1 hy; exact ih x hx
def up5 (l : Nat) : Nat := l + 5
theorem dir_arg2 {cs : Nat → Dir.CS} {L : List Nat} {π : Nat → Nat} (H : ∀ l, l < 4 → l + 5 < L.length ∧ L.getD (l + 5) 0 = π l) : ∀ j, j < 65 → ArgLe L (SV.ren π (dirF (gOf cs) j)) (SV.ren up5 (dirF (gOf cs) j)) ∧ SV.Lt 10 (SV.ren up5 (dirF (gOf cs) j)) :=
  fun j _ => ⟨.ren2 (gOf_lt4 cs j) H, lt_ren (fun l hl => by show l + 5 < 10; omega) (gOf_lt4 cs j)⟩
def dirH2 (cs : Nat → Dir.CS) (M : Dir.Mc) (nl : Nat) (f : Nat → List D) (clk cnt : Int) : List (Nat × Option Blk) :=
  [(5, some (.cf 10 65 fun j => SV.ren up5 (dirF (gOf cs) j))), (6, some (machB 7 9 32 nl clk cnt)), (7, some (wordB 32 M.W)), (8, some (holdB M.Hd)), (9, some (lastB nl f))]
theorem run0 {k : Nat} {s : Dst} (h : LawE k s.M s.cs s.nl ((k : Int) + 1)) (hk : k ≤ 6000) (hc : s.cs 0 = .none) (op : Int) (key : List Int) (v : Int) (ho : 1 ≤ op) (ho4 : op ≤ 4) (hl : key.length ≤ 3) (hB : IsB key) (hv : tickB v = true) :
    ∃ (k' : Nat) (s' : Dst) (r : Dir.Res), k' ≤ k + 53 ∧ LawE k' s'.M s'.cs s'.nl ((k' : Int) + 1) ∧ s'.cs 0 = .none ∧ (∀ j, j ≠ 0 → s'.cs j = s.cs j) ∧
      (if op = 4 then ∀ q, Dir.own s'.M q = Dir.own s.M q else r = Dir.ansE ⟨op, key, v⟩ (Dir.own s.M key) ∧ ∀ q, Dir.own s'.M q = if q = key then Dir.newE ⟨op, key, v⟩ (Dir.own s.M key) else Dir.own s.M q) ∧
      Fun TC 36 5 [.ptr 0 0, .i .i64 0, .i .u8 op, .d (.val (.string (bsK key))), .i .i64 v, .i .i64 128] (dirH (gOf s.cs) s.M s.nl s.f 0 ((k : Int) + 1)) 6 (.tup [rslS r, .b true])
        [(0, some (dirB (gOf s'.cs))), (1, some (machB 2 5 32 s'.nl 0 ((k' : Int) + 1))), (2, some (wordB 32 s'.M.W)), (3, some (holdB s'.M.Hd)), (4, none), (5, some (lastB s'.nl s'.f))] := by
  have hme : Dir.upd s.cs 0 (startS op key v) 0 = startS op key v := Dir.upd_same _ _ _
  have hN := h.start 0 op key v hB ⟨ho, ho4⟩ (by omega)
  obtain ⟨n, hn, tr, rs, A⟩ := alone 0 (by omega) 0 53 k ⟨s.M, Dir.upd s.cs 0 (startS op key v), s.nl, s.f⟩ (Dir.T_le (hN.s.inv.cw 0)) (by show Dir.upd s.cs 0 (startS op key v) 0 ≠ .none; rw [hme]; exact isC_ne (startS_is _ _ _)) (by omega) hN
  have hR := law_run (w := 0) (k := k) (by omega) (s := s) hc op key v ho ho4 (by omega) hB hv 128 (by omega) (by omega) (by omega) A hn
  have hLn := A.law n (Nat.le_refl _)
  have hcn : ((k + n : Nat) : Int) + 1 = (k : Int) + n + 1 := by omega
  rw [← hcn] at hLn hR
  have heff := A.eff
  rw [show (Dst.mk s.M (Dir.upd s.cs 0 (startS op key v)) s.nl s.f).cs 0 = startS op key v from hme] at heff
  refine ⟨k + n, tr n, rs (n - 1), by omega, hLn, A.me, fun j hj => (A.oth j hj).trans (Dir.upd_ne _ _ hj), ?_, hR⟩
  by_cases h4 : op = 4
  · rw [if_pos h4]
    have hst : Dir.callOf (startS op key v) = none := by unfold startS; rw [if_pos h4]; rfl
    rw [hst] at heff
    exact heff.2
  · rw [if_neg h4]
    have hst : Dir.callOf (startS op key v) = some ⟨op, key, v⟩ := by unfold startS; rw [if_neg h4]; rfl
    rw [hst] at heff
    exact heff
theorem IsB.at {xs : List Int} (h : IsB xs) (i : Nat) : 0 ≤ xs.getD i default ∧ xs.getD i default ≤ 255 := by
  rw [List.getD_eq_getElem?_getD]
  cases e : xs[i]? with
  | none => exact ⟨by decide, by decide⟩
  | some x => exact h x (List.mem_of_getElem? e)
set_option maxHeartbeats 8000000 in
theorem DirUnseen_holds (script : List Pk) (hs : ∀ a ∈ script, a.ok) (left : List Int) (hleft : IsB left) : Pure TC 8 [.d (slOf 4 Pk.D script), .d (slOf 1 (encI .u8) left)] (.b true) := by
  refine Pure.lens (.mk Tryz.func8 rfl rfl) fun hlen => ?_
  have hl0 := hlen script.length (by simp [lensOf, slOf])
  have hl1 := hlen left.length (by simp [lensOf, slOf])
  clear hlen
  refine Pure.mk' Tryz.func8 rfl rfl (Nat.le_of_ble_eq_true rfl) ?_
  (repeat' (first
    | with_reducible refine Wp.seq ?_
    | with_reducible refine Wp.block ?_
    | ((with_reducible first | refine Wp.region ?_ | refine Wp.drawL TC_mixed ?_ | refine Wp.cond ?_ | refine Wp.ret ?_ | refine Wp.skip ?_ | refine Wp.exit ?_ | refine Go.mk ?_ | apply Eff1.of); conv => whnf)
    | with_reducible exact rfl
    | ((with_reducible refine Ov.ok zO ?_); conv => whnf)
    | (with_reducible refine Ov.sh1 (by with_unfolding_all exact rfl) ?_)
    | ((with_reducible refine Ov.quo (by omega) (by omega) (by omega) (fun _ _ => ?_)); conv => whnf)
    | ((with_reducible refine And.intro (show drawOK _ _ _ _ = true by kernel_rfl) ?_); conv => whnf)
    | ((with_reducible refine And.intro zC ?_); conv => whnf)
    | ((with_reducible refine And.intro ?hb ?_); (case hb => exact bytes_bd (Nat.le_of_ble_eq_true rfl) (by omega)); (conv => whnf))
    | ((refine DApp.a rfl rfl rfl rfl rfl rfl ?hb ?_); (case hb => exact zB); (conv => whnf))
    | ((refine DApp.b rfl rfl rfl rfl rfl rfl rfl rfl ?hb ?ho ?_); (case hb => exact zB); (case ho => omega); (conv => whnf))
    | ((refine DApp.c rfl rfl rfl rfl rfl ?hb ?_); (case hb => exact zB); (conv => whnf))
    | ((refine DApp.d rfl rfl rfl rfl rfl rfl ?hb ?ho ?_); (case hb => exact zB); (case ho => omega); (conv => whnf))
    | ((with_reducible refine nil_no (by omega) ?_); (conv => whnf))
    | ((with_reducible refine nil_any ?_ (fun hn0 => ?_)) <;> (conv => whnf))
    | ((with_reducible refine CallStop.pure (awake_T) rfl rfl ?_); conv => whnf) | ((with_reducible refine DCall.pure (awake_T) rfl rfl ?_); conv => whnf)
    | ((refine CallStop.fn (law_New) [] rfl rfl rfl rfl rfl ?ha ?hh ?_); (case ha => exact zA); (case hh => exact zH); (conv => whnf))
    | ((refine DCall.fn (law_New) [] [] rfl rfl rfl rfl rfl ?ha ?hh ?hs ?_); (case ha => exact zA); (case hh => exact zH); (case hs => exact zK); (conv => whnf)) | ((refine DCall.new (law_New) [] [] rfl rfl rfl rfl rfl rfl ?ha ?hh ?hs ?_); (case ha => exact zA); (case hh => exact zH); (case hs => exact zK); (conv => whnf))
    | ((refine ways (fun hc => ?_) (fun hc => ?_)) <;> (try simp only [decide_eq_true_eq, decide_eq_false_iff_not, Bool.and_eq_true, Bool.or_eq_true, Bool.and_eq_false_iff, Bool.or_eq_false_iff, Bool.not_eq_true', Bool.not_eq_false', beq_iff_eq, bne_iff_ne, ne_eq, beq_eq_false_iff_ne, bne_eq_false_iff_eq, Bool.not_eq_true, Bool.not_eq_false] at hc) <;> (try (exfalso; omega)) <;> (conv => whnf))))
  refine Wp.loopP (ι := Nat × Nat × Nat × Dst × Nat × Dst)
    (fun k => k.1 ≤ script.length ∧ k.1 ≤ 100 ∧ (10 ≤ k.2.1 ∧ k.2.1 ≤ 60) ∧ k.2.2.1 ≤ 53 * k.1 ∧ LawE k.2.2.1 k.2.2.2.1.M k.2.2.2.1.cs k.2.2.2.1.nl ((k.2.2.1 : Int) + 1) ∧ k.2.2.2.2.1 ≤ 53 * k.1 ∧ LawE k.2.2.2.2.1 k.2.2.2.2.2.M k.2.2.2.2.2.cs k.2.2.2.2.2.nl ((k.2.2.2.2.1 : Int) + 1) ∧
      k.2.2.2.1.cs 0 = .none ∧ k.2.2.2.2.2.cs 0 = .none ∧ (∀ j, k.2.1 < j → k.2.2.2.2.2.cs j = .none) ∧ ∀ q, Dir.own k.2.2.2.1.M q = Dir.own k.2.2.2.2.2.M q)
    (fun k => ⟨⟨Tryz.f8.ntmps, 0⟩, 10, [(1, .d (slOf 1 (encI .u8) left)), (5, .ptr 0 0), (6, .ptr 5 0), (7, .i .i64 k.2.1), (20, .d (slOf 4 Pk.D script)), (21, .i .i64 script.length), (22, .i .i64 k.1)],
      dirH (gOf k.2.2.2.1.cs) k.2.2.2.1.M k.2.2.2.1.nl k.2.2.2.1.f 0 ((k.2.2.1 : Int) + 1) ++ dirH2 k.2.2.2.2.2.cs k.2.2.2.2.2.M k.2.2.2.2.2.nl k.2.2.2.2.2.f 0 ((k.2.2.2.2.1 : Int) + 1)⟩)
    (fun k => script.length - k.1) (0, 10, 0, ⟨Dir.M0, fun _ => .none, noteN 0, noteF 0 (fun _ => []) (accD 0 2 1 0 1 true)⟩, 0, ⟨Dir.M0, fun _ => .none, noteN 0, noteF 0 (fun _ => []) (accD 0 2 1 0 1 true)⟩)
    ⟨Nat.zero_le _, Nat.zero_le _, ⟨Nat.le_refl _, by decide⟩, Nat.le_refl _, LawE.zero, Nat.le_refl _, LawE.zero, rfl, rfl, fun _ _ => rfl, fun _ => rfl⟩ ?_ ?_
  · (refine Le.by [0,1,2,3,4,5,6,7,8,9] rfl rfl rfl rfl ?_ ?_ <;> (conv => whnf) <;> (repeat' (first | exact trivial | exact ArgLe.rfl rfl | exact ArgLe.ptr rfl | exact ArgLe.sl rfl | exact dir_arg4 | exact dir_argP rfl rfl rfl rfl | exact dir_arg2 (fun l hl => by rcases l with _ | _ | _ | _ | l <;> first | exact ⟨Nat.le_of_ble_eq_true rfl, rfl⟩ | omega) | exact ⟨rfl, rfl, rfl⟩ | exact ⟨rfl, Nat.le_of_ble_eq_true rfl⟩ | exact fun i hi => rfl | ((with_reducible refine And.intro ?_ ?_) <;> (conv => whnf)))))
  · rintro ⟨i, lost, ka, ⟨MA, ca, na, fa⟩, kb, ⟨MB, cb, nb, fb⟩⟩ ⟨h1, h2, ⟨h3, h3'⟩, h4, h5, h6, h7, h8, h9, h10, h11⟩
    dsimp only at h1 h2 h3 h3' h4 h5 h6 h7 h8 h9 h10 h11 ⊢
    have hok := pk_at hs (i : Int).toNat
    have hfit := law_fit _ hok
    obtain ⟨w, hw⟩ := fit_fit hok
    generalize fitP (script.getD (i : Int).toNat default) = p at hfit hw
    obtain ⟨pw, pop, pk, pv⟩ := p
    obtain ⟨w0, w5, o0, o4, kl, kb', kv⟩ := hw
    dsimp only at w0 o0 o4 kl kb' kv
    subst w0
    replace hfit : Pure TC 34 [.agg [.i .i64 (script.getD (i : Int).toNat default).who, .i .u8 (script.getD (i : Int).toNat default).op, .d (slOf 1 (encI .u8) (script.getD (i : Int).toNat default).key), .i .i64 (script.getD (i : Int).toNat default).val]] (.agg [.i .i64 w, .i .u8 pop, .d (slOf 1 (encI .u8) pk), .i .i64 pv]) := hfit
    have hm : pop.tmod 4 = pop % 4 := Int.tmod_eq_emod_of_nonneg o0
    by_cases hi : i < script.length ∧ i < 100
    · by_cases h4' : 1 + pop.tmod 4 = 4
      · by_cases hlo : i < left.length ∧ lost < 60
        · have hSt := law_Start (M := MB) (cs := cb) (nl := nb) (f := fb) (clk := 0) (cnt := (kb : Int) + 1) (lost + 1) (by omega) 4 [] 0 (by omega) (by omega) (by simp) rfl (h10 _ (by omega))
          have hN := h7.start (lost + 1) 4 [] 0 (fun x hx => by cases hx) ⟨by omega, by omega⟩ (by simp)
          have hcl : Dir.callOf (Dir.upd cb (lost + 1) (startS 4 [] 0) (lost + 1)) = none := by rw [Dir.upd_same]; rfl
          have hz0 : Dir.upd cb (lost + 1) (startS 4 [] 0) 0 = .none := by rw [Dir.upd_ne _ _ (by omega)]; exact h9
          have hzj : ∀ j, lost + 1 < j → Dir.upd cb (lost + 1) (startS 4 [] 0) j = .none := fun j hj => by rw [Dir.upd_ne _ _ (by omega)]; exact h10 j (by omega)
          have hb := hleft.at (i : Int).toNat
          have hcast : ((lost + 1 : Nat) : Int) = (lost : Int) + 1 := by omega
          rw [hcast] at hSt
          generalize Dir.upd cb (lost + 1) (startS 4 [] 0) = cb2 at hSt hN hcl hz0 hzj
          (repeat' (first
    | with_reducible refine Wp.seq ?_
    | with_reducible refine Wp.block ?_
    | ((with_reducible first | refine Wp.region ?_ | refine Wp.drawL TC_mixed ?_ | refine Wp.cond ?_ | refine Wp.ret ?_ | refine Wp.skip ?_ | refine Wp.exit ?_ | refine Go.mk ?_ | apply Eff1.of); conv => whnf)
    | with_reducible exact rfl
    | ((with_reducible refine Ov.ok zO ?_); conv => whnf)
    | (with_reducible refine Ov.sh1 (by with_unfolding_all exact rfl) ?_)
    | ((with_reducible refine Ov.quo (by omega) (by omega) (by omega) (fun _ _ => ?_)); conv => whnf)
    | ((with_reducible refine And.intro (show drawOK _ _ _ _ = true by kernel_rfl) ?_); conv => whnf)
    | ((with_reducible refine And.intro zC ?_); conv => whnf)
    | ((with_reducible refine And.intro ?hb ?_); (case hb => exact bytes_bd (Nat.le_of_ble_eq_true rfl) (by omega)); (conv => whnf))
    | ((refine DApp.a rfl rfl rfl rfl rfl rfl ?hb ?_); (case hb => exact zB); (conv => whnf))
    | ((refine DApp.b rfl rfl rfl rfl rfl rfl rfl rfl ?hb ?ho ?_); (case hb => exact zB); (case ho => omega); (conv => whnf))
    | ((refine DApp.c rfl rfl rfl rfl rfl ?hb ?_); (case hb => exact zB); (conv => whnf))
    | ((refine DApp.d rfl rfl rfl rfl rfl rfl ?hb ?ho ?_); (case hb => exact zB); (case ho => omega); (conv => whnf))
    | ((with_reducible refine nil_no (by omega) ?_); (conv => whnf))
    | ((with_reducible refine nil_any ?_ (fun hn0 => ?_)) <;> (conv => whnf))
    | ((with_reducible refine CallStop.pure (hfit) rfl rfl ?_); conv => whnf) | ((with_reducible refine DCall.pure (hfit) rfl rfl ?_); conv => whnf)
    | ((apply CallStop.fn5b (h := hSt)); (case hh => ((conv => whnf); repeat' (first | exact trivial | exact ArgLe.rfl rfl | exact ArgLe.ptr rfl | exact ArgLe.sl5b | exact ArgLe.sl rfl | exact ⟨rfl, rfl, rfl⟩ | exact ⟨rfl, Nat.le_of_ble_eq_true rfl⟩ | exact dir_argP rfl rfl rfl rfl | exact fun i hi => rfl | ((with_reducible refine And.intro ?_ ?_) <;> (conv => whnf))))); (case ha => exact zA); (case hd => exact rfl); (case hlive => exact rfl); (case hkeys => exact rfl); (case hlt => exact rfl); (conv => whnf))
    | ((refine ways (fun hc => ?_) (fun hc => ?_)) <;> (try simp only [decide_eq_true_eq, decide_eq_false_iff_not, Bool.and_eq_true, Bool.or_eq_true, Bool.and_eq_false_iff, Bool.or_eq_false_iff, Bool.not_eq_true', Bool.not_eq_false', beq_iff_eq, bne_iff_ne, ne_eq, beq_eq_false_iff_ne, bne_eq_false_iff_eq, Bool.not_eq_true, Bool.not_eq_false] at hc) <;> (try (exfalso; omega)) <;> (conv => whnf))))
          have hR40 : (left.getD (i : Int).toNat default).tmod 40 = (left.getD (i : Int).toNat default) % 40 := Int.tmod_eq_emod_of_nonneg hb.1
          refine Wp.loopP (ι := Nat × Nat × Dst)
            (fun k => (k.1 : Int) ≤ (left.getD (i : Int).toNat default).tmod 40 ∧ k.2.1 ≤ kb + k.1 ∧ LawE k.2.1 k.2.2.M k.2.2.cs k.2.2.nl ((k.2.1 : Int) + 1) ∧ Dir.callOf (k.2.2.cs (lost + 1)) = none ∧ k.2.2.cs 0 = .none ∧ (∀ j, lost + 1 < j → k.2.2.cs j = .none) ∧ ∀ q, Dir.own k.2.2.M q = Dir.own MB q)
            (fun k => ⟨⟨Tryz.f8.ntmps, 0⟩, 10, [(1, .d (slOf 1 (encI .u8) left)), (5, .ptr 0 0), (6, .ptr 5 0), (7, .i .i64 ((lost : Int) + 1)), (20, .d (slOf 4 Pk.D script)), (21, .i .i64 script.length), (22, .i .i64 i), (57, .i .u8 ((left.getD (i : Int).toNat default).tmod 40)), (58, .i .u8 k.1)],
              dirH (gOf ca) MA na fa 0 ((ka : Int) + 1) ++ dirH2 k.2.2.cs k.2.2.M k.2.2.nl k.2.2.f 0 ((k.2.1 : Int) + 1)⟩)
            (fun k => 40 - k.1) (0, kb, ⟨MB, cb2, nb, fb⟩) ⟨by dsimp only; omega, Nat.le_refl _, hN, hcl, hz0, hzj, fun _ => rfl⟩ ?_ ?_
          · dsimp only
            (refine Le.by [0,1,2,3,4,5,6,7,8,9] rfl rfl rfl rfl ?_ ?_ <;> (conv => whnf) <;> (repeat' (first | exact trivial | exact ArgLe.rfl rfl | exact ArgLe.ptr rfl | exact ArgLe.sl rfl | exact dir_arg4 | exact dir_argP rfl rfl rfl rfl | exact dir_arg2 (fun l hl => by rcases l with _ | _ | _ | _ | l <;> first | exact ⟨Nat.le_of_ble_eq_true rfl, rfl⟩ | omega) | exact ⟨rfl, rfl, rfl⟩ | exact ⟨rfl, Nat.le_of_ble_eq_true rfl⟩ | exact fun i hi => rfl | ((with_reducible refine And.intro ?_ ?_) <;> (conv => whnf)))))
          · rintro ⟨j, k', ⟨M2, c2, n2, f2⟩⟩ ⟨e1, e2, e3, e4, e5, e6, e7⟩
            dsimp only at e1 e2 e3 e4 e5 e6 e7 ⊢
            have hP := law_Pending (M := M2) (cs := c2) (nl := n2) (f := f2) (clk := 0) (cnt := (k' : Int) + 1) (lost + 1) (by omega)
            rw [hcast] at hP
            cases hcc : isC (c2 (lost + 1)) with
            | true =>
              rw [hcc] at hP
              obtain ⟨a, hS⟩ := law_Step (f := f2) (clk := 0) e3.s (by omega) (lost + 1) (by omega) hcc
              have hN2 := e3.step (by omega) (isC_ne hcc)
              have hE := e3.eff (by omega) (isC_ne hcc)
              have hcnt : ((k' + 1 : Nat) : Int) + 1 = (k' : Int) + 1 + 1 := by omega
              have hme : Dir.upd c2 (lost + 1) (Dir.step dirOps M2 (c2 (lost + 1))).2.1 (lost + 1) = (Dir.step dirOps M2 (c2 (lost + 1))).2.1 := Dir.upd_same _ _ _
              have hne : ∀ j, j ≠ lost + 1 → Dir.upd c2 (lost + 1) (Dir.step dirOps M2 (c2 (lost + 1))).2.1 j = c2 j := fun j hj => Dir.upd_ne _ _ hj
              unfold dirN at hS
              rw [← hcnt] at hN2
              rw [hcast] at hS
              generalize Dir.step dirOps M2 (c2 (lost + 1)) = Q at hS hN2 hE hme hne
              obtain ⟨M', s', r⟩ := Q
              dsimp only at hS hN2 hE hme hne
              generalize Dir.upd c2 (lost + 1) s' = c3 at hS hN2 hme hne
              have hcl3 : Dir.callOf (c3 (lost + 1)) = none := by
                rw [hme]
                cases e : r.done with
                | true => rw [(hE.yes e).1]; rfl
                | false => rw [(hE.no e).2.2.1]; exact e4
              have hown3 : ∀ q, Dir.own M' q = Dir.own MB q := fun q => by
                cases e : r.done with
                | true => have := (hE.yes e).2; rw [e4] at this; rw [this.2, e7]
                | false => rw [(hE.no e).2.2.2, e7]
              (repeat' (first
    | with_reducible refine Wp.seq ?_
    | with_reducible refine Wp.block ?_
    | ((with_reducible first | refine Wp.region ?_ | refine Wp.drawL TC_mixed ?_ | refine Wp.cond ?_ | refine Wp.ret ?_ | refine Wp.skip ?_ | refine Wp.exit ?_ | refine Go.mk ?_ | apply Eff1.of); conv => whnf)
    | with_reducible exact rfl
    | ((with_reducible refine Ov.ok zO ?_); conv => whnf)
    | (with_reducible refine Ov.sh1 (by with_unfolding_all exact rfl) ?_)
    | ((with_reducible refine Ov.quo (by omega) (by omega) (by omega) (fun _ _ => ?_)); conv => whnf)
    | ((with_reducible refine And.intro (show drawOK _ _ _ _ = true by kernel_rfl) ?_); conv => whnf)
    | ((with_reducible refine And.intro zC ?_); conv => whnf)
    | ((with_reducible refine And.intro ?hb ?_); (case hb => exact bytes_bd (Nat.le_of_ble_eq_true rfl) (by omega)); (conv => whnf))
    | ((refine DApp.a rfl rfl rfl rfl rfl rfl ?hb ?_); (case hb => exact zB); (conv => whnf))
    | ((refine DApp.b rfl rfl rfl rfl rfl rfl rfl rfl ?hb ?ho ?_); (case hb => exact zB); (case ho => omega); (conv => whnf))
    | ((refine DApp.c rfl rfl rfl rfl rfl ?hb ?_); (case hb => exact zB); (conv => whnf))
    | ((refine DApp.d rfl rfl rfl rfl rfl rfl ?hb ?ho ?_); (case hb => exact zB); (case ho => omega); (conv => whnf))
    | ((with_reducible refine nil_no (by omega) ?_); (conv => whnf))
    | ((with_reducible refine nil_any ?_ (fun hn0 => ?_)) <;> (conv => whnf))
    | ((apply CallStop.fn5b (h := hP)); (case hh => ((conv => whnf); repeat' (first | exact trivial | exact ArgLe.rfl rfl | exact ArgLe.ptr rfl | exact ArgLe.sl5b | exact ArgLe.sl rfl | exact ⟨rfl, rfl, rfl⟩ | exact ⟨rfl, Nat.le_of_ble_eq_true rfl⟩ | exact dir_argP rfl rfl rfl rfl | exact fun i hi => rfl | ((with_reducible refine And.intro ?_ ?_) <;> (conv => whnf))))); (case ha => exact zA); (case hd => exact rfl); (case hlive => exact rfl); (case hkeys => exact rfl); (case hlt => exact rfl); (conv => whnf))
    | ((apply CallStop.fn5b (h := hS)); (case hh => ((conv => whnf); repeat' (first | exact trivial | exact ArgLe.rfl rfl | exact ArgLe.ptr rfl | exact ArgLe.sl5b | exact ArgLe.sl rfl | exact ⟨rfl, rfl, rfl⟩ | exact ⟨rfl, Nat.le_of_ble_eq_true rfl⟩ | exact dir_argP rfl rfl rfl rfl | exact fun i hi => rfl | ((with_reducible refine And.intro ?_ ?_) <;> (conv => whnf))))); (case ha => exact zA); (case hd => exact rfl); (case hlive => exact rfl); (case hkeys => exact rfl); (case hlt => exact rfl); (conv => whnf))
    | ((refine ways (fun hc => ?_) (fun hc => ?_)) <;> (try simp only [decide_eq_true_eq, decide_eq_false_iff_not, Bool.and_eq_true, Bool.or_eq_true, Bool.and_eq_false_iff, Bool.or_eq_false_iff, Bool.not_eq_true', Bool.not_eq_false', beq_iff_eq, bne_iff_ne, ne_eq, beq_eq_false_iff_ne, bne_eq_false_iff_eq, Bool.not_eq_true, Bool.not_eq_false] at hc) <;> (try (exfalso; omega)) <;> (conv => whnf))))
              · refine ⟨(j + 1, k' + 1, ⟨M', c3, noteN n2, noteF n2 f2 a⟩), ⟨by dsimp only; omega, by dsimp only; omega, hN2, hcl3, (hne 0 (by omega)).trans e5, fun q hq => (hne q (by omega)).trans (e6 q hq), hown3⟩, by dsimp only; omega, ?_⟩
                dsimp only
                rw [hcnt]
                (refine Le.by [0,1,2,3,4,5,6,7,8,10] rfl rfl rfl rfl ?_ ?_ <;> (conv => whnf) <;> (repeat' (first | exact trivial | exact ArgLe.rfl rfl | exact ArgLe.ptr rfl | exact ArgLe.sl rfl | exact dir_arg4 | exact dir_argP rfl rfl rfl rfl | exact dir_arg2 (fun l hl => by rcases l with _ | _ | _ | _ | l <;> first | exact ⟨Nat.le_of_ble_eq_true rfl, rfl⟩ | omega) | exact ⟨rfl, rfl, rfl⟩ | exact ⟨rfl, Nat.le_of_ble_eq_true rfl⟩ | exact fun i hi => rfl | ((with_reducible refine And.intro ?_ ?_) <;> (conv => whnf)))))
              · refine ⟨(i + 1, lost + 1, ka, ⟨MA, ca, na, fa⟩, k', ⟨M2, c2, n2, f2⟩), ⟨by dsimp only; omega, by dsimp only; omega, ⟨by dsimp only; omega, by dsimp only; omega⟩, by dsimp only; omega, h5, by dsimp only; omega, e3, h8, e5, e6, fun q => by rw [e7]; exact h11 q⟩, by dsimp only; omega, ?_⟩
                dsimp only
                rw [hcast]
                (refine Le.by [0,1,2,3,4,5,6,7,8,9] rfl rfl rfl rfl ?_ ?_ <;> (conv => whnf) <;> (repeat' (first | exact trivial | exact ArgLe.rfl rfl | exact ArgLe.ptr rfl | exact ArgLe.sl rfl | exact dir_arg4 | exact dir_argP rfl rfl rfl rfl | exact dir_arg2 (fun l hl => by rcases l with _ | _ | _ | _ | l <;> first | exact ⟨Nat.le_of_ble_eq_true rfl, rfl⟩ | omega) | exact ⟨rfl, rfl, rfl⟩ | exact ⟨rfl, Nat.le_of_ble_eq_true rfl⟩ | exact fun i hi => rfl | ((with_reducible refine And.intro ?_ ?_) <;> (conv => whnf)))))
            | false =>
              rw [hcc] at hP
              (repeat' (first
    | with_reducible refine Wp.seq ?_
    | with_reducible refine Wp.block ?_
    | ((with_reducible first | refine Wp.region ?_ | refine Wp.drawL TC_mixed ?_ | refine Wp.cond ?_ | refine Wp.ret ?_ | refine Wp.skip ?_ | refine Wp.exit ?_ | refine Go.mk ?_ | apply Eff1.of); conv => whnf)
    | with_reducible exact rfl
    | ((with_reducible refine Ov.ok zO ?_); conv => whnf)
    | (with_reducible refine Ov.sh1 (by with_unfolding_all exact rfl) ?_)
    | ((with_reducible refine Ov.quo (by omega) (by omega) (by omega) (fun _ _ => ?_)); conv => whnf)
    | ((with_reducible refine And.intro (show drawOK _ _ _ _ = true by kernel_rfl) ?_); conv => whnf)
    | ((with_reducible refine And.intro zC ?_); conv => whnf)
    | ((with_reducible refine And.intro ?hb ?_); (case hb => exact bytes_bd (Nat.le_of_ble_eq_true rfl) (by omega)); (conv => whnf))
    | ((refine DApp.a rfl rfl rfl rfl rfl rfl ?hb ?_); (case hb => exact zB); (conv => whnf))
    | ((refine DApp.b rfl rfl rfl rfl rfl rfl rfl rfl ?hb ?ho ?_); (case hb => exact zB); (case ho => omega); (conv => whnf))
    | ((refine DApp.c rfl rfl rfl rfl rfl ?hb ?_); (case hb => exact zB); (conv => whnf))
    | ((refine DApp.d rfl rfl rfl rfl rfl rfl ?hb ?ho ?_); (case hb => exact zB); (case ho => omega); (conv => whnf))
    | ((with_reducible refine nil_no (by omega) ?_); (conv => whnf))
    | ((with_reducible refine nil_any ?_ (fun hn0 => ?_)) <;> (conv => whnf))
    | ((apply CallStop.fn5b (h := hP)); (case hh => ((conv => whnf); repeat' (first | exact trivial | exact ArgLe.rfl rfl | exact ArgLe.ptr rfl | exact ArgLe.sl5b | exact ArgLe.sl rfl | exact ⟨rfl, rfl, rfl⟩ | exact ⟨rfl, Nat.le_of_ble_eq_true rfl⟩ | exact dir_argP rfl rfl rfl rfl | exact fun i hi => rfl | ((with_reducible refine And.intro ?_ ?_) <;> (conv => whnf))))); (case ha => exact zA); (case hd => exact rfl); (case hlive => exact rfl); (case hkeys => exact rfl); (case hlt => exact rfl); (conv => whnf))
    | ((refine ways (fun hc => ?_) (fun hc => ?_)) <;> (try simp only [decide_eq_true_eq, decide_eq_false_iff_not, Bool.and_eq_true, Bool.or_eq_true, Bool.and_eq_false_iff, Bool.or_eq_false_iff, Bool.not_eq_true', Bool.not_eq_false', beq_iff_eq, bne_iff_ne, ne_eq, beq_eq_false_iff_ne, bne_eq_false_iff_eq, Bool.not_eq_true, Bool.not_eq_false] at hc) <;> (try (exfalso; omega)) <;> (conv => whnf))))
              · refine ⟨(j + 1, k', ⟨M2, c2, n2, f2⟩), ⟨by dsimp only; omega, by dsimp only; omega, e3, e4, e5, e6, e7⟩, by dsimp only; omega, ?_⟩
                dsimp only
                (refine Le.by [0,1,2,3,4,5,6,7,8,9] rfl rfl rfl rfl ?_ ?_ <;> (conv => whnf) <;> (repeat' (first | exact trivial | exact ArgLe.rfl rfl | exact ArgLe.ptr rfl | exact ArgLe.sl rfl | exact dir_arg4 | exact dir_argP rfl rfl rfl rfl | exact dir_arg2 (fun l hl => by rcases l with _ | _ | _ | _ | l <;> first | exact ⟨Nat.le_of_ble_eq_true rfl, rfl⟩ | omega) | exact ⟨rfl, rfl, rfl⟩ | exact ⟨rfl, Nat.le_of_ble_eq_true rfl⟩ | exact fun i hi => rfl | ((with_reducible refine And.intro ?_ ?_) <;> (conv => whnf)))))
              · refine ⟨(i + 1, lost + 1, ka, ⟨MA, ca, na, fa⟩, k', ⟨M2, c2, n2, f2⟩), ⟨by dsimp only; omega, by dsimp only; omega, ⟨by dsimp only; omega, by dsimp only; omega⟩, by dsimp only; omega, h5, by dsimp only; omega, e3, h8, e5, e6, fun q => by rw [e7]; exact h11 q⟩, by dsimp only; omega, ?_⟩
                dsimp only
                rw [hcast]
                (refine Le.by [0,1,2,3,4,5,6,7,8,9] rfl rfl rfl rfl ?_ ?_ <;> (conv => whnf) <;> (repeat' (first | exact trivial | exact ArgLe.rfl rfl | exact ArgLe.ptr rfl | exact ArgLe.sl rfl | exact dir_arg4 | exact dir_argP rfl rfl rfl rfl | exact dir_arg2 (fun l hl => by rcases l with _ | _ | _ | _ | l <;> first | exact ⟨Nat.le_of_ble_eq_true rfl, rfl⟩ | omega) | exact ⟨rfl, rfl, rfl⟩ | exact ⟨rfl, Nat.le_of_ble_eq_true rfl⟩ | exact fun i hi => rfl | ((with_reducible refine And.intro ?_ ?_) <;> (conv => whnf)))))
        · obtain ⟨kB, ⟨MB', cb1, nb1, fb1⟩, r, g1, g2, g3, g4, g5, hR⟩ := run0 (s := ⟨MB, cb, nb, fb⟩) h7 (by omega) h9 4 [] 0 (by omega) (by omega) (by simp) (fun x hx => by cases hx) rfl
          rw [if_pos rfl] at g5
          dsimp only at g2 g3 g4 g5 hR
          (repeat' (first
    | with_reducible refine Wp.seq ?_
    | with_reducible refine Wp.block ?_
    | ((with_reducible first | refine Wp.region ?_ | refine Wp.drawL TC_mixed ?_ | refine Wp.cond ?_ | refine Wp.ret ?_ | refine Wp.skip ?_ | refine Wp.exit ?_ | refine Go.mk ?_ | apply Eff1.of); conv => whnf)
    | with_reducible exact rfl
    | ((with_reducible refine Ov.ok zO ?_); conv => whnf)
    | (with_reducible refine Ov.sh1 (by with_unfolding_all exact rfl) ?_)
    | ((with_reducible refine Ov.quo (by omega) (by omega) (by omega) (fun _ _ => ?_)); conv => whnf)
    | ((with_reducible refine And.intro (show drawOK _ _ _ _ = true by kernel_rfl) ?_); conv => whnf)
    | ((with_reducible refine And.intro zC ?_); conv => whnf)
    | ((with_reducible refine And.intro ?hb ?_); (case hb => exact bytes_bd (Nat.le_of_ble_eq_true rfl) (by omega)); (conv => whnf))
    | ((refine DApp.a rfl rfl rfl rfl rfl rfl ?hb ?_); (case hb => exact zB); (conv => whnf))
    | ((refine DApp.b rfl rfl rfl rfl rfl rfl rfl rfl ?hb ?ho ?_); (case hb => exact zB); (case ho => omega); (conv => whnf))
    | ((refine DApp.c rfl rfl rfl rfl rfl ?hb ?_); (case hb => exact zB); (conv => whnf))
    | ((refine DApp.d rfl rfl rfl rfl rfl rfl ?hb ?ho ?_); (case hb => exact zB); (case ho => omega); (conv => whnf))
    | ((with_reducible refine nil_no (by omega) ?_); (conv => whnf))
    | ((with_reducible refine nil_any ?_ (fun hn0 => ?_)) <;> (conv => whnf))
    | ((with_reducible refine CallStop.pure (hfit) rfl rfl ?_); conv => whnf) | ((with_reducible refine DCall.pure (hfit) rfl rfl ?_); conv => whnf)
    | ((apply CallStop.fn5b (h := hR)); (case hh => ((conv => whnf); repeat' (first | exact trivial | exact ArgLe.rfl rfl | exact ArgLe.ptr rfl | exact ArgLe.sl5b | exact ArgLe.sl rfl | exact ⟨rfl, rfl, rfl⟩ | exact ⟨rfl, Nat.le_of_ble_eq_true rfl⟩ | exact dir_argP rfl rfl rfl rfl | exact fun i hi => rfl | ((with_reducible refine And.intro ?_ ?_) <;> (conv => whnf))))); (case ha => exact zA); (case hd => exact rfl); (case hlive => exact rfl); (case hkeys => exact rfl); (case hlt => exact rfl); (conv => whnf))
    | ((refine ways (fun hc => ?_) (fun hc => ?_)) <;> (try simp only [decide_eq_true_eq, decide_eq_false_iff_not, Bool.and_eq_true, Bool.or_eq_true, Bool.and_eq_false_iff, Bool.or_eq_false_iff, Bool.not_eq_true', Bool.not_eq_false', beq_iff_eq, bne_iff_ne, ne_eq, beq_eq_false_iff_ne, bne_eq_false_iff_eq, Bool.not_eq_true, Bool.not_eq_false] at hc) <;> (try (exfalso; omega)) <;> (conv => whnf))))
          all_goals first
            | (refine ⟨(i + 1, lost, ka, ⟨MA, ca, na, fa⟩, kB, ⟨MB', cb1, nb1, fb1⟩), ⟨by dsimp only; omega, by dsimp only; omega, ⟨h3, h3'⟩, by dsimp only; omega, h5, by dsimp only; omega, g2, h8, g3, fun j hj => (g4 j (by omega)).trans (h10 j hj), fun q => by rw [g5]; exact h11 q⟩, by dsimp only; omega, ?_⟩
               dsimp only
               (refine Le.by [0,1,2,3,4,5,6,7,8,11] rfl rfl rfl rfl ?_ ?_ <;> (conv => whnf) <;> (repeat' (first | exact trivial | exact ArgLe.rfl rfl | exact ArgLe.ptr rfl | exact ArgLe.sl rfl | exact dir_arg4 | exact dir_argP rfl rfl rfl rfl | exact dir_arg2 (fun l hl => by rcases l with _ | _ | _ | _ | l <;> first | exact ⟨Nat.le_of_ble_eq_true rfl, rfl⟩ | omega) | exact ⟨rfl, rfl, rfl⟩ | exact ⟨rfl, Nat.le_of_ble_eq_true rfl⟩ | exact fun i hi => rfl | ((with_reducible refine And.intro ?_ ?_) <;> (conv => whnf))))))
            | (exfalso; omega)
      · obtain ⟨kA, ⟨MA', ca1, na1, fa1⟩, rA, f1, f2, f3, f4, f5, hRA⟩ := run0 (s := ⟨MA, ca, na, fa⟩) h5 (by omega) h8 (1 + pop.tmod 4) pk pv (by omega) (by omega) kl kb' kv
        obtain ⟨kB, ⟨MB', cb1, nb1, fb1⟩, rB, g1, g2, g3, g4, g5, hRB⟩ := run0 (s := ⟨MB, cb, nb, fb⟩) h7 (by omega) h9 (1 + pop.tmod 4) pk pv (by omega) (by omega) kl kb' kv
        rw [if_neg h4'] at f5 g5
        dsimp only at f2 f3 f4 f5 hRA g2 g3 g4 g5 hRB
        have hrr : rB = rA := by rw [f5.1, g5.1, h11]
        subst hrr
        have hown : ∀ q, Dir.own MA' q = Dir.own MB' q := fun q => by rw [f5.2, g5.2, h11, h11]
        (repeat' (first
    | with_reducible refine Wp.seq ?_
    | with_reducible refine Wp.block ?_
    | ((with_reducible first | refine Wp.region ?_ | refine Wp.drawL TC_mixed ?_ | refine Wp.cond ?_ | refine Wp.ret ?_ | refine Wp.skip ?_ | refine Wp.exit ?_ | refine Go.mk ?_ | apply Eff1.of); conv => whnf)
    | with_reducible exact rfl
    | ((with_reducible refine Ov.ok zO ?_); conv => whnf)
    | (with_reducible refine Ov.sh1 (by with_unfolding_all exact rfl) ?_)
    | ((with_reducible refine Ov.quo (by omega) (by omega) (by omega) (fun _ _ => ?_)); conv => whnf)
    | ((with_reducible refine And.intro (show drawOK _ _ _ _ = true by kernel_rfl) ?_); conv => whnf)
    | ((with_reducible refine And.intro zC ?_); conv => whnf)
    | ((with_reducible refine And.intro ?hb ?_); (case hb => exact bytes_bd (Nat.le_of_ble_eq_true rfl) (by omega)); (conv => whnf))
    | ((refine DApp.a rfl rfl rfl rfl rfl rfl ?hb ?_); (case hb => exact zB); (conv => whnf))
    | ((refine DApp.b rfl rfl rfl rfl rfl rfl rfl rfl ?hb ?ho ?_); (case hb => exact zB); (case ho => omega); (conv => whnf))
    | ((refine DApp.c rfl rfl rfl rfl rfl ?hb ?_); (case hb => exact zB); (conv => whnf))
    | ((refine DApp.d rfl rfl rfl rfl rfl rfl ?hb ?ho ?_); (case hb => exact zB); (case ho => omega); (conv => whnf))
    | ((with_reducible refine nil_no (by omega) ?_); (conv => whnf))
    | ((with_reducible refine nil_any ?_ (fun hn0 => ?_)) <;> (conv => whnf))
    | ((with_reducible refine CallStop.pure (hfit) rfl rfl ?_); conv => whnf) | ((with_reducible refine DCall.pure (hfit) rfl rfl ?_); conv => whnf)
    | ((apply CallStop.fn5 (h := hRA)); (case hh => exact zG); (case ha => exact zA); (case hd => exact rfl); (case hlive => exact rfl); (case hkeys => exact rfl); (case hlt => exact rfl); (conv => whnf))
    | ((apply CallStop.fn5b (h := hRB)); (case hh => ((conv => whnf); repeat' (first | exact trivial | exact ArgLe.rfl rfl | exact ArgLe.ptr rfl | exact ArgLe.sl5b | exact ArgLe.sl rfl | exact ⟨rfl, rfl, rfl⟩ | exact ⟨rfl, Nat.le_of_ble_eq_true rfl⟩ | exact dir_argP rfl rfl rfl rfl | exact fun i hi => rfl | ((with_reducible refine And.intro ?_ ?_) <;> (conv => whnf))))); (case ha => exact zA); (case hd => exact rfl); (case hlive => exact rfl); (case hkeys => exact rfl); (case hlt => exact rfl); (conv => whnf))
    | ((refine StrOf.mk' pk rfl (fun i hi => rfl) ?_); (conv => whnf))
    | ((refine ways (fun hc => ?_) (fun hc => ?_)) <;> (try simp only [decide_eq_true_eq, decide_eq_false_iff_not, Bool.and_eq_true, Bool.or_eq_true, Bool.and_eq_false_iff, Bool.or_eq_false_iff, Bool.not_eq_true', Bool.not_eq_false', beq_iff_eq, bne_iff_ne, ne_eq, beq_eq_false_iff_ne, bne_eq_false_iff_eq, Bool.not_eq_true, Bool.not_eq_false] at hc) <;> (try (exfalso; omega)) <;> (conv => whnf))))
        all_goals first
          | (exfalso; simp at hc; done)
          | exact absurd trivial hc
          | (refine ⟨(i + 1, lost, kA, ⟨MA', ca1, na1, fa1⟩, kB, ⟨MB', cb1, nb1, fb1⟩), ⟨by dsimp only; omega, by dsimp only; omega, ⟨h3, h3'⟩, by dsimp only; omega, f2, by dsimp only; omega, g2, f3, g3, fun j hj => (g4 j (by omega)).trans (h10 j hj), hown⟩, by dsimp only; omega, ?_⟩
             dsimp only
             (refine Le.by [0,1,2,3,11,5,6,7,8,13] rfl rfl rfl rfl ?_ ?_ <;> (conv => whnf) <;> (repeat' (first | exact trivial | exact ArgLe.rfl rfl | exact ArgLe.ptr rfl | exact ArgLe.sl rfl | exact dir_arg4 | exact dir_argP rfl rfl rfl rfl | exact dir_arg2 (fun l hl => by rcases l with _ | _ | _ | _ | l <;> first | exact ⟨Nat.le_of_ble_eq_true rfl, rfl⟩ | omega) | exact ⟨rfl, rfl, rfl⟩ | exact ⟨rfl, Nat.le_of_ble_eq_true rfl⟩ | exact fun i hi => rfl | ((with_reducible refine And.intro ?_ ?_) <;> (conv => whnf))))))
    · have hEA := h5.entries (by omega) fa 0
      have hEB := h7.entries (by omega) fb 0
      rw [ents_ext h7.s.inv.iw h7.ih h5.s.inv.iw h5.ih h11] at hEA
      (repeat' (first
    | with_reducible refine Wp.seq ?_
    | with_reducible refine Wp.block ?_
    | ((with_reducible first | refine Wp.region ?_ | refine Wp.drawL TC_mixed ?_ | refine Wp.cond ?_ | refine Wp.ret ?_ | refine Wp.skip ?_ | refine Wp.exit ?_ | refine Go.mk ?_ | apply Eff1.of); conv => whnf)
    | with_reducible exact rfl
    | ((with_reducible refine Ov.ok zO ?_); conv => whnf)
    | (with_reducible refine Ov.sh1 (by with_unfolding_all exact rfl) ?_)
    | ((with_reducible refine Ov.quo (by omega) (by omega) (by omega) (fun _ _ => ?_)); conv => whnf)
    | ((with_reducible refine And.intro (show drawOK _ _ _ _ = true by kernel_rfl) ?_); conv => whnf)
    | ((with_reducible refine And.intro zC ?_); conv => whnf)
    | ((with_reducible refine And.intro ?hb ?_); (case hb => exact bytes_bd (Nat.le_of_ble_eq_true rfl) (by omega)); (conv => whnf))
    | ((refine DApp.a rfl rfl rfl rfl rfl rfl ?hb ?_); (case hb => exact zB); (conv => whnf))
    | ((refine DApp.b rfl rfl rfl rfl rfl rfl rfl rfl ?hb ?ho ?_); (case hb => exact zB); (case ho => omega); (conv => whnf))
    | ((refine DApp.c rfl rfl rfl rfl rfl ?hb ?_); (case hb => exact zB); (conv => whnf))
    | ((refine DApp.d rfl rfl rfl rfl rfl rfl ?hb ?ho ?_); (case hb => exact zB); (case ho => omega); (conv => whnf))
    | ((with_reducible refine nil_no (by omega) ?_); (conv => whnf))
    | ((with_reducible refine nil_any ?_ (fun hn0 => ?_)) <;> (conv => whnf))
    | ((with_reducible refine CallStop.pure (hfit) rfl rfl ?_); conv => whnf) | ((with_reducible refine DCall.pure (hfit) rfl rfl ?_); conv => whnf)
    | ((apply CallStop.fn5 (h := hEA)); (case hh => exact zG); (case ha => exact zA); (case hd => exact rfl); (case hlive => exact rfl); (case hkeys => exact rfl); (case hlt => exact rfl); (conv => whnf))
    | ((apply CallStop.fn5b (h := hEB)); (case hh => ((conv => whnf); repeat' (first | exact trivial | exact ArgLe.rfl rfl | exact ArgLe.ptr rfl | exact ArgLe.sl5b | exact ArgLe.sl rfl | exact ⟨rfl, rfl, rfl⟩ | exact ⟨rfl, Nat.le_of_ble_eq_true rfl⟩ | exact dir_argP rfl rfl rfl rfl | exact fun i hi => rfl | ((with_reducible refine And.intro ?_ ?_) <;> (conv => whnf))))); (case ha => exact zA); (case hd => exact rfl); (case hlive => exact rfl); (case hkeys => exact rfl); (case hlt => exact rfl); (conv => whnf))
    | ((with_reducible refine CallStop.pure (r14_Same _ _) rfl rfl ?_); conv => whnf) | ((with_reducible refine DCall.pure (r14_Same _ _) rfl rfl ?_); conv => whnf)
    | ((refine ways (fun hc => ?_) (fun hc => ?_)) <;> (try simp only [decide_eq_true_eq, decide_eq_false_iff_not, Bool.and_eq_true, Bool.or_eq_true, Bool.and_eq_false_iff, Bool.or_eq_false_iff, Bool.not_eq_true', Bool.not_eq_false', beq_iff_eq, bne_iff_ne, ne_eq, beq_eq_false_iff_ne, bne_eq_false_iff_eq, Bool.not_eq_true, Bool.not_eq_false] at hc) <;> (try (exfalso; omega)) <;> (conv => whnf))))
      all_goals exact .b (by simp)
end Go.Proofs.YtbdclkjelhlfbaaGreat
