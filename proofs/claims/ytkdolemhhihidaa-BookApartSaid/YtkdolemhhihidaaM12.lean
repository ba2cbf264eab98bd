/- Parts of the proof, one behind the other: Bk20, Br4, Br5, Pl4. Lemmas and contracts of functions; no condition of its own. -/
import Derived.Test.YtkdolemhhihidaaM11
set_option linter.unusedVariables false
set_option linter.unusedSimpArgs false
namespace Go.Proofs.Ytkdolemhhihidaa
open Go.RowKit
set_option maxRecDepth 100000

def Ask.ok (a : Ask) : Prop := (0 ≤ a.op ∧ a.op ≤ 255) ∧ (∀ x ∈ a.key, 0 ≤ x ∧ x ≤ 255) ∧ (-9223372036854775808 ≤ a.pol ∧ a.pol ≤ 9223372036854775807) ∧ (-9223372036854775808 ≤ a.n ∧ a.n ≤ 9223372036854775807) ∧ (-9223372036854775808 ≤ a.now ∧ a.now ≤ 9223372036854775807) ∧ (-9223372036854775808 ≤ a.serial ∧ a.serial ≤ 9223372036854775807)
theorem ask_at {script : List Ask} (hs : ∀ a ∈ script, a.ok) (i : Nat) : (script.getD i default).ok := by
  by_cases h : i < script.length
  · have : script.getD i default ∈ script := by rw [List.getD_eq_getElem?_getD, List.getElem?_eq_getElem h]; exact List.getElem_mem h
    exact hs _ this
  · rw [List.getD_eq_getElem?_getD, List.getElem?_eq_none (by omega)]
    show Ask.ok default
    unfold Ask.ok
    decide
theorem fit_op (a : Ask) (h : a.ok) : 1 ≤ (fitA a).op ∧ (fitA a).op ≤ 6 := by
  have := h.1
  simp only [fitA, fitO]
  split <;> omega
theorem fit_B {a : Ask} (h : a.ok) : IsB (fitA a).key := fun x hx => h.2.1 x (List.mem_of_mem_take hx)
theorem clampI_bd (n : Int) : 0 ≤ clampI n ∧ clampI n ≤ 4611686018427387903 := by unfold clampI; omega
theorem fnd_look {xs : List Cel} {pol : Int} {key : List Int} : (0 ≤ fndI xs pol key ↔ look xs (pol :: key) ≠ none) := by
  have hp : ∀ c : Cel, (decide (c.pol = pol) && decide (c.key = key)) = true ↔ idn c = pol :: key := fun c => by simp [idn]
  have hle := fst_le (fun c => decide (c.pol = pol) && decide (c.key = key)) xs
  unfold fndI
  constructor
  · intro h
    split at h
    · rename_i hlt
      have := fst_hit _ xs hlt
      rw [hp] at this
      intro e
      exact look_none.1 e _ (getD_mem hlt) this
    · omega
  · intro h
    rw [if_pos]
    · omega
    · refine Classical.byContradiction fun hn => h (look_none.2 fun c hc e => ?_)
      obtain ⟨k, hk, rfl⟩ := List.getElem_of_mem hc
      have := fst_spec (fun c => decide (c.pol = pol) && decide (c.key = key)) xs k (by omega)
      rw [getD_get hk] at this
      have h2 := (hp xs[k]).2 e
      rw [h2] at this; cases this
set_option maxHeartbeats 8000000 in
theorem BookFull_holds (cells : Int) (hc0 : 0 ≤ cells) (hc1 : cells ≤ 255) (script : List Ask) (hs : ∀ a ∈ script, a.ok) : Pure TC 8 [.i .u8 cells, .d (slOf 6 Ask.D script)] (.b true) := by
  refine Pure.lens (.mk Try.func8 rfl rfl) fun hlen => ?_
  have ha := hlen script.length (by simp [lensOf, slOf])
  have hm : cells.tmod 4 = cells % 4 := Int.tmod_eq_emod_of_nonneg hc0
  have hN : 1 ≤ 1 + cells.tmod 4 ∧ 1 + cells.tmod 4 ≤ 4 := by omega
  have hnew : newE tab (1 + cells.tmod 4) = 0 := by unfold newE; rw [if_neg (by omega)]; rfl
  refine Pure.mk' Try.func8 rfl rfl (Nat.le_of_ble_eq_true rfl) ?_
  (repeat' (first
    | with_reducible refine Wp.seq ?_
    | with_reducible refine Wp.block ?_
    | ((with_reducible refine Wp.region ?_); conv => whnf)
    | ((with_reducible refine Wp.drawL TC_mixed ?_); conv => whnf)
    | ((with_reducible refine Wp.cond ?_); conv => whnf)
    | ((with_reducible refine Wp.ret ?_); conv => whnf)
    | ((with_reducible refine Wp.skip ?_); conv => whnf)
    | ((with_reducible refine Wp.exit ?_); conv => whnf)
    | ((with_reducible refine Go.mk ?_); conv => whnf)
    | ((with_reducible apply Eff1.of); conv => whnf)
    | with_reducible exact rfl
    | ((with_reducible refine Ov.ok (by first | exact IntWalk.i64_in _ (by omega) | exact IntWalk.u64_in _ (by omega) | exact IntWalk.u8_in _ (by omega) | exact IntWalk.u32_in _ (by omega) | exact IntWalk.i32_in _ (by omega) | exact IntWalk.u16_in _ (by omega)) ?_); conv => whnf)
    | (with_reducible refine Ov.sh1 (by with_unfolding_all exact rfl) ?_)
    | ((with_reducible refine Ov.quo (by omega) (by omega) (by omega) (fun _ _ => ?_)); conv => whnf)
    | ((with_reducible refine And.intro (show drawOK _ _ _ _ = true by kernel_rfl) ?_); conv => whnf)
    | ((with_reducible refine And.intro (by first | omega | exact Nat.le_of_ble_eq_true rfl) ?_); conv => whnf)
    | ((with_reducible refine And.intro ?hb ?_); (case hb => exact bytes_bd (Nat.le_of_ble_eq_true rfl) (by omega)); (conv => whnf))
    | ((refine DApp.a rfl rfl rfl rfl rfl rfl ?hb ?_); (case hb => first | exact bytes_bd (Nat.le_of_ble_eq_true rfl) (by omega) | omega); (conv => whnf))
    | ((refine DApp.b rfl rfl rfl rfl rfl rfl rfl rfl ?hb ?ho ?_); (case hb => first | exact bytes_bd (Nat.le_of_ble_eq_true rfl) (by omega) | omega); (case ho => omega); (conv => whnf))
    | ((refine DApp.c rfl rfl rfl rfl rfl ?hb ?_); (case hb => first | exact bytes_bd (Nat.le_of_ble_eq_true rfl) (by omega) | omega); (conv => whnf))
    | ((refine DApp.d rfl rfl rfl rfl rfl rfl ?hb ?ho ?_); (case hb => first | exact bytes_bd (Nat.le_of_ble_eq_true rfl) (by omega) | omega); (case ho => omega); (conv => whnf))
    | ((with_reducible refine nil_no (by omega) ?_); (conv => whnf))
    | ((with_reducible refine nil_any ?_ (fun hn0 => ?_)) <;> (conv => whnf))
    | ((with_reducible refine CallStop.pure (awake) rfl rfl ?_); conv => whnf) | ((with_reducible refine DCall.pure (awake) rfl rfl ?_); conv => whnf)
    | ((with_reducible refine CallStop.pure (law_table) rfl rfl ?_); conv => whnf) | ((with_reducible refine DCall.pure (law_table) rfl rfl ?_); conv => whnf)
    | ((refine CallStop.fn (book_New tab (1 + cells.tmod 4) hnew) [] rfl rfl rfl rfl rfl ?ha ?hh ?_); (case ha => ((conv => whnf); repeat' (first | exact trivial | exact ArgLe.rfl rfl | exact ArgLe.ptr rfl | exact ArgLe.sl rfl | ((with_reducible refine ArgLe.fn ?_); (conv => whnf)) | exact ArgLe.free SV.Le.nil rfl | ((with_reducible refine And.intro ?_ ?_) <;> (conv => whnf)) | ((refine ArgLe.free ?_ rfl); (repeat' (first | exact SV.Le.rfl _ | exact SV.Le.nil | exact SV.Le.sl (fun i hi => by (rcases i with _ | _ | _ | _ | i) <;> first | rfl | (exfalso; omega)) | with_reducible refine SV.Le.agg ?_ | exact Les.nil | with_reducible refine Les.cons ?_ ?_)))))); (case hh => ((conv => whnf); repeat' (first | exact trivial | exact ArgLe.rfl rfl | exact ArgLe.ptr rfl | exact ArgLe.sl rfl | ((with_reducible refine ArgLe.fn ?_); (conv => whnf)) | exact ArgLe.free SV.Le.nil rfl | exact ⟨rfl, rfl, rfl⟩ | exact fun i hi => rfl | exact (fun i hi => by (rcases i with _ | i) <;> first | rfl | (exfalso; omega)) | ((with_reducible refine And.intro ?_ ?_) <;> (conv => whnf))))); (conv => whnf))
    | ((refine DCall.fn (book_New tab (1 + cells.tmod 4) hnew) [] [] rfl rfl rfl rfl rfl ?ha ?hh ?hs ?_); (case ha => ((conv => whnf); repeat' (first | exact trivial | exact ArgLe.rfl rfl | exact ArgLe.ptr rfl | exact ArgLe.sl rfl | ((with_reducible refine ArgLe.fn ?_); (conv => whnf)) | exact ArgLe.free SV.Le.nil rfl | ((with_reducible refine And.intro ?_ ?_) <;> (conv => whnf)) | ((refine ArgLe.free ?_ rfl); (repeat' (first | exact SV.Le.rfl _ | exact SV.Le.nil | exact SV.Le.sl (fun i hi => by (rcases i with _ | _ | _ | _ | i) <;> first | rfl | (exfalso; omega)) | with_reducible refine SV.Le.agg ?_ | exact Les.nil | with_reducible refine Les.cons ?_ ?_)))))); (case hh => ((conv => whnf); repeat' (first | exact trivial | exact ArgLe.rfl rfl | exact ArgLe.ptr rfl | exact ArgLe.sl rfl | ((with_reducible refine ArgLe.fn ?_); (conv => whnf)) | exact ArgLe.free SV.Le.nil rfl | exact ⟨rfl, rfl, rfl⟩ | exact fun i hi => rfl | exact (fun i hi => by (rcases i with _ | i) <;> first | rfl | (exfalso; omega)) | ((with_reducible refine And.intro ?_ ?_) <;> (conv => whnf))))); (case hs => (conv => whnf); repeat' (first | exact trivial | ((refine And.intro rfl ?_); (conv => whnf)))); (conv => whnf)) | ((refine DCall.new (book_New tab (1 + cells.tmod 4) hnew) [] [] rfl rfl rfl rfl rfl rfl ?ha ?hh ?hs ?_); (case ha => ((conv => whnf); repeat' (first | exact trivial | exact ArgLe.rfl rfl | exact ArgLe.ptr rfl | exact ArgLe.sl rfl | ((with_reducible refine ArgLe.fn ?_); (conv => whnf)) | exact ArgLe.free SV.Le.nil rfl | ((with_reducible refine And.intro ?_ ?_) <;> (conv => whnf)) | ((refine ArgLe.free ?_ rfl); (repeat' (first | exact SV.Le.rfl _ | exact SV.Le.nil | exact SV.Le.sl (fun i hi => by (rcases i with _ | _ | _ | _ | i) <;> first | rfl | (exfalso; omega)) | with_reducible refine SV.Le.agg ?_ | exact Les.nil | with_reducible refine Les.cons ?_ ?_)))))); (case hh => ((conv => whnf); repeat' (first | exact trivial | exact ArgLe.rfl rfl | exact ArgLe.ptr rfl | exact ArgLe.sl rfl | ((with_reducible refine ArgLe.fn ?_); (conv => whnf)) | exact ArgLe.free SV.Le.nil rfl | exact ⟨rfl, rfl, rfl⟩ | exact fun i hi => rfl | exact (fun i hi => by (rcases i with _ | i) <;> first | rfl | (exfalso; omega)) | ((with_reducible refine And.intro ?_ ?_) <;> (conv => whnf))))); (case hs => (conv => whnf); repeat' (first | exact trivial | ((refine And.intro rfl ?_); (conv => whnf)))); (conv => whnf))
    | ((refine ways (fun hc => ?_) (fun hc => ?_)) <;> (try simp only [decide_eq_true_eq, decide_eq_false_iff_not, Bool.and_eq_true, Bool.or_eq_true, Bool.and_eq_false_iff, Bool.or_eq_false_iff, Bool.not_eq_true', Bool.not_eq_false', beq_iff_eq, bne_iff_ne, ne_eq, beq_eq_false_iff_ne, bne_eq_false_iff_eq, Bool.not_eq_true, Bool.not_eq_false] at hc) <;> (try (exfalso; omega)) <;> (conv => whnf))))
  refine Wp.loopP (ι := Nat × List Cel) (fun k => k.1 ≤ script.length ∧ BInv tab (1 + cells.tmod 4) k.2) (fun k => ⟨⟨Try.f8.ntmps, 0⟩, 2, [(5, .i .i64 (1 + cells.tmod 4)), (6, .ptr 0 0), (31, .d (slOf 6 Ask.D script)), (32, .i .i64 script.length), (33, .i .i64 k.1)], bookH tab (1 + cells.tmod 4) k.2⟩) (fun k => script.length - k.1) (0, []) ⟨Nat.zero_le _, .nil (by omega) (by omega) (by decide)⟩ ?_ ?_
  · (refine Le.by [0,1] rfl rfl rfl rfl ?_ ?_ <;> (conv => whnf) <;> (repeat' (first | exact trivial | exact ArgLe.rfl rfl | exact ArgLe.ptr rfl | exact ArgLe.sl rfl | ((with_reducible refine ArgLe.fn ?_); (conv => whnf)) | exact ⟨rfl, rfl, rfl⟩ | exact fun i hi => rfl | ((with_reducible refine And.intro ?_ ?_) <;> (conv => whnf)))))
  · rintro ⟨i, xs⟩ ⟨h1, h2⟩
    dsimp only at h1 h2 ⊢
    have hok := ask_at hs (i : Int).toNat
    obtain ⟨f, hf⟩ : ∃ f, f = fitA (script.getD (i : Int).toNat default) := ⟨_, rfl⟩
    have hop := fit_op _ hok
    have hB := fit_B hok
    have hfit := law_fit (script.getD (i : Int).toNat default) hok.1.1 hok.1.2 hok.2.2.2.1.2 hok.2.2.2.2.1.2 hok.2.2.2.2.2.2
    rw [← hf] at hop hB hfit
    clear hf
    have h3 := do_inv (op := f.op) (pol := f.pol) (key := f.key) (n := f.n) (now := f.now) (serial := f.serial) h2 hB
    have hlen2 := h2.len
    have hlen3 := h3.len
    have hroom := h3.le
    have hfl : 0 ≤ fndI xs f.pol f.key ∨ look xs (f.pol :: f.key) = none := by
      by_cases h : look xs (f.pol :: f.key) = none
      · exact Or.inr h
      · exact Or.inl (fnd_look.2 h)
    have hfl2 : 0 ≤ fndI xs f.pol f.key → look xs (f.pol :: f.key) ≠ none := fnd_look.1
    have F1 : (doS tab (1 + cells.tmod 4) xs f.op f.pol f.key f.n f.now f.serial).1.e = 10 → fndI xs f.pol f.key < 0 ∧ (xs.length : Int) = 1 + cells.tmod 4 ∧ ((doS tab (1 + cells.tmod 4) xs f.op f.pol f.key f.n f.now f.serial).2.length : Int) = 1 + cells.tmod 4 := fun h => by
      obtain ⟨g1, g2, g3⟩ := full_1 h2 h
      refine ⟨Classical.byContradiction fun h => hfl2 (by omega) g1, g2, by rw [g3]; exact g2⟩
    obtain ⟨gi, hG, hG0⟩ : ∃ gi : Int, ((doS tab (1 + cells.tmod 4) xs f.op f.pol f.key f.n f.now f.serial).1.g = true ↔ gi = 1) ∧ ((doS tab (1 + cells.tmod 4) xs f.op f.pol f.key f.n f.now f.serial).1.g = false ↔ gi = 0) := by
      cases (doS tab (1 + cells.tmod 4) xs f.op f.pol f.key f.n f.now f.serial).1.g
      · exact ⟨0, by simp, by simp⟩
      · exact ⟨1, by simp, by simp⟩
    have F2 : f.op < 3 → gi = 1 → fndI xs f.pol f.key < 0 → (f.op = 2 ∨ 0 < f.n) → (xs.length : Int) < 1 + cells.tmod 4 ∧ (doS tab (1 + cells.tmod 4) xs f.op f.pol f.key f.n f.now f.serial).2.length = xs.length + 1 := fun g1 g2 g3 g4 =>
      full_2 h2 g1 (hG.2 g2) (by rcases hfl with h | h; omega; exact h) g4
    (repeat' (first
    | with_reducible refine Wp.seq ?_
    | with_reducible refine Wp.block ?_
    | ((with_reducible refine Wp.region ?_); conv => whnf)
    | ((with_reducible refine Wp.drawL TC_mixed ?_); conv => whnf)
    | ((with_reducible refine Wp.cond ?_); conv => whnf)
    | ((with_reducible refine Wp.ret ?_); conv => whnf)
    | ((with_reducible refine Wp.skip ?_); conv => whnf)
    | ((with_reducible refine Wp.exit ?_); conv => whnf)
    | ((with_reducible refine Go.mk ?_); conv => whnf)
    | ((with_reducible apply Eff1.of); conv => whnf)
    | with_reducible exact rfl
    | ((with_reducible refine Ov.ok (by first | exact IntWalk.i64_in _ (by omega) | exact IntWalk.u64_in _ (by omega) | exact IntWalk.u8_in _ (by omega) | exact IntWalk.u32_in _ (by omega) | exact IntWalk.i32_in _ (by omega) | exact IntWalk.u16_in _ (by omega)) ?_); conv => whnf)
    | (with_reducible refine Ov.sh1 (by with_unfolding_all exact rfl) ?_)
    | ((with_reducible refine Ov.quo (by omega) (by omega) (by omega) (fun _ _ => ?_)); conv => whnf)
    | ((with_reducible refine And.intro (show drawOK _ _ _ _ = true by kernel_rfl) ?_); conv => whnf)
    | ((with_reducible refine And.intro (by first | omega | exact Nat.le_of_ble_eq_true rfl) ?_); conv => whnf)
    | ((with_reducible refine And.intro ?hb ?_); (case hb => exact bytes_bd (Nat.le_of_ble_eq_true rfl) (by omega)); (conv => whnf))
    | ((refine DApp.a rfl rfl rfl rfl rfl rfl ?hb ?_); (case hb => first | exact bytes_bd (Nat.le_of_ble_eq_true rfl) (by omega) | omega); (conv => whnf))
    | ((refine DApp.b rfl rfl rfl rfl rfl rfl rfl rfl ?hb ?ho ?_); (case hb => first | exact bytes_bd (Nat.le_of_ble_eq_true rfl) (by omega) | omega); (case ho => omega); (conv => whnf))
    | ((refine DApp.c rfl rfl rfl rfl rfl ?hb ?_); (case hb => first | exact bytes_bd (Nat.le_of_ble_eq_true rfl) (by omega) | omega); (conv => whnf))
    | ((refine DApp.d rfl rfl rfl rfl rfl rfl ?hb ?ho ?_); (case hb => first | exact bytes_bd (Nat.le_of_ble_eq_true rfl) (by omega) | omega); (case ho => omega); (conv => whnf))
    | ((with_reducible refine nil_no (by omega) ?_); (conv => whnf))
    | ((with_reducible refine nil_any ?_ (fun hn0 => ?_)) <;> (conv => whnf))
    | ((with_reducible refine CallStop.pure (hfit) rfl rfl ?_); conv => whnf) | ((with_reducible refine DCall.pure (hfit) rfl rfl ?_); conv => whnf)
    | ((refine CallStop.fn (book_Cells tab (1 + cells.tmod 4) xs (by omega) (fun k => ⟨by have := h2.ok.key k; omega, by have := h2.ok.held k; omega⟩)) [0,1] rfl rfl rfl rfl rfl ?ha ?hh ?_); (case ha => ((conv => whnf); repeat' (first | exact trivial | exact ArgLe.rfl rfl | exact ArgLe.ptr rfl | exact ArgLe.sl rfl | ((with_reducible refine ArgLe.fn ?_); (conv => whnf)) | exact ArgLe.free SV.Le.nil rfl | ((with_reducible refine And.intro ?_ ?_) <;> (conv => whnf)) | ((refine ArgLe.free ?_ rfl); (repeat' (first | exact SV.Le.rfl _ | exact SV.Le.nil | exact SV.Le.sl (fun i hi => by (rcases i with _ | _ | _ | _ | i) <;> first | rfl | (exfalso; omega)) | with_reducible refine SV.Le.agg ?_ | exact Les.nil | with_reducible refine Les.cons ?_ ?_)))))); (case hh => ((conv => whnf); repeat' (first | exact trivial | exact ArgLe.rfl rfl | exact ArgLe.ptr rfl | exact ArgLe.sl rfl | ((with_reducible refine ArgLe.fn ?_); (conv => whnf)) | exact ArgLe.free SV.Le.nil rfl | exact ⟨rfl, rfl, rfl⟩ | exact fun i hi => rfl | exact (fun i hi => by (rcases i with _ | i) <;> first | rfl | (exfalso; omega)) | ((with_reducible refine And.intro ?_ ?_) <;> (conv => whnf))))); (conv => whnf))
    | ((refine DCall.fn (book_Cells tab (1 + cells.tmod 4) xs (by omega) (fun k => ⟨by have := h2.ok.key k; omega, by have := h2.ok.held k; omega⟩)) [0,1] [0,1] rfl rfl rfl rfl rfl ?ha ?hh ?hs ?_); (case ha => ((conv => whnf); repeat' (first | exact trivial | exact ArgLe.rfl rfl | exact ArgLe.ptr rfl | exact ArgLe.sl rfl | ((with_reducible refine ArgLe.fn ?_); (conv => whnf)) | exact ArgLe.free SV.Le.nil rfl | ((with_reducible refine And.intro ?_ ?_) <;> (conv => whnf)) | ((refine ArgLe.free ?_ rfl); (repeat' (first | exact SV.Le.rfl _ | exact SV.Le.nil | exact SV.Le.sl (fun i hi => by (rcases i with _ | _ | _ | _ | i) <;> first | rfl | (exfalso; omega)) | with_reducible refine SV.Le.agg ?_ | exact Les.nil | with_reducible refine Les.cons ?_ ?_)))))); (case hh => ((conv => whnf); repeat' (first | exact trivial | exact ArgLe.rfl rfl | exact ArgLe.ptr rfl | exact ArgLe.sl rfl | ((with_reducible refine ArgLe.fn ?_); (conv => whnf)) | exact ArgLe.free SV.Le.nil rfl | exact ⟨rfl, rfl, rfl⟩ | exact fun i hi => rfl | exact (fun i hi => by (rcases i with _ | i) <;> first | rfl | (exfalso; omega)) | ((with_reducible refine And.intro ?_ ?_) <;> (conv => whnf))))); (case hs => (conv => whnf); repeat' (first | exact trivial | ((refine And.intro rfl ?_); (conv => whnf)))); (conv => whnf)) | ((refine DCall.new (book_Cells tab (1 + cells.tmod 4) xs (by omega) (fun k => ⟨by have := h2.ok.key k; omega, by have := h2.ok.held k; omega⟩)) [0,1] [0,1] rfl rfl rfl rfl rfl rfl ?ha ?hh ?hs ?_); (case ha => ((conv => whnf); repeat' (first | exact trivial | exact ArgLe.rfl rfl | exact ArgLe.ptr rfl | exact ArgLe.sl rfl | ((with_reducible refine ArgLe.fn ?_); (conv => whnf)) | exact ArgLe.free SV.Le.nil rfl | ((with_reducible refine And.intro ?_ ?_) <;> (conv => whnf)) | ((refine ArgLe.free ?_ rfl); (repeat' (first | exact SV.Le.rfl _ | exact SV.Le.nil | exact SV.Le.sl (fun i hi => by (rcases i with _ | _ | _ | _ | i) <;> first | rfl | (exfalso; omega)) | with_reducible refine SV.Le.agg ?_ | exact Les.nil | with_reducible refine Les.cons ?_ ?_)))))); (case hh => ((conv => whnf); repeat' (first | exact trivial | exact ArgLe.rfl rfl | exact ArgLe.ptr rfl | exact ArgLe.sl rfl | ((with_reducible refine ArgLe.fn ?_); (conv => whnf)) | exact ArgLe.free SV.Le.nil rfl | exact ⟨rfl, rfl, rfl⟩ | exact fun i hi => rfl | exact (fun i hi => by (rcases i with _ | i) <;> first | rfl | (exfalso; omega)) | ((with_reducible refine And.intro ?_ ?_) <;> (conv => whnf))))); (case hs => (conv => whnf); repeat' (first | exact trivial | ((refine And.intro rfl ?_); (conv => whnf)))); (conv => whnf))
    | ((refine DCall.fn (book_Cells tab (1 + cells.tmod 4) xs (by omega) (fun k => ⟨by have := h2.ok.key k; omega, by have := h2.ok.held k; omega⟩)) [0,1] [] rfl rfl rfl rfl rfl ?ha ?hh ?hs ?_); (case ha => ((conv => whnf); repeat' (first | exact trivial | exact ArgLe.rfl rfl | exact ArgLe.ptr rfl | exact ArgLe.sl rfl | ((with_reducible refine ArgLe.fn ?_); (conv => whnf)) | exact ArgLe.free SV.Le.nil rfl | ((with_reducible refine And.intro ?_ ?_) <;> (conv => whnf)) | ((refine ArgLe.free ?_ rfl); (repeat' (first | exact SV.Le.rfl _ | exact SV.Le.nil | exact SV.Le.sl (fun i hi => by (rcases i with _ | _ | _ | _ | i) <;> first | rfl | (exfalso; omega)) | with_reducible refine SV.Le.agg ?_ | exact Les.nil | with_reducible refine Les.cons ?_ ?_)))))); (case hh => ((conv => whnf); repeat' (first | exact trivial | exact ArgLe.rfl rfl | exact ArgLe.ptr rfl | exact ArgLe.sl rfl | ((with_reducible refine ArgLe.fn ?_); (conv => whnf)) | exact ArgLe.free SV.Le.nil rfl | exact ⟨rfl, rfl, rfl⟩ | exact fun i hi => rfl | exact (fun i hi => by (rcases i with _ | i) <;> first | rfl | (exfalso; omega)) | ((with_reducible refine And.intro ?_ ?_) <;> (conv => whnf))))); (case hs => (conv => whnf); repeat' (first | exact trivial | ((refine And.intro rfl ?_); (conv => whnf)))); (conv => whnf)) | ((refine DCall.new (book_Cells tab (1 + cells.tmod 4) xs (by omega) (fun k => ⟨by have := h2.ok.key k; omega, by have := h2.ok.held k; omega⟩)) [0,1] [] rfl rfl rfl rfl rfl rfl ?ha ?hh ?hs ?_); (case ha => ((conv => whnf); repeat' (first | exact trivial | exact ArgLe.rfl rfl | exact ArgLe.ptr rfl | exact ArgLe.sl rfl | ((with_reducible refine ArgLe.fn ?_); (conv => whnf)) | exact ArgLe.free SV.Le.nil rfl | ((with_reducible refine And.intro ?_ ?_) <;> (conv => whnf)) | ((refine ArgLe.free ?_ rfl); (repeat' (first | exact SV.Le.rfl _ | exact SV.Le.nil | exact SV.Le.sl (fun i hi => by (rcases i with _ | _ | _ | _ | i) <;> first | rfl | (exfalso; omega)) | with_reducible refine SV.Le.agg ?_ | exact Les.nil | with_reducible refine Les.cons ?_ ?_)))))); (case hh => ((conv => whnf); repeat' (first | exact trivial | exact ArgLe.rfl rfl | exact ArgLe.ptr rfl | exact ArgLe.sl rfl | ((with_reducible refine ArgLe.fn ?_); (conv => whnf)) | exact ArgLe.free SV.Le.nil rfl | exact ⟨rfl, rfl, rfl⟩ | exact fun i hi => rfl | exact (fun i hi => by (rcases i with _ | i) <;> first | rfl | (exfalso; omega)) | ((with_reducible refine And.intro ?_ ?_) <;> (conv => whnf))))); (case hs => (conv => whnf); repeat' (first | exact trivial | ((refine And.intro rfl ?_); (conv => whnf)))); (conv => whnf))
    | ((with_reducible refine CallStop.pure (r16_Find _ _ _) rfl rfl ?_); conv => whnf) | ((with_reducible refine DCall.pure (r16_Find _ _ _) rfl rfl ?_); conv => whnf)
    | ((refine CallStop.fn (book_Do tab (1 + cells.tmod 4) xs f.op f.pol f.key f.n f.now f.serial h2.ok hB) [0,1] rfl rfl rfl rfl rfl ?ha ?hh ?_); (case ha => ((conv => whnf); repeat' (first | exact trivial | exact ArgLe.rfl rfl | exact ArgLe.ptr rfl | exact ArgLe.sl rfl | ((with_reducible refine ArgLe.fn ?_); (conv => whnf)) | exact ArgLe.free SV.Le.nil rfl | ((with_reducible refine And.intro ?_ ?_) <;> (conv => whnf)) | ((refine ArgLe.free ?_ rfl); (repeat' (first | exact SV.Le.rfl _ | exact SV.Le.nil | exact SV.Le.sl (fun i hi => by (rcases i with _ | _ | _ | _ | i) <;> first | rfl | (exfalso; omega)) | with_reducible refine SV.Le.agg ?_ | exact Les.nil | with_reducible refine Les.cons ?_ ?_)))))); (case hh => ((conv => whnf); repeat' (first | exact trivial | exact ArgLe.rfl rfl | exact ArgLe.ptr rfl | exact ArgLe.sl rfl | ((with_reducible refine ArgLe.fn ?_); (conv => whnf)) | exact ArgLe.free SV.Le.nil rfl | exact ⟨rfl, rfl, rfl⟩ | exact fun i hi => rfl | exact (fun i hi => by (rcases i with _ | i) <;> first | rfl | (exfalso; omega)) | ((with_reducible refine And.intro ?_ ?_) <;> (conv => whnf))))); (conv => whnf))
    | ((refine DCall.fn (book_Do tab (1 + cells.tmod 4) xs f.op f.pol f.key f.n f.now f.serial h2.ok hB) [0,1] [0,1] rfl rfl rfl rfl rfl ?ha ?hh ?hs ?_); (case ha => ((conv => whnf); repeat' (first | exact trivial | exact ArgLe.rfl rfl | exact ArgLe.ptr rfl | exact ArgLe.sl rfl | ((with_reducible refine ArgLe.fn ?_); (conv => whnf)) | exact ArgLe.free SV.Le.nil rfl | ((with_reducible refine And.intro ?_ ?_) <;> (conv => whnf)) | ((refine ArgLe.free ?_ rfl); (repeat' (first | exact SV.Le.rfl _ | exact SV.Le.nil | exact SV.Le.sl (fun i hi => by (rcases i with _ | _ | _ | _ | i) <;> first | rfl | (exfalso; omega)) | with_reducible refine SV.Le.agg ?_ | exact Les.nil | with_reducible refine Les.cons ?_ ?_)))))); (case hh => ((conv => whnf); repeat' (first | exact trivial | exact ArgLe.rfl rfl | exact ArgLe.ptr rfl | exact ArgLe.sl rfl | ((with_reducible refine ArgLe.fn ?_); (conv => whnf)) | exact ArgLe.free SV.Le.nil rfl | exact ⟨rfl, rfl, rfl⟩ | exact fun i hi => rfl | exact (fun i hi => by (rcases i with _ | i) <;> first | rfl | (exfalso; omega)) | ((with_reducible refine And.intro ?_ ?_) <;> (conv => whnf))))); (case hs => (conv => whnf); repeat' (first | exact trivial | ((refine And.intro rfl ?_); (conv => whnf)))); (conv => whnf)) | ((refine DCall.new (book_Do tab (1 + cells.tmod 4) xs f.op f.pol f.key f.n f.now f.serial h2.ok hB) [0,1] [0,1] rfl rfl rfl rfl rfl rfl ?ha ?hh ?hs ?_); (case ha => ((conv => whnf); repeat' (first | exact trivial | exact ArgLe.rfl rfl | exact ArgLe.ptr rfl | exact ArgLe.sl rfl | ((with_reducible refine ArgLe.fn ?_); (conv => whnf)) | exact ArgLe.free SV.Le.nil rfl | ((with_reducible refine And.intro ?_ ?_) <;> (conv => whnf)) | ((refine ArgLe.free ?_ rfl); (repeat' (first | exact SV.Le.rfl _ | exact SV.Le.nil | exact SV.Le.sl (fun i hi => by (rcases i with _ | _ | _ | _ | i) <;> first | rfl | (exfalso; omega)) | with_reducible refine SV.Le.agg ?_ | exact Les.nil | with_reducible refine Les.cons ?_ ?_)))))); (case hh => ((conv => whnf); repeat' (first | exact trivial | exact ArgLe.rfl rfl | exact ArgLe.ptr rfl | exact ArgLe.sl rfl | ((with_reducible refine ArgLe.fn ?_); (conv => whnf)) | exact ArgLe.free SV.Le.nil rfl | exact ⟨rfl, rfl, rfl⟩ | exact fun i hi => rfl | exact (fun i hi => by (rcases i with _ | i) <;> first | rfl | (exfalso; omega)) | ((with_reducible refine And.intro ?_ ?_) <;> (conv => whnf))))); (case hs => (conv => whnf); repeat' (first | exact trivial | ((refine And.intro rfl ?_); (conv => whnf)))); (conv => whnf))
    | ((refine DCall.fn (book_Do tab (1 + cells.tmod 4) xs f.op f.pol f.key f.n f.now f.serial h2.ok hB) [0,1] [] rfl rfl rfl rfl rfl ?ha ?hh ?hs ?_); (case ha => ((conv => whnf); repeat' (first | exact trivial | exact ArgLe.rfl rfl | exact ArgLe.ptr rfl | exact ArgLe.sl rfl | ((with_reducible refine ArgLe.fn ?_); (conv => whnf)) | exact ArgLe.free SV.Le.nil rfl | ((with_reducible refine And.intro ?_ ?_) <;> (conv => whnf)) | ((refine ArgLe.free ?_ rfl); (repeat' (first | exact SV.Le.rfl _ | exact SV.Le.nil | exact SV.Le.sl (fun i hi => by (rcases i with _ | _ | _ | _ | i) <;> first | rfl | (exfalso; omega)) | with_reducible refine SV.Le.agg ?_ | exact Les.nil | with_reducible refine Les.cons ?_ ?_)))))); (case hh => ((conv => whnf); repeat' (first | exact trivial | exact ArgLe.rfl rfl | exact ArgLe.ptr rfl | exact ArgLe.sl rfl | ((with_reducible refine ArgLe.fn ?_); (conv => whnf)) | exact ArgLe.free SV.Le.nil rfl | exact ⟨rfl, rfl, rfl⟩ | exact fun i hi => rfl | exact (fun i hi => by (rcases i with _ | i) <;> first | rfl | (exfalso; omega)) | ((with_reducible refine And.intro ?_ ?_) <;> (conv => whnf))))); (case hs => (conv => whnf); repeat' (first | exact trivial | ((refine And.intro rfl ?_); (conv => whnf)))); (conv => whnf)) | ((refine DCall.new (book_Do tab (1 + cells.tmod 4) xs f.op f.pol f.key f.n f.now f.serial h2.ok hB) [0,1] [] rfl rfl rfl rfl rfl rfl ?ha ?hh ?hs ?_); (case ha => ((conv => whnf); repeat' (first | exact trivial | exact ArgLe.rfl rfl | exact ArgLe.ptr rfl | exact ArgLe.sl rfl | ((with_reducible refine ArgLe.fn ?_); (conv => whnf)) | exact ArgLe.free SV.Le.nil rfl | ((with_reducible refine And.intro ?_ ?_) <;> (conv => whnf)) | ((refine ArgLe.free ?_ rfl); (repeat' (first | exact SV.Le.rfl _ | exact SV.Le.nil | exact SV.Le.sl (fun i hi => by (rcases i with _ | _ | _ | _ | i) <;> first | rfl | (exfalso; omega)) | with_reducible refine SV.Le.agg ?_ | exact Les.nil | with_reducible refine Les.cons ?_ ?_)))))); (case hh => ((conv => whnf); repeat' (first | exact trivial | exact ArgLe.rfl rfl | exact ArgLe.ptr rfl | exact ArgLe.sl rfl | ((with_reducible refine ArgLe.fn ?_); (conv => whnf)) | exact ArgLe.free SV.Le.nil rfl | exact ⟨rfl, rfl, rfl⟩ | exact fun i hi => rfl | exact (fun i hi => by (rcases i with _ | i) <;> first | rfl | (exfalso; omega)) | ((with_reducible refine And.intro ?_ ?_) <;> (conv => whnf))))); (case hs => (conv => whnf); repeat' (first | exact trivial | ((refine And.intro rfl ?_); (conv => whnf)))); (conv => whnf))
    | ((refine CallStop.fn (book_Len tab (1 + cells.tmod 4) (doS tab (1 + cells.tmod 4) xs f.op f.pol f.key f.n f.now f.serial).2) [0,3] rfl rfl rfl rfl rfl ?ha ?hh ?_); (case ha => ((conv => whnf); repeat' (first | exact trivial | exact ArgLe.rfl rfl | exact ArgLe.ptr rfl | exact ArgLe.sl rfl | ((with_reducible refine ArgLe.fn ?_); (conv => whnf)) | exact ArgLe.free SV.Le.nil rfl | ((with_reducible refine And.intro ?_ ?_) <;> (conv => whnf)) | ((refine ArgLe.free ?_ rfl); (repeat' (first | exact SV.Le.rfl _ | exact SV.Le.nil | exact SV.Le.sl (fun i hi => by (rcases i with _ | _ | _ | _ | i) <;> first | rfl | (exfalso; omega)) | with_reducible refine SV.Le.agg ?_ | exact Les.nil | with_reducible refine Les.cons ?_ ?_)))))); (case hh => ((conv => whnf); repeat' (first | exact trivial | exact ArgLe.rfl rfl | exact ArgLe.ptr rfl | exact ArgLe.sl rfl | ((with_reducible refine ArgLe.fn ?_); (conv => whnf)) | exact ArgLe.free SV.Le.nil rfl | exact ⟨rfl, rfl, rfl⟩ | exact fun i hi => rfl | exact (fun i hi => by (rcases i with _ | i) <;> first | rfl | (exfalso; omega)) | ((with_reducible refine And.intro ?_ ?_) <;> (conv => whnf))))); (conv => whnf))
    | ((refine DCall.fn (book_Len tab (1 + cells.tmod 4) (doS tab (1 + cells.tmod 4) xs f.op f.pol f.key f.n f.now f.serial).2) [0,3] [0,3] rfl rfl rfl rfl rfl ?ha ?hh ?hs ?_); (case ha => ((conv => whnf); repeat' (first | exact trivial | exact ArgLe.rfl rfl | exact ArgLe.ptr rfl | exact ArgLe.sl rfl | ((with_reducible refine ArgLe.fn ?_); (conv => whnf)) | exact ArgLe.free SV.Le.nil rfl | ((with_reducible refine And.intro ?_ ?_) <;> (conv => whnf)) | ((refine ArgLe.free ?_ rfl); (repeat' (first | exact SV.Le.rfl _ | exact SV.Le.nil | exact SV.Le.sl (fun i hi => by (rcases i with _ | _ | _ | _ | i) <;> first | rfl | (exfalso; omega)) | with_reducible refine SV.Le.agg ?_ | exact Les.nil | with_reducible refine Les.cons ?_ ?_)))))); (case hh => ((conv => whnf); repeat' (first | exact trivial | exact ArgLe.rfl rfl | exact ArgLe.ptr rfl | exact ArgLe.sl rfl | ((with_reducible refine ArgLe.fn ?_); (conv => whnf)) | exact ArgLe.free SV.Le.nil rfl | exact ⟨rfl, rfl, rfl⟩ | exact fun i hi => rfl | exact (fun i hi => by (rcases i with _ | i) <;> first | rfl | (exfalso; omega)) | ((with_reducible refine And.intro ?_ ?_) <;> (conv => whnf))))); (case hs => (conv => whnf); repeat' (first | exact trivial | ((refine And.intro rfl ?_); (conv => whnf)))); (conv => whnf)) | ((refine DCall.new (book_Len tab (1 + cells.tmod 4) (doS tab (1 + cells.tmod 4) xs f.op f.pol f.key f.n f.now f.serial).2) [0,3] [0,3] rfl rfl rfl rfl rfl rfl ?ha ?hh ?hs ?_); (case ha => ((conv => whnf); repeat' (first | exact trivial | exact ArgLe.rfl rfl | exact ArgLe.ptr rfl | exact ArgLe.sl rfl | ((with_reducible refine ArgLe.fn ?_); (conv => whnf)) | exact ArgLe.free SV.Le.nil rfl | ((with_reducible refine And.intro ?_ ?_) <;> (conv => whnf)) | ((refine ArgLe.free ?_ rfl); (repeat' (first | exact SV.Le.rfl _ | exact SV.Le.nil | exact SV.Le.sl (fun i hi => by (rcases i with _ | _ | _ | _ | i) <;> first | rfl | (exfalso; omega)) | with_reducible refine SV.Le.agg ?_ | exact Les.nil | with_reducible refine Les.cons ?_ ?_)))))); (case hh => ((conv => whnf); repeat' (first | exact trivial | exact ArgLe.rfl rfl | exact ArgLe.ptr rfl | exact ArgLe.sl rfl | ((with_reducible refine ArgLe.fn ?_); (conv => whnf)) | exact ArgLe.free SV.Le.nil rfl | exact ⟨rfl, rfl, rfl⟩ | exact fun i hi => rfl | exact (fun i hi => by (rcases i with _ | i) <;> first | rfl | (exfalso; omega)) | ((with_reducible refine And.intro ?_ ?_) <;> (conv => whnf))))); (case hs => (conv => whnf); repeat' (first | exact trivial | ((refine And.intro rfl ?_); (conv => whnf)))); (conv => whnf))
    | ((refine DCall.fn (book_Len tab (1 + cells.tmod 4) (doS tab (1 + cells.tmod 4) xs f.op f.pol f.key f.n f.now f.serial).2) [0,3] [] rfl rfl rfl rfl rfl ?ha ?hh ?hs ?_); (case ha => ((conv => whnf); repeat' (first | exact trivial | exact ArgLe.rfl rfl | exact ArgLe.ptr rfl | exact ArgLe.sl rfl | ((with_reducible refine ArgLe.fn ?_); (conv => whnf)) | exact ArgLe.free SV.Le.nil rfl | ((with_reducible refine And.intro ?_ ?_) <;> (conv => whnf)) | ((refine ArgLe.free ?_ rfl); (repeat' (first | exact SV.Le.rfl _ | exact SV.Le.nil | exact SV.Le.sl (fun i hi => by (rcases i with _ | _ | _ | _ | i) <;> first | rfl | (exfalso; omega)) | with_reducible refine SV.Le.agg ?_ | exact Les.nil | with_reducible refine Les.cons ?_ ?_)))))); (case hh => ((conv => whnf); repeat' (first | exact trivial | exact ArgLe.rfl rfl | exact ArgLe.ptr rfl | exact ArgLe.sl rfl | ((with_reducible refine ArgLe.fn ?_); (conv => whnf)) | exact ArgLe.free SV.Le.nil rfl | exact ⟨rfl, rfl, rfl⟩ | exact fun i hi => rfl | exact (fun i hi => by (rcases i with _ | i) <;> first | rfl | (exfalso; omega)) | ((with_reducible refine And.intro ?_ ?_) <;> (conv => whnf))))); (case hs => (conv => whnf); repeat' (first | exact trivial | ((refine And.intro rfl ?_); (conv => whnf)))); (conv => whnf)) | ((refine DCall.new (book_Len tab (1 + cells.tmod 4) (doS tab (1 + cells.tmod 4) xs f.op f.pol f.key f.n f.now f.serial).2) [0,3] [] rfl rfl rfl rfl rfl rfl ?ha ?hh ?hs ?_); (case ha => ((conv => whnf); repeat' (first | exact trivial | exact ArgLe.rfl rfl | exact ArgLe.ptr rfl | exact ArgLe.sl rfl | ((with_reducible refine ArgLe.fn ?_); (conv => whnf)) | exact ArgLe.free SV.Le.nil rfl | ((with_reducible refine And.intro ?_ ?_) <;> (conv => whnf)) | ((refine ArgLe.free ?_ rfl); (repeat' (first | exact SV.Le.rfl _ | exact SV.Le.nil | exact SV.Le.sl (fun i hi => by (rcases i with _ | _ | _ | _ | i) <;> first | rfl | (exfalso; omega)) | with_reducible refine SV.Le.agg ?_ | exact Les.nil | with_reducible refine Les.cons ?_ ?_)))))); (case hh => ((conv => whnf); repeat' (first | exact trivial | exact ArgLe.rfl rfl | exact ArgLe.ptr rfl | exact ArgLe.sl rfl | ((with_reducible refine ArgLe.fn ?_); (conv => whnf)) | exact ArgLe.free SV.Le.nil rfl | exact ⟨rfl, rfl, rfl⟩ | exact fun i hi => rfl | exact (fun i hi => by (rcases i with _ | i) <;> first | rfl | (exfalso; omega)) | ((with_reducible refine And.intro ?_ ?_) <;> (conv => whnf))))); (case hs => (conv => whnf); repeat' (first | exact trivial | ((refine And.intro rfl ?_); (conv => whnf)))); (conv => whnf))
    | ((refine ways (fun hc => ?_) (fun hc => ?_)) <;> (try simp only [decide_eq_true_eq, decide_eq_false_iff_not, Bool.and_eq_true, Bool.or_eq_true, Bool.and_eq_false_iff, Bool.or_eq_false_iff, Bool.not_eq_true', Bool.not_eq_false', beq_iff_eq, bne_iff_ne, ne_eq, beq_eq_false_iff_ne, bne_eq_false_iff_eq, Bool.not_eq_true, Bool.not_eq_false, hG, hG0] at hc) <;> (try (exfalso; omega)) <;> (conv => whnf))))
    all_goals first
      | exact .b rfl
      | (refine ⟨(i + 1, (doS tab (1 + cells.tmod 4) xs f.op f.pol f.key f.n f.now f.serial).2), ⟨by dsimp only; omega, h3⟩, by dsimp only; omega, ?_⟩; (refine Le.by [0,3] rfl rfl rfl rfl ?_ ?_ <;> (conv => whnf) <;> (repeat' (first | exact trivial | exact ArgLe.rfl rfl | exact ArgLe.ptr rfl | exact ArgLe.sl rfl | ((with_reducible refine ArgLe.fn ?_); (conv => whnf)) | exact ⟨rfl, rfl, rfl⟩ | exact fun i hi => rfl | ((with_reducible refine And.intro ?_ ?_) <;> (conv => whnf))))))
end Go.Proofs.Ytkdolemhhihidaa

namespace Go.Proofs.Ytkdolemhhihidaa
open Go.ChangeShapes Go.WideShapes Go.ChangeAt Go.RowKit

@[reducible] def shAsk : List Sh := [.int .u8, .int .i64, .sl 1 [.int .u8], .int .i64, .int .i64, .int .i64]
theorem fit_ask {ds : List D} (h : FitL shAsk ds) : ∃ a : Ask, LsLe ds a.D ∧ a.ok := by
  obtain ⟨d0, r0, rfl, h0, t0⟩ := fit_cons h
  obtain ⟨d1, r1, rfl, h1, t1⟩ := fit_cons t0
  obtain ⟨d2, r2, rfl, h2, t2⟩ := fit_cons t1
  obtain ⟨d3, r3, rfl, h3, t3⟩ := fit_cons t2
  obtain ⟨d4, r4, rfl, h4, t4⟩ := fit_cons t3
  obtain ⟨d5, r5, rfl, h5, t5⟩ := fit_cons t4
  obtain rfl := fit_nil t5
  obtain ⟨n0, rfl, w0⟩ := fit_int h0
  obtain ⟨n1, rfl, w1⟩ := fit_int h1
  obtain ⟨key, le, _, w2⟩ := fit_ints h2
  obtain ⟨n3, rfl, w3⟩ := fit_int h3
  obtain ⟨n4, rfl, w4⟩ := fit_int h4
  obtain ⟨n5, rfl, w5⟩ := fit_int h5
  exact ⟨⟨n0, n1, key, n3, n4, n5⟩, .cons (.rfl _) (.cons (.rfl _) (.cons le (.cons (.rfl _) (.cons (.rfl _) (.cons (.rfl _) .nil))))), wf_u8 w0, fun x hx => wf_u8 (w2 x hx), wf_i64 w1, wf_i64 w3, wf_i64 w4, wf_i64 w5⟩
theorem LsLe.agg {ds ds' : List D} (h : LsLe ds ds') : SV.Le (.agg (ds.map SV.d)) (.agg (ds'.map SV.d)) := by
  refine SV.Le.agg ⟨by simp [h.len], fun j hx hy => ?_⟩
  rw [List.getElem_map, List.getElem_map]
  exact (h.out j _ _ (List.getElem?_eq_getElem _) (List.getElem?_eq_getElem _)).sv
/-- a script -/
theorem argScript {H : Type} {enc : TypeId × Value → H} {W : World} {v : Value} {d : DataW H} {p : List MemPlace} (h : DataW.Trod enc Try.prog W 0 (fun _ => true) true 33 v d p) (hv : v.cells.toList = [v]) :
    ∃ script : List Ask, (∀ a ∈ script, a.ok) ∧ ∀ E : Env, E.Im = (fun b => b < W.heap.size) → RS E 0 W (.d (slOf 6 Ask.D script)) v := by
  obtain ⟨x, f, g⟩ := arg1 h (s := .sl 6 shAsk) (by kernel_rfl) hv
  obtain ⟨script, le, _, hok⟩ := fit_list f fun ds hd => fit_ask hd
  exact ⟨script, hok, fun E hE => .d _ _ (by rw [hE]; exact le.out _ _ _ g)⟩
end Go.Proofs.Ytkdolemhhihidaa

namespace Go.Proofs.Ytkdolemhhihidaa
open Go.ChangeShapes Go.WideShapes Go.ChangeAt Go.RowKit

set_option maxRecDepth 100000

theorem argAsk {H : Type} {enc : TypeId × Value → H} {W : World} {base : Nat} {v : Value} {d : DataW H} {p : List MemPlace} (hv : Value.okWide Try.prog W .any base 39 v) (h : DataW.Trod enc Try.prog W 0 (fun _ => true) true 39 v d p) :
    ∃ a : Ask, a.ok ∧ ∀ E : Env, E.Im = (fun b => b < W.heap.size) → RS E 0 W a.S v := by
  simp only [Value.okWide, Try.underlying39] at hv
  obtain ⟨cs, rfl, _, _⟩ := hv
  obtain ⟨ds, f, g⟩ := argA h (ss := shAsk) (by kernel_rfl)
  obtain ⟨a, le, ok⟩ := fit_ask f
  exact ⟨a, ok, fun E hE => le.agg.out _ _ _ _ (g E hE)⟩
/-- a list of numbers -/
theorem argInts {k : IntKind} {H : Type} {enc : TypeId × Value → H} {W : World} {t : TypeId} {v : Value} {d : DataW H} {p : List MemPlace} (h : DataW.Trod enc Try.prog W 0 (fun _ => true) true t v d p) (hs : shT Try.prog 8 t = some [.sl 1 [.int k]]) (hv : v.cells.toList = [v]) :
    ∃ xs : List Int, (∀ x ∈ xs, shI k x) ∧ ∀ E : Env, E.Im = (fun b => b < W.heap.size) → RS E 0 W (.d (slOf 1 (encI k) xs)) v := by
  obtain ⟨x, f, g⟩ := arg1 h hs hv
  obtain ⟨xs, le, _, hok⟩ := fit_ints f
  exact ⟨xs, hok, fun E hE => .d _ _ (by rw [hE]; exact le.out _ _ _ g)⟩
end Go.Proofs.Ytkdolemhhihidaa

namespace Go.Proofs.Ytkdolemhhihidaa
open Go.RowKit

section
variable {ps : List Pol} {room : Int} {xs ys : List Cel}
/-- two calls on unlike identities, in either order -/
theorem swap_ok (h : BInv ps room xs) {o1 p1 n1 w1 s1 o2 p2 n2 w2 s2 : Int} {k1 k2 : List Int} (hk1 : IsB k1) (hk2 : IsB k2) (ho1 : o1 < 5) (ho2 : o2 < 5) (hne : p1 :: k1 ≠ p2 :: k2) (hr : (xs.length : Int) + 1 < room) :
    (doS ps room (doS ps room xs o2 p2 k2 n2 w2 s2).2 o1 p1 k1 n1 w1 s1).1 = (doS ps room xs o1 p1 k1 n1 w1 s1).1 ∧
    (doS ps room xs o2 p2 k2 n2 w2 s2).1 = (doS ps room (doS ps room xs o1 p1 k1 n1 w1 s1).2 o2 p2 k2 n2 w2 s2).1 ∧
    (doS ps room (doS ps room xs o2 p2 k2 n2 w2 s2).2 o1 p1 k1 n1 w1 s1).2 = (doS ps room (doS ps room xs o1 p1 k1 n1 w1 s1).2 o2 p2 k2 n2 w2 s2).2 := by
  obtain ⟨a1, a2, a3⟩ := do_step (op := o1) (pol := p1) (key := k1) (n := n1) (now := w1) (serial := s1) h ho1 (by omega)
  obtain ⟨b1, b2, b3⟩ := do_step (op := o2) (pol := p2) (key := k2) (n := n2) (now := w2) (serial := s2) h ho2 (by omega)
  have ha := do_inv (op := o1) (pol := p1) (key := k1) (n := n1) (now := w1) (serial := s1) h hk1
  have hb := do_inv (op := o2) (pol := p2) (key := k2) (n := n2) (now := w2) (serial := s2) h hk2
  obtain ⟨c1, c2, c3⟩ := do_step (op := o2) (pol := p2) (key := k2) (n := n2) (now := w2) (serial := s2) ha ho2 (by omega)
  obtain ⟨d1, d2, d3⟩ := do_step (op := o1) (pol := p1) (key := k1) (n := n1) (now := w1) (serial := s1) hb ho1 (by omega)
  have e1 : look (doS ps room xs o1 p1 k1 n1 w1 s1).2 (p2 :: k2) = look xs (p2 :: k2) := by rw [a2, if_neg (fun e => hne e.symm)]
  have e2 : look (doS ps room xs o2 p2 k2 n2 w2 s2).2 (p1 :: k1) = look xs (p1 :: k1) := by rw [b2, if_neg hne]
  rw [e1] at c1 c2
  rw [e2] at d1 d2
  refine ⟨d1.trans a1.symm, b1.trans c1.symm, ?_⟩
  have hab := do_inv (op := o2) (pol := p2) (key := k2) (n := n2) (now := w2) (serial := s2) ha hk2
  have hba := do_inv (op := o1) (pol := p1) (key := k1) (n := n1) (now := w1) (serial := s1) hb hk1
  refine srt_ext hba.srt hab.srt fun i => ?_
  rw [d2, c2, a2, b2]
  by_cases g1 : i = p1 :: k1
  · subst g1
    rw [if_pos rfl, if_neg hne, if_neg hne, if_pos rfl]
  · rw [if_neg g1, if_neg g1]

/-- a book that knows one identity alone -/
def Only (id : List Int) (xs ys : List Cel) : Prop := ∀ i, look ys i = if i = id then look xs i else none
theorem only_len {id : List Int} (hy : Srt ys) (h : Only id xs ys) : ys.length ≤ 1 := by
  match ys, hy, h with
  | [], _, _ => simp
  | [_], _, _ => simp
  | a :: b :: r, hy, h =>
    exfalso
    have key : ∀ c ∈ a :: b :: r, idn c = id := fun c hc => by
      have h1 := hy.look_of hc
      rw [h] at h1
      split at h1
      · assumption
      · cases h1
    have h1 := key a (by simp)
    have h2 := key b (by simp)
    have := (List.pairwise_cons.1 hy.lt).1 b (by simp)
    rw [h1, h2, cmpI_self] at this
    omega
/-- a call on that very identity -/
theorem only_same {id : List Int} (hx : BInv ps room xs) (hy : BInv ps room ys) (h : Only id xs ys) {op pol n now serial : Int} {key : List Int} (ho : op < 5) (hid : pol :: key = id) (hrx : (xs.length : Int) < room) (hry : (ys.length : Int) < room) :
    (doS ps room ys op pol key n now serial).1 = (doS ps room xs op pol key n now serial).1 ∧ Only id (doS ps room xs op pol key n now serial).2 (doS ps room ys op pol key n now serial).2 := by
  obtain ⟨a1, a2, _⟩ := do_step (op := op) (pol := pol) (key := key) (n := n) (now := now) (serial := serial) hx ho hrx
  obtain ⟨b1, b2, _⟩ := do_step (op := op) (pol := pol) (key := key) (n := n) (now := now) (serial := serial) hy ho hry
  have e : look ys (pol :: key) = look xs (pol :: key) := by rw [h, if_pos hid]
  rw [e] at b1 b2
  refine ⟨b1.trans a1.symm, fun i => ?_⟩
  rw [b2, a2, h]
  by_cases hi : i = id
  · subst hi; rw [if_pos hid.symm, if_pos hid.symm, if_pos rfl, if_pos rfl]
  · rw [if_neg hi, if_neg hi, if_neg (fun e => hi (e.trans hid))]
/-- a call on another one -/
theorem only_other {id : List Int} (hx : BInv ps room xs) (h : Only id xs ys) {op pol n now serial : Int} {key : List Int} (ho : op < 5) (hid : pol :: key ≠ id) (hrx : (xs.length : Int) < room) :
    Only id (doS ps room xs op pol key n now serial).2 ys := by
  obtain ⟨_, a2, _⟩ := do_step (op := op) (pol := pol) (key := key) (n := n) (now := now) (serial := serial) hx ho hrx
  intro i
  rw [h, a2]
  by_cases hi : i = id
  · rw [if_pos hi, if_pos hi, if_neg (fun e => hid (e.symm.trans hi))]
  · rw [if_neg hi, if_neg hi]
/-- evict, split -/
theorem only_both {id : List Int} (hx : BInv ps room xs) (hy : BInv ps room ys) (h : Only id xs ys) {op pol n now serial : Int} {key : List Int} (ho : 5 ≤ op) :
    Only id (doS ps room xs op pol key n now serial).2 (doS ps room ys op pol key n now serial).2 := by
  by_cases hE : bchkE ps op pol key n now serial = 0
  · by_cases h5 : op = 5
    · subst h5
      rw [do_evict hE, do_evict hE]
      intro i
      show look (stay ps now ys) i = if i = id then look (stay ps now xs) i else none
      rw [stay_look hy.srt, stay_look hx.srt, h]
      by_cases hi : i = id
      · rw [if_pos hi, if_pos hi]
      · rw [if_neg hi, if_neg hi]; rfl
    · have hb := (bchk_0 hE).2.2.1
      unfold doS
      rw [if_neg (fun h => h hE), if_neg h5, if_pos (by omega), if_neg (fun h => h hE), if_neg h5, if_pos (by omega)]
      exact h
  · unfold doS; rw [if_pos hE, if_pos hE]; exact h
/-- how much longer a call makes the cells -/
theorem do_len (h : BInv ps room xs) {op pol n now serial : Int} {key : List Int} : (doS ps room xs op pol key n now serial).2.length ≤ xs.length + 1 := by
  by_cases hE : bchkE ps op pol key n now serial = 0
  · by_cases hop : op < 5
    · rw [do_keyed h hE hop]
      obtain ⟨hid, _⟩ := id_of hE hop
      cases hc : (cellS (ps.getD pol.toNat default) (look xs (pol :: key)) op pol key n now serial).2 with
      | none => simp
      | some c =>
        simp only
        split
        · simp
        · exact withC_len (posC_le _ _)
    · have hb := (bchk_0 hE).2.2.1
      by_cases h5 : op = 5
      · subst h5
        rw [do_evict hE]
        have := List.length_filter_le (fun c => !idleB ps c now) xs
        simp only [stay]; omega
      · unfold doS; rw [if_neg (fun h => h hE), if_neg h5, if_pos (by omega)]; simp
  · unfold doS; rw [if_pos hE]; simp
end
end Go.Proofs.Ytkdolemhhihidaa
