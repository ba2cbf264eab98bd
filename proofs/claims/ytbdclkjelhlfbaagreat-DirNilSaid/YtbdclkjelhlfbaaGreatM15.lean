/- Parts of the proof, one behind the other: Dr17, Dr18, Dr22. Lemmas and contracts of functions; no condition of its own. -/
import Derived.Test.YtbdclkjelhlfbaaGreatM14
set_option linter.unusedVariables false
set_option linter.unusedSimpArgs false
namespace Go.Proofs.YtbdclkjelhlfbaaGreat
open Go.RowKit
set_option maxRecDepth 100000
def gOf (cs : Nat → Dir.CS) : Nat → SV := fun j => cl j (cs j)
theorem gOf_lt (cs : Nat → Dir.CS) : ∀ j, SV.Lt 5 (gOf cs j) := fun j => cl_lt _ _
theorem gOf_upd (cs : Nat → Dir.CS) (w : Nat) (s : Dir.CS) : Dir.upd (gOf cs) w (cl w s) = gOf (Dir.upd cs w s) := by
  funext j
  unfold gOf Dir.upd
  by_cases h : j = w
  · rw [if_pos h, if_pos h, h]
  · rw [if_neg h, if_neg h]
theorem fnd_done : ∀ c h r, dirOps.fnd c h = .inl r → r.done = true := by
  intro c h r e
  have e : fndE c h = .inl r := e
  unfold fndE at e
  split at e
  · cases e; rfl
  · split at e
    · cases e; rfl
    · split at e
      · cases e
      · split at e <;> cases e
structure LawS (k : Nat) (M : Dir.Mc) (cs : Nat → Dir.CS) (nl : Nat) (cnt : Int) : Prop where
  inv : Dir.Inv dirOps M cs ((k : Int) + 1)
  hd : ∀ w, Dir.Hn k (M.Hd w)
  ok : ∀ j, Dir.okH k (cs j)
  nl : nl ≤ 128
  cnt : cnt = (k : Int) + 1
theorem LawS.zero : LawS 0 Dir.M0 (fun _ => .none) (noteN 0) 1 := ⟨Dir.Inv.zero _, fun _ => Dir.nilH, fun _ => trivial, by decide, rfl⟩
theorem LawS.step {k : Nat} {M : Dir.Mc} {cs : Nat → Dir.CS} {nl : Nat} {cnt : Int} (h : LawS k M cs nl cnt) (hk : k ≤ 1000000) (i : Nat) :
    LawS (k + 1) (Dir.step dirOps M (cs i)).1 (Dir.upd cs i (Dir.step dirOps M (cs i)).2.1) (noteN nl) (cnt + 1) := by
  have h1 := Dir.step_H h.inv.iw h.hd (h.inv.cw i) (h.ok i)
  refine ⟨?_, h1.1, fun j => ?_, noteN_le h.nl, by have := h.cnt; omega⟩
  · have := h.inv.step fnd_done (show (k : Int) + 1 + 1 < Dir.FZ by unfold Dir.FZ; omega) i
    rwa [show ((k + 1 : Nat) : Int) + 1 = (k : Int) + 1 + 1 by omega]
  · unfold Dir.upd
    split
    · exact h1.2
    · exact (h.ok j).mono (Nat.le_succ k)
theorem LawS.start {k : Nat} {M : Dir.Mc} {cs : Nat → Dir.CS} {nl : Nat} {cnt : Int} (h : LawS k M cs nl cnt) (i : Nat) (op : Int) (key : List Int) (v : Int) (hk : IsB key) :
    LawS k M (Dir.upd cs i (startS op key v)) nl cnt := by
  refine ⟨⟨h.inv.iw, h.inv.b, fun j => ?_⟩, h.hd, fun j => ?_, h.nl, h.cnt⟩
  · unfold Dir.upd; split
    · unfold startS; split <;> trivial
    · exact h.inv.cw j
  · unfold Dir.upd; split
    · unfold startS; split
      · trivial
      · exact hk
    · exact h.ok j
theorem LawS.dok {k : Nat} {M : Dir.Mc} {cs : Nat → Dir.CS} {nl : Nat} {cnt : Int} (h : LawS k M cs nl cnt) (hk : k ≤ 1000000) (w : Nat) (hw : w < 64) : DOK w (gOf cs) M nl cnt :=
  ⟨by omega, by omega, h.nl, by have := h.cnt; omega, by have := h.cnt; omega, gOf_lt cs, h.inv.iw.d.1, h.inv.iw.d.2, fun w => (h.hd w).ok (by omega)⟩
theorem law_Step {k : Nat} {M : Dir.Mc} {cs : Nat → Dir.CS} {nl : Nat} {f : Nat → List D} {clk cnt : Int} (h : LawS k M cs nl cnt) (hk : k ≤ 1000000) (w : Nat) (hw : w < 64) (hc : isC (cs w) = true) :
    ∃ a, Fun TC 21 5 [.ptr 0 0, .i .i64 w] (dirH (gOf cs) M nl f clk cnt) 6 (.tup [rslS (Dir.step dirOps M (cs w)).2.2, .i .i64 0]) (dirN (gOf (Dir.upd cs w (Dir.step dirOps M (cs w)).2.1)) (Dir.step dirOps M (cs w)).1 nl f clk cnt a) := by
  obtain ⟨a, hF⟩ := dir_Step (f := f) (clk := clk) w hw (h.dok hk w hw) hc (okC_of (h.inv.cw w) (h.ok w) (by omega)) rfl
  rw [gOf_upd] at hF
  exact ⟨a, hF⟩
theorem law_Start {M : Dir.Mc} {cs : Nat → Dir.CS} {nl : Nat} {f : Nat → List D} {clk cnt : Int} (w : Nat) (hw : w < 64) (op : Int) (key : List Int) (v : Int) (ho : 1 ≤ op) (ho4 : op ≤ 4) (hk : key.length ≤ 256) (hv : tickB v = true) (hc : cs w = .none) :
    Fun TC 18 5 [.ptr 0 0, .i .i64 w, .i .u8 op, .d (slOf 1 (encI .u8) key), .i .i64 v] (dirH (gOf cs) M nl f clk cnt) 5 (.i .i64 0) (dirH (gOf (Dir.upd cs w (startS op key v))) M nl f clk cnt) := by
  have := dir_Start (gOf_lt cs) (M := M) (nl := nl) (f := f) (clk := clk) (cnt := cnt) w hw op key v ho ho4 hk hv (show cl w (cs w) = nilF by rw [hc]; rfl)
  rwa [gOf_upd] at this
def awS : List (Nat × Option Dir.Kc) := [(0, some ⟨2, [97], 5⟩), (0, none), (0, none), (0, none), (1, some ⟨4, [], 0⟩), (1, none), (1, none), (1, none), (1, none), (1, none), (1, none), (1, none), (1, none), (1, none), (2, some ⟨1, [97], 0⟩), (2, none), (2, none)]
def aw1 (st : Dir.Mc × (Nat → Dir.CS)) : Nat × Option Dir.Kc → Dir.Mc × (Nat → Dir.CS)
  | (w, some c) => (st.1, Dir.upd st.2 w (startS c.op c.key c.val))
  | (w, none) => ((Dir.step dirOps st.1 (st.2 w)).1, Dir.upd st.2 w (Dir.step dirOps st.1 (st.2 w)).2.1)
def awR (st : Dir.Mc × (Nat → Dir.CS)) : List (Nat × Option Dir.Kc) → List (Dir.Res)
  | [] => []
  | (w, o) :: r => (match o with | none => (Dir.step dirOps st.1 (st.2 w)).2.2 | some _ => Dir.r0) :: awR (aw1 st (w, o)) r
def awC (st : Dir.Mc × (Nat → Dir.CS)) : List (Nat × Option Dir.Kc) → List Bool
  | [] => []
  | (w, o) :: r => isC (st.2 w) :: awC (aw1 st (w, o)) r
def awE (st : Dir.Mc × (Nat → Dir.CS)) : List (Nat × Option Dir.Kc) → Int
  | [] => st.1.W 0
  | x :: r => awE (aw1 st x) r
structure AwK (st : Dir.Mc × (Nat → Dir.CS)) (l : List (Nat × Option Dir.Kc)) (rs : List Dir.Res) (bs : List Bool) : Prop where
  r : awR st l = rs
  c : awC st l = bs
  e : awE st l = 2
theorem aw_start {k : Nat} {M : Dir.Mc} {cs : Nat → Dir.CS} {nl : Nat} {cnt : Int} (h : LawS k M cs nl cnt) {w : Nat} {c : Dir.Kc} {l : List (Nat × Option Dir.Kc)} {r : Dir.Res} {rs : List Dir.Res} {bs : List Bool} (K : AwK (M, cs) ((w, some c) :: l) (r :: rs) (false :: bs))
    (hw : w < 64) (ho : 1 ≤ c.op) (ho4 : c.op ≤ 4) (hk : IsB c.key ∧ c.key.length ≤ 256) (hv : tickB c.val = true) :
    ∃ cs', LawS k M cs' nl cnt ∧ AwK (M, cs') l rs bs ∧ ∀ f clk, Fun TC 18 5 [.ptr 0 0, .i .i64 w, .i .u8 c.op, .d (slOf 1 (encI .u8) c.key), .i .i64 c.val] (dirH (gOf cs) M nl f clk cnt) 5 (.i .i64 0) (dirH (gOf cs') M nl f clk cnt) := by
  have hr := K.r; have hc := K.c
  simp only [awR, awC, List.cons.injEq] at hr hc
  exact ⟨_, h.start w c.op c.key c.val hk.1, ⟨hr.2, hc.2, K.e⟩, fun f clk => law_Start w hw c.op c.key c.val ho ho4 hk.2 hv (isC_no hc.1)⟩
theorem aw_step {k : Nat} {M : Dir.Mc} {cs : Nat → Dir.CS} {nl : Nat} {cnt : Int} (h : LawS k M cs nl cnt) {w : Nat} {l : List (Nat × Option Dir.Kc)} {r : Dir.Res} {rs : List Dir.Res} {bs : List Bool} (K : AwK (M, cs) ((w, none) :: l) (r :: rs) (true :: bs))
    (hw : w < 64) (hk : k ≤ 1000000) (f : Nat → List D) (clk : Int) :
    ∃ M' cs' f', LawS (k + 1) M' cs' (noteN nl) (cnt + 1) ∧ AwK (M', cs') l rs bs ∧ Fun TC 21 5 [.ptr 0 0, .i .i64 w] (dirH (gOf cs) M nl f clk cnt) 6 (.tup [rslS r, .i .i64 0])
      [(0, some (dirB (gOf cs'))), (1, some (machB 2 5 32 (noteN nl) clk (cnt + 1))), (2, some (wordB 32 M'.W)), (3, some (holdB M'.Hd)), (4, none), (5, some (lastB (noteN nl) f'))] := by
  have hr := K.r; have hc := K.c
  simp only [awR, awC, List.cons.injEq] at hr hc
  obtain ⟨a, hF⟩ := law_Step (f := f) (clk := clk) h hk w hw hc.1
  rw [hr.1] at hF
  exact ⟨_, _, _, h.step hk w, ⟨hr.2, hc.2, K.e⟩, hF⟩
theorem aw_all : AwK (Dir.M0, fun _ => .none) awS
    [⟨false, 0, 0⟩, ⟨false, 0, 0⟩, ⟨false, 0, 0⟩, ⟨true, 0, 5⟩, ⟨false, 0, 0⟩, ⟨false, 0, 0⟩, ⟨false, 0, 0⟩, ⟨false, 0, 0⟩, ⟨false, 0, 0⟩, ⟨false, 0, 0⟩, ⟨false, 0, 0⟩, ⟨false, 0, 0⟩, ⟨false, 0, 0⟩, ⟨true, 0, 0⟩, ⟨false, 0, 0⟩, ⟨false, 0, 0⟩, ⟨true, 0, 5⟩]
    [false, true, true, true, false, true, true, true, true, true, true, true, true, true, false, true, true] := ⟨by decide +kernel, by decide +kernel, by decide +kernel⟩
theorem law_Level {k : Nat} {M : Dir.Mc} {cs : Nat → Dir.CS} {nl : Nat} {cnt : Int} (h : LawS k M cs nl cnt) (f : Nat → List D) (clk : Int) :
    Fun TC 24 5 [.ptr 0 0] (dirH (gOf cs) M nl f clk cnt) 5 (.tup [.i .i64 (M.W 0 / 2), .b (decide (M.W 0 % 2 = 1))]) (dirH (gOf cs) M nl f clk cnt) :=
  dir_Level (gOf_lt cs) M nl f clk cnt h.inv.iw.d.1 h.inv.iw.d.2
theorem law_Steps {k : Nat} {M : Dir.Mc} {cs : Nat → Dir.CS} {nl : Nat} {cnt : Int} (h : LawS k M cs nl cnt) (hk : k ≤ 1000000) (f : Nat → List D) (clk : Int) :
    Fun TC 28 5 [.ptr 0 0] (dirH (gOf cs) M nl f clk cnt) 5 (.i .i64 (cnt - 1)) (dirH (gOf cs) M nl f clk cnt) :=
  dir_Steps (gOf_lt cs) M nl f clk cnt (by have := h.cnt; omega) (by have := h.cnt; omega)
theorem cl_lt4 (who : Int) (s : Dir.CS) : SV.Lt 4 (cl who s) := by
  cases s with
  | sH lv i up h => cases up <;> exact .of rfl
  | sL lv i up h => cases up <;> exact .of rfl
  | _ => exact .of rfl
theorem gOf_lt4 (cs : Nat → Dir.CS) : ∀ j, SV.Lt 4 (dirF (gOf cs) j) := fun j => by
  cases j with
  | zero => exact .of rfl
  | succ j => exact cl_lt4 _ _
theorem id4 {L : List Nat} {i : Nat} (hi : i < 4) : (0 :: 1 :: 2 :: 3 :: L).getD i 0 = i := by
  rcases i with _ | _ | _ | _ | i <;> first | rfl | omega
theorem dir_arg4 {cs : Nat → Dir.CS} {L : List Nat} : ∀ j, j < 65 → ArgLe (0 :: 1 :: 2 :: 3 :: L) (dirF (gOf cs) j) (dirF (gOf cs) j) ∧ SV.Lt 5 (dirF (gOf cs) j) :=
  fun j _ => ⟨.same (gOf_lt4 cs j) (by simp) fun i hi => id4 hi, (gOf_lt4 cs j).mono (by decide)⟩
theorem dir_argR4 {cs : Nat → Dir.CS} {L : List Nat} {π : Nat → Nat} (hπ : ∀ l, l < 4 → π l = l) : ∀ j, j < 65 → ArgLe (0 :: 1 :: 2 :: 3 :: L) (SV.ren π (dirF (gOf cs) j)) (dirF (gOf cs) j) ∧ SV.Lt 5 (dirF (gOf cs) j) :=
  fun j hj => ⟨by rw [ren_id hπ (gOf_lt4 cs j)]; exact (dir_arg4 j hj).1, (gOf_lt4 cs j).mono (by decide)⟩
theorem ArgLe.sl5 {l z o n : Nat} : ArgLe [0, 1, 2, 3, l] (.sl l z o n) (.sl 4 z o n) := by
  refine ⟨fun E nx w v hv => ?_⟩
  cases hv with
  | sl _ _ _ _ ad cap hl hc hm ha h0 => exact .sl _ _ _ _ _ _ (by simp) hc hm ha h0
theorem law_New : Fun TC 15 0 [] [] 5 (.ptr 0 0) (dirH (gOf fun _ => .none) Dir.M0 (noteN 0) (noteF 0 (fun _ => []) (accD 0 2 1 0 1 true)) 0 1) := dir_NewF
theorem CallStop.fn5 {C : Cx} {nt : NT} {nx : Nat} {fr : List (Nat × SV)} {hp : List (Nat × Option Blk)} {g : Nat} {args : List SV} {k : St → SV → Prop} {m' : Nat} {args0 : List SV} {H H' : List (Nat × Option Blk)} {r : SV} {l : Nat} (h : Fun C g 5 args0 H m' r H')
    (hh : HeapLe hp [0, 1, 2, 3, l] H) (ha : ArgLes [0, 1, 2, 3, l] args args0) (hd : noDup [0, 1, 2, 3, l] = true) (hlive : liveK H 5 = true) (hkeys : keysK H' 5 = true) (hlt : keysLt H' m' = true)
    (hk : k ⟨nt, nx + (m' - 5), fr, postH (πf [0, 1, 2, 3, l] nx) hp H'⟩ (ren2 (πf [0, 1, 2, 3, l] nx) r)) : CallStop C ⟨nt, nx, fr, hp⟩ g args k :=
  .fn h _ rfl hd hlive hkeys hlt ha hh hk
end Go.Proofs.YtbdclkjelhlfbaaGreat

namespace Go.Proofs.YtbdclkjelhlfbaaGreat
open Go.RowKit
set_option maxRecDepth 100000
set_option maxHeartbeats 8000000 in
theorem awake_T : Pure TC 14 [] (.b true) := by
  have L0 := LawS.zero
  have K0 := aw_all
  obtain ⟨cs1, L1, K1, F1⟩ := aw_start L0 K0 (by decide) (by decide) (by decide) ⟨by intro x hx; simp at hx; try omega, by decide⟩ (by decide)
  have S1 := F1 (noteF 0 (fun _ => []) (accD 0 2 1 0 1 true)) 0
  obtain ⟨M2, cs2, f2, L2, K2, S2⟩ := aw_step L1 K1 (by decide) (by decide) (noteF 0 (fun _ => []) (accD 0 2 1 0 1 true)) 0
  obtain ⟨M3, cs3, f3, L3, K3, S3⟩ := aw_step L2 K2 (by decide) (by decide) f2 0
  obtain ⟨M4, cs4, f4, L4, K4, S4⟩ := aw_step L3 K3 (by decide) (by decide) f3 0
  obtain ⟨cs5, L5, K5, F5⟩ := aw_start L4 K4 (by decide) (by decide) (by decide) ⟨by intro x hx; simp at hx; try omega, by decide⟩ (by decide)
  have S5 := F5 f4 0
  obtain ⟨M6, cs6, f6, L6, K6, S6⟩ := aw_step L5 K5 (by decide) (by decide) f4 0
  obtain ⟨M7, cs7, f7, L7, K7, S7⟩ := aw_step L6 K6 (by decide) (by decide) f6 0
  obtain ⟨M8, cs8, f8, L8, K8, S8⟩ := aw_step L7 K7 (by decide) (by decide) f7 0
  obtain ⟨M9, cs9, f9, L9, K9, S9⟩ := aw_step L8 K8 (by decide) (by decide) f8 0
  obtain ⟨M10, cs10, f10, L10, K10, S10⟩ := aw_step L9 K9 (by decide) (by decide) f9 0
  obtain ⟨M11, cs11, f11, L11, K11, S11⟩ := aw_step L10 K10 (by decide) (by decide) f10 0
  obtain ⟨M12, cs12, f12, L12, K12, S12⟩ := aw_step L11 K11 (by decide) (by decide) f11 0
  obtain ⟨M13, cs13, f13, L13, K13, S13⟩ := aw_step L12 K12 (by decide) (by decide) f12 0
  obtain ⟨M14, cs14, f14, L14, K14, S14⟩ := aw_step L13 K13 (by decide) (by decide) f13 0
  obtain ⟨cs15, L15, K15, F15⟩ := aw_start L14 K14 (by decide) (by decide) (by decide) ⟨by intro x hx; simp at hx; try omega, by decide⟩ (by decide)
  have S15 := F15 f14 0
  obtain ⟨M16, cs16, f16, L16, K16, S16⟩ := aw_step L15 K15 (by decide) (by decide) f14 0
  obtain ⟨M17, cs17, f17, L17, K17, S17⟩ := aw_step L16 K16 (by decide) (by decide) f16 0
  have e17 : M17.W 0 = 2 := K17.e
  have SL := law_Level L17 f17 0
  rw [e17] at SL
  have ST := law_Steps L17 (by decide) f17 0
  clear K0 K1 K2 K3 K4 K5 K6 K7 K8 K9 K10 K11 K12 K13 K14 K15 K16 K17 L0 L1 L2 L3 L4 L5 L6 L7 L8 L9 L10 L11 L12 L13 L14 L15 L16 L17 F1 F5 F15
  refine Pure.mk' Tryz.func14 rfl rfl (Nat.le_of_ble_eq_true rfl) ?_
  (repeat' (first
    | with_reducible refine Wp.seq ?_
    | with_reducible refine Wp.block ?_
    | ((with_reducible refine Wp.region ?_); conv => whnf)
    | ((with_reducible refine Wp.drawL TC_mixed ?_); conv => whnf)
    | ((with_reducible refine Wp.cond ?_); conv => whnf)
    | ((with_reducible refine Wp.ret ?_); conv => whnf)
    | ((with_reducible refine Wp.skip ?_); conv => whnf)
    | ((with_reducible refine Wp.exit ?_); conv => whnf)
    | ((with_reducible refine Go.mk ?_); conv => whnf)
    | ((with_reducible apply Eff1.of); conv => whnf)
    | with_reducible exact rfl
    | ((with_reducible refine Ov.ok (by first | exact IntWalk.i64_in _ (by omega) | exact IntWalk.u64_in _ (by omega) | exact IntWalk.u8_in _ (by omega) | exact IntWalk.u32_in _ (by omega) | exact IntWalk.i32_in _ (by omega) | exact IntWalk.u16_in _ (by omega)) ?_); conv => whnf)
    | (with_reducible refine Ov.sh1 (by with_unfolding_all exact rfl) ?_)
    | ((with_reducible refine Ov.quo (by omega) (by omega) (by omega) (fun _ _ => ?_)); conv => whnf)
    | ((with_reducible refine And.intro (show drawOK _ _ _ _ = true by kernel_rfl) ?_); conv => whnf)
    | ((with_reducible refine And.intro (by first | omega | exact Nat.le_of_ble_eq_true rfl) ?_); conv => whnf)
    | ((with_reducible refine And.intro ?hb ?_); (case hb => exact bytes_bd (Nat.le_of_ble_eq_true rfl) (by omega)); (conv => whnf))
    | ((refine DApp.a rfl rfl rfl rfl rfl rfl ?hb ?_); (case hb => first | exact bytes_bd (Nat.le_of_ble_eq_true rfl) (by omega) | omega); (conv => whnf))
    | ((refine DApp.b rfl rfl rfl rfl rfl rfl rfl rfl ?hb ?ho ?_); (case hb => first | exact bytes_bd (Nat.le_of_ble_eq_true rfl) (by omega) | omega); (case ho => omega); (conv => whnf))
    | ((refine DApp.c rfl rfl rfl rfl rfl ?hb ?_); (case hb => first | exact bytes_bd (Nat.le_of_ble_eq_true rfl) (by omega) | omega); (conv => whnf))
    | ((refine DApp.d rfl rfl rfl rfl rfl rfl ?hb ?ho ?_); (case hb => first | exact bytes_bd (Nat.le_of_ble_eq_true rfl) (by omega) | omega); (case ho => omega); (conv => whnf))
    | ((with_reducible refine nil_no (by omega) ?_); (conv => whnf))
    | ((with_reducible refine nil_any ?_ (fun hn0 => ?_)) <;> (conv => whnf))
    | ((refine CallStop.fn (law_New) [] rfl rfl rfl rfl rfl ?ha ?hh ?_); (case ha => ((conv => whnf); repeat' (first | exact trivial | exact ArgLe.rfl rfl | exact ArgLe.ptr rfl | exact ArgLe.sl rfl | ((with_reducible refine ArgLe.fn ?_); (conv => whnf)) | ((refine ArgLe.iref ?_); (conv => whnf)) | exact ArgLe.free SV.Le.nil rfl | ((with_reducible refine And.intro ?_ ?_) <;> (conv => whnf)) | ((refine ArgLe.free ?_ rfl); (repeat' (first | exact SV.Le.rfl _ | exact SV.Le.nil | exact SV.Le.sl (fun i hi => by (rcases i with _ | _ | _ | _ | i) <;> first | rfl | (exfalso; omega)) | with_reducible refine SV.Le.agg ?_ | exact Les.nil | with_reducible refine Les.cons ?_ ?_)))))); (case hh => ((conv => whnf); repeat' (first | exact trivial | exact ArgLe.rfl rfl | exact ArgLe.ptr rfl | exact ArgLe.sl rfl | ((with_reducible refine ArgLe.fn ?_); (conv => whnf)) | ((refine ArgLe.iref ?_); (conv => whnf)) | exact ArgLe.free SV.Le.nil rfl | exact ⟨rfl, rfl, rfl⟩ | exact fun i hi => rfl | exact (fun i hi => by (rcases i with _ | i) <;> first | rfl | (exfalso; omega)) | ((with_reducible refine And.intro ?_ ?_) <;> (conv => whnf))))); (conv => whnf))
    | ((refine DCall.fn (law_New) [] [] rfl rfl rfl rfl rfl ?ha ?hh ?hs ?_); (case ha => ((conv => whnf); repeat' (first | exact trivial | exact ArgLe.rfl rfl | exact ArgLe.ptr rfl | exact ArgLe.sl rfl | ((with_reducible refine ArgLe.fn ?_); (conv => whnf)) | ((refine ArgLe.iref ?_); (conv => whnf)) | exact ArgLe.free SV.Le.nil rfl | ((with_reducible refine And.intro ?_ ?_) <;> (conv => whnf)) | ((refine ArgLe.free ?_ rfl); (repeat' (first | exact SV.Le.rfl _ | exact SV.Le.nil | exact SV.Le.sl (fun i hi => by (rcases i with _ | _ | _ | _ | i) <;> first | rfl | (exfalso; omega)) | with_reducible refine SV.Le.agg ?_ | exact Les.nil | with_reducible refine Les.cons ?_ ?_)))))); (case hh => ((conv => whnf); repeat' (first | exact trivial | exact ArgLe.rfl rfl | exact ArgLe.ptr rfl | exact ArgLe.sl rfl | ((with_reducible refine ArgLe.fn ?_); (conv => whnf)) | ((refine ArgLe.iref ?_); (conv => whnf)) | exact ArgLe.free SV.Le.nil rfl | exact ⟨rfl, rfl, rfl⟩ | exact fun i hi => rfl | exact (fun i hi => by (rcases i with _ | i) <;> first | rfl | (exfalso; omega)) | ((with_reducible refine And.intro ?_ ?_) <;> (conv => whnf))))); (case hs => (conv => whnf); repeat' (first | exact trivial | ((refine And.intro rfl ?_); (conv => whnf)))); (conv => whnf)) | ((refine DCall.new (law_New) [] [] rfl rfl rfl rfl rfl rfl ?ha ?hh ?hs ?_); (case ha => ((conv => whnf); repeat' (first | exact trivial | exact ArgLe.rfl rfl | exact ArgLe.ptr rfl | exact ArgLe.sl rfl | ((with_reducible refine ArgLe.fn ?_); (conv => whnf)) | ((refine ArgLe.iref ?_); (conv => whnf)) | exact ArgLe.free SV.Le.nil rfl | ((with_reducible refine And.intro ?_ ?_) <;> (conv => whnf)) | ((refine ArgLe.free ?_ rfl); (repeat' (first | exact SV.Le.rfl _ | exact SV.Le.nil | exact SV.Le.sl (fun i hi => by (rcases i with _ | _ | _ | _ | i) <;> first | rfl | (exfalso; omega)) | with_reducible refine SV.Le.agg ?_ | exact Les.nil | with_reducible refine Les.cons ?_ ?_)))))); (case hh => ((conv => whnf); repeat' (first | exact trivial | exact ArgLe.rfl rfl | exact ArgLe.ptr rfl | exact ArgLe.sl rfl | ((with_reducible refine ArgLe.fn ?_); (conv => whnf)) | ((refine ArgLe.iref ?_); (conv => whnf)) | exact ArgLe.free SV.Le.nil rfl | exact ⟨rfl, rfl, rfl⟩ | exact fun i hi => rfl | exact (fun i hi => by (rcases i with _ | i) <;> first | rfl | (exfalso; omega)) | ((with_reducible refine And.intro ?_ ?_) <;> (conv => whnf))))); (case hs => (conv => whnf); repeat' (first | exact trivial | ((refine And.intro rfl ?_); (conv => whnf)))); (conv => whnf))
    | (with_reducible refine CallStop.inline Tryz.func36 rfl rfl rfl (Nat.le_of_ble_eq_true rfl) ?_)
    | ((with_reducible refine Wp.loopN 10 ?_); conv => whnf)
    | ((apply CallStop.fn5 (h := S1)); (case hh => ((conv => whnf); repeat' (first | exact trivial | exact ArgLe.rfl rfl | exact ArgLe.ptr rfl | exact ArgLe.sl5 | exact ArgLe.sl rfl | exact ⟨rfl, rfl, rfl⟩ | exact ⟨rfl, Nat.le_of_ble_eq_true rfl⟩ | exact dir_arg4 | exact dir_argR4 (fun l hl => by rcases l with _ | _ | _ | _ | l <;> first | rfl | omega) | exact fun i hi => rfl | ((with_reducible refine And.intro ?_ ?_) <;> (conv => whnf))))); (case ha => ((conv => whnf); repeat' (first | exact trivial | exact ArgLe.rfl rfl | exact ArgLe.ptr rfl | exact ArgLe.sl rfl | ((with_reducible refine ArgLe.fn ?_); (conv => whnf)) | ((refine ArgLe.iref ?_); (conv => whnf)) | exact ArgLe.free SV.Le.nil rfl | ((with_reducible refine And.intro ?_ ?_) <;> (conv => whnf)) | ((refine ArgLe.free ?_ rfl); (repeat' (first | exact SV.Le.rfl _ | exact SV.Le.nil | exact SV.Le.sl (fun i hi => by (rcases i with _ | _ | _ | _ | i) <;> first | rfl | (exfalso; omega)) | with_reducible refine SV.Le.agg ?_ | exact Les.nil | with_reducible refine Les.cons ?_ ?_)))))); (case hd => exact rfl); (case hlive => exact rfl); (case hkeys => exact rfl); (case hlt => exact rfl); (conv => whnf))
    | ((apply CallStop.fn5 (h := S2)); (case hh => ((conv => whnf); repeat' (first | exact trivial | exact ArgLe.rfl rfl | exact ArgLe.ptr rfl | exact ArgLe.sl5 | exact ArgLe.sl rfl | exact ⟨rfl, rfl, rfl⟩ | exact ⟨rfl, Nat.le_of_ble_eq_true rfl⟩ | exact dir_arg4 | exact dir_argR4 (fun l hl => by rcases l with _ | _ | _ | _ | l <;> first | rfl | omega) | exact fun i hi => rfl | ((with_reducible refine And.intro ?_ ?_) <;> (conv => whnf))))); (case ha => ((conv => whnf); repeat' (first | exact trivial | exact ArgLe.rfl rfl | exact ArgLe.ptr rfl | exact ArgLe.sl rfl | ((with_reducible refine ArgLe.fn ?_); (conv => whnf)) | ((refine ArgLe.iref ?_); (conv => whnf)) | exact ArgLe.free SV.Le.nil rfl | ((with_reducible refine And.intro ?_ ?_) <;> (conv => whnf)) | ((refine ArgLe.free ?_ rfl); (repeat' (first | exact SV.Le.rfl _ | exact SV.Le.nil | exact SV.Le.sl (fun i hi => by (rcases i with _ | _ | _ | _ | i) <;> first | rfl | (exfalso; omega)) | with_reducible refine SV.Le.agg ?_ | exact Les.nil | with_reducible refine Les.cons ?_ ?_)))))); (case hd => exact rfl); (case hlive => exact rfl); (case hkeys => exact rfl); (case hlt => exact rfl); (conv => whnf))
    | ((apply CallStop.fn5 (h := S3)); (case hh => ((conv => whnf); repeat' (first | exact trivial | exact ArgLe.rfl rfl | exact ArgLe.ptr rfl | exact ArgLe.sl5 | exact ArgLe.sl rfl | exact ⟨rfl, rfl, rfl⟩ | exact ⟨rfl, Nat.le_of_ble_eq_true rfl⟩ | exact dir_arg4 | exact dir_argR4 (fun l hl => by rcases l with _ | _ | _ | _ | l <;> first | rfl | omega) | exact fun i hi => rfl | ((with_reducible refine And.intro ?_ ?_) <;> (conv => whnf))))); (case ha => ((conv => whnf); repeat' (first | exact trivial | exact ArgLe.rfl rfl | exact ArgLe.ptr rfl | exact ArgLe.sl rfl | ((with_reducible refine ArgLe.fn ?_); (conv => whnf)) | ((refine ArgLe.iref ?_); (conv => whnf)) | exact ArgLe.free SV.Le.nil rfl | ((with_reducible refine And.intro ?_ ?_) <;> (conv => whnf)) | ((refine ArgLe.free ?_ rfl); (repeat' (first | exact SV.Le.rfl _ | exact SV.Le.nil | exact SV.Le.sl (fun i hi => by (rcases i with _ | _ | _ | _ | i) <;> first | rfl | (exfalso; omega)) | with_reducible refine SV.Le.agg ?_ | exact Les.nil | with_reducible refine Les.cons ?_ ?_)))))); (case hd => exact rfl); (case hlive => exact rfl); (case hkeys => exact rfl); (case hlt => exact rfl); (conv => whnf))
    | ((apply CallStop.fn5 (h := S4)); (case hh => ((conv => whnf); repeat' (first | exact trivial | exact ArgLe.rfl rfl | exact ArgLe.ptr rfl | exact ArgLe.sl5 | exact ArgLe.sl rfl | exact ⟨rfl, rfl, rfl⟩ | exact ⟨rfl, Nat.le_of_ble_eq_true rfl⟩ | exact dir_arg4 | exact dir_argR4 (fun l hl => by rcases l with _ | _ | _ | _ | l <;> first | rfl | omega) | exact fun i hi => rfl | ((with_reducible refine And.intro ?_ ?_) <;> (conv => whnf))))); (case ha => ((conv => whnf); repeat' (first | exact trivial | exact ArgLe.rfl rfl | exact ArgLe.ptr rfl | exact ArgLe.sl rfl | ((with_reducible refine ArgLe.fn ?_); (conv => whnf)) | ((refine ArgLe.iref ?_); (conv => whnf)) | exact ArgLe.free SV.Le.nil rfl | ((with_reducible refine And.intro ?_ ?_) <;> (conv => whnf)) | ((refine ArgLe.free ?_ rfl); (repeat' (first | exact SV.Le.rfl _ | exact SV.Le.nil | exact SV.Le.sl (fun i hi => by (rcases i with _ | _ | _ | _ | i) <;> first | rfl | (exfalso; omega)) | with_reducible refine SV.Le.agg ?_ | exact Les.nil | with_reducible refine Les.cons ?_ ?_)))))); (case hd => exact rfl); (case hlive => exact rfl); (case hkeys => exact rfl); (case hlt => exact rfl); (conv => whnf))
    | ((apply CallStop.fn5 (h := S5)); (case hh => ((conv => whnf); repeat' (first | exact trivial | exact ArgLe.rfl rfl | exact ArgLe.ptr rfl | exact ArgLe.sl5 | exact ArgLe.sl rfl | exact ⟨rfl, rfl, rfl⟩ | exact ⟨rfl, Nat.le_of_ble_eq_true rfl⟩ | exact dir_arg4 | exact dir_argR4 (fun l hl => by rcases l with _ | _ | _ | _ | l <;> first | rfl | omega) | exact fun i hi => rfl | ((with_reducible refine And.intro ?_ ?_) <;> (conv => whnf))))); (case ha => ((conv => whnf); repeat' (first | exact trivial | exact ArgLe.rfl rfl | exact ArgLe.ptr rfl | exact ArgLe.sl rfl | ((with_reducible refine ArgLe.fn ?_); (conv => whnf)) | ((refine ArgLe.iref ?_); (conv => whnf)) | exact ArgLe.free SV.Le.nil rfl | ((with_reducible refine And.intro ?_ ?_) <;> (conv => whnf)) | ((refine ArgLe.free ?_ rfl); (repeat' (first | exact SV.Le.rfl _ | exact SV.Le.nil | exact SV.Le.sl (fun i hi => by (rcases i with _ | _ | _ | _ | i) <;> first | rfl | (exfalso; omega)) | with_reducible refine SV.Le.agg ?_ | exact Les.nil | with_reducible refine Les.cons ?_ ?_)))))); (case hd => exact rfl); (case hlive => exact rfl); (case hkeys => exact rfl); (case hlt => exact rfl); (conv => whnf))
    | ((apply CallStop.fn5 (h := S6)); (case hh => ((conv => whnf); repeat' (first | exact trivial | exact ArgLe.rfl rfl | exact ArgLe.ptr rfl | exact ArgLe.sl5 | exact ArgLe.sl rfl | exact ⟨rfl, rfl, rfl⟩ | exact ⟨rfl, Nat.le_of_ble_eq_true rfl⟩ | exact dir_arg4 | exact dir_argR4 (fun l hl => by rcases l with _ | _ | _ | _ | l <;> first | rfl | omega) | exact fun i hi => rfl | ((with_reducible refine And.intro ?_ ?_) <;> (conv => whnf))))); (case ha => ((conv => whnf); repeat' (first | exact trivial | exact ArgLe.rfl rfl | exact ArgLe.ptr rfl | exact ArgLe.sl rfl | ((with_reducible refine ArgLe.fn ?_); (conv => whnf)) | ((refine ArgLe.iref ?_); (conv => whnf)) | exact ArgLe.free SV.Le.nil rfl | ((with_reducible refine And.intro ?_ ?_) <;> (conv => whnf)) | ((refine ArgLe.free ?_ rfl); (repeat' (first | exact SV.Le.rfl _ | exact SV.Le.nil | exact SV.Le.sl (fun i hi => by (rcases i with _ | _ | _ | _ | i) <;> first | rfl | (exfalso; omega)) | with_reducible refine SV.Le.agg ?_ | exact Les.nil | with_reducible refine Les.cons ?_ ?_)))))); (case hd => exact rfl); (case hlive => exact rfl); (case hkeys => exact rfl); (case hlt => exact rfl); (conv => whnf))
    | ((apply CallStop.fn5 (h := S7)); (case hh => ((conv => whnf); repeat' (first | exact trivial | exact ArgLe.rfl rfl | exact ArgLe.ptr rfl | exact ArgLe.sl5 | exact ArgLe.sl rfl | exact ⟨rfl, rfl, rfl⟩ | exact ⟨rfl, Nat.le_of_ble_eq_true rfl⟩ | exact dir_arg4 | exact dir_argR4 (fun l hl => by rcases l with _ | _ | _ | _ | l <;> first | rfl | omega) | exact fun i hi => rfl | ((with_reducible refine And.intro ?_ ?_) <;> (conv => whnf))))); (case ha => ((conv => whnf); repeat' (first | exact trivial | exact ArgLe.rfl rfl | exact ArgLe.ptr rfl | exact ArgLe.sl rfl | ((with_reducible refine ArgLe.fn ?_); (conv => whnf)) | ((refine ArgLe.iref ?_); (conv => whnf)) | exact ArgLe.free SV.Le.nil rfl | ((with_reducible refine And.intro ?_ ?_) <;> (conv => whnf)) | ((refine ArgLe.free ?_ rfl); (repeat' (first | exact SV.Le.rfl _ | exact SV.Le.nil | exact SV.Le.sl (fun i hi => by (rcases i with _ | _ | _ | _ | i) <;> first | rfl | (exfalso; omega)) | with_reducible refine SV.Le.agg ?_ | exact Les.nil | with_reducible refine Les.cons ?_ ?_)))))); (case hd => exact rfl); (case hlive => exact rfl); (case hkeys => exact rfl); (case hlt => exact rfl); (conv => whnf))
    | ((apply CallStop.fn5 (h := S8)); (case hh => ((conv => whnf); repeat' (first | exact trivial | exact ArgLe.rfl rfl | exact ArgLe.ptr rfl | exact ArgLe.sl5 | exact ArgLe.sl rfl | exact ⟨rfl, rfl, rfl⟩ | exact ⟨rfl, Nat.le_of_ble_eq_true rfl⟩ | exact dir_arg4 | exact dir_argR4 (fun l hl => by rcases l with _ | _ | _ | _ | l <;> first | rfl | omega) | exact fun i hi => rfl | ((with_reducible refine And.intro ?_ ?_) <;> (conv => whnf))))); (case ha => ((conv => whnf); repeat' (first | exact trivial | exact ArgLe.rfl rfl | exact ArgLe.ptr rfl | exact ArgLe.sl rfl | ((with_reducible refine ArgLe.fn ?_); (conv => whnf)) | ((refine ArgLe.iref ?_); (conv => whnf)) | exact ArgLe.free SV.Le.nil rfl | ((with_reducible refine And.intro ?_ ?_) <;> (conv => whnf)) | ((refine ArgLe.free ?_ rfl); (repeat' (first | exact SV.Le.rfl _ | exact SV.Le.nil | exact SV.Le.sl (fun i hi => by (rcases i with _ | _ | _ | _ | i) <;> first | rfl | (exfalso; omega)) | with_reducible refine SV.Le.agg ?_ | exact Les.nil | with_reducible refine Les.cons ?_ ?_)))))); (case hd => exact rfl); (case hlive => exact rfl); (case hkeys => exact rfl); (case hlt => exact rfl); (conv => whnf))
    | ((apply CallStop.fn5 (h := S9)); (case hh => ((conv => whnf); repeat' (first | exact trivial | exact ArgLe.rfl rfl | exact ArgLe.ptr rfl | exact ArgLe.sl5 | exact ArgLe.sl rfl | exact ⟨rfl, rfl, rfl⟩ | exact ⟨rfl, Nat.le_of_ble_eq_true rfl⟩ | exact dir_arg4 | exact dir_argR4 (fun l hl => by rcases l with _ | _ | _ | _ | l <;> first | rfl | omega) | exact fun i hi => rfl | ((with_reducible refine And.intro ?_ ?_) <;> (conv => whnf))))); (case ha => ((conv => whnf); repeat' (first | exact trivial | exact ArgLe.rfl rfl | exact ArgLe.ptr rfl | exact ArgLe.sl rfl | ((with_reducible refine ArgLe.fn ?_); (conv => whnf)) | ((refine ArgLe.iref ?_); (conv => whnf)) | exact ArgLe.free SV.Le.nil rfl | ((with_reducible refine And.intro ?_ ?_) <;> (conv => whnf)) | ((refine ArgLe.free ?_ rfl); (repeat' (first | exact SV.Le.rfl _ | exact SV.Le.nil | exact SV.Le.sl (fun i hi => by (rcases i with _ | _ | _ | _ | i) <;> first | rfl | (exfalso; omega)) | with_reducible refine SV.Le.agg ?_ | exact Les.nil | with_reducible refine Les.cons ?_ ?_)))))); (case hd => exact rfl); (case hlive => exact rfl); (case hkeys => exact rfl); (case hlt => exact rfl); (conv => whnf))
    | ((apply CallStop.fn5 (h := S10)); (case hh => ((conv => whnf); repeat' (first | exact trivial | exact ArgLe.rfl rfl | exact ArgLe.ptr rfl | exact ArgLe.sl5 | exact ArgLe.sl rfl | exact ⟨rfl, rfl, rfl⟩ | exact ⟨rfl, Nat.le_of_ble_eq_true rfl⟩ | exact dir_arg4 | exact dir_argR4 (fun l hl => by rcases l with _ | _ | _ | _ | l <;> first | rfl | omega) | exact fun i hi => rfl | ((with_reducible refine And.intro ?_ ?_) <;> (conv => whnf))))); (case ha => ((conv => whnf); repeat' (first | exact trivial | exact ArgLe.rfl rfl | exact ArgLe.ptr rfl | exact ArgLe.sl rfl | ((with_reducible refine ArgLe.fn ?_); (conv => whnf)) | ((refine ArgLe.iref ?_); (conv => whnf)) | exact ArgLe.free SV.Le.nil rfl | ((with_reducible refine And.intro ?_ ?_) <;> (conv => whnf)) | ((refine ArgLe.free ?_ rfl); (repeat' (first | exact SV.Le.rfl _ | exact SV.Le.nil | exact SV.Le.sl (fun i hi => by (rcases i with _ | _ | _ | _ | i) <;> first | rfl | (exfalso; omega)) | with_reducible refine SV.Le.agg ?_ | exact Les.nil | with_reducible refine Les.cons ?_ ?_)))))); (case hd => exact rfl); (case hlive => exact rfl); (case hkeys => exact rfl); (case hlt => exact rfl); (conv => whnf))
    | ((apply CallStop.fn5 (h := S11)); (case hh => ((conv => whnf); repeat' (first | exact trivial | exact ArgLe.rfl rfl | exact ArgLe.ptr rfl | exact ArgLe.sl5 | exact ArgLe.sl rfl | exact ⟨rfl, rfl, rfl⟩ | exact ⟨rfl, Nat.le_of_ble_eq_true rfl⟩ | exact dir_arg4 | exact dir_argR4 (fun l hl => by rcases l with _ | _ | _ | _ | l <;> first | rfl | omega) | exact fun i hi => rfl | ((with_reducible refine And.intro ?_ ?_) <;> (conv => whnf))))); (case ha => ((conv => whnf); repeat' (first | exact trivial | exact ArgLe.rfl rfl | exact ArgLe.ptr rfl | exact ArgLe.sl rfl | ((with_reducible refine ArgLe.fn ?_); (conv => whnf)) | ((refine ArgLe.iref ?_); (conv => whnf)) | exact ArgLe.free SV.Le.nil rfl | ((with_reducible refine And.intro ?_ ?_) <;> (conv => whnf)) | ((refine ArgLe.free ?_ rfl); (repeat' (first | exact SV.Le.rfl _ | exact SV.Le.nil | exact SV.Le.sl (fun i hi => by (rcases i with _ | _ | _ | _ | i) <;> first | rfl | (exfalso; omega)) | with_reducible refine SV.Le.agg ?_ | exact Les.nil | with_reducible refine Les.cons ?_ ?_)))))); (case hd => exact rfl); (case hlive => exact rfl); (case hkeys => exact rfl); (case hlt => exact rfl); (conv => whnf))
    | ((apply CallStop.fn5 (h := S12)); (case hh => ((conv => whnf); repeat' (first | exact trivial | exact ArgLe.rfl rfl | exact ArgLe.ptr rfl | exact ArgLe.sl5 | exact ArgLe.sl rfl | exact ⟨rfl, rfl, rfl⟩ | exact ⟨rfl, Nat.le_of_ble_eq_true rfl⟩ | exact dir_arg4 | exact dir_argR4 (fun l hl => by rcases l with _ | _ | _ | _ | l <;> first | rfl | omega) | exact fun i hi => rfl | ((with_reducible refine And.intro ?_ ?_) <;> (conv => whnf))))); (case ha => ((conv => whnf); repeat' (first | exact trivial | exact ArgLe.rfl rfl | exact ArgLe.ptr rfl | exact ArgLe.sl rfl | ((with_reducible refine ArgLe.fn ?_); (conv => whnf)) | ((refine ArgLe.iref ?_); (conv => whnf)) | exact ArgLe.free SV.Le.nil rfl | ((with_reducible refine And.intro ?_ ?_) <;> (conv => whnf)) | ((refine ArgLe.free ?_ rfl); (repeat' (first | exact SV.Le.rfl _ | exact SV.Le.nil | exact SV.Le.sl (fun i hi => by (rcases i with _ | _ | _ | _ | i) <;> first | rfl | (exfalso; omega)) | with_reducible refine SV.Le.agg ?_ | exact Les.nil | with_reducible refine Les.cons ?_ ?_)))))); (case hd => exact rfl); (case hlive => exact rfl); (case hkeys => exact rfl); (case hlt => exact rfl); (conv => whnf))
    | ((apply CallStop.fn5 (h := S13)); (case hh => ((conv => whnf); repeat' (first | exact trivial | exact ArgLe.rfl rfl | exact ArgLe.ptr rfl | exact ArgLe.sl5 | exact ArgLe.sl rfl | exact ⟨rfl, rfl, rfl⟩ | exact ⟨rfl, Nat.le_of_ble_eq_true rfl⟩ | exact dir_arg4 | exact dir_argR4 (fun l hl => by rcases l with _ | _ | _ | _ | l <;> first | rfl | omega) | exact fun i hi => rfl | ((with_reducible refine And.intro ?_ ?_) <;> (conv => whnf))))); (case ha => ((conv => whnf); repeat' (first | exact trivial | exact ArgLe.rfl rfl | exact ArgLe.ptr rfl | exact ArgLe.sl rfl | ((with_reducible refine ArgLe.fn ?_); (conv => whnf)) | ((refine ArgLe.iref ?_); (conv => whnf)) | exact ArgLe.free SV.Le.nil rfl | ((with_reducible refine And.intro ?_ ?_) <;> (conv => whnf)) | ((refine ArgLe.free ?_ rfl); (repeat' (first | exact SV.Le.rfl _ | exact SV.Le.nil | exact SV.Le.sl (fun i hi => by (rcases i with _ | _ | _ | _ | i) <;> first | rfl | (exfalso; omega)) | with_reducible refine SV.Le.agg ?_ | exact Les.nil | with_reducible refine Les.cons ?_ ?_)))))); (case hd => exact rfl); (case hlive => exact rfl); (case hkeys => exact rfl); (case hlt => exact rfl); (conv => whnf))
    | ((apply CallStop.fn5 (h := S14)); (case hh => ((conv => whnf); repeat' (first | exact trivial | exact ArgLe.rfl rfl | exact ArgLe.ptr rfl | exact ArgLe.sl5 | exact ArgLe.sl rfl | exact ⟨rfl, rfl, rfl⟩ | exact ⟨rfl, Nat.le_of_ble_eq_true rfl⟩ | exact dir_arg4 | exact dir_argR4 (fun l hl => by rcases l with _ | _ | _ | _ | l <;> first | rfl | omega) | exact fun i hi => rfl | ((with_reducible refine And.intro ?_ ?_) <;> (conv => whnf))))); (case ha => ((conv => whnf); repeat' (first | exact trivial | exact ArgLe.rfl rfl | exact ArgLe.ptr rfl | exact ArgLe.sl rfl | ((with_reducible refine ArgLe.fn ?_); (conv => whnf)) | ((refine ArgLe.iref ?_); (conv => whnf)) | exact ArgLe.free SV.Le.nil rfl | ((with_reducible refine And.intro ?_ ?_) <;> (conv => whnf)) | ((refine ArgLe.free ?_ rfl); (repeat' (first | exact SV.Le.rfl _ | exact SV.Le.nil | exact SV.Le.sl (fun i hi => by (rcases i with _ | _ | _ | _ | i) <;> first | rfl | (exfalso; omega)) | with_reducible refine SV.Le.agg ?_ | exact Les.nil | with_reducible refine Les.cons ?_ ?_)))))); (case hd => exact rfl); (case hlive => exact rfl); (case hkeys => exact rfl); (case hlt => exact rfl); (conv => whnf))
    | ((apply CallStop.fn5 (h := S15)); (case hh => ((conv => whnf); repeat' (first | exact trivial | exact ArgLe.rfl rfl | exact ArgLe.ptr rfl | exact ArgLe.sl5 | exact ArgLe.sl rfl | exact ⟨rfl, rfl, rfl⟩ | exact ⟨rfl, Nat.le_of_ble_eq_true rfl⟩ | exact dir_arg4 | exact dir_argR4 (fun l hl => by rcases l with _ | _ | _ | _ | l <;> first | rfl | omega) | exact fun i hi => rfl | ((with_reducible refine And.intro ?_ ?_) <;> (conv => whnf))))); (case ha => ((conv => whnf); repeat' (first | exact trivial | exact ArgLe.rfl rfl | exact ArgLe.ptr rfl | exact ArgLe.sl rfl | ((with_reducible refine ArgLe.fn ?_); (conv => whnf)) | ((refine ArgLe.iref ?_); (conv => whnf)) | exact ArgLe.free SV.Le.nil rfl | ((with_reducible refine And.intro ?_ ?_) <;> (conv => whnf)) | ((refine ArgLe.free ?_ rfl); (repeat' (first | exact SV.Le.rfl _ | exact SV.Le.nil | exact SV.Le.sl (fun i hi => by (rcases i with _ | _ | _ | _ | i) <;> first | rfl | (exfalso; omega)) | with_reducible refine SV.Le.agg ?_ | exact Les.nil | with_reducible refine Les.cons ?_ ?_)))))); (case hd => exact rfl); (case hlive => exact rfl); (case hkeys => exact rfl); (case hlt => exact rfl); (conv => whnf))
    | ((apply CallStop.fn5 (h := S16)); (case hh => ((conv => whnf); repeat' (first | exact trivial | exact ArgLe.rfl rfl | exact ArgLe.ptr rfl | exact ArgLe.sl5 | exact ArgLe.sl rfl | exact ⟨rfl, rfl, rfl⟩ | exact ⟨rfl, Nat.le_of_ble_eq_true rfl⟩ | exact dir_arg4 | exact dir_argR4 (fun l hl => by rcases l with _ | _ | _ | _ | l <;> first | rfl | omega) | exact fun i hi => rfl | ((with_reducible refine And.intro ?_ ?_) <;> (conv => whnf))))); (case ha => ((conv => whnf); repeat' (first | exact trivial | exact ArgLe.rfl rfl | exact ArgLe.ptr rfl | exact ArgLe.sl rfl | ((with_reducible refine ArgLe.fn ?_); (conv => whnf)) | ((refine ArgLe.iref ?_); (conv => whnf)) | exact ArgLe.free SV.Le.nil rfl | ((with_reducible refine And.intro ?_ ?_) <;> (conv => whnf)) | ((refine ArgLe.free ?_ rfl); (repeat' (first | exact SV.Le.rfl _ | exact SV.Le.nil | exact SV.Le.sl (fun i hi => by (rcases i with _ | _ | _ | _ | i) <;> first | rfl | (exfalso; omega)) | with_reducible refine SV.Le.agg ?_ | exact Les.nil | with_reducible refine Les.cons ?_ ?_)))))); (case hd => exact rfl); (case hlive => exact rfl); (case hkeys => exact rfl); (case hlt => exact rfl); (conv => whnf))
    | ((apply CallStop.fn5 (h := S17)); (case hh => ((conv => whnf); repeat' (first | exact trivial | exact ArgLe.rfl rfl | exact ArgLe.ptr rfl | exact ArgLe.sl5 | exact ArgLe.sl rfl | exact ⟨rfl, rfl, rfl⟩ | exact ⟨rfl, Nat.le_of_ble_eq_true rfl⟩ | exact dir_arg4 | exact dir_argR4 (fun l hl => by rcases l with _ | _ | _ | _ | l <;> first | rfl | omega) | exact fun i hi => rfl | ((with_reducible refine And.intro ?_ ?_) <;> (conv => whnf))))); (case ha => ((conv => whnf); repeat' (first | exact trivial | exact ArgLe.rfl rfl | exact ArgLe.ptr rfl | exact ArgLe.sl rfl | ((with_reducible refine ArgLe.fn ?_); (conv => whnf)) | ((refine ArgLe.iref ?_); (conv => whnf)) | exact ArgLe.free SV.Le.nil rfl | ((with_reducible refine And.intro ?_ ?_) <;> (conv => whnf)) | ((refine ArgLe.free ?_ rfl); (repeat' (first | exact SV.Le.rfl _ | exact SV.Le.nil | exact SV.Le.sl (fun i hi => by (rcases i with _ | _ | _ | _ | i) <;> first | rfl | (exfalso; omega)) | with_reducible refine SV.Le.agg ?_ | exact Les.nil | with_reducible refine Les.cons ?_ ?_)))))); (case hd => exact rfl); (case hlive => exact rfl); (case hkeys => exact rfl); (case hlt => exact rfl); (conv => whnf))
    | ((apply CallStop.fn5 (h := SL)); (case hh => ((conv => whnf); repeat' (first | exact trivial | exact ArgLe.rfl rfl | exact ArgLe.ptr rfl | exact ArgLe.sl5 | exact ArgLe.sl rfl | exact ⟨rfl, rfl, rfl⟩ | exact ⟨rfl, Nat.le_of_ble_eq_true rfl⟩ | exact dir_arg4 | exact dir_argR4 (fun l hl => by rcases l with _ | _ | _ | _ | l <;> first | rfl | omega) | exact fun i hi => rfl | ((with_reducible refine And.intro ?_ ?_) <;> (conv => whnf))))); (case ha => ((conv => whnf); repeat' (first | exact trivial | exact ArgLe.rfl rfl | exact ArgLe.ptr rfl | exact ArgLe.sl rfl | ((with_reducible refine ArgLe.fn ?_); (conv => whnf)) | ((refine ArgLe.iref ?_); (conv => whnf)) | exact ArgLe.free SV.Le.nil rfl | ((with_reducible refine And.intro ?_ ?_) <;> (conv => whnf)) | ((refine ArgLe.free ?_ rfl); (repeat' (first | exact SV.Le.rfl _ | exact SV.Le.nil | exact SV.Le.sl (fun i hi => by (rcases i with _ | _ | _ | _ | i) <;> first | rfl | (exfalso; omega)) | with_reducible refine SV.Le.agg ?_ | exact Les.nil | with_reducible refine Les.cons ?_ ?_)))))); (case hd => exact rfl); (case hlive => exact rfl); (case hkeys => exact rfl); (case hlt => exact rfl); (conv => whnf))
    | ((apply CallStop.fn5 (h := ST)); (case hh => ((conv => whnf); repeat' (first | exact trivial | exact ArgLe.rfl rfl | exact ArgLe.ptr rfl | exact ArgLe.sl5 | exact ArgLe.sl rfl | exact ⟨rfl, rfl, rfl⟩ | exact ⟨rfl, Nat.le_of_ble_eq_true rfl⟩ | exact dir_arg4 | exact dir_argR4 (fun l hl => by rcases l with _ | _ | _ | _ | l <;> first | rfl | omega) | exact fun i hi => rfl | ((with_reducible refine And.intro ?_ ?_) <;> (conv => whnf))))); (case ha => ((conv => whnf); repeat' (first | exact trivial | exact ArgLe.rfl rfl | exact ArgLe.ptr rfl | exact ArgLe.sl rfl | ((with_reducible refine ArgLe.fn ?_); (conv => whnf)) | ((refine ArgLe.iref ?_); (conv => whnf)) | exact ArgLe.free SV.Le.nil rfl | ((with_reducible refine And.intro ?_ ?_) <;> (conv => whnf)) | ((refine ArgLe.free ?_ rfl); (repeat' (first | exact SV.Le.rfl _ | exact SV.Le.nil | exact SV.Le.sl (fun i hi => by (rcases i with _ | _ | _ | _ | i) <;> first | rfl | (exfalso; omega)) | with_reducible refine SV.Le.agg ?_ | exact Les.nil | with_reducible refine Les.cons ?_ ?_)))))); (case hd => exact rfl); (case hlive => exact rfl); (case hkeys => exact rfl); (case hlt => exact rfl); (conv => whnf))
    | ((refine ways (fun hc => ?_) (fun hc => ?_)) <;> (try simp only [decide_eq_true_eq, decide_eq_false_iff_not, Bool.and_eq_true, Bool.or_eq_true, Bool.and_eq_false_iff, Bool.or_eq_false_iff, Bool.not_eq_true', Bool.not_eq_false', beq_iff_eq, bne_iff_ne, ne_eq, beq_eq_false_iff_ne, bne_eq_false_iff_eq, Bool.not_eq_true, Bool.not_eq_false] at hc) <;> (try (exfalso; omega)) <;> (conv => whnf))))
  exact .b (by decide)
end Go.Proofs.YtbdclkjelhlfbaaGreat

namespace Go.Proofs.YtbdclkjelhlfbaaGreat
open Go.RowKit
set_option maxRecDepth 100000
abbrev nilP : SV := .d (.val (.pointer none))
theorem r1_Twin (a : List Int) (hl : a.length ≤ 140737488355328) : Pure TC 33 [.d (slOf 1 (encI .u8) a)] (.d (slOf 1 (encI .u8) a)) := by
  refine Pure.mk' Tryz.func33 rfl rfl (Nat.le_of_ble_eq_true rfl) ?_
  (repeat' (first
    | with_reducible refine Wp.seq ?_
    | with_reducible refine Wp.block ?_
    | ((with_reducible refine Wp.region ?_); conv => whnf)
    | ((with_reducible refine Wp.drawL TC_mixed ?_); conv => whnf)
    | ((with_reducible refine Wp.cond ?_); conv => whnf)
    | ((with_reducible refine Wp.ret ?_); conv => whnf)
    | ((with_reducible refine Wp.skip ?_); conv => whnf)
    | ((with_reducible refine Wp.exit ?_); conv => whnf)
    | ((with_reducible refine Go.mk ?_); conv => whnf)
    | ((with_reducible apply Eff1.of); conv => whnf)
    | with_reducible exact rfl
    | ((with_reducible refine Ov.ok (by first | exact IntWalk.i64_in _ (by omega) | exact IntWalk.u64_in _ (by omega) | exact IntWalk.u8_in _ (by omega) | exact IntWalk.u32_in _ (by omega) | exact IntWalk.i32_in _ (by omega) | exact IntWalk.u16_in _ (by omega)) ?_); conv => whnf)
    | (with_reducible refine Ov.sh1 (by with_unfolding_all exact rfl) ?_)
    | ((with_reducible refine Ov.quo (by omega) (by omega) (by omega) (fun _ _ => ?_)); conv => whnf)
    | ((with_reducible refine And.intro (show drawOK _ _ _ _ = true by kernel_rfl) ?_); conv => whnf)
    | ((with_reducible refine And.intro (by first | omega | exact Nat.le_of_ble_eq_true rfl) ?_); conv => whnf)
    | ((with_reducible refine And.intro ?hb ?_); (case hb => exact bytes_bd (Nat.le_of_ble_eq_true rfl) (by omega)); (conv => whnf))
    | ((refine DApp.a rfl rfl rfl rfl rfl rfl ?hb ?_); (case hb => first | exact bytes_bd (Nat.le_of_ble_eq_true rfl) (by omega) | omega); (conv => whnf))
    | ((refine DApp.b rfl rfl rfl rfl rfl rfl rfl rfl ?hb ?ho ?_); (case hb => first | exact bytes_bd (Nat.le_of_ble_eq_true rfl) (by omega) | omega); (case ho => omega); (conv => whnf))
    | ((refine DApp.c rfl rfl rfl rfl rfl ?hb ?_); (case hb => first | exact bytes_bd (Nat.le_of_ble_eq_true rfl) (by omega) | omega); (conv => whnf))
    | ((refine DApp.d rfl rfl rfl rfl rfl rfl ?hb ?ho ?_); (case hb => first | exact bytes_bd (Nat.le_of_ble_eq_true rfl) (by omega) | omega); (case ho => omega); (conv => whnf))
    | ((with_reducible refine nil_no (by omega) ?_); (conv => whnf))
    | ((with_reducible refine nil_any ?_ (fun hn0 => ?_)) <;> (conv => whnf))
    | ((with_reducible refine And.intro ?hb ?_); (case hb => (show (0 + a.length) * 1 ≤ 140737488355328; omega)); (conv => whnf))
    | ((refine ways (fun hc => ?_) (fun hc => ?_)) <;> (try simp only [decide_eq_true_eq, decide_eq_false_iff_not, Bool.and_eq_true, Bool.or_eq_true, Bool.and_eq_false_iff, Bool.or_eq_false_iff, Bool.not_eq_true', Bool.not_eq_false', beq_iff_eq, bne_iff_ne, ne_eq, beq_eq_false_iff_ne, bne_eq_false_iff_eq, Bool.not_eq_true, Bool.not_eq_false] at hc) <;> (try (exfalso; omega)) <;> (conv => whnf))))
  refine SV.Le.sl' (Nat.zero_add _) fun i hi => ?_
  rw [Nat.zero_add]
  unfold catF
  rw [if_neg (by omega)]
  rfl
def rightE (who op : Int) (key : List Int) (v : Int) : Int :=
  if who < 0 ∨ 63 < who ∨ op < 1 ∨ 4 < op ∨ (op = 2 ∧ tickB v = false) then 1 else if op ≠ 4 ∧ 256 < (key.length : Int) then 2 else 0
def startE (who op : Int) (key : List Int) (v : Int) : Int := if rightE who op key v = 0 then 7 else rightE who op key v
def stepE (who : Int) : Int := if who < 0 ∨ 63 < who then 1 else 7
theorem r15_Right (who op : Int) (key : List Int) (v : Int) (h0 : 0 ≤ op) (h1 : op ≤ 255) : Pure TC 53 [.i .i64 who, .i .u8 op, .d (slOf 1 (encI .u8) key), .i .i64 v] (.i .i64 (rightE who op key v)) := by
  refine Pure.mk' Tryz.func53 rfl rfl (Nat.le_of_ble_eq_true rfl) ?_
  cases ht : tickB v
  all_goals
    have hF := r1_Form v
    rw [ht] at hF
    (repeat' (first
    | with_reducible refine Wp.seq ?_
    | with_reducible refine Wp.block ?_
    | ((with_reducible refine Wp.region ?_); conv => whnf)
    | ((with_reducible refine Wp.drawL TC_mixed ?_); conv => whnf)
    | ((with_reducible refine Wp.cond ?_); conv => whnf)
    | ((with_reducible refine Wp.ret ?_); conv => whnf)
    | ((with_reducible refine Wp.skip ?_); conv => whnf)
    | ((with_reducible refine Wp.exit ?_); conv => whnf)
    | ((with_reducible refine Go.mk ?_); conv => whnf)
    | ((with_reducible apply Eff1.of); conv => whnf)
    | with_reducible exact rfl
    | ((with_reducible refine Ov.ok (by first | exact IntWalk.i64_in _ (by omega) | exact IntWalk.u64_in _ (by omega) | exact IntWalk.u8_in _ (by omega) | exact IntWalk.u32_in _ (by omega) | exact IntWalk.i32_in _ (by omega) | exact IntWalk.u16_in _ (by omega)) ?_); conv => whnf)
    | (with_reducible refine Ov.sh1 (by with_unfolding_all exact rfl) ?_)
    | ((with_reducible refine Ov.quo (by omega) (by omega) (by omega) (fun _ _ => ?_)); conv => whnf)
    | ((with_reducible refine And.intro (show drawOK _ _ _ _ = true by kernel_rfl) ?_); conv => whnf)
    | ((with_reducible refine And.intro (by first | omega | exact Nat.le_of_ble_eq_true rfl) ?_); conv => whnf)
    | ((with_reducible refine And.intro ?hb ?_); (case hb => exact bytes_bd (Nat.le_of_ble_eq_true rfl) (by omega)); (conv => whnf))
    | ((refine DApp.a rfl rfl rfl rfl rfl rfl ?hb ?_); (case hb => first | exact bytes_bd (Nat.le_of_ble_eq_true rfl) (by omega) | omega); (conv => whnf))
    | ((refine DApp.b rfl rfl rfl rfl rfl rfl rfl rfl ?hb ?ho ?_); (case hb => first | exact bytes_bd (Nat.le_of_ble_eq_true rfl) (by omega) | omega); (case ho => omega); (conv => whnf))
    | ((refine DApp.c rfl rfl rfl rfl rfl ?hb ?_); (case hb => first | exact bytes_bd (Nat.le_of_ble_eq_true rfl) (by omega) | omega); (conv => whnf))
    | ((refine DApp.d rfl rfl rfl rfl rfl rfl ?hb ?ho ?_); (case hb => first | exact bytes_bd (Nat.le_of_ble_eq_true rfl) (by omega) | omega); (case ho => omega); (conv => whnf))
    | ((with_reducible refine nil_no (by omega) ?_); (conv => whnf))
    | ((with_reducible refine nil_any ?_ (fun hn0 => ?_)) <;> (conv => whnf))
    | ((with_reducible refine CallStop.pure (hF) rfl rfl ?_); conv => whnf) | ((with_reducible refine DCall.pure (hF) rfl rfl ?_); conv => whnf)
    | ((refine ways (fun hc => ?_) (fun hc => ?_)) <;> (try simp only [decide_eq_true_eq, decide_eq_false_iff_not, Bool.and_eq_true, Bool.or_eq_true, Bool.and_eq_false_iff, Bool.or_eq_false_iff, Bool.not_eq_true', Bool.not_eq_false', beq_iff_eq, bne_iff_ne, ne_eq, beq_eq_false_iff_ne, bne_eq_false_iff_eq, Bool.not_eq_true, Bool.not_eq_false] at hc) <;> (try (exfalso; omega)) <;> (conv => whnf))))
    all_goals exact .i (by simp only [rightE, ht]; simp; omega)
theorem r15_Start (who op : Int) (key : List Int) (v : Int) (h0 : 0 ≤ op) (h1 : op ≤ 255) : Pure TC 19 [nilP, .i .i64 who, .i .u8 op, .d (slOf 1 (encI .u8) key), .i .i64 v] (.i .i64 (startE who op key v)) := by
  refine Pure.mk' Tryz.func19 rfl rfl (Nat.le_of_ble_eq_true rfl) ?_
  (repeat' (first
    | with_reducible refine Wp.seq ?_
    | with_reducible refine Wp.block ?_
    | ((with_reducible refine Wp.region ?_); conv => whnf)
    | ((with_reducible refine Wp.drawL TC_mixed ?_); conv => whnf)
    | ((with_reducible refine Wp.cond ?_); conv => whnf)
    | ((with_reducible refine Wp.ret ?_); conv => whnf)
    | ((with_reducible refine Wp.skip ?_); conv => whnf)
    | ((with_reducible refine Wp.exit ?_); conv => whnf)
    | ((with_reducible refine Go.mk ?_); conv => whnf)
    | ((with_reducible apply Eff1.of); conv => whnf)
    | with_reducible exact rfl
    | ((with_reducible refine Ov.ok (by first | exact IntWalk.i64_in _ (by omega) | exact IntWalk.u64_in _ (by omega) | exact IntWalk.u8_in _ (by omega) | exact IntWalk.u32_in _ (by omega) | exact IntWalk.i32_in _ (by omega) | exact IntWalk.u16_in _ (by omega)) ?_); conv => whnf)
    | (with_reducible refine Ov.sh1 (by with_unfolding_all exact rfl) ?_)
    | ((with_reducible refine Ov.quo (by omega) (by omega) (by omega) (fun _ _ => ?_)); conv => whnf)
    | ((with_reducible refine And.intro (show drawOK _ _ _ _ = true by kernel_rfl) ?_); conv => whnf)
    | ((with_reducible refine And.intro (by first | omega | exact Nat.le_of_ble_eq_true rfl) ?_); conv => whnf)
    | ((with_reducible refine And.intro ?hb ?_); (case hb => exact bytes_bd (Nat.le_of_ble_eq_true rfl) (by omega)); (conv => whnf))
    | ((refine DApp.a rfl rfl rfl rfl rfl rfl ?hb ?_); (case hb => first | exact bytes_bd (Nat.le_of_ble_eq_true rfl) (by omega) | omega); (conv => whnf))
    | ((refine DApp.b rfl rfl rfl rfl rfl rfl rfl rfl ?hb ?ho ?_); (case hb => first | exact bytes_bd (Nat.le_of_ble_eq_true rfl) (by omega) | omega); (case ho => omega); (conv => whnf))
    | ((refine DApp.c rfl rfl rfl rfl rfl ?hb ?_); (case hb => first | exact bytes_bd (Nat.le_of_ble_eq_true rfl) (by omega) | omega); (conv => whnf))
    | ((refine DApp.d rfl rfl rfl rfl rfl rfl ?hb ?ho ?_); (case hb => first | exact bytes_bd (Nat.le_of_ble_eq_true rfl) (by omega) | omega); (case ho => omega); (conv => whnf))
    | ((with_reducible refine nil_no (by omega) ?_); (conv => whnf))
    | ((with_reducible refine nil_any ?_ (fun hn0 => ?_)) <;> (conv => whnf))
    | ((with_reducible refine CallStop.pure (r15_Right who op key v h0 h1) rfl rfl ?_); conv => whnf) | ((with_reducible refine DCall.pure (r15_Right who op key v h0 h1) rfl rfl ?_); conv => whnf)
    | ((refine ways (fun hc => ?_) (fun hc => ?_)) <;> (try simp only [decide_eq_true_eq, decide_eq_false_iff_not, Bool.and_eq_true, Bool.or_eq_true, Bool.and_eq_false_iff, Bool.or_eq_false_iff, Bool.not_eq_true', Bool.not_eq_false', beq_iff_eq, bne_iff_ne, ne_eq, beq_eq_false_iff_ne, bne_eq_false_iff_eq, Bool.not_eq_true, Bool.not_eq_false] at hc) <;> (try (exfalso; omega)) <;> (conv => whnf))))
  all_goals exact .i (by simp [startE, *])
theorem r15_Step (who : Int) : Pure TC 22 [nilP, .i .i64 who] (.tup [.agg [.b false, .i .i64 0, .i .i64 0], .i .i64 (stepE who)]) := by
  refine Pure.mk' Tryz.func22 rfl rfl (Nat.le_of_ble_eq_true rfl) ?_
  (repeat' (first
    | with_reducible refine Wp.seq ?_
    | with_reducible refine Wp.block ?_
    | ((with_reducible refine Wp.region ?_); conv => whnf)
    | ((with_reducible refine Wp.drawL TC_mixed ?_); conv => whnf)
    | ((with_reducible refine Wp.cond ?_); conv => whnf)
    | ((with_reducible refine Wp.ret ?_); conv => whnf)
    | ((with_reducible refine Wp.skip ?_); conv => whnf)
    | ((with_reducible refine Wp.exit ?_); conv => whnf)
    | ((with_reducible refine Go.mk ?_); conv => whnf)
    | ((with_reducible apply Eff1.of); conv => whnf)
    | with_reducible exact rfl
    | ((with_reducible refine Ov.ok (by first | exact IntWalk.i64_in _ (by omega) | exact IntWalk.u64_in _ (by omega) | exact IntWalk.u8_in _ (by omega) | exact IntWalk.u32_in _ (by omega) | exact IntWalk.i32_in _ (by omega) | exact IntWalk.u16_in _ (by omega)) ?_); conv => whnf)
    | (with_reducible refine Ov.sh1 (by with_unfolding_all exact rfl) ?_)
    | ((with_reducible refine Ov.quo (by omega) (by omega) (by omega) (fun _ _ => ?_)); conv => whnf)
    | ((with_reducible refine And.intro (show drawOK _ _ _ _ = true by kernel_rfl) ?_); conv => whnf)
    | ((with_reducible refine And.intro (by first | omega | exact Nat.le_of_ble_eq_true rfl) ?_); conv => whnf)
    | ((with_reducible refine And.intro ?hb ?_); (case hb => exact bytes_bd (Nat.le_of_ble_eq_true rfl) (by omega)); (conv => whnf))
    | ((refine DApp.a rfl rfl rfl rfl rfl rfl ?hb ?_); (case hb => first | exact bytes_bd (Nat.le_of_ble_eq_true rfl) (by omega) | omega); (conv => whnf))
    | ((refine DApp.b rfl rfl rfl rfl rfl rfl rfl rfl ?hb ?ho ?_); (case hb => first | exact bytes_bd (Nat.le_of_ble_eq_true rfl) (by omega) | omega); (case ho => omega); (conv => whnf))
    | ((refine DApp.c rfl rfl rfl rfl rfl ?hb ?_); (case hb => first | exact bytes_bd (Nat.le_of_ble_eq_true rfl) (by omega) | omega); (conv => whnf))
    | ((refine DApp.d rfl rfl rfl rfl rfl rfl ?hb ?ho ?_); (case hb => first | exact bytes_bd (Nat.le_of_ble_eq_true rfl) (by omega) | omega); (case ho => omega); (conv => whnf))
    | ((with_reducible refine nil_no (by omega) ?_); (conv => whnf))
    | ((with_reducible refine nil_any ?_ (fun hn0 => ?_)) <;> (conv => whnf))
    
    | ((refine ways (fun hc => ?_) (fun hc => ?_)) <;> (try simp only [decide_eq_true_eq, decide_eq_false_iff_not, Bool.and_eq_true, Bool.or_eq_true, Bool.and_eq_false_iff, Bool.or_eq_false_iff, Bool.not_eq_true', Bool.not_eq_false', beq_iff_eq, bne_iff_ne, ne_eq, beq_eq_false_iff_ne, bne_eq_false_iff_eq, Bool.not_eq_true, Bool.not_eq_false] at hc) <;> (try (exfalso; omega)) <;> (conv => whnf))))
  all_goals exact .tup (.cons (.rfl _) (.cons (.i (by unfold stepE; split <;> omega)) .nil))
theorem dirN_Start (who op : Int) (key : List Int) (v : Int) (h0 : 0 ≤ op) (h1 : op ≤ 255) : Pure TC 18 [nilP, .i .i64 who, .i .u8 op, .d (slOf 1 (encI .u8) key), .i .i64 v] (.i .i64 (startE who op key v)) := by
  refine Pure.mk' Tryz.func18 rfl rfl (Nat.le_of_ble_eq_true rfl) ?_
  cases ht : tickB v
  all_goals
    have hF := tick_Form v
    rw [ht] at hF
    (repeat' (first
    | with_reducible refine Wp.seq ?_
    | with_reducible refine Wp.block ?_
    | ((with_reducible refine Wp.region ?_); conv => whnf)
    | ((with_reducible refine Wp.drawL TC_mixed ?_); conv => whnf)
    | ((with_reducible refine Wp.cond ?_); conv => whnf)
    | ((with_reducible refine Wp.ret ?_); conv => whnf)
    | ((with_reducible refine Wp.skip ?_); conv => whnf)
    | ((with_reducible refine Wp.exit ?_); conv => whnf)
    | ((with_reducible refine Go.mk ?_); conv => whnf)
    | ((with_reducible apply Eff1.of); conv => whnf)
    | with_reducible exact rfl
    | ((with_reducible refine Ov.ok (by first | exact IntWalk.i64_in _ (by omega) | exact IntWalk.u64_in _ (by omega) | exact IntWalk.u8_in _ (by omega) | exact IntWalk.u32_in _ (by omega) | exact IntWalk.i32_in _ (by omega) | exact IntWalk.u16_in _ (by omega)) ?_); conv => whnf)
    | (with_reducible refine Ov.sh1 (by with_unfolding_all exact rfl) ?_)
    | ((with_reducible refine Ov.quo (by omega) (by omega) (by omega) (fun _ _ => ?_)); conv => whnf)
    | ((with_reducible refine And.intro (show drawOK _ _ _ _ = true by kernel_rfl) ?_); conv => whnf)
    | ((with_reducible refine And.intro (by first | omega | exact Nat.le_of_ble_eq_true rfl) ?_); conv => whnf)
    | ((with_reducible refine And.intro ?hb ?_); (case hb => exact bytes_bd (Nat.le_of_ble_eq_true rfl) (by omega)); (conv => whnf))
    | ((refine DApp.a rfl rfl rfl rfl rfl rfl ?hb ?_); (case hb => first | exact bytes_bd (Nat.le_of_ble_eq_true rfl) (by omega) | omega); (conv => whnf))
    | ((refine DApp.b rfl rfl rfl rfl rfl rfl rfl rfl ?hb ?ho ?_); (case hb => first | exact bytes_bd (Nat.le_of_ble_eq_true rfl) (by omega) | omega); (case ho => omega); (conv => whnf))
    | ((refine DApp.c rfl rfl rfl rfl rfl ?hb ?_); (case hb => first | exact bytes_bd (Nat.le_of_ble_eq_true rfl) (by omega) | omega); (conv => whnf))
    | ((refine DApp.d rfl rfl rfl rfl rfl rfl ?hb ?ho ?_); (case hb => first | exact bytes_bd (Nat.le_of_ble_eq_true rfl) (by omega) | omega); (case ho => omega); (conv => whnf))
    | ((with_reducible refine nil_no (by omega) ?_); (conv => whnf))
    | ((with_reducible refine nil_any ?_ (fun hn0 => ?_)) <;> (conv => whnf))
    | ((with_reducible refine CallStop.pure (board_Is _) rfl rfl ?_); conv => whnf) | ((with_reducible refine DCall.pure (board_Is _) rfl rfl ?_); conv => whnf)
    | ((with_reducible refine CallStop.pure (hF) rfl rfl ?_); conv => whnf) | ((with_reducible refine DCall.pure (hF) rfl rfl ?_); conv => whnf)
    | ((refine ways (fun hc => ?_) (fun hc => ?_)) <;> (try simp only [decide_eq_true_eq, decide_eq_false_iff_not, Bool.and_eq_true, Bool.or_eq_true, Bool.and_eq_false_iff, Bool.or_eq_false_iff, Bool.not_eq_true', Bool.not_eq_false', beq_iff_eq, bne_iff_ne, ne_eq, beq_eq_false_iff_ne, bne_eq_false_iff_eq, Bool.not_eq_true, Bool.not_eq_false] at hc) <;> (try (exfalso; omega)) <;> (conv => whnf))))
    all_goals exact .i (by simp only [startE, rightE, ht]; (repeat' split) <;> first | omega | (simp at *; omega))
theorem dirN_Pending (who : Int) : Pure TC 26 [nilP, .i .i64 who] (.b false) := by
  refine Pure.mk' Tryz.func26 rfl rfl (Nat.le_of_ble_eq_true rfl) ?_
  (repeat' (first
    | with_reducible refine Wp.seq ?_
    | with_reducible refine Wp.block ?_
    | ((with_reducible refine Wp.region ?_); conv => whnf)
    | ((with_reducible refine Wp.drawL TC_mixed ?_); conv => whnf)
    | ((with_reducible refine Wp.cond ?_); conv => whnf)
    | ((with_reducible refine Wp.ret ?_); conv => whnf)
    | ((with_reducible refine Wp.skip ?_); conv => whnf)
    | ((with_reducible refine Wp.exit ?_); conv => whnf)
    | ((with_reducible refine Go.mk ?_); conv => whnf)
    | ((with_reducible apply Eff1.of); conv => whnf)
    | with_reducible exact rfl
    | ((with_reducible refine Ov.ok (by first | exact IntWalk.i64_in _ (by omega) | exact IntWalk.u64_in _ (by omega) | exact IntWalk.u8_in _ (by omega) | exact IntWalk.u32_in _ (by omega) | exact IntWalk.i32_in _ (by omega) | exact IntWalk.u16_in _ (by omega)) ?_); conv => whnf)
    | (with_reducible refine Ov.sh1 (by with_unfolding_all exact rfl) ?_)
    | ((with_reducible refine Ov.quo (by omega) (by omega) (by omega) (fun _ _ => ?_)); conv => whnf)
    | ((with_reducible refine And.intro (show drawOK _ _ _ _ = true by kernel_rfl) ?_); conv => whnf)
    | ((with_reducible refine And.intro (by first | omega | exact Nat.le_of_ble_eq_true rfl) ?_); conv => whnf)
    | ((with_reducible refine And.intro ?hb ?_); (case hb => exact bytes_bd (Nat.le_of_ble_eq_true rfl) (by omega)); (conv => whnf))
    | ((refine DApp.a rfl rfl rfl rfl rfl rfl ?hb ?_); (case hb => first | exact bytes_bd (Nat.le_of_ble_eq_true rfl) (by omega) | omega); (conv => whnf))
    | ((refine DApp.b rfl rfl rfl rfl rfl rfl rfl rfl ?hb ?ho ?_); (case hb => first | exact bytes_bd (Nat.le_of_ble_eq_true rfl) (by omega) | omega); (case ho => omega); (conv => whnf))
    | ((refine DApp.c rfl rfl rfl rfl rfl ?hb ?_); (case hb => first | exact bytes_bd (Nat.le_of_ble_eq_true rfl) (by omega) | omega); (conv => whnf))
    | ((refine DApp.d rfl rfl rfl rfl rfl rfl ?hb ?ho ?_); (case hb => first | exact bytes_bd (Nat.le_of_ble_eq_true rfl) (by omega) | omega); (case ho => omega); (conv => whnf))
    | ((with_reducible refine nil_no (by omega) ?_); (conv => whnf))
    | ((with_reducible refine nil_any ?_ (fun hn0 => ?_)) <;> (conv => whnf))
    | ((with_reducible refine CallStop.pure (board_Is _) rfl rfl ?_); conv => whnf) | ((with_reducible refine DCall.pure (board_Is _) rfl rfl ?_); conv => whnf)
    | ((refine ways (fun hc => ?_) (fun hc => ?_)) <;> (try simp only [decide_eq_true_eq, decide_eq_false_iff_not, Bool.and_eq_true, Bool.or_eq_true, Bool.and_eq_false_iff, Bool.or_eq_false_iff, Bool.not_eq_true', Bool.not_eq_false', beq_iff_eq, bne_iff_ne, ne_eq, beq_eq_false_iff_ne, bne_eq_false_iff_eq, Bool.not_eq_true, Bool.not_eq_false] at hc) <;> (try (exfalso; omega)) <;> (conv => whnf))))
  all_goals exact .b rfl
theorem dirN_Step (who : Int) : Pure TC 21 [nilP, .i .i64 who] (.tup [.agg [.b false, .i .i64 0, .i .i64 0], .i .i64 (stepE who)]) := by
  refine Pure.mk' Tryz.func21 rfl rfl (Nat.le_of_ble_eq_true rfl) ?_
  (repeat' (first
    | with_reducible refine Wp.seq ?_
    | with_reducible refine Wp.block ?_
    | ((with_reducible refine Wp.region ?_); conv => whnf)
    | ((with_reducible refine Wp.drawL TC_mixed ?_); conv => whnf)
    | ((with_reducible refine Wp.cond ?_); conv => whnf)
    | ((with_reducible refine Wp.ret ?_); conv => whnf)
    | ((with_reducible refine Wp.skip ?_); conv => whnf)
    | ((with_reducible refine Wp.exit ?_); conv => whnf)
    | ((with_reducible refine Go.mk ?_); conv => whnf)
    | ((with_reducible apply Eff1.of); conv => whnf)
    | with_reducible exact rfl
    | ((with_reducible refine Ov.ok (by first | exact IntWalk.i64_in _ (by omega) | exact IntWalk.u64_in _ (by omega) | exact IntWalk.u8_in _ (by omega) | exact IntWalk.u32_in _ (by omega) | exact IntWalk.i32_in _ (by omega) | exact IntWalk.u16_in _ (by omega)) ?_); conv => whnf)
    | (with_reducible refine Ov.sh1 (by with_unfolding_all exact rfl) ?_)
    | ((with_reducible refine Ov.quo (by omega) (by omega) (by omega) (fun _ _ => ?_)); conv => whnf)
    | ((with_reducible refine And.intro (show drawOK _ _ _ _ = true by kernel_rfl) ?_); conv => whnf)
    | ((with_reducible refine And.intro (by first | omega | exact Nat.le_of_ble_eq_true rfl) ?_); conv => whnf)
    | ((with_reducible refine And.intro ?hb ?_); (case hb => exact bytes_bd (Nat.le_of_ble_eq_true rfl) (by omega)); (conv => whnf))
    | ((refine DApp.a rfl rfl rfl rfl rfl rfl ?hb ?_); (case hb => first | exact bytes_bd (Nat.le_of_ble_eq_true rfl) (by omega) | omega); (conv => whnf))
    | ((refine DApp.b rfl rfl rfl rfl rfl rfl rfl rfl ?hb ?ho ?_); (case hb => first | exact bytes_bd (Nat.le_of_ble_eq_true rfl) (by omega) | omega); (case ho => omega); (conv => whnf))
    | ((refine DApp.c rfl rfl rfl rfl rfl ?hb ?_); (case hb => first | exact bytes_bd (Nat.le_of_ble_eq_true rfl) (by omega) | omega); (conv => whnf))
    | ((refine DApp.d rfl rfl rfl rfl rfl rfl ?hb ?ho ?_); (case hb => first | exact bytes_bd (Nat.le_of_ble_eq_true rfl) (by omega) | omega); (case ho => omega); (conv => whnf))
    | ((with_reducible refine nil_no (by omega) ?_); (conv => whnf))
    | ((with_reducible refine nil_any ?_ (fun hn0 => ?_)) <;> (conv => whnf))
    | ((with_reducible refine CallStop.pure (board_Is _) rfl rfl ?_); conv => whnf) | ((with_reducible refine DCall.pure (board_Is _) rfl rfl ?_); conv => whnf)
    | ((with_reducible refine CallStop.pure (dirN_Pending _) rfl rfl ?_); conv => whnf) | ((with_reducible refine DCall.pure (dirN_Pending _) rfl rfl ?_); conv => whnf)
    | ((refine ways (fun hc => ?_) (fun hc => ?_)) <;> (try simp only [decide_eq_true_eq, decide_eq_false_iff_not, Bool.and_eq_true, Bool.or_eq_true, Bool.and_eq_false_iff, Bool.or_eq_false_iff, Bool.not_eq_true', Bool.not_eq_false', beq_iff_eq, bne_iff_ne, ne_eq, beq_eq_false_iff_ne, bne_eq_false_iff_eq, Bool.not_eq_true, Bool.not_eq_false] at hc) <;> (try (exfalso; omega)) <;> (conv => whnf))))
  all_goals exact .tup (.cons (.rfl _) (.cons (.i (by unfold stepE; split <;> omega)) .nil))
theorem dirN_Entries : Pure TC 29 [nilP] (.d (.val (.slice none 0 0))) := by
  refine Pure.mk' Tryz.func29 rfl rfl (Nat.le_of_ble_eq_true rfl) ?_
  (repeat' (first
    | with_reducible refine Wp.seq ?_
    | with_reducible refine Wp.block ?_
    | ((with_reducible refine Wp.region ?_); conv => whnf)
    | ((with_reducible refine Wp.drawL TC_mixed ?_); conv => whnf)
    | ((with_reducible refine Wp.cond ?_); conv => whnf)
    | ((with_reducible refine Wp.ret ?_); conv => whnf)
    | ((with_reducible refine Wp.skip ?_); conv => whnf)
    | ((with_reducible refine Wp.exit ?_); conv => whnf)
    | ((with_reducible refine Go.mk ?_); conv => whnf)
    | ((with_reducible apply Eff1.of); conv => whnf)
    | with_reducible exact rfl
    | ((with_reducible refine Ov.ok (by first | exact IntWalk.i64_in _ (by omega) | exact IntWalk.u64_in _ (by omega) | exact IntWalk.u8_in _ (by omega) | exact IntWalk.u32_in _ (by omega) | exact IntWalk.i32_in _ (by omega) | exact IntWalk.u16_in _ (by omega)) ?_); conv => whnf)
    | (with_reducible refine Ov.sh1 (by with_unfolding_all exact rfl) ?_)
    | ((with_reducible refine Ov.quo (by omega) (by omega) (by omega) (fun _ _ => ?_)); conv => whnf)
    | ((with_reducible refine And.intro (show drawOK _ _ _ _ = true by kernel_rfl) ?_); conv => whnf)
    | ((with_reducible refine And.intro (by first | omega | exact Nat.le_of_ble_eq_true rfl) ?_); conv => whnf)
    | ((with_reducible refine And.intro ?hb ?_); (case hb => exact bytes_bd (Nat.le_of_ble_eq_true rfl) (by omega)); (conv => whnf))
    | ((refine DApp.a rfl rfl rfl rfl rfl rfl ?hb ?_); (case hb => first | exact bytes_bd (Nat.le_of_ble_eq_true rfl) (by omega) | omega); (conv => whnf))
    | ((refine DApp.b rfl rfl rfl rfl rfl rfl rfl rfl ?hb ?ho ?_); (case hb => first | exact bytes_bd (Nat.le_of_ble_eq_true rfl) (by omega) | omega); (case ho => omega); (conv => whnf))
    | ((refine DApp.c rfl rfl rfl rfl rfl ?hb ?_); (case hb => first | exact bytes_bd (Nat.le_of_ble_eq_true rfl) (by omega) | omega); (conv => whnf))
    | ((refine DApp.d rfl rfl rfl rfl rfl rfl ?hb ?ho ?_); (case hb => first | exact bytes_bd (Nat.le_of_ble_eq_true rfl) (by omega) | omega); (case ho => omega); (conv => whnf))
    | ((with_reducible refine nil_no (by omega) ?_); (conv => whnf))
    | ((with_reducible refine nil_any ?_ (fun hn0 => ?_)) <;> (conv => whnf))
    
    | ((refine ways (fun hc => ?_) (fun hc => ?_)) <;> (try simp only [decide_eq_true_eq, decide_eq_false_iff_not, Bool.and_eq_true, Bool.or_eq_true, Bool.and_eq_false_iff, Bool.or_eq_false_iff, Bool.not_eq_true', Bool.not_eq_false', beq_iff_eq, bne_iff_ne, ne_eq, beq_eq_false_iff_ne, bne_eq_false_iff_eq, Bool.not_eq_true, Bool.not_eq_false] at hc) <;> (try (exfalso; omega)) <;> (conv => whnf))))
  all_goals exact .rfl _
theorem dirN_Level : Pure TC 24 [nilP] (.tup [.i .i64 0, .b false]) := by
  refine Pure.mk' Tryz.func24 rfl rfl (Nat.le_of_ble_eq_true rfl) ?_
  (repeat' (first
    | with_reducible refine Wp.seq ?_
    | with_reducible refine Wp.block ?_
    | ((with_reducible refine Wp.region ?_); conv => whnf)
    | ((with_reducible refine Wp.drawL TC_mixed ?_); conv => whnf)
    | ((with_reducible refine Wp.cond ?_); conv => whnf)
    | ((with_reducible refine Wp.ret ?_); conv => whnf)
    | ((with_reducible refine Wp.skip ?_); conv => whnf)
    | ((with_reducible refine Wp.exit ?_); conv => whnf)
    | ((with_reducible refine Go.mk ?_); conv => whnf)
    | ((with_reducible apply Eff1.of); conv => whnf)
    | with_reducible exact rfl
    | ((with_reducible refine Ov.ok (by first | exact IntWalk.i64_in _ (by omega) | exact IntWalk.u64_in _ (by omega) | exact IntWalk.u8_in _ (by omega) | exact IntWalk.u32_in _ (by omega) | exact IntWalk.i32_in _ (by omega) | exact IntWalk.u16_in _ (by omega)) ?_); conv => whnf)
    | (with_reducible refine Ov.sh1 (by with_unfolding_all exact rfl) ?_)
    | ((with_reducible refine Ov.quo (by omega) (by omega) (by omega) (fun _ _ => ?_)); conv => whnf)
    | ((with_reducible refine And.intro (show drawOK _ _ _ _ = true by kernel_rfl) ?_); conv => whnf)
    | ((with_reducible refine And.intro (by first | omega | exact Nat.le_of_ble_eq_true rfl) ?_); conv => whnf)
    | ((with_reducible refine And.intro ?hb ?_); (case hb => exact bytes_bd (Nat.le_of_ble_eq_true rfl) (by omega)); (conv => whnf))
    | ((refine DApp.a rfl rfl rfl rfl rfl rfl ?hb ?_); (case hb => first | exact bytes_bd (Nat.le_of_ble_eq_true rfl) (by omega) | omega); (conv => whnf))
    | ((refine DApp.b rfl rfl rfl rfl rfl rfl rfl rfl ?hb ?ho ?_); (case hb => first | exact bytes_bd (Nat.le_of_ble_eq_true rfl) (by omega) | omega); (case ho => omega); (conv => whnf))
    | ((refine DApp.c rfl rfl rfl rfl rfl ?hb ?_); (case hb => first | exact bytes_bd (Nat.le_of_ble_eq_true rfl) (by omega) | omega); (conv => whnf))
    | ((refine DApp.d rfl rfl rfl rfl rfl rfl ?hb ?ho ?_); (case hb => first | exact bytes_bd (Nat.le_of_ble_eq_true rfl) (by omega) | omega); (case ho => omega); (conv => whnf))
    | ((with_reducible refine nil_no (by omega) ?_); (conv => whnf))
    | ((with_reducible refine nil_any ?_ (fun hn0 => ?_)) <;> (conv => whnf))
    
    | ((refine ways (fun hc => ?_) (fun hc => ?_)) <;> (try simp only [decide_eq_true_eq, decide_eq_false_iff_not, Bool.and_eq_true, Bool.or_eq_true, Bool.and_eq_false_iff, Bool.or_eq_false_iff, Bool.not_eq_true', Bool.not_eq_false', beq_iff_eq, bne_iff_ne, ne_eq, beq_eq_false_iff_ne, bne_eq_false_iff_eq, Bool.not_eq_true, Bool.not_eq_false] at hc) <;> (try (exfalso; omega)) <;> (conv => whnf))))
  all_goals exact .rfl _
theorem dirN_Steps : Pure TC 28 [nilP] (.i .i64 0) := by
  refine Pure.mk' Tryz.func28 rfl rfl (Nat.le_of_ble_eq_true rfl) ?_
  (repeat' (first
    | with_reducible refine Wp.seq ?_
    | with_reducible refine Wp.block ?_
    | ((with_reducible refine Wp.region ?_); conv => whnf)
    | ((with_reducible refine Wp.drawL TC_mixed ?_); conv => whnf)
    | ((with_reducible refine Wp.cond ?_); conv => whnf)
    | ((with_reducible refine Wp.ret ?_); conv => whnf)
    | ((with_reducible refine Wp.skip ?_); conv => whnf)
    | ((with_reducible refine Wp.exit ?_); conv => whnf)
    | ((with_reducible refine Go.mk ?_); conv => whnf)
    | ((with_reducible apply Eff1.of); conv => whnf)
    | with_reducible exact rfl
    | ((with_reducible refine Ov.ok (by first | exact IntWalk.i64_in _ (by omega) | exact IntWalk.u64_in _ (by omega) | exact IntWalk.u8_in _ (by omega) | exact IntWalk.u32_in _ (by omega) | exact IntWalk.i32_in _ (by omega) | exact IntWalk.u16_in _ (by omega)) ?_); conv => whnf)
    | (with_reducible refine Ov.sh1 (by with_unfolding_all exact rfl) ?_)
    | ((with_reducible refine Ov.quo (by omega) (by omega) (by omega) (fun _ _ => ?_)); conv => whnf)
    | ((with_reducible refine And.intro (show drawOK _ _ _ _ = true by kernel_rfl) ?_); conv => whnf)
    | ((with_reducible refine And.intro (by first | omega | exact Nat.le_of_ble_eq_true rfl) ?_); conv => whnf)
    | ((with_reducible refine And.intro ?hb ?_); (case hb => exact bytes_bd (Nat.le_of_ble_eq_true rfl) (by omega)); (conv => whnf))
    | ((refine DApp.a rfl rfl rfl rfl rfl rfl ?hb ?_); (case hb => first | exact bytes_bd (Nat.le_of_ble_eq_true rfl) (by omega) | omega); (conv => whnf))
    | ((refine DApp.b rfl rfl rfl rfl rfl rfl rfl rfl ?hb ?ho ?_); (case hb => first | exact bytes_bd (Nat.le_of_ble_eq_true rfl) (by omega) | omega); (case ho => omega); (conv => whnf))
    | ((refine DApp.c rfl rfl rfl rfl rfl ?hb ?_); (case hb => first | exact bytes_bd (Nat.le_of_ble_eq_true rfl) (by omega) | omega); (conv => whnf))
    | ((refine DApp.d rfl rfl rfl rfl rfl rfl ?hb ?ho ?_); (case hb => first | exact bytes_bd (Nat.le_of_ble_eq_true rfl) (by omega) | omega); (case ho => omega); (conv => whnf))
    | ((with_reducible refine nil_no (by omega) ?_); (conv => whnf))
    | ((with_reducible refine nil_any ?_ (fun hn0 => ?_)) <;> (conv => whnf))
    
    | ((refine ways (fun hc => ?_) (fun hc => ?_)) <;> (try simp only [decide_eq_true_eq, decide_eq_false_iff_not, Bool.and_eq_true, Bool.or_eq_true, Bool.and_eq_false_iff, Bool.or_eq_false_iff, Bool.not_eq_true', Bool.not_eq_false', beq_iff_eq, bne_iff_ne, ne_eq, beq_eq_false_iff_ne, bne_eq_false_iff_eq, Bool.not_eq_true, Bool.not_eq_false] at hc) <;> (try (exfalso; omega)) <;> (conv => whnf))))
  all_goals exact .rfl _
theorem DirNil_holds (p : Pk) (h : p.ok) (hl : p.key.length ≤ 140737488355328) : Pure TC 5 [p.S] (.b true) := by
  obtain ⟨⟨h0, h1⟩, ⟨h2, h3⟩, h4, h5, h6⟩ := h
  refine Pure.mk' Tryz.func5 rfl rfl (Nat.le_of_ble_eq_true rfl) ?_
  (repeat' (first
    | with_reducible refine Wp.seq ?_
    | with_reducible refine Wp.block ?_
    | ((with_reducible refine Wp.region ?_); conv => whnf)
    | ((with_reducible refine Wp.drawL TC_mixed ?_); conv => whnf)
    | ((with_reducible refine Wp.cond ?_); conv => whnf)
    | ((with_reducible refine Wp.ret ?_); conv => whnf)
    | ((with_reducible refine Wp.skip ?_); conv => whnf)
    | ((with_reducible refine Wp.exit ?_); conv => whnf)
    | ((with_reducible refine Go.mk ?_); conv => whnf)
    | ((with_reducible apply Eff1.of); conv => whnf)
    | with_reducible exact rfl
    | ((with_reducible refine Ov.ok (by first | exact IntWalk.i64_in _ (by omega) | exact IntWalk.u64_in _ (by omega) | exact IntWalk.u8_in _ (by omega) | exact IntWalk.u32_in _ (by omega) | exact IntWalk.i32_in _ (by omega) | exact IntWalk.u16_in _ (by omega)) ?_); conv => whnf)
    | (with_reducible refine Ov.sh1 (by with_unfolding_all exact rfl) ?_)
    | ((with_reducible refine Ov.quo (by omega) (by omega) (by omega) (fun _ _ => ?_)); conv => whnf)
    | ((with_reducible refine And.intro (show drawOK _ _ _ _ = true by kernel_rfl) ?_); conv => whnf)
    | ((with_reducible refine And.intro (by first | omega | exact Nat.le_of_ble_eq_true rfl) ?_); conv => whnf)
    | ((with_reducible refine And.intro ?hb ?_); (case hb => exact bytes_bd (Nat.le_of_ble_eq_true rfl) (by omega)); (conv => whnf))
    | ((refine DApp.a rfl rfl rfl rfl rfl rfl ?hb ?_); (case hb => first | exact bytes_bd (Nat.le_of_ble_eq_true rfl) (by omega) | omega); (conv => whnf))
    | ((refine DApp.b rfl rfl rfl rfl rfl rfl rfl rfl ?hb ?ho ?_); (case hb => first | exact bytes_bd (Nat.le_of_ble_eq_true rfl) (by omega) | omega); (case ho => omega); (conv => whnf))
    | ((refine DApp.c rfl rfl rfl rfl rfl ?hb ?_); (case hb => first | exact bytes_bd (Nat.le_of_ble_eq_true rfl) (by omega) | omega); (conv => whnf))
    | ((refine DApp.d rfl rfl rfl rfl rfl rfl ?hb ?ho ?_); (case hb => first | exact bytes_bd (Nat.le_of_ble_eq_true rfl) (by omega) | omega); (case ho => omega); (conv => whnf))
    | ((with_reducible refine nil_no (by omega) ?_); (conv => whnf))
    | ((with_reducible refine nil_any ?_ (fun hn0 => ?_)) <;> (conv => whnf))
    | ((with_reducible refine CallStop.pure (dirN_Step _) rfl rfl ?_); conv => whnf) | ((with_reducible refine DCall.pure (dirN_Step _) rfl rfl ?_); conv => whnf)
    | ((with_reducible refine CallStop.pure (r15_Step _) rfl rfl ?_); conv => whnf) | ((with_reducible refine DCall.pure (r15_Step _) rfl rfl ?_); conv => whnf)
    | ((with_reducible refine CallStop.pure (dirN_Level) rfl rfl ?_); conv => whnf) | ((with_reducible refine DCall.pure (dirN_Level) rfl rfl ?_); conv => whnf)
    | ((with_reducible refine CallStop.pure (awake_T) rfl rfl ?_); conv => whnf) | ((with_reducible refine DCall.pure (awake_T) rfl rfl ?_); conv => whnf)
    | ((with_reducible refine CallStop.pure (r1_Twin p.key hl) rfl rfl ?_); conv => whnf) | ((with_reducible refine DCall.pure (r1_Twin p.key hl) rfl rfl ?_); conv => whnf)
    | ((with_reducible refine CallStop.pure (dirN_Start _ _ _ _ h2 h3) rfl rfl ?_); conv => whnf) | ((with_reducible refine DCall.pure (dirN_Start _ _ _ _ h2 h3) rfl rfl ?_); conv => whnf)
    | ((with_reducible refine CallStop.pure (r15_Start _ _ _ _ h2 h3) rfl rfl ?_); conv => whnf) | ((with_reducible refine DCall.pure (r15_Start _ _ _ _ h2 h3) rfl rfl ?_); conv => whnf)
    | ((with_reducible refine CallStop.pure (dirN_Pending _) rfl rfl ?_); conv => whnf) | ((with_reducible refine DCall.pure (dirN_Pending _) rfl rfl ?_); conv => whnf)
    | ((with_reducible refine CallStop.pure (dirN_Entries) rfl rfl ?_); conv => whnf) | ((with_reducible refine DCall.pure (dirN_Entries) rfl rfl ?_); conv => whnf)
    | ((with_reducible refine CallStop.pure (dirN_Steps) rfl rfl ?_); conv => whnf) | ((with_reducible refine DCall.pure (dirN_Steps) rfl rfl ?_); conv => whnf)
    | ((refine ways (fun hc => ?_) (fun hc => ?_)) <;> (try simp only [decide_eq_true_eq, decide_eq_false_iff_not, Bool.and_eq_true, Bool.or_eq_true, Bool.and_eq_false_iff, Bool.or_eq_false_iff, Bool.not_eq_true', Bool.not_eq_false', beq_iff_eq, bne_iff_ne, ne_eq, beq_eq_false_iff_ne, bne_eq_false_iff_eq, Bool.not_eq_true, Bool.not_eq_false] at hc) <;> (try (exfalso; omega)) <;> (conv => whnf))))
  all_goals first | exact .b (by decide) | exact absurd trivial hc
end Go.Proofs.YtbdclkjelhlfbaaGreat
