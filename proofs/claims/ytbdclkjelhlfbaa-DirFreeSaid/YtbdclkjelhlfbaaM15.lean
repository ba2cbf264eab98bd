/- Parts of the proof, one behind the other: Dr16, Dr17, Dr18, Dr20, Dr21. Lemmas and contracts of functions; no condition of its own. -/
import Derived.Test.YtbdclkjelhlfbaaM14
set_option linter.unusedVariables false
set_option linter.unusedSimpArgs false
namespace Go.Proofs.Ytbdclkjelhlfbaa
open Go.RowKit
set_option maxRecDepth 100000
namespace Dir

def Hn (n : Nat) (h : List Ent) : Prop := h.length ≤ n ∧ ∀ e ∈ h, IsB e.key
theorem Hn.mono {n m : Nat} {h : List Ent} (x : Hn n h) (e : n ≤ m) : Hn m h := ⟨Nat.le_trans x.1 e, x.2⟩
theorem Hn.get {n : Nat} {h : List Ent} (x : Hn n h) (k : Nat) : IsB (h.getD k default).key := by
  rw [List.getD_eq_getElem?_getD]
  cases e : h[k]? with
  | none => intro y hy; exact absurd hy (by simp [default, instInhabitedEnt.default])
  | some z => exact x.2 z (List.mem_of_getElem? e)
theorem Hn.ok {n : Nat} {h : List Ent} (x : Hn n h) (hn : n ≤ 16000000) : HOK h := ⟨Nat.le_trans x.1 hn, x.get⟩
theorem Hn.cut {n : Nat} {h : List Ent} (x : Hn n h) (lv sh : Nat) : Hn n (cutL h lv sh) :=
  ⟨Nat.le_trans (List.length_filter_le _ _) x.1, fun e he => x.2 e (List.mem_filter.1 he).1⟩
theorem Hn.fnd {n : Nat} {c : Kc} {h m : List Ent} {k : Int} (x : Hn n h) (hc : IsB c.key) (e : fndE c h = .inr (m, k)) : Hn (n + 1) m := by
  unfold fndE at e
  have hp := posE_le h c.key
  split at e
  · cases e
  · split at e
    · cases e
    · split at e
      · cases e
        refine ⟨?_, fun y hy => ?_⟩
        · unfold delAt; simp; have := x.1; omega
        · unfold delAt at hy
          rcases List.mem_append.1 hy with hy | hy
          · exact x.2 y (List.mem_of_mem_take hy)
          · exact x.2 y (List.mem_of_mem_drop hy)
      · split at e
        · cases e
          refine ⟨by rw [List.length_set]; have := x.1; omega, fun y hy => ?_⟩
          rcases List.mem_or_eq_of_mem_set hy with hy | rfl
          · exact x.2 y hy
          · exact x.get _
        · cases e
          refine ⟨by rw [insAt_length _ _ _ hp]; have := x.1; omega, fun y hy => ?_⟩
          unfold insAt at hy
          rcases List.mem_append.1 hy with hy | hy
          · rcases List.mem_append.1 hy with hy | hy
            · exact x.2 y (List.mem_of_mem_take hy)
            · rw [List.mem_singleton] at hy; subst hy; exact hc
          · exact x.2 y (List.mem_of_mem_drop hy)
def okH (n : Nat) : CS → Prop
  | .k0 c => IsB c.key
  | .kE c _ => IsB c.key
  | .kF c _ _ => IsB c.key
  | .kG c _ _ v h => IsB c.key ∧ Hn n h ∧ 0 ≤ v
  | .kH c _ _ h => IsB c.key ∧ Hn n h
  | .kL c _ _ h => IsB c.key ∧ Hn n h
  | .kS c _ _ m _ => IsB c.key ∧ Hn n m
  | .sG _ _ v h => Hn n h ∧ 0 ≤ v
  | .sH _ _ _ h => Hn n h
  | .sL _ _ _ h => Hn n h
  | _ => True
theorem okH.mono {n m : Nat} (e : n ≤ m) {s : CS} (h : okH n s) : okH m s := by
  cases s <;> first | trivial | exact h | exact ⟨h.1, h.2.1.mono e, h.2.2⟩ | exact ⟨h.1, h.2.mono e⟩ | exact ⟨Hn.mono h.1 e, h.2⟩ | exact Hn.mono h e
theorem plc_bd {lv : Nat} (s : Int) : ∃ i, i < 2 ^ lv ∧ plc lv s = 2 ^ lv + i := by
  refine ⟨(s % 2 ^ lv).toNat, ?_, rfl⟩
  have e : ((2 ^ lv : Nat) : Int) = 2 ^ lv := by simp
  have h0 : (0 : Int) < 2 ^ lv := Int.pow_pos (by decide)
  have h1 := Int.emod_lt_of_pos s h0
  have h2 := Int.emod_nonneg s (Int.ne_of_gt h0)
  omega
theorem pow_32 {lv i : Nat} (h : lv ≤ 4) (hi : i < 2 ^ lv) : 2 ^ lv + i < 32 := by
  have : 2 ^ lv ≤ 2 ^ 4 := Nat.pow_le_pow_right (by omega) h
  omega
theorem found_H {n : Nat} {c : Kc} {w : Nat} {v : Int} {h : List Ent} (hh : Hn n h) (hc : IsB c.key) : okH (n + 1) (found dirOps c w v h).1 := by
  unfold found
  cases e : dirOps.fnd c h with
  | inl r => trivial
  | inr p => exact ⟨hc, hh.fnd hc (show fndE c h = .inr (p.1, p.2) from e)⟩
theorem entered_H {n : Nat} {c : Kc} {w : Nat} {v : Int} {h : List Ent} (hh : Hn n h) (hc : IsB c.key) : okH (n + 1) (entered dirOps c w v h).1 := by
  unfold entered
  split
  · exact hc
  · exact found_H hh hc
theorem on_H {n lv i : Nat} {up : Bool} {h : List Ent} (hh : Hn n h) : okH n (on lv i up h) := by
  unfold on move
  split
  · split <;> trivial
  · exact hh
theorem upd_H {n : Nat} {f : Nat → List Ent} (hf : ∀ w, Hn n (f w)) {w : Nat} {h : List Ent} (hh : Hn n h) : ∀ j, Hn n (upd f w h j) := fun j => by
  unfold upd; split
  · exact hh
  · exact hf j
theorem Iw.pos {W : Nat → Int} {B : Int} (h : Iw W B) {lv i : Nat} (hl : lv ≤ 4) (hi : i < 2 ^ lv) : 0 ≤ W (2 ^ lv + i) := (h.w lv i hl hi).1
theorem nilH {n : Nat} : Hn n [] := ⟨Nat.zero_le _, by simp⟩
theorem step_H {n : Nat} {M : Mc} {B : Int} (hI : Iw M.W B) (hM : ∀ w, Hn n (M.Hd w)) {s : CS} (hs : Cw dirOps M.W s) (h : okH n s) : (∀ w, Hn (n + 1) ((step dirOps M s).1.Hd w)) ∧ okH (n + 1) (step dirOps M s).2.1 := by
  have hM' : ∀ w, Hn (n + 1) (M.Hd w) := fun w => (hM w).mono (by omega)
  cases s with
  | none => exact ⟨hM', trivial⟩
  | k0 c => exact ⟨hM', by simp only [step]; split <;> exact h⟩
  | kE c w => exact ⟨hM', entered_H (hM w) h⟩
  | kF c lv w =>
    refine ⟨hM', ?_⟩
    obtain ⟨i, hi, e⟩ := plc_bd (lv := lv) (dirOps.sum c.key)
    have hw : 0 ≤ M.W w := by rw [hs.2.1, e]; exact hI.pos (by have := hs.1; omega) hi
    simp only [step]; split
    · exact ⟨h, hM' w⟩
    · exact ⟨h, hM' w, hw⟩
  | kG c lv w v l =>
    have hl := h.2.1.mono (Nat.le_succ n)
    simp only [step]; split
    · exact ⟨upd_H hM' hl, h.1, hl⟩
    · exact ⟨hM', h.1⟩
  | kH c lv w l =>
    simp only [step]; split
    · exact ⟨hM', h.1, h.2.mono (Nat.le_succ n)⟩
    · exact ⟨hM', entered_H (hM w) h.1⟩
  | kL c lv w l =>
    simp only [step]; split
    · exact ⟨upd_H hM' ((h.2.mono (Nat.le_succ n)).cut _ _), h.1⟩
    · exact ⟨hM', h.1⟩
  | kS c w v m k =>
    simp only [step]; split
    · exact ⟨upd_H hM' (h.2.mono (Nat.le_succ n)), trivial⟩
    · exact ⟨hM', h.1⟩
  | s0 => simp only [step]; split
          · exact ⟨hM', trivial⟩
          · split <;> exact ⟨hM', trivial⟩
  | sM lv => simp only [step]; split
             · exact ⟨upd_H hM' nilH, trivial⟩
             · exact ⟨hM', trivial⟩
  | sF lv i =>
    refine ⟨hM', ?_⟩
    have hw : 0 ≤ M.W (2 ^ lv + i) := hI.pos (by have := hs.1; omega) hs.2.1
    simp only [step]; split
    · exact hM' _
    · exact ⟨hM' _, hw⟩
  | sG lv i v l =>
    have hl := h.1.mono (Nat.le_succ n)
    simp only [step]; split
    · exact ⟨upd_H hM' hl, hl⟩
    · exact ⟨hM', trivial⟩
  | sH lv i up l =>
    have hl : Hn (n + 1) l := Hn.mono h (Nat.le_succ n)
    refine ⟨hM', ?_⟩
    simp only [step]; split
    · exact hl
    · exact on_H hl
  | sL lv i up l =>
    have hl : Hn (n + 1) l := Hn.mono h (Nat.le_succ n)
    refine ⟨?_, on_H hl⟩
    simp only [step]; split
    · exact upd_H hM' (hl.cut _ _)
    · exact hM'
  | sV lv =>
    refine ⟨?_, trivial⟩
    simp only [step]; split
    · exact upd_H hM' nilH
    · exact hM'
end Dir
open Dir in
theorem okC_of {n : Nat} {W : Nat → Int} {s : Dir.CS} (hs : Dir.Cw dirOps W s) (h : Dir.okH n s) (hn : n ≤ 16000000) : okC s := by
  cases s with
  | none => trivial
  | k0 c => trivial
  | kE c w => exact ⟨hs.2, h⟩
  | kF c lv w =>
    obtain ⟨i, hi, e⟩ := plc_bd (lv := lv) (dirOps.sum c.key)
    exact ⟨hs.1, by rw [hs.2.1, e]; exact pow_32 (by have := hs.1; omega) hi⟩
  | kG c lv w v l =>
    obtain ⟨i, hi, e⟩ := plc_bd (lv := lv) (dirOps.sum c.key)
    exact ⟨⟨hs.1, by rw [hs.2.1, e]; exact pow_32 (by have := hs.1; omega) hi⟩, h.2.2, hs.2.2.2⟩
  | kH c lv w l =>
    obtain ⟨i, hi, e⟩ := plc_bd (lv := lv) (dirOps.sum c.key)
    exact ⟨by rw [hs.2.2.1, e]; exact pow_32 hs.2.1 hi, h.1⟩
  | kL c lv w l =>
    obtain ⟨i, hi, e⟩ := plc_bd (lv := lv) (dirOps.sum c.key)
    exact ⟨⟨hs.2.1, by rw [hs.2.2.1, e]; omega, by rw [hs.2.2.1, e]; exact pow_32 hs.2.1 hi⟩, h.2.ok hn⟩
  | kS c w v m k => exact ⟨hs.2.1, Int.le_of_lt hs.2.2.1, hs.2.2.2⟩
  | s0 => trivial
  | sM lv => exact hs
  | sF lv i => exact ⟨hs.1, hs.2.1⟩
  | sG lv i v l => exact ⟨⟨hs.1, hs.2.1⟩, h.2, hs.2.2.2.2⟩
  | sH lv i up l => exact ⟨hs.1, hs.2.1⟩
  | sL lv i up l => exact ⟨⟨hs.1, hs.2.1⟩, Hn.ok h hn⟩
  | sV lv => exact hs.1
end Go.Proofs.Ytbdclkjelhlfbaa

namespace Go.Proofs.Ytbdclkjelhlfbaa
open Go.RowKit
set_option maxRecDepth 100000

def gOf (cs : Nat → Dir.CS) : Nat → SV := fun j => cl j (cs j)
theorem gOf_lt (cs : Nat → Dir.CS) : ∀ j, SV.Lt 5 (gOf cs j) := fun j => cl_lt _ _
theorem gOf_upd (cs : Nat → Dir.CS) (w : Nat) (s : Dir.CS) : Dir.upd (gOf cs) w (cl w s) = gOf (Dir.upd cs w s) := by
  funext j
  unfold gOf Dir.upd
  by_cases h : j = w
  · rw [if_pos h, if_pos h, h]
  · rw [if_neg h, if_neg h]
theorem fnd_done : ∀ c h r, dirOps.fnd c h = .inl r → r.done = true := by
  intro c h r e
  have e : fndE c h = .inl r := e
  unfold fndE at e
  split at e
  · cases e; rfl
  · split at e
    · cases e; rfl
    · split at e
      · cases e
      · split at e <;> cases e
/-- what holds behind k steps -/
structure LawS (k : Nat) (M : Dir.Mc) (cs : Nat → Dir.CS) (nl : Nat) (cnt : Int) : Prop where
  inv : Dir.Inv dirOps M cs ((k : Int) + 1)
  hd : ∀ w, Dir.Hn k (M.Hd w)
  ok : ∀ j, Dir.okH k (cs j)
  nl : nl ≤ 128
  cnt : cnt = (k : Int) + 1
theorem LawS.zero : LawS 0 Dir.M0 (fun _ => .none) (noteN 0) 1 := ⟨Dir.Inv.zero _, fun _ => Dir.nilH, fun _ => trivial, by decide, rfl⟩
theorem LawS.step {k : Nat} {M : Dir.Mc} {cs : Nat → Dir.CS} {nl : Nat} {cnt : Int} (h : LawS k M cs nl cnt) (hk : k ≤ 1000000) (i : Nat) :
    LawS (k + 1) (Dir.step dirOps M (cs i)).1 (Dir.upd cs i (Dir.step dirOps M (cs i)).2.1) (noteN nl) (cnt + 1) := by
  have h1 := Dir.step_H h.inv.iw h.hd (h.inv.cw i) (h.ok i)
  refine ⟨?_, h1.1, fun j => ?_, noteN_le h.nl, by have := h.cnt; omega⟩
  · have := h.inv.step fnd_done (show (k : Int) + 1 + 1 < Dir.FZ by unfold Dir.FZ; omega) i
    rwa [show ((k + 1 : Nat) : Int) + 1 = (k : Int) + 1 + 1 by omega]
  · unfold Dir.upd
    split
    · exact h1.2
    · exact (h.ok j).mono (Nat.le_succ k)
theorem LawS.start {k : Nat} {M : Dir.Mc} {cs : Nat → Dir.CS} {nl : Nat} {cnt : Int} (h : LawS k M cs nl cnt) (i : Nat) (op : Int) (key : List Int) (v : Int) (hk : IsB key) :
    LawS k M (Dir.upd cs i (startS op key v)) nl cnt := by
  refine ⟨⟨h.inv.iw, h.inv.b, fun j => ?_⟩, h.hd, fun j => ?_, h.nl, h.cnt⟩
  · unfold Dir.upd; split
    · unfold startS; split <;> trivial
    · exact h.inv.cw j
  · unfold Dir.upd; split
    · unfold startS; split
      · trivial
      · exact hk
    · exact h.ok j
theorem LawS.dok {k : Nat} {M : Dir.Mc} {cs : Nat → Dir.CS} {nl : Nat} {cnt : Int} (h : LawS k M cs nl cnt) (hk : k ≤ 1000000) (w : Nat) (hw : w < 64) : DOK w (gOf cs) M nl cnt :=
  ⟨by omega, by omega, h.nl, by have := h.cnt; omega, by have := h.cnt; omega, gOf_lt cs, h.inv.iw.d.1, h.inv.iw.d.2, fun w => (h.hd w).ok (by omega)⟩
theorem law_Step {k : Nat} {M : Dir.Mc} {cs : Nat → Dir.CS} {nl : Nat} {f : Nat → List D} {clk cnt : Int} (h : LawS k M cs nl cnt) (hk : k ≤ 1000000) (w : Nat) (hw : w < 64) (hc : isC (cs w) = true) :
    ∃ a, Fun TC 12 5 [.ptr 0 0, .i .i64 w] (dirH (gOf cs) M nl f clk cnt) 6 (.tup [rslS (Dir.step dirOps M (cs w)).2.2, .i .i64 0]) (dirN (gOf (Dir.upd cs w (Dir.step dirOps M (cs w)).2.1)) (Dir.step dirOps M (cs w)).1 nl f clk cnt a) := by
  obtain ⟨a, hF⟩ := dir_Step (f := f) (clk := clk) w hw (h.dok hk w hw) hc (okC_of (h.inv.cw w) (h.ok w) (by omega)) rfl
  rw [gOf_upd] at hF
  exact ⟨a, hF⟩
theorem law_Start {M : Dir.Mc} {cs : Nat → Dir.CS} {nl : Nat} {f : Nat → List D} {clk cnt : Int} (w : Nat) (hw : w < 64) (op : Int) (key : List Int) (v : Int) (ho : 1 ≤ op) (ho4 : op ≤ 4) (hk : key.length ≤ 256) (hv : tickB v = true) (hc : cs w = .none) :
    Fun TC 11 5 [.ptr 0 0, .i .i64 w, .i .u8 op, .d (slOf 1 (encI .u8) key), .i .i64 v] (dirH (gOf cs) M nl f clk cnt) 5 (.i .i64 0) (dirH (gOf (Dir.upd cs w (startS op key v))) M nl f clk cnt) := by
  have := dir_Start (gOf_lt cs) (M := M) (nl := nl) (f := f) (clk := clk) (cnt := cnt) w hw op key v ho ho4 hk hv (show cl w (cs w) = nilF by rw [hc]; rfl)
  rwa [gOf_upd] at this
theorem law_Pending {M : Dir.Mc} {cs : Nat → Dir.CS} {nl : Nat} {f : Nat → List D} {clk cnt : Int} (w : Nat) (hw : w < 64) :
    Fun TC 10 5 [.ptr 0 0, .i .i64 w] (dirH (gOf cs) M nl f clk cnt) 5 (.b (isC (cs w))) (dirH (gOf cs) M nl f clk cnt) :=
  dir_Pending w hw (gOf_lt cs) rfl
/-! ## the document's first example -/
def awS : List (Nat × Option Dir.Kc) := [(0, some ⟨2, [97], 5⟩), (0, none), (0, none), (0, none), (1, some ⟨4, [], 0⟩), (1, none), (1, none), (1, none), (1, none), (1, none), (1, none), (1, none), (1, none), (1, none), (2, some ⟨1, [97], 0⟩), (2, none), (2, none)]
def aw1 (st : Dir.Mc × (Nat → Dir.CS)) : Nat × Option Dir.Kc → Dir.Mc × (Nat → Dir.CS)
  | (w, some c) => (st.1, Dir.upd st.2 w (startS c.op c.key c.val))
  | (w, none) => ((Dir.step dirOps st.1 (st.2 w)).1, Dir.upd st.2 w (Dir.step dirOps st.1 (st.2 w)).2.1)
def awR (st : Dir.Mc × (Nat → Dir.CS)) : List (Nat × Option Dir.Kc) → List (Dir.Res)
  | [] => []
  | (w, o) :: r => (match o with | none => (Dir.step dirOps st.1 (st.2 w)).2.2 | some _ => Dir.r0) :: awR (aw1 st (w, o)) r
def awC (st : Dir.Mc × (Nat → Dir.CS)) : List (Nat × Option Dir.Kc) → List Bool
  | [] => []
  | (w, o) :: r => isC (st.2 w) :: awC (aw1 st (w, o)) r
def awE (st : Dir.Mc × (Nat → Dir.CS)) : List (Nat × Option Dir.Kc) → Int
  | [] => st.1.W 0
  | x :: r => awE (aw1 st x) r
structure AwK (st : Dir.Mc × (Nat → Dir.CS)) (l : List (Nat × Option Dir.Kc)) (rs : List Dir.Res) (bs : List Bool) : Prop where
  r : awR st l = rs
  c : awC st l = bs
  e : awE st l = 2
theorem aw_start {k : Nat} {M : Dir.Mc} {cs : Nat → Dir.CS} {nl : Nat} {cnt : Int} (h : LawS k M cs nl cnt) {w : Nat} {c : Dir.Kc} {l : List (Nat × Option Dir.Kc)} {r : Dir.Res} {rs : List Dir.Res} {bs : List Bool} (K : AwK (M, cs) ((w, some c) :: l) (r :: rs) (false :: bs))
    (hw : w < 64) (ho : 1 ≤ c.op) (ho4 : c.op ≤ 4) (hk : IsB c.key ∧ c.key.length ≤ 256) (hv : tickB c.val = true) :
    ∃ cs', LawS k M cs' nl cnt ∧ AwK (M, cs') l rs bs ∧ ∀ f clk, Fun TC 11 5 [.ptr 0 0, .i .i64 w, .i .u8 c.op, .d (slOf 1 (encI .u8) c.key), .i .i64 c.val] (dirH (gOf cs) M nl f clk cnt) 5 (.i .i64 0) (dirH (gOf cs') M nl f clk cnt) := by
  have hr := K.r; have hc := K.c
  simp only [awR, awC, List.cons.injEq] at hr hc
  exact ⟨_, h.start w c.op c.key c.val hk.1, ⟨hr.2, hc.2, K.e⟩, fun f clk => law_Start w hw c.op c.key c.val ho ho4 hk.2 hv (isC_no hc.1)⟩
theorem aw_step {k : Nat} {M : Dir.Mc} {cs : Nat → Dir.CS} {nl : Nat} {cnt : Int} (h : LawS k M cs nl cnt) {w : Nat} {l : List (Nat × Option Dir.Kc)} {r : Dir.Res} {rs : List Dir.Res} {bs : List Bool} (K : AwK (M, cs) ((w, none) :: l) (r :: rs) (true :: bs))
    (hw : w < 64) (hk : k ≤ 1000000) (f : Nat → List D) (clk : Int) :
    ∃ M' cs' f', LawS (k + 1) M' cs' (noteN nl) (cnt + 1) ∧ AwK (M', cs') l rs bs ∧ Fun TC 12 5 [.ptr 0 0, .i .i64 w] (dirH (gOf cs) M nl f clk cnt) 6 (.tup [rslS r, .i .i64 0])
      [(0, some (dirB (gOf cs'))), (1, some (machB 2 5 32 (noteN nl) clk (cnt + 1))), (2, some (wordB 32 M'.W)), (3, some (holdB M'.Hd)), (4, none), (5, some (lastB (noteN nl) f'))] := by
  have hr := K.r; have hc := K.c
  simp only [awR, awC, List.cons.injEq] at hr hc
  obtain ⟨a, hF⟩ := law_Step (f := f) (clk := clk) h hk w hw hc.1
  rw [hr.1] at hF
  exact ⟨_, _, _, h.step hk w, ⟨hr.2, hc.2, K.e⟩, hF⟩
theorem aw_all : AwK (Dir.M0, fun _ => .none) awS
    [⟨false, 0, 0⟩, ⟨false, 0, 0⟩, ⟨false, 0, 0⟩, ⟨true, 0, 5⟩, ⟨false, 0, 0⟩, ⟨false, 0, 0⟩, ⟨false, 0, 0⟩, ⟨false, 0, 0⟩, ⟨false, 0, 0⟩, ⟨false, 0, 0⟩, ⟨false, 0, 0⟩, ⟨false, 0, 0⟩, ⟨false, 0, 0⟩, ⟨true, 0, 0⟩, ⟨false, 0, 0⟩, ⟨false, 0, 0⟩, ⟨true, 0, 5⟩]
    [false, true, true, true, false, true, true, true, true, true, true, true, true, true, false, true, true] := ⟨by decide +kernel, by decide +kernel, by decide +kernel⟩
theorem law_Level {k : Nat} {M : Dir.Mc} {cs : Nat → Dir.CS} {nl : Nat} {cnt : Int} (h : LawS k M cs nl cnt) (f : Nat → List D) (clk : Int) :
    Fun TC 20 5 [.ptr 0 0] (dirH (gOf cs) M nl f clk cnt) 5 (.tup [.i .i64 (M.W 0 / 2), .b (decide (M.W 0 % 2 = 1))]) (dirH (gOf cs) M nl f clk cnt) :=
  dir_Level (gOf_lt cs) M nl f clk cnt h.inv.iw.d.1 h.inv.iw.d.2
theorem law_Steps {k : Nat} {M : Dir.Mc} {cs : Nat → Dir.CS} {nl : Nat} {cnt : Int} (h : LawS k M cs nl cnt) (hk : k ≤ 1000000) (f : Nat → List D) (clk : Int) :
    Fun TC 21 5 [.ptr 0 0] (dirH (gOf cs) M nl f clk cnt) 5 (.i .i64 (cnt - 1)) (dirH (gOf cs) M nl f clk cnt) :=
  dir_Steps (gOf_lt cs) M nl f clk cnt (by have := h.cnt; omega) (by have := h.cnt; omega)
theorem cl_lt4 (who : Int) (s : Dir.CS) : SV.Lt 4 (cl who s) := by
  cases s with
  | sH lv i up h => cases up <;> exact .of rfl
  | sL lv i up h => cases up <;> exact .of rfl
  | _ => exact .of rfl
theorem gOf_lt4 (cs : Nat → Dir.CS) : ∀ j, SV.Lt 4 (dirF (gOf cs) j) := fun j => by
  cases j with
  | zero => exact .of rfl
  | succ j => exact cl_lt4 _ _
theorem id4 {L : List Nat} {i : Nat} (hi : i < 4) : (0 :: 1 :: 2 :: 3 :: L).getD i 0 = i := by
  rcases i with _ | _ | _ | _ | i <;> first | rfl | omega
theorem dir_arg4 {cs : Nat → Dir.CS} {L : List Nat} : ∀ j, j < 65 → ArgLe (0 :: 1 :: 2 :: 3 :: L) (dirF (gOf cs) j) (dirF (gOf cs) j) ∧ SV.Lt 5 (dirF (gOf cs) j) :=
  fun j _ => ⟨.same (gOf_lt4 cs j) (by simp) fun i hi => id4 hi, (gOf_lt4 cs j).mono (by decide)⟩
theorem dir_argR4 {cs : Nat → Dir.CS} {L : List Nat} {π : Nat → Nat} (hπ : ∀ l, l < 4 → π l = l) : ∀ j, j < 65 → ArgLe (0 :: 1 :: 2 :: 3 :: L) (SV.ren π (dirF (gOf cs) j)) (dirF (gOf cs) j) ∧ SV.Lt 5 (dirF (gOf cs) j) :=
  fun j hj => ⟨by rw [ren_id hπ (gOf_lt4 cs j)]; exact (dir_arg4 j hj).1, (gOf_lt4 cs j).mono (by decide)⟩
theorem ArgLe.sl5 {l z o n : Nat} : ArgLe [0, 1, 2, 3, l] (.sl l z o n) (.sl 4 z o n) := by
  refine ⟨fun E nx w v hv => ?_⟩
  cases hv with
  | sl _ _ _ _ ad cap hl hc hm ha h0 => exact .sl _ _ _ _ _ _ (by simp) hc hm ha h0
theorem law_New : Fun TC 8 0 [] [] 5 (.ptr 0 0) (dirH (gOf fun _ => .none) Dir.M0 (noteN 0) (noteF 0 (fun _ => []) (accD 0 2 1 0 1 true)) 0 1) := dir_NewF
theorem CallStop.fn5 {C : Cx} {nt : NT} {nx : Nat} {fr : List (Nat × SV)} {hp : List (Nat × Option Blk)} {g : Nat} {args : List SV} {k : St → SV → Prop} {m' : Nat} {args0 : List SV} {H H' : List (Nat × Option Blk)} {r : SV} {l : Nat} (h : Fun C g 5 args0 H m' r H')
    (hh : HeapLe hp [0, 1, 2, 3, l] H) (ha : ArgLes [0, 1, 2, 3, l] args args0) (hd : noDup [0, 1, 2, 3, l] = true) (hlive : liveK H 5 = true) (hkeys : keysK H' 5 = true) (hlt : keysLt H' m' = true)
    (hk : k ⟨nt, nx + (m' - 5), fr, postH (πf [0, 1, 2, 3, l] nx) hp H'⟩ (ren2 (πf [0, 1, 2, 3, l] nx) r)) : CallStop C ⟨nt, nx, fr, hp⟩ g args k :=
  .fn h _ rfl hd hlive hkeys hlt ha hh hk
end Go.Proofs.Ytbdclkjelhlfbaa

namespace Go.Proofs.Ytbdclkjelhlfbaa
open Go.RowKit
set_option maxRecDepth 100000

set_option maxHeartbeats 8000000 in
theorem awake_T : Pure TC 7 [] (.b true) := by
  have L0 := LawS.zero
  have K0 := aw_all
  obtain ⟨cs1, L1, K1, F1⟩ := aw_start L0 K0 (by decide) (by decide) (by decide) ⟨by intro x hx; simp at hx; try omega, by decide⟩ (by decide)
  have S1 := F1 (noteF 0 (fun _ => []) (accD 0 2 1 0 1 true)) 0
  obtain ⟨M2, cs2, f2, L2, K2, S2⟩ := aw_step L1 K1 (by decide) (by decide) (noteF 0 (fun _ => []) (accD 0 2 1 0 1 true)) 0
  obtain ⟨M3, cs3, f3, L3, K3, S3⟩ := aw_step L2 K2 (by decide) (by decide) f2 0
  obtain ⟨M4, cs4, f4, L4, K4, S4⟩ := aw_step L3 K3 (by decide) (by decide) f3 0
  obtain ⟨cs5, L5, K5, F5⟩ := aw_start L4 K4 (by decide) (by decide) (by decide) ⟨by intro x hx; simp at hx; try omega, by decide⟩ (by decide)
  have S5 := F5 f4 0
  obtain ⟨M6, cs6, f6, L6, K6, S6⟩ := aw_step L5 K5 (by decide) (by decide) f4 0
  obtain ⟨M7, cs7, f7, L7, K7, S7⟩ := aw_step L6 K6 (by decide) (by decide) f6 0
  obtain ⟨M8, cs8, f8, L8, K8, S8⟩ := aw_step L7 K7 (by decide) (by decide) f7 0
  obtain ⟨M9, cs9, f9, L9, K9, S9⟩ := aw_step L8 K8 (by decide) (by decide) f8 0
  obtain ⟨M10, cs10, f10, L10, K10, S10⟩ := aw_step L9 K9 (by decide) (by decide) f9 0
  obtain ⟨M11, cs11, f11, L11, K11, S11⟩ := aw_step L10 K10 (by decide) (by decide) f10 0
  obtain ⟨M12, cs12, f12, L12, K12, S12⟩ := aw_step L11 K11 (by decide) (by decide) f11 0
  obtain ⟨M13, cs13, f13, L13, K13, S13⟩ := aw_step L12 K12 (by decide) (by decide) f12 0
  obtain ⟨M14, cs14, f14, L14, K14, S14⟩ := aw_step L13 K13 (by decide) (by decide) f13 0
  obtain ⟨cs15, L15, K15, F15⟩ := aw_start L14 K14 (by decide) (by decide) (by decide) ⟨by intro x hx; simp at hx; try omega, by decide⟩ (by decide)
  have S15 := F15 f14 0
  obtain ⟨M16, cs16, f16, L16, K16, S16⟩ := aw_step L15 K15 (by decide) (by decide) f14 0
  obtain ⟨M17, cs17, f17, L17, K17, S17⟩ := aw_step L16 K16 (by decide) (by decide) f16 0
  have e17 : M17.W 0 = 2 := K17.e
  have SL := law_Level L17 f17 0
  rw [e17] at SL
  have ST := law_Steps L17 (by decide) f17 0
  clear K0 K1 K2 K3 K4 K5 K6 K7 K8 K9 K10 K11 K12 K13 K14 K15 K16 K17 L0 L1 L2 L3 L4 L5 L6 L7 L8 L9 L10 L11 L12 L13 L14 L15 L16 L17 F1 F5 F15
  refine Pure.mk' Try.func7 rfl rfl (Nat.le_of_ble_eq_true rfl) ?_
  (repeat' (first
    | with_reducible refine Wp.seq ?_
    | with_reducible refine Wp.block ?_
    | ((with_reducible refine Wp.region ?_); conv => whnf)
    | ((with_reducible refine Wp.drawL TC_mixed ?_); conv => whnf)
    | ((with_reducible refine Wp.cond ?_); conv => whnf)
    | ((with_reducible refine Wp.ret ?_); conv => whnf)
    | ((with_reducible refine Wp.skip ?_); conv => whnf)
    | ((with_reducible refine Wp.exit ?_); conv => whnf)
    | ((with_reducible refine Go.mk ?_); conv => whnf)
    | ((with_reducible apply Eff1.of); conv => whnf)
    | with_reducible exact rfl
    | ((with_reducible refine Ov.ok (by first | exact IntWalk.i64_in _ (by omega) | exact IntWalk.u64_in _ (by omega) | exact IntWalk.u8_in _ (by omega) | exact IntWalk.u32_in _ (by omega) | exact IntWalk.i32_in _ (by omega) | exact IntWalk.u16_in _ (by omega)) ?_); conv => whnf)
    | (with_reducible refine Ov.sh1 (by with_unfolding_all exact rfl) ?_)
    | ((with_reducible refine Ov.quo (by omega) (by omega) (by omega) (fun _ _ => ?_)); conv => whnf)
    | ((with_reducible refine And.intro (show drawOK _ _ _ _ = true by kernel_rfl) ?_); conv => whnf)
    | ((with_reducible refine And.intro (by first | omega | exact Nat.le_of_ble_eq_true rfl) ?_); conv => whnf)
    | ((with_reducible refine And.intro ?hb ?_); (case hb => exact bytes_bd (Nat.le_of_ble_eq_true rfl) (by omega)); (conv => whnf))
    | ((refine DApp.a rfl rfl rfl rfl rfl rfl ?hb ?_); (case hb => first | exact bytes_bd (Nat.le_of_ble_eq_true rfl) (by omega) | omega); (conv => whnf))
    | ((refine DApp.b rfl rfl rfl rfl rfl rfl rfl rfl ?hb ?ho ?_); (case hb => first | exact bytes_bd (Nat.le_of_ble_eq_true rfl) (by omega) | omega); (case ho => omega); (conv => whnf))
    | ((refine DApp.c rfl rfl rfl rfl rfl ?hb ?_); (case hb => first | exact bytes_bd (Nat.le_of_ble_eq_true rfl) (by omega) | omega); (conv => whnf))
    | ((refine DApp.d rfl rfl rfl rfl rfl rfl ?hb ?ho ?_); (case hb => first | exact bytes_bd (Nat.le_of_ble_eq_true rfl) (by omega) | omega); (case ho => omega); (conv => whnf))
    | ((with_reducible refine nil_no (by omega) ?_); (conv => whnf))
    | ((with_reducible refine nil_any ?_ (fun hn0 => ?_)) <;> (conv => whnf))
    | ((refine CallStop.fn (law_New) [] rfl rfl rfl rfl rfl ?ha ?hh ?_); (case ha => ((conv => whnf); repeat' (first | exact trivial | exact ArgLe.rfl rfl | exact ArgLe.ptr rfl | exact ArgLe.sl rfl | ((with_reducible refine ArgLe.fn ?_); (conv => whnf)) | ((refine ArgLe.iref ?_); (conv => whnf)) | exact ArgLe.free SV.Le.nil rfl | ((with_reducible refine And.intro ?_ ?_) <;> (conv => whnf)) | ((refine ArgLe.free ?_ rfl); (repeat' (first | exact SV.Le.rfl _ | exact SV.Le.nil | exact SV.Le.sl (fun i hi => by (rcases i with _ | _ | _ | _ | i) <;> first | rfl | (exfalso; omega)) | with_reducible refine SV.Le.agg ?_ | exact Les.nil | with_reducible refine Les.cons ?_ ?_)))))); (case hh => ((conv => whnf); repeat' (first | exact trivial | exact ArgLe.rfl rfl | exact ArgLe.ptr rfl | exact ArgLe.sl rfl | ((with_reducible refine ArgLe.fn ?_); (conv => whnf)) | ((refine ArgLe.iref ?_); (conv => whnf)) | exact ArgLe.free SV.Le.nil rfl | exact ⟨rfl, rfl, rfl⟩ | exact fun i hi => rfl | exact (fun i hi => by (rcases i with _ | i) <;> first | rfl | (exfalso; omega)) | ((with_reducible refine And.intro ?_ ?_) <;> (conv => whnf))))); (conv => whnf))
    | ((refine DCall.fn (law_New) [] [] rfl rfl rfl rfl rfl ?ha ?hh ?hs ?_); (case ha => ((conv => whnf); repeat' (first | exact trivial | exact ArgLe.rfl rfl | exact ArgLe.ptr rfl | exact ArgLe.sl rfl | ((with_reducible refine ArgLe.fn ?_); (conv => whnf)) | ((refine ArgLe.iref ?_); (conv => whnf)) | exact ArgLe.free SV.Le.nil rfl | ((with_reducible refine And.intro ?_ ?_) <;> (conv => whnf)) | ((refine ArgLe.free ?_ rfl); (repeat' (first | exact SV.Le.rfl _ | exact SV.Le.nil | exact SV.Le.sl (fun i hi => by (rcases i with _ | _ | _ | _ | i) <;> first | rfl | (exfalso; omega)) | with_reducible refine SV.Le.agg ?_ | exact Les.nil | with_reducible refine Les.cons ?_ ?_)))))); (case hh => ((conv => whnf); repeat' (first | exact trivial | exact ArgLe.rfl rfl | exact ArgLe.ptr rfl | exact ArgLe.sl rfl | ((with_reducible refine ArgLe.fn ?_); (conv => whnf)) | ((refine ArgLe.iref ?_); (conv => whnf)) | exact ArgLe.free SV.Le.nil rfl | exact ⟨rfl, rfl, rfl⟩ | exact fun i hi => rfl | exact (fun i hi => by (rcases i with _ | i) <;> first | rfl | (exfalso; omega)) | ((with_reducible refine And.intro ?_ ?_) <;> (conv => whnf))))); (case hs => (conv => whnf); repeat' (first | exact trivial | ((refine And.intro rfl ?_); (conv => whnf)))); (conv => whnf)) | ((refine DCall.new (law_New) [] [] rfl rfl rfl rfl rfl rfl ?ha ?hh ?hs ?_); (case ha => ((conv => whnf); repeat' (first | exact trivial | exact ArgLe.rfl rfl | exact ArgLe.ptr rfl | exact ArgLe.sl rfl | ((with_reducible refine ArgLe.fn ?_); (conv => whnf)) | ((refine ArgLe.iref ?_); (conv => whnf)) | exact ArgLe.free SV.Le.nil rfl | ((with_reducible refine And.intro ?_ ?_) <;> (conv => whnf)) | ((refine ArgLe.free ?_ rfl); (repeat' (first | exact SV.Le.rfl _ | exact SV.Le.nil | exact SV.Le.sl (fun i hi => by (rcases i with _ | _ | _ | _ | i) <;> first | rfl | (exfalso; omega)) | with_reducible refine SV.Le.agg ?_ | exact Les.nil | with_reducible refine Les.cons ?_ ?_)))))); (case hh => ((conv => whnf); repeat' (first | exact trivial | exact ArgLe.rfl rfl | exact ArgLe.ptr rfl | exact ArgLe.sl rfl | ((with_reducible refine ArgLe.fn ?_); (conv => whnf)) | ((refine ArgLe.iref ?_); (conv => whnf)) | exact ArgLe.free SV.Le.nil rfl | exact ⟨rfl, rfl, rfl⟩ | exact fun i hi => rfl | exact (fun i hi => by (rcases i with _ | i) <;> first | rfl | (exfalso; omega)) | ((with_reducible refine And.intro ?_ ?_) <;> (conv => whnf))))); (case hs => (conv => whnf); repeat' (first | exact trivial | ((refine And.intro rfl ?_); (conv => whnf)))); (conv => whnf))
    | (with_reducible refine CallStop.inline Try.func19 rfl rfl rfl (Nat.le_of_ble_eq_true rfl) ?_)
    | ((with_reducible refine Wp.loopN 10 ?_); conv => whnf)
    | ((apply CallStop.fn5 (h := S1)); (case hh => ((conv => whnf); repeat' (first | exact trivial | exact ArgLe.rfl rfl | exact ArgLe.ptr rfl | exact ArgLe.sl5 | exact ArgLe.sl rfl | exact ⟨rfl, rfl, rfl⟩ | exact ⟨rfl, Nat.le_of_ble_eq_true rfl⟩ | exact dir_arg4 | exact dir_argR4 (fun l hl => by rcases l with _ | _ | _ | _ | l <;> first | rfl | omega) | exact fun i hi => rfl | ((with_reducible refine And.intro ?_ ?_) <;> (conv => whnf))))); (case ha => ((conv => whnf); repeat' (first | exact trivial | exact ArgLe.rfl rfl | exact ArgLe.ptr rfl | exact ArgLe.sl rfl | ((with_reducible refine ArgLe.fn ?_); (conv => whnf)) | ((refine ArgLe.iref ?_); (conv => whnf)) | exact ArgLe.free SV.Le.nil rfl | ((with_reducible refine And.intro ?_ ?_) <;> (conv => whnf)) | ((refine ArgLe.free ?_ rfl); (repeat' (first | exact SV.Le.rfl _ | exact SV.Le.nil | exact SV.Le.sl (fun i hi => by (rcases i with _ | _ | _ | _ | i) <;> first | rfl | (exfalso; omega)) | with_reducible refine SV.Le.agg ?_ | exact Les.nil | with_reducible refine Les.cons ?_ ?_)))))); (case hd => exact rfl); (case hlive => exact rfl); (case hkeys => exact rfl); (case hlt => exact rfl); (conv => whnf))
    | ((apply CallStop.fn5 (h := S2)); (case hh => ((conv => whnf); repeat' (first | exact trivial | exact ArgLe.rfl rfl | exact ArgLe.ptr rfl | exact ArgLe.sl5 | exact ArgLe.sl rfl | exact ⟨rfl, rfl, rfl⟩ | exact ⟨rfl, Nat.le_of_ble_eq_true rfl⟩ | exact dir_arg4 | exact dir_argR4 (fun l hl => by rcases l with _ | _ | _ | _ | l <;> first | rfl | omega) | exact fun i hi => rfl | ((with_reducible refine And.intro ?_ ?_) <;> (conv => whnf))))); (case ha => ((conv => whnf); repeat' (first | exact trivial | exact ArgLe.rfl rfl | exact ArgLe.ptr rfl | exact ArgLe.sl rfl | ((with_reducible refine ArgLe.fn ?_); (conv => whnf)) | ((refine ArgLe.iref ?_); (conv => whnf)) | exact ArgLe.free SV.Le.nil rfl | ((with_reducible refine And.intro ?_ ?_) <;> (conv => whnf)) | ((refine ArgLe.free ?_ rfl); (repeat' (first | exact SV.Le.rfl _ | exact SV.Le.nil | exact SV.Le.sl (fun i hi => by (rcases i with _ | _ | _ | _ | i) <;> first | rfl | (exfalso; omega)) | with_reducible refine SV.Le.agg ?_ | exact Les.nil | with_reducible refine Les.cons ?_ ?_)))))); (case hd => exact rfl); (case hlive => exact rfl); (case hkeys => exact rfl); (case hlt => exact rfl); (conv => whnf))
    | ((apply CallStop.fn5 (h := S3)); (case hh => ((conv => whnf); repeat' (first | exact trivial | exact ArgLe.rfl rfl | exact ArgLe.ptr rfl | exact ArgLe.sl5 | exact ArgLe.sl rfl | exact ⟨rfl, rfl, rfl⟩ | exact ⟨rfl, Nat.le_of_ble_eq_true rfl⟩ | exact dir_arg4 | exact dir_argR4 (fun l hl => by rcases l with _ | _ | _ | _ | l <;> first | rfl | omega) | exact fun i hi => rfl | ((with_reducible refine And.intro ?_ ?_) <;> (conv => whnf))))); (case ha => ((conv => whnf); repeat' (first | exact trivial | exact ArgLe.rfl rfl | exact ArgLe.ptr rfl | exact ArgLe.sl rfl | ((with_reducible refine ArgLe.fn ?_); (conv => whnf)) | ((refine ArgLe.iref ?_); (conv => whnf)) | exact ArgLe.free SV.Le.nil rfl | ((with_reducible refine And.intro ?_ ?_) <;> (conv => whnf)) | ((refine ArgLe.free ?_ rfl); (repeat' (first | exact SV.Le.rfl _ | exact SV.Le.nil | exact SV.Le.sl (fun i hi => by (rcases i with _ | _ | _ | _ | i) <;> first | rfl | (exfalso; omega)) | with_reducible refine SV.Le.agg ?_ | exact Les.nil | with_reducible refine Les.cons ?_ ?_)))))); (case hd => exact rfl); (case hlive => exact rfl); (case hkeys => exact rfl); (case hlt => exact rfl); (conv => whnf))
    | ((apply CallStop.fn5 (h := S4)); (case hh => ((conv => whnf); repeat' (first | exact trivial | exact ArgLe.rfl rfl | exact ArgLe.ptr rfl | exact ArgLe.sl5 | exact ArgLe.sl rfl | exact ⟨rfl, rfl, rfl⟩ | exact ⟨rfl, Nat.le_of_ble_eq_true rfl⟩ | exact dir_arg4 | exact dir_argR4 (fun l hl => by rcases l with _ | _ | _ | _ | l <;> first | rfl | omega) | exact fun i hi => rfl | ((with_reducible refine And.intro ?_ ?_) <;> (conv => whnf))))); (case ha => ((conv => whnf); repeat' (first | exact trivial | exact ArgLe.rfl rfl | exact ArgLe.ptr rfl | exact ArgLe.sl rfl | ((with_reducible refine ArgLe.fn ?_); (conv => whnf)) | ((refine ArgLe.iref ?_); (conv => whnf)) | exact ArgLe.free SV.Le.nil rfl | ((with_reducible refine And.intro ?_ ?_) <;> (conv => whnf)) | ((refine ArgLe.free ?_ rfl); (repeat' (first | exact SV.Le.rfl _ | exact SV.Le.nil | exact SV.Le.sl (fun i hi => by (rcases i with _ | _ | _ | _ | i) <;> first | rfl | (exfalso; omega)) | with_reducible refine SV.Le.agg ?_ | exact Les.nil | with_reducible refine Les.cons ?_ ?_)))))); (case hd => exact rfl); (case hlive => exact rfl); (case hkeys => exact rfl); (case hlt => exact rfl); (conv => whnf))
    | ((apply CallStop.fn5 (h := S5)); (case hh => ((conv => whnf); repeat' (first | exact trivial | exact ArgLe.rfl rfl | exact ArgLe.ptr rfl | exact ArgLe.sl5 | exact ArgLe.sl rfl | exact ⟨rfl, rfl, rfl⟩ | exact ⟨rfl, Nat.le_of_ble_eq_true rfl⟩ | exact dir_arg4 | exact dir_argR4 (fun l hl => by rcases l with _ | _ | _ | _ | l <;> first | rfl | omega) | exact fun i hi => rfl | ((with_reducible refine And.intro ?_ ?_) <;> (conv => whnf))))); (case ha => ((conv => whnf); repeat' (first | exact trivial | exact ArgLe.rfl rfl | exact ArgLe.ptr rfl | exact ArgLe.sl rfl | ((with_reducible refine ArgLe.fn ?_); (conv => whnf)) | ((refine ArgLe.iref ?_); (conv => whnf)) | exact ArgLe.free SV.Le.nil rfl | ((with_reducible refine And.intro ?_ ?_) <;> (conv => whnf)) | ((refine ArgLe.free ?_ rfl); (repeat' (first | exact SV.Le.rfl _ | exact SV.Le.nil | exact SV.Le.sl (fun i hi => by (rcases i with _ | _ | _ | _ | i) <;> first | rfl | (exfalso; omega)) | with_reducible refine SV.Le.agg ?_ | exact Les.nil | with_reducible refine Les.cons ?_ ?_)))))); (case hd => exact rfl); (case hlive => exact rfl); (case hkeys => exact rfl); (case hlt => exact rfl); (conv => whnf))
    | ((apply CallStop.fn5 (h := S6)); (case hh => ((conv => whnf); repeat' (first | exact trivial | exact ArgLe.rfl rfl | exact ArgLe.ptr rfl | exact ArgLe.sl5 | exact ArgLe.sl rfl | exact ⟨rfl, rfl, rfl⟩ | exact ⟨rfl, Nat.le_of_ble_eq_true rfl⟩ | exact dir_arg4 | exact dir_argR4 (fun l hl => by rcases l with _ | _ | _ | _ | l <;> first | rfl | omega) | exact fun i hi => rfl | ((with_reducible refine And.intro ?_ ?_) <;> (conv => whnf))))); (case ha => ((conv => whnf); repeat' (first | exact trivial | exact ArgLe.rfl rfl | exact ArgLe.ptr rfl | exact ArgLe.sl rfl | ((with_reducible refine ArgLe.fn ?_); (conv => whnf)) | ((refine ArgLe.iref ?_); (conv => whnf)) | exact ArgLe.free SV.Le.nil rfl | ((with_reducible refine And.intro ?_ ?_) <;> (conv => whnf)) | ((refine ArgLe.free ?_ rfl); (repeat' (first | exact SV.Le.rfl _ | exact SV.Le.nil | exact SV.Le.sl (fun i hi => by (rcases i with _ | _ | _ | _ | i) <;> first | rfl | (exfalso; omega)) | with_reducible refine SV.Le.agg ?_ | exact Les.nil | with_reducible refine Les.cons ?_ ?_)))))); (case hd => exact rfl); (case hlive => exact rfl); (case hkeys => exact rfl); (case hlt => exact rfl); (conv => whnf))
    | ((apply CallStop.fn5 (h := S7)); (case hh => ((conv => whnf); repeat' (first | exact trivial | exact ArgLe.rfl rfl | exact ArgLe.ptr rfl | exact ArgLe.sl5 | exact ArgLe.sl rfl | exact ⟨rfl, rfl, rfl⟩ | exact ⟨rfl, Nat.le_of_ble_eq_true rfl⟩ | exact dir_arg4 | exact dir_argR4 (fun l hl => by rcases l with _ | _ | _ | _ | l <;> first | rfl | omega) | exact fun i hi => rfl | ((with_reducible refine And.intro ?_ ?_) <;> (conv => whnf))))); (case ha => ((conv => whnf); repeat' (first | exact trivial | exact ArgLe.rfl rfl | exact ArgLe.ptr rfl | exact ArgLe.sl rfl | ((with_reducible refine ArgLe.fn ?_); (conv => whnf)) | ((refine ArgLe.iref ?_); (conv => whnf)) | exact ArgLe.free SV.Le.nil rfl | ((with_reducible refine And.intro ?_ ?_) <;> (conv => whnf)) | ((refine ArgLe.free ?_ rfl); (repeat' (first | exact SV.Le.rfl _ | exact SV.Le.nil | exact SV.Le.sl (fun i hi => by (rcases i with _ | _ | _ | _ | i) <;> first | rfl | (exfalso; omega)) | with_reducible refine SV.Le.agg ?_ | exact Les.nil | with_reducible refine Les.cons ?_ ?_)))))); (case hd => exact rfl); (case hlive => exact rfl); (case hkeys => exact rfl); (case hlt => exact rfl); (conv => whnf))
    | ((apply CallStop.fn5 (h := S8)); (case hh => ((conv => whnf); repeat' (first | exact trivial | exact ArgLe.rfl rfl | exact ArgLe.ptr rfl | exact ArgLe.sl5 | exact ArgLe.sl rfl | exact ⟨rfl, rfl, rfl⟩ | exact ⟨rfl, Nat.le_of_ble_eq_true rfl⟩ | exact dir_arg4 | exact dir_argR4 (fun l hl => by rcases l with _ | _ | _ | _ | l <;> first | rfl | omega) | exact fun i hi => rfl | ((with_reducible refine And.intro ?_ ?_) <;> (conv => whnf))))); (case ha => ((conv => whnf); repeat' (first | exact trivial | exact ArgLe.rfl rfl | exact ArgLe.ptr rfl | exact ArgLe.sl rfl | ((with_reducible refine ArgLe.fn ?_); (conv => whnf)) | ((refine ArgLe.iref ?_); (conv => whnf)) | exact ArgLe.free SV.Le.nil rfl | ((with_reducible refine And.intro ?_ ?_) <;> (conv => whnf)) | ((refine ArgLe.free ?_ rfl); (repeat' (first | exact SV.Le.rfl _ | exact SV.Le.nil | exact SV.Le.sl (fun i hi => by (rcases i with _ | _ | _ | _ | i) <;> first | rfl | (exfalso; omega)) | with_reducible refine SV.Le.agg ?_ | exact Les.nil | with_reducible refine Les.cons ?_ ?_)))))); (case hd => exact rfl); (case hlive => exact rfl); (case hkeys => exact rfl); (case hlt => exact rfl); (conv => whnf))
    | ((apply CallStop.fn5 (h := S9)); (case hh => ((conv => whnf); repeat' (first | exact trivial | exact ArgLe.rfl rfl | exact ArgLe.ptr rfl | exact ArgLe.sl5 | exact ArgLe.sl rfl | exact ⟨rfl, rfl, rfl⟩ | exact ⟨rfl, Nat.le_of_ble_eq_true rfl⟩ | exact dir_arg4 | exact dir_argR4 (fun l hl => by rcases l with _ | _ | _ | _ | l <;> first | rfl | omega) | exact fun i hi => rfl | ((with_reducible refine And.intro ?_ ?_) <;> (conv => whnf))))); (case ha => ((conv => whnf); repeat' (first | exact trivial | exact ArgLe.rfl rfl | exact ArgLe.ptr rfl | exact ArgLe.sl rfl | ((with_reducible refine ArgLe.fn ?_); (conv => whnf)) | ((refine ArgLe.iref ?_); (conv => whnf)) | exact ArgLe.free SV.Le.nil rfl | ((with_reducible refine And.intro ?_ ?_) <;> (conv => whnf)) | ((refine ArgLe.free ?_ rfl); (repeat' (first | exact SV.Le.rfl _ | exact SV.Le.nil | exact SV.Le.sl (fun i hi => by (rcases i with _ | _ | _ | _ | i) <;> first | rfl | (exfalso; omega)) | with_reducible refine SV.Le.agg ?_ | exact Les.nil | with_reducible refine Les.cons ?_ ?_)))))); (case hd => exact rfl); (case hlive => exact rfl); (case hkeys => exact rfl); (case hlt => exact rfl); (conv => whnf))
    | ((apply CallStop.fn5 (h := S10)); (case hh => ((conv => whnf); repeat' (first | exact trivial | exact ArgLe.rfl rfl | exact ArgLe.ptr rfl | exact ArgLe.sl5 | exact ArgLe.sl rfl | exact ⟨rfl, rfl, rfl⟩ | exact ⟨rfl, Nat.le_of_ble_eq_true rfl⟩ | exact dir_arg4 | exact dir_argR4 (fun l hl => by rcases l with _ | _ | _ | _ | l <;> first | rfl | omega) | exact fun i hi => rfl | ((with_reducible refine And.intro ?_ ?_) <;> (conv => whnf))))); (case ha => ((conv => whnf); repeat' (first | exact trivial | exact ArgLe.rfl rfl | exact ArgLe.ptr rfl | exact ArgLe.sl rfl | ((with_reducible refine ArgLe.fn ?_); (conv => whnf)) | ((refine ArgLe.iref ?_); (conv => whnf)) | exact ArgLe.free SV.Le.nil rfl | ((with_reducible refine And.intro ?_ ?_) <;> (conv => whnf)) | ((refine ArgLe.free ?_ rfl); (repeat' (first | exact SV.Le.rfl _ | exact SV.Le.nil | exact SV.Le.sl (fun i hi => by (rcases i with _ | _ | _ | _ | i) <;> first | rfl | (exfalso; omega)) | with_reducible refine SV.Le.agg ?_ | exact Les.nil | with_reducible refine Les.cons ?_ ?_)))))); (case hd => exact rfl); (case hlive => exact rfl); (case hkeys => exact rfl); (case hlt => exact rfl); (conv => whnf))
    | ((apply CallStop.fn5 (h := S11)); (case hh => ((conv => whnf); repeat' (first | exact trivial | exact ArgLe.rfl rfl | exact ArgLe.ptr rfl | exact ArgLe.sl5 | exact ArgLe.sl rfl | exact ⟨rfl, rfl, rfl⟩ | exact ⟨rfl, Nat.le_of_ble_eq_true rfl⟩ | exact dir_arg4 | exact dir_argR4 (fun l hl => by rcases l with _ | _ | _ | _ | l <;> first | rfl | omega) | exact fun i hi => rfl | ((with_reducible refine And.intro ?_ ?_) <;> (conv => whnf))))); (case ha => ((conv => whnf); repeat' (first | exact trivial | exact ArgLe.rfl rfl | exact ArgLe.ptr rfl | exact ArgLe.sl rfl | ((with_reducible refine ArgLe.fn ?_); (conv => whnf)) | ((refine ArgLe.iref ?_); (conv => whnf)) | exact ArgLe.free SV.Le.nil rfl | ((with_reducible refine And.intro ?_ ?_) <;> (conv => whnf)) | ((refine ArgLe.free ?_ rfl); (repeat' (first | exact SV.Le.rfl _ | exact SV.Le.nil | exact SV.Le.sl (fun i hi => by (rcases i with _ | _ | _ | _ | i) <;> first | rfl | (exfalso; omega)) | with_reducible refine SV.Le.agg ?_ | exact Les.nil | with_reducible refine Les.cons ?_ ?_)))))); (case hd => exact rfl); (case hlive => exact rfl); (case hkeys => exact rfl); (case hlt => exact rfl); (conv => whnf))
    | ((apply CallStop.fn5 (h := S12)); (case hh => ((conv => whnf); repeat' (first | exact trivial | exact ArgLe.rfl rfl | exact ArgLe.ptr rfl | exact ArgLe.sl5 | exact ArgLe.sl rfl | exact ⟨rfl, rfl, rfl⟩ | exact ⟨rfl, Nat.le_of_ble_eq_true rfl⟩ | exact dir_arg4 | exact dir_argR4 (fun l hl => by rcases l with _ | _ | _ | _ | l <;> first | rfl | omega) | exact fun i hi => rfl | ((with_reducible refine And.intro ?_ ?_) <;> (conv => whnf))))); (case ha => ((conv => whnf); repeat' (first | exact trivial | exact ArgLe.rfl rfl | exact ArgLe.ptr rfl | exact ArgLe.sl rfl | ((with_reducible refine ArgLe.fn ?_); (conv => whnf)) | ((refine ArgLe.iref ?_); (conv => whnf)) | exact ArgLe.free SV.Le.nil rfl | ((with_reducible refine And.intro ?_ ?_) <;> (conv => whnf)) | ((refine ArgLe.free ?_ rfl); (repeat' (first | exact SV.Le.rfl _ | exact SV.Le.nil | exact SV.Le.sl (fun i hi => by (rcases i with _ | _ | _ | _ | i) <;> first | rfl | (exfalso; omega)) | with_reducible refine SV.Le.agg ?_ | exact Les.nil | with_reducible refine Les.cons ?_ ?_)))))); (case hd => exact rfl); (case hlive => exact rfl); (case hkeys => exact rfl); (case hlt => exact rfl); (conv => whnf))
    | ((apply CallStop.fn5 (h := S13)); (case hh => ((conv => whnf); repeat' (first | exact trivial | exact ArgLe.rfl rfl | exact ArgLe.ptr rfl | exact ArgLe.sl5 | exact ArgLe.sl rfl | exact ⟨rfl, rfl, rfl⟩ | exact ⟨rfl, Nat.le_of_ble_eq_true rfl⟩ | exact dir_arg4 | exact dir_argR4 (fun l hl => by rcases l with _ | _ | _ | _ | l <;> first | rfl | omega) | exact fun i hi => rfl | ((with_reducible refine And.intro ?_ ?_) <;> (conv => whnf))))); (case ha => ((conv => whnf); repeat' (first | exact trivial | exact ArgLe.rfl rfl | exact ArgLe.ptr rfl | exact ArgLe.sl rfl | ((with_reducible refine ArgLe.fn ?_); (conv => whnf)) | ((refine ArgLe.iref ?_); (conv => whnf)) | exact ArgLe.free SV.Le.nil rfl | ((with_reducible refine And.intro ?_ ?_) <;> (conv => whnf)) | ((refine ArgLe.free ?_ rfl); (repeat' (first | exact SV.Le.rfl _ | exact SV.Le.nil | exact SV.Le.sl (fun i hi => by (rcases i with _ | _ | _ | _ | i) <;> first | rfl | (exfalso; omega)) | with_reducible refine SV.Le.agg ?_ | exact Les.nil | with_reducible refine Les.cons ?_ ?_)))))); (case hd => exact rfl); (case hlive => exact rfl); (case hkeys => exact rfl); (case hlt => exact rfl); (conv => whnf))
    | ((apply CallStop.fn5 (h := S14)); (case hh => ((conv => whnf); repeat' (first | exact trivial | exact ArgLe.rfl rfl | exact ArgLe.ptr rfl | exact ArgLe.sl5 | exact ArgLe.sl rfl | exact ⟨rfl, rfl, rfl⟩ | exact ⟨rfl, Nat.le_of_ble_eq_true rfl⟩ | exact dir_arg4 | exact dir_argR4 (fun l hl => by rcases l with _ | _ | _ | _ | l <;> first | rfl | omega) | exact fun i hi => rfl | ((with_reducible refine And.intro ?_ ?_) <;> (conv => whnf))))); (case ha => ((conv => whnf); repeat' (first | exact trivial | exact ArgLe.rfl rfl | exact ArgLe.ptr rfl | exact ArgLe.sl rfl | ((with_reducible refine ArgLe.fn ?_); (conv => whnf)) | ((refine ArgLe.iref ?_); (conv => whnf)) | exact ArgLe.free SV.Le.nil rfl | ((with_reducible refine And.intro ?_ ?_) <;> (conv => whnf)) | ((refine ArgLe.free ?_ rfl); (repeat' (first | exact SV.Le.rfl _ | exact SV.Le.nil | exact SV.Le.sl (fun i hi => by (rcases i with _ | _ | _ | _ | i) <;> first | rfl | (exfalso; omega)) | with_reducible refine SV.Le.agg ?_ | exact Les.nil | with_reducible refine Les.cons ?_ ?_)))))); (case hd => exact rfl); (case hlive => exact rfl); (case hkeys => exact rfl); (case hlt => exact rfl); (conv => whnf))
    | ((apply CallStop.fn5 (h := S15)); (case hh => ((conv => whnf); repeat' (first | exact trivial | exact ArgLe.rfl rfl | exact ArgLe.ptr rfl | exact ArgLe.sl5 | exact ArgLe.sl rfl | exact ⟨rfl, rfl, rfl⟩ | exact ⟨rfl, Nat.le_of_ble_eq_true rfl⟩ | exact dir_arg4 | exact dir_argR4 (fun l hl => by rcases l with _ | _ | _ | _ | l <;> first | rfl | omega) | exact fun i hi => rfl | ((with_reducible refine And.intro ?_ ?_) <;> (conv => whnf))))); (case ha => ((conv => whnf); repeat' (first | exact trivial | exact ArgLe.rfl rfl | exact ArgLe.ptr rfl | exact ArgLe.sl rfl | ((with_reducible refine ArgLe.fn ?_); (conv => whnf)) | ((refine ArgLe.iref ?_); (conv => whnf)) | exact ArgLe.free SV.Le.nil rfl | ((with_reducible refine And.intro ?_ ?_) <;> (conv => whnf)) | ((refine ArgLe.free ?_ rfl); (repeat' (first | exact SV.Le.rfl _ | exact SV.Le.nil | exact SV.Le.sl (fun i hi => by (rcases i with _ | _ | _ | _ | i) <;> first | rfl | (exfalso; omega)) | with_reducible refine SV.Le.agg ?_ | exact Les.nil | with_reducible refine Les.cons ?_ ?_)))))); (case hd => exact rfl); (case hlive => exact rfl); (case hkeys => exact rfl); (case hlt => exact rfl); (conv => whnf))
    | ((apply CallStop.fn5 (h := S16)); (case hh => ((conv => whnf); repeat' (first | exact trivial | exact ArgLe.rfl rfl | exact ArgLe.ptr rfl | exact ArgLe.sl5 | exact ArgLe.sl rfl | exact ⟨rfl, rfl, rfl⟩ | exact ⟨rfl, Nat.le_of_ble_eq_true rfl⟩ | exact dir_arg4 | exact dir_argR4 (fun l hl => by rcases l with _ | _ | _ | _ | l <;> first | rfl | omega) | exact fun i hi => rfl | ((with_reducible refine And.intro ?_ ?_) <;> (conv => whnf))))); (case ha => ((conv => whnf); repeat' (first | exact trivial | exact ArgLe.rfl rfl | exact ArgLe.ptr rfl | exact ArgLe.sl rfl | ((with_reducible refine ArgLe.fn ?_); (conv => whnf)) | ((refine ArgLe.iref ?_); (conv => whnf)) | exact ArgLe.free SV.Le.nil rfl | ((with_reducible refine And.intro ?_ ?_) <;> (conv => whnf)) | ((refine ArgLe.free ?_ rfl); (repeat' (first | exact SV.Le.rfl _ | exact SV.Le.nil | exact SV.Le.sl (fun i hi => by (rcases i with _ | _ | _ | _ | i) <;> first | rfl | (exfalso; omega)) | with_reducible refine SV.Le.agg ?_ | exact Les.nil | with_reducible refine Les.cons ?_ ?_)))))); (case hd => exact rfl); (case hlive => exact rfl); (case hkeys => exact rfl); (case hlt => exact rfl); (conv => whnf))
    | ((apply CallStop.fn5 (h := S17)); (case hh => ((conv => whnf); repeat' (first | exact trivial | exact ArgLe.rfl rfl | exact ArgLe.ptr rfl | exact ArgLe.sl5 | exact ArgLe.sl rfl | exact ⟨rfl, rfl, rfl⟩ | exact ⟨rfl, Nat.le_of_ble_eq_true rfl⟩ | exact dir_arg4 | exact dir_argR4 (fun l hl => by rcases l with _ | _ | _ | _ | l <;> first | rfl | omega) | exact fun i hi => rfl | ((with_reducible refine And.intro ?_ ?_) <;> (conv => whnf))))); (case ha => ((conv => whnf); repeat' (first | exact trivial | exact ArgLe.rfl rfl | exact ArgLe.ptr rfl | exact ArgLe.sl rfl | ((with_reducible refine ArgLe.fn ?_); (conv => whnf)) | ((refine ArgLe.iref ?_); (conv => whnf)) | exact ArgLe.free SV.Le.nil rfl | ((with_reducible refine And.intro ?_ ?_) <;> (conv => whnf)) | ((refine ArgLe.free ?_ rfl); (repeat' (first | exact SV.Le.rfl _ | exact SV.Le.nil | exact SV.Le.sl (fun i hi => by (rcases i with _ | _ | _ | _ | i) <;> first | rfl | (exfalso; omega)) | with_reducible refine SV.Le.agg ?_ | exact Les.nil | with_reducible refine Les.cons ?_ ?_)))))); (case hd => exact rfl); (case hlive => exact rfl); (case hkeys => exact rfl); (case hlt => exact rfl); (conv => whnf))
    | ((apply CallStop.fn5 (h := SL)); (case hh => ((conv => whnf); repeat' (first | exact trivial | exact ArgLe.rfl rfl | exact ArgLe.ptr rfl | exact ArgLe.sl5 | exact ArgLe.sl rfl | exact ⟨rfl, rfl, rfl⟩ | exact ⟨rfl, Nat.le_of_ble_eq_true rfl⟩ | exact dir_arg4 | exact dir_argR4 (fun l hl => by rcases l with _ | _ | _ | _ | l <;> first | rfl | omega) | exact fun i hi => rfl | ((with_reducible refine And.intro ?_ ?_) <;> (conv => whnf))))); (case ha => ((conv => whnf); repeat' (first | exact trivial | exact ArgLe.rfl rfl | exact ArgLe.ptr rfl | exact ArgLe.sl rfl | ((with_reducible refine ArgLe.fn ?_); (conv => whnf)) | ((refine ArgLe.iref ?_); (conv => whnf)) | exact ArgLe.free SV.Le.nil rfl | ((with_reducible refine And.intro ?_ ?_) <;> (conv => whnf)) | ((refine ArgLe.free ?_ rfl); (repeat' (first | exact SV.Le.rfl _ | exact SV.Le.nil | exact SV.Le.sl (fun i hi => by (rcases i with _ | _ | _ | _ | i) <;> first | rfl | (exfalso; omega)) | with_reducible refine SV.Le.agg ?_ | exact Les.nil | with_reducible refine Les.cons ?_ ?_)))))); (case hd => exact rfl); (case hlive => exact rfl); (case hkeys => exact rfl); (case hlt => exact rfl); (conv => whnf))
    | ((apply CallStop.fn5 (h := ST)); (case hh => ((conv => whnf); repeat' (first | exact trivial | exact ArgLe.rfl rfl | exact ArgLe.ptr rfl | exact ArgLe.sl5 | exact ArgLe.sl rfl | exact ⟨rfl, rfl, rfl⟩ | exact ⟨rfl, Nat.le_of_ble_eq_true rfl⟩ | exact dir_arg4 | exact dir_argR4 (fun l hl => by rcases l with _ | _ | _ | _ | l <;> first | rfl | omega) | exact fun i hi => rfl | ((with_reducible refine And.intro ?_ ?_) <;> (conv => whnf))))); (case ha => ((conv => whnf); repeat' (first | exact trivial | exact ArgLe.rfl rfl | exact ArgLe.ptr rfl | exact ArgLe.sl rfl | ((with_reducible refine ArgLe.fn ?_); (conv => whnf)) | ((refine ArgLe.iref ?_); (conv => whnf)) | exact ArgLe.free SV.Le.nil rfl | ((with_reducible refine And.intro ?_ ?_) <;> (conv => whnf)) | ((refine ArgLe.free ?_ rfl); (repeat' (first | exact SV.Le.rfl _ | exact SV.Le.nil | exact SV.Le.sl (fun i hi => by (rcases i with _ | _ | _ | _ | i) <;> first | rfl | (exfalso; omega)) | with_reducible refine SV.Le.agg ?_ | exact Les.nil | with_reducible refine Les.cons ?_ ?_)))))); (case hd => exact rfl); (case hlive => exact rfl); (case hkeys => exact rfl); (case hlt => exact rfl); (conv => whnf))
    | ((refine ways (fun hc => ?_) (fun hc => ?_)) <;> (try simp only [decide_eq_true_eq, decide_eq_false_iff_not, Bool.and_eq_true, Bool.or_eq_true, Bool.and_eq_false_iff, Bool.or_eq_false_iff, Bool.not_eq_true', Bool.not_eq_false', beq_iff_eq, bne_iff_ne, ne_eq, beq_eq_false_iff_ne, bne_eq_false_iff_eq, Bool.not_eq_true, Bool.not_eq_false] at hc) <;> (try (exfalso; omega)) <;> (conv => whnf))))
  exact .b (by decide)
end Go.Proofs.Ytbdclkjelhlfbaa

namespace Go.Proofs.Ytbdclkjelhlfbaa
open Go.RowKit
set_option maxRecDepth 100000

theorem startS_left {M : Dir.Mc} {cs : Nat → Dir.CS} {w : Nat} (op : Int) (key : List Int) (v : Int) (hc : cs w = .none) : Dir.left dirOps M.W (Dir.upd cs w (startS op key v)) ≤ Dir.left dirOps M.W cs := by
  have h : Dir.sumN 8 (fun j => Dir.T dirOps M.W (Dir.upd cs w (startS op key v) j)) ≤ Dir.sumN 8 (fun j => Dir.T dirOps M.W (cs j)) + 8 * 0 := by
    refine Dir.sumN_le fun j _ => ?_
    unfold Dir.upd
    split
    · rename_i e
      rw [e, hc]
      unfold startS
      split <;> (simp only [Dir.T]; first | omega | (split <;> omega))
    · omega
  unfold Dir.left
  omega
theorem quiet_on {k : Nat} {M : Dir.Mc} {cs : Nat → Dir.CS} {nl : Nat} {cnt q : Int} (h : LawS k M cs nl cnt) (hk : k ≤ 1000000) {w : Nat} (hw : w < 8) (hc : isC (cs w) = true) (hq : q + (Dir.left dirOps M.W cs : Int) ≤ 3448) :
    (if (Dir.step dirOps M (cs w)).2.2.done then 0 else q + 1) + (Dir.left dirOps (Dir.step dirOps M (cs w)).1.W (Dir.upd cs w (Dir.step dirOps M (cs w)).2.1) : Int) ≤ 3448 := by
  have h1 := h.step hk w
  cases e : (Dir.step dirOps M (cs w)).2.2.done with
  | true =>
    rw [if_pos rfl]
    have := Dir.left_le h1.inv.iw (fun j _ => h1.inv.cw j)
    omega
  | false =>
    rw [if_neg (by decide)]
    have := Dir.left_step fnd_done h.inv.iw ⟨h.inv.b, by unfold Dir.FZ; omega⟩ (fun j _ => h.inv.cw j) hw (isC_ne hc) e
    omega
theorem startS_is (op : Int) (key : List Int) (v : Int) : isC (startS op key v) = true := by unfold startS; split <;> rfl
theorem upd_same {α : Type} (f : Nat → α) (i : Nat) (x : α) : Dir.upd f i x i = x := if_pos rfl
end Go.Proofs.Ytbdclkjelhlfbaa

namespace Go.Proofs.Ytbdclkjelhlfbaa
open Go.RowKit
set_option maxRecDepth 100000

theorem pk_at {script : List Pk} (hs : ∀ a ∈ script, a.ok) (j : Nat) : (script.getD j default).ok := by
  rw [List.getD_eq_getElem?_getD]
  cases e : script[j]? with
  | none => exact ⟨by decide, by decide, fun x hx => absurd hx (by simp [default, instInhabitedPk.default]), by decide⟩
  | some a => exact hs a (List.mem_of_getElem? e)
set_option maxHeartbeats 8000000 in
theorem DirFree_holds (wk : Int) (h0 : 0 ≤ wk) (h1 : wk ≤ 255) (script : List Pk) (hs : ∀ a ∈ script, a.ok) : Pure TC 3 [.i .u8 wk, .d (slOf 4 Pk.D script)] (.b true) := by
  refine Pure.lens (.mk Try.func3 rfl rfl) fun hlen => ?_
  have hl := hlen script.length (by simp [lensOf, slOf])
  clear hlen
  have hm : wk.tmod 8 = wk % 8 := Int.tmod_eq_emod_of_nonneg h0
  refine Pure.mk' Try.func3 rfl rfl (Nat.le_of_ble_eq_true rfl) ?_
  (repeat' (first
    | with_reducible refine Wp.seq ?_
    | with_reducible refine Wp.block ?_
    | ((with_reducible refine Wp.region ?_); conv => whnf)
    | ((with_reducible refine Wp.drawL TC_mixed ?_); conv => whnf)
    | ((with_reducible refine Wp.cond ?_); conv => whnf)
    | ((with_reducible refine Wp.ret ?_); conv => whnf)
    | ((with_reducible refine Wp.skip ?_); conv => whnf)
    | ((with_reducible refine Wp.exit ?_); conv => whnf)
    | ((with_reducible refine Go.mk ?_); conv => whnf)
    | ((with_reducible apply Eff1.of); conv => whnf)
    | with_reducible exact rfl
    | ((with_reducible refine Ov.ok (by first | exact IntWalk.i64_in _ (by omega) | exact IntWalk.u64_in _ (by omega) | exact IntWalk.u8_in _ (by omega) | exact IntWalk.u32_in _ (by omega) | exact IntWalk.i32_in _ (by omega) | exact IntWalk.u16_in _ (by omega)) ?_); conv => whnf)
    | (with_reducible refine Ov.sh1 (by with_unfolding_all exact rfl) ?_)
    | ((with_reducible refine Ov.quo (by omega) (by omega) (by omega) (fun _ _ => ?_)); conv => whnf)
    | ((with_reducible refine And.intro (show drawOK _ _ _ _ = true by kernel_rfl) ?_); conv => whnf)
    | ((with_reducible refine And.intro (by first | omega | exact Nat.le_of_ble_eq_true rfl) ?_); conv => whnf)
    | ((with_reducible refine And.intro ?hb ?_); (case hb => exact bytes_bd (Nat.le_of_ble_eq_true rfl) (by omega)); (conv => whnf))
    | ((refine DApp.a rfl rfl rfl rfl rfl rfl ?hb ?_); (case hb => first | exact bytes_bd (Nat.le_of_ble_eq_true rfl) (by omega) | omega); (conv => whnf))
    | ((refine DApp.b rfl rfl rfl rfl rfl rfl rfl rfl ?hb ?ho ?_); (case hb => first | exact bytes_bd (Nat.le_of_ble_eq_true rfl) (by omega) | omega); (case ho => omega); (conv => whnf))
    | ((refine DApp.c rfl rfl rfl rfl rfl ?hb ?_); (case hb => first | exact bytes_bd (Nat.le_of_ble_eq_true rfl) (by omega) | omega); (conv => whnf))
    | ((refine DApp.d rfl rfl rfl rfl rfl rfl ?hb ?ho ?_); (case hb => first | exact bytes_bd (Nat.le_of_ble_eq_true rfl) (by omega) | omega); (case ho => omega); (conv => whnf))
    | ((with_reducible refine nil_no (by omega) ?_); (conv => whnf))
    | ((with_reducible refine nil_any ?_ (fun hn0 => ?_)) <;> (conv => whnf))
    | ((with_reducible refine CallStop.pure (awake_T) rfl rfl ?_); conv => whnf) | ((with_reducible refine DCall.pure (awake_T) rfl rfl ?_); conv => whnf)
    | ((refine CallStop.fn (law_New) [] rfl rfl rfl rfl rfl ?ha ?hh ?_); (case ha => ((conv => whnf); repeat' (first | exact trivial | exact ArgLe.rfl rfl | exact ArgLe.ptr rfl | exact ArgLe.sl rfl | ((with_reducible refine ArgLe.fn ?_); (conv => whnf)) | ((refine ArgLe.iref ?_); (conv => whnf)) | exact ArgLe.free SV.Le.nil rfl | ((with_reducible refine And.intro ?_ ?_) <;> (conv => whnf)) | ((refine ArgLe.free ?_ rfl); (repeat' (first | exact SV.Le.rfl _ | exact SV.Le.nil | exact SV.Le.sl (fun i hi => by (rcases i with _ | _ | _ | _ | i) <;> first | rfl | (exfalso; omega)) | with_reducible refine SV.Le.agg ?_ | exact Les.nil | with_reducible refine Les.cons ?_ ?_)))))); (case hh => ((conv => whnf); repeat' (first | exact trivial | exact ArgLe.rfl rfl | exact ArgLe.ptr rfl | exact ArgLe.sl rfl | ((with_reducible refine ArgLe.fn ?_); (conv => whnf)) | ((refine ArgLe.iref ?_); (conv => whnf)) | exact ArgLe.free SV.Le.nil rfl | exact ⟨rfl, rfl, rfl⟩ | exact fun i hi => rfl | exact (fun i hi => by (rcases i with _ | i) <;> first | rfl | (exfalso; omega)) | ((with_reducible refine And.intro ?_ ?_) <;> (conv => whnf))))); (conv => whnf))
    | ((refine DCall.fn (law_New) [] [] rfl rfl rfl rfl rfl ?ha ?hh ?hs ?_); (case ha => ((conv => whnf); repeat' (first | exact trivial | exact ArgLe.rfl rfl | exact ArgLe.ptr rfl | exact ArgLe.sl rfl | ((with_reducible refine ArgLe.fn ?_); (conv => whnf)) | ((refine ArgLe.iref ?_); (conv => whnf)) | exact ArgLe.free SV.Le.nil rfl | ((with_reducible refine And.intro ?_ ?_) <;> (conv => whnf)) | ((refine ArgLe.free ?_ rfl); (repeat' (first | exact SV.Le.rfl _ | exact SV.Le.nil | exact SV.Le.sl (fun i hi => by (rcases i with _ | _ | _ | _ | i) <;> first | rfl | (exfalso; omega)) | with_reducible refine SV.Le.agg ?_ | exact Les.nil | with_reducible refine Les.cons ?_ ?_)))))); (case hh => ((conv => whnf); repeat' (first | exact trivial | exact ArgLe.rfl rfl | exact ArgLe.ptr rfl | exact ArgLe.sl rfl | ((with_reducible refine ArgLe.fn ?_); (conv => whnf)) | ((refine ArgLe.iref ?_); (conv => whnf)) | exact ArgLe.free SV.Le.nil rfl | exact ⟨rfl, rfl, rfl⟩ | exact fun i hi => rfl | exact (fun i hi => by (rcases i with _ | i) <;> first | rfl | (exfalso; omega)) | ((with_reducible refine And.intro ?_ ?_) <;> (conv => whnf))))); (case hs => (conv => whnf); repeat' (first | exact trivial | ((refine And.intro rfl ?_); (conv => whnf)))); (conv => whnf)) | ((refine DCall.new (law_New) [] [] rfl rfl rfl rfl rfl rfl ?ha ?hh ?hs ?_); (case ha => ((conv => whnf); repeat' (first | exact trivial | exact ArgLe.rfl rfl | exact ArgLe.ptr rfl | exact ArgLe.sl rfl | ((with_reducible refine ArgLe.fn ?_); (conv => whnf)) | ((refine ArgLe.iref ?_); (conv => whnf)) | exact ArgLe.free SV.Le.nil rfl | ((with_reducible refine And.intro ?_ ?_) <;> (conv => whnf)) | ((refine ArgLe.free ?_ rfl); (repeat' (first | exact SV.Le.rfl _ | exact SV.Le.nil | exact SV.Le.sl (fun i hi => by (rcases i with _ | _ | _ | _ | i) <;> first | rfl | (exfalso; omega)) | with_reducible refine SV.Le.agg ?_ | exact Les.nil | with_reducible refine Les.cons ?_ ?_)))))); (case hh => ((conv => whnf); repeat' (first | exact trivial | exact ArgLe.rfl rfl | exact ArgLe.ptr rfl | exact ArgLe.sl rfl | ((with_reducible refine ArgLe.fn ?_); (conv => whnf)) | ((refine ArgLe.iref ?_); (conv => whnf)) | exact ArgLe.free SV.Le.nil rfl | exact ⟨rfl, rfl, rfl⟩ | exact fun i hi => rfl | exact (fun i hi => by (rcases i with _ | i) <;> first | rfl | (exfalso; omega)) | ((with_reducible refine And.intro ?_ ?_) <;> (conv => whnf))))); (case hs => (conv => whnf); repeat' (first | exact trivial | ((refine And.intro rfl ?_); (conv => whnf)))); (conv => whnf))
    | ((refine ways (fun hc => ?_) (fun hc => ?_)) <;> (try simp only [decide_eq_true_eq, decide_eq_false_iff_not, Bool.and_eq_true, Bool.or_eq_true, Bool.and_eq_false_iff, Bool.or_eq_false_iff, Bool.not_eq_true', Bool.not_eq_false', beq_iff_eq, bne_iff_ne, ne_eq, beq_eq_false_iff_ne, bne_eq_false_iff_eq, Bool.not_eq_true, Bool.not_eq_false] at hc) <;> (try (exfalso; omega)) <;> (conv => whnf))))
  refine Wp.loopP (ι := Nat × Dir.Mc × (Nat → Dir.CS) × Nat × (Nat → List D) × Int)
    (fun k => k.1 ≤ script.length ∧ k.1 ≤ 5000 ∧ LawS k.1 k.2.1 k.2.2.1 k.2.2.2.1 ((k.1 : Int) + 1) ∧ 0 ≤ k.2.2.2.2.2 ∧ k.2.2.2.2.2 + (Dir.left dirOps k.2.1.W k.2.2.1 : Int) ≤ 3448)
    (fun k => ⟨⟨Try.f3.ntmps, 0⟩, 5, [(5, .i .i64 (1 + wk.tmod 8)), (6, .ptr 0 0), (7, .i .i64 k.2.2.2.2.2), (20, .d (slOf 4 Pk.D script)), (21, .i .i64 script.length), (22, .i .i64 k.1)], dirH (gOf k.2.2.1) k.2.1 k.2.2.2.1 k.2.2.2.2.1 0 ((k.1 : Int) + 1)⟩)
    (fun k => script.length - k.1) (0, Dir.M0, fun _ => .none, noteN 0, noteF 0 (fun _ => []) (accD 0 2 1 0 1 true), 0)
    ⟨Nat.zero_le _, Nat.zero_le _, LawS.zero, Int.le_refl _, by have := Dir.left_le LawS.zero.inv.iw (fun j _ => LawS.zero.inv.cw j); dsimp only; omega⟩ ?_ ?_
  · (refine Le.by [0,1,2,3,4] rfl rfl rfl rfl ?_ ?_ <;> (conv => whnf) <;> (repeat' (first | exact trivial | exact ArgLe.rfl rfl | exact ArgLe.ptr rfl | exact ArgLe.sl rfl | exact dir_arg4 | exact dir_argR4 (fun l hl => by rcases l with _ | _ | _ | _ | l <;> first | rfl | omega) | exact ⟨rfl, rfl, rfl⟩ | exact ⟨rfl, Nat.le_of_ble_eq_true rfl⟩ | exact fun i hi => rfl | ((with_reducible refine And.intro ?_ ?_) <;> (conv => whnf)))))
  · rintro ⟨i, M, cs, nl, f, q⟩ ⟨h1, h2, h3, h4, h5⟩
    dsimp only at h1 h2 h3 h4 h5 ⊢
    have hok := pk_at hs (i : Int).toNat
    have hfit := law_fit _ hok
    have hbd := fitP_bd hok
    obtain ⟨p, hp⟩ : ∃ p, p = fitP (script.getD (i : Int).toNat default) := ⟨_, rfl⟩
    rw [← hp] at hfit hbd
    clear hp
    obtain ⟨⟨b1, b2⟩, b3, b4, b5, b6⟩ := hbd
    have hw0 : p.val.tmod (1 + wk.tmod 8) = p.val % (1 + wk.tmod 8) := Int.tmod_eq_emod_of_nonneg b5
    have hw1 : 0 ≤ p.val % (1 + wk.tmod 8) ∧ p.val % (1 + wk.tmod 8) < 1 + wk.tmod 8 := ⟨Int.emod_nonneg _ (by omega), Int.emod_lt_of_pos _ (by omega)⟩
    obtain ⟨w, hw⟩ : ∃ w : Nat, (w : Int) = p.val.tmod (1 + wk.tmod 8) := ⟨(p.val.tmod (1 + wk.tmod 8)).toNat, by omega⟩
    have hw8 : w < 8 := by omega
    have hop : p.op.tmod 4 = p.op % 4 := Int.tmod_eq_emod_of_nonneg b1
    have hP := law_Pending (M := M) (cs := cs) (nl := nl) (f := f) (clk := 0) (cnt := (i : Int) + 1) w (by omega)
    rw [hw] at hP
    have hv : tickB p.val = true := by simp [tickB]; omega
    cases hc : isC (cs w) with
    | true =>
      rw [hc] at hP
      obtain ⟨a, hS⟩ := law_Step (f := f) (clk := 0) h3 (by omega) w (by omega) hc
      have hq := quiet_on h3 (by omega) hw8 hc h5
      have hN := h3.step (by omega) w
      rw [hw] at hS
      generalize Dir.step dirOps M (cs w) = Q at hS hq hN
      obtain ⟨M', s', ⟨dn, re, rn⟩⟩ := Q
      dsimp only at hS hq hN
      generalize Dir.upd cs w s' = cs' at hS hq hN
      have hN' : LawS (i + 1) M' cs' (noteN nl) (((i + 1 : Nat) : Int) + 1) := by
        rw [show ((i + 1 : Nat) : Int) + 1 = (i : Int) + 1 + 1 by omega]; exact hN
      cases dn with
      | true =>
        rw [if_pos rfl] at hq
        (repeat' (first
    | with_reducible refine Wp.seq ?_
    | with_reducible refine Wp.block ?_
    | ((with_reducible refine Wp.region ?_); conv => whnf)
    | ((with_reducible refine Wp.drawL TC_mixed ?_); conv => whnf)
    | ((with_reducible refine Wp.cond ?_); conv => whnf)
    | ((with_reducible refine Wp.ret ?_); conv => whnf)
    | ((with_reducible refine Wp.skip ?_); conv => whnf)
    | ((with_reducible refine Wp.exit ?_); conv => whnf)
    | ((with_reducible refine Go.mk ?_); conv => whnf)
    | ((with_reducible apply Eff1.of); conv => whnf)
    | with_reducible exact rfl
    | ((with_reducible refine Ov.ok (by first | exact IntWalk.i64_in _ (by omega) | exact IntWalk.u64_in _ (by omega) | exact IntWalk.u8_in _ (by omega) | exact IntWalk.u32_in _ (by omega) | exact IntWalk.i32_in _ (by omega) | exact IntWalk.u16_in _ (by omega)) ?_); conv => whnf)
    | (with_reducible refine Ov.sh1 (by with_unfolding_all exact rfl) ?_)
    | ((with_reducible refine Ov.quo (by omega) (by omega) (by omega) (fun _ _ => ?_)); conv => whnf)
    | ((with_reducible refine And.intro (show drawOK _ _ _ _ = true by kernel_rfl) ?_); conv => whnf)
    | ((with_reducible refine And.intro (by first | omega | exact Nat.le_of_ble_eq_true rfl) ?_); conv => whnf)
    | ((with_reducible refine And.intro ?hb ?_); (case hb => exact bytes_bd (Nat.le_of_ble_eq_true rfl) (by omega)); (conv => whnf))
    | ((refine DApp.a rfl rfl rfl rfl rfl rfl ?hb ?_); (case hb => first | exact bytes_bd (Nat.le_of_ble_eq_true rfl) (by omega) | omega); (conv => whnf))
    | ((refine DApp.b rfl rfl rfl rfl rfl rfl rfl rfl ?hb ?ho ?_); (case hb => first | exact bytes_bd (Nat.le_of_ble_eq_true rfl) (by omega) | omega); (case ho => omega); (conv => whnf))
    | ((refine DApp.c rfl rfl rfl rfl rfl ?hb ?_); (case hb => first | exact bytes_bd (Nat.le_of_ble_eq_true rfl) (by omega) | omega); (conv => whnf))
    | ((refine DApp.d rfl rfl rfl rfl rfl rfl ?hb ?ho ?_); (case hb => first | exact bytes_bd (Nat.le_of_ble_eq_true rfl) (by omega) | omega); (case ho => omega); (conv => whnf))
    | ((with_reducible refine nil_no (by omega) ?_); (conv => whnf))
    | ((with_reducible refine nil_any ?_ (fun hn0 => ?_)) <;> (conv => whnf))
    | ((with_reducible refine CallStop.pure (hfit) rfl rfl ?_); conv => whnf) | ((with_reducible refine DCall.pure (hfit) rfl rfl ?_); conv => whnf)
    | ((apply CallStop.fn5 (h := hP)); (case hh => ((conv => whnf); repeat' (first | exact trivial | exact ArgLe.rfl rfl | exact ArgLe.ptr rfl | exact ArgLe.sl5 | exact ArgLe.sl rfl | exact ⟨rfl, rfl, rfl⟩ | exact ⟨rfl, Nat.le_of_ble_eq_true rfl⟩ | exact dir_arg4 | exact dir_argR4 (fun l hl => by rcases l with _ | _ | _ | _ | l <;> first | rfl | omega) | exact fun i hi => rfl | ((with_reducible refine And.intro ?_ ?_) <;> (conv => whnf))))); (case ha => ((conv => whnf); repeat' (first | exact trivial | exact ArgLe.rfl rfl | exact ArgLe.ptr rfl | exact ArgLe.sl rfl | ((with_reducible refine ArgLe.fn ?_); (conv => whnf)) | ((refine ArgLe.iref ?_); (conv => whnf)) | exact ArgLe.free SV.Le.nil rfl | ((with_reducible refine And.intro ?_ ?_) <;> (conv => whnf)) | ((refine ArgLe.free ?_ rfl); (repeat' (first | exact SV.Le.rfl _ | exact SV.Le.nil | exact SV.Le.sl (fun i hi => by (rcases i with _ | _ | _ | _ | i) <;> first | rfl | (exfalso; omega)) | with_reducible refine SV.Le.agg ?_ | exact Les.nil | with_reducible refine Les.cons ?_ ?_)))))); (case hd => exact rfl); (case hlive => exact rfl); (case hkeys => exact rfl); (case hlt => exact rfl); (conv => whnf))
    | ((apply CallStop.fn5 (h := hS)); (case hh => ((conv => whnf); repeat' (first | exact trivial | exact ArgLe.rfl rfl | exact ArgLe.ptr rfl | exact ArgLe.sl5 | exact ArgLe.sl rfl | exact ⟨rfl, rfl, rfl⟩ | exact ⟨rfl, Nat.le_of_ble_eq_true rfl⟩ | exact dir_arg4 | exact dir_argR4 (fun l hl => by rcases l with _ | _ | _ | _ | l <;> first | rfl | omega) | exact fun i hi => rfl | ((with_reducible refine And.intro ?_ ?_) <;> (conv => whnf))))); (case ha => ((conv => whnf); repeat' (first | exact trivial | exact ArgLe.rfl rfl | exact ArgLe.ptr rfl | exact ArgLe.sl rfl | ((with_reducible refine ArgLe.fn ?_); (conv => whnf)) | ((refine ArgLe.iref ?_); (conv => whnf)) | exact ArgLe.free SV.Le.nil rfl | ((with_reducible refine And.intro ?_ ?_) <;> (conv => whnf)) | ((refine ArgLe.free ?_ rfl); (repeat' (first | exact SV.Le.rfl _ | exact SV.Le.nil | exact SV.Le.sl (fun i hi => by (rcases i with _ | _ | _ | _ | i) <;> first | rfl | (exfalso; omega)) | with_reducible refine SV.Le.agg ?_ | exact Les.nil | with_reducible refine Les.cons ?_ ?_)))))); (case hd => exact rfl); (case hlive => exact rfl); (case hkeys => exact rfl); (case hlt => exact rfl); (conv => whnf))
    | ((refine ways (fun hc => ?_) (fun hc => ?_)) <;> (try simp only [decide_eq_true_eq, decide_eq_false_iff_not, Bool.and_eq_true, Bool.or_eq_true, Bool.and_eq_false_iff, Bool.or_eq_false_iff, Bool.not_eq_true', Bool.not_eq_false', beq_iff_eq, bne_iff_ne, ne_eq, beq_eq_false_iff_ne, bne_eq_false_iff_eq, Bool.not_eq_true, Bool.not_eq_false] at hc) <;> (try (exfalso; omega)) <;> (conv => whnf))))
        all_goals first
          | exact .rfl _
          | exact .b rfl
          | (refine ⟨(i + 1, M', cs', noteN nl, noteF nl f a, 0), ⟨by dsimp only; omega, by dsimp only; omega, hN', Int.le_refl _, hq⟩, by dsimp only; omega, ?_⟩; (refine Le.by [0,1,2,3,6] rfl rfl rfl rfl ?_ ?_ <;> (conv => whnf) <;> (repeat' (first | exact trivial | exact ArgLe.rfl rfl | exact ArgLe.ptr rfl | exact ArgLe.sl rfl | exact dir_arg4 | exact dir_argR4 (fun l hl => by rcases l with _ | _ | _ | _ | l <;> first | rfl | omega) | exact ⟨rfl, rfl, rfl⟩ | exact ⟨rfl, Nat.le_of_ble_eq_true rfl⟩ | exact fun i hi => rfl | ((with_reducible refine And.intro ?_ ?_) <;> (conv => whnf))))); done)
      | false =>
        rw [if_neg (by decide)] at hq
        (repeat' (first
    | with_reducible refine Wp.seq ?_
    | with_reducible refine Wp.block ?_
    | ((with_reducible refine Wp.region ?_); conv => whnf)
    | ((with_reducible refine Wp.drawL TC_mixed ?_); conv => whnf)
    | ((with_reducible refine Wp.cond ?_); conv => whnf)
    | ((with_reducible refine Wp.ret ?_); conv => whnf)
    | ((with_reducible refine Wp.skip ?_); conv => whnf)
    | ((with_reducible refine Wp.exit ?_); conv => whnf)
    | ((with_reducible refine Go.mk ?_); conv => whnf)
    | ((with_reducible apply Eff1.of); conv => whnf)
    | with_reducible exact rfl
    | ((with_reducible refine Ov.ok (by first | exact IntWalk.i64_in _ (by omega) | exact IntWalk.u64_in _ (by omega) | exact IntWalk.u8_in _ (by omega) | exact IntWalk.u32_in _ (by omega) | exact IntWalk.i32_in _ (by omega) | exact IntWalk.u16_in _ (by omega)) ?_); conv => whnf)
    | (with_reducible refine Ov.sh1 (by with_unfolding_all exact rfl) ?_)
    | ((with_reducible refine Ov.quo (by omega) (by omega) (by omega) (fun _ _ => ?_)); conv => whnf)
    | ((with_reducible refine And.intro (show drawOK _ _ _ _ = true by kernel_rfl) ?_); conv => whnf)
    | ((with_reducible refine And.intro (by first | omega | exact Nat.le_of_ble_eq_true rfl) ?_); conv => whnf)
    | ((with_reducible refine And.intro ?hb ?_); (case hb => exact bytes_bd (Nat.le_of_ble_eq_true rfl) (by omega)); (conv => whnf))
    | ((refine DApp.a rfl rfl rfl rfl rfl rfl ?hb ?_); (case hb => first | exact bytes_bd (Nat.le_of_ble_eq_true rfl) (by omega) | omega); (conv => whnf))
    | ((refine DApp.b rfl rfl rfl rfl rfl rfl rfl rfl ?hb ?ho ?_); (case hb => first | exact bytes_bd (Nat.le_of_ble_eq_true rfl) (by omega) | omega); (case ho => omega); (conv => whnf))
    | ((refine DApp.c rfl rfl rfl rfl rfl ?hb ?_); (case hb => first | exact bytes_bd (Nat.le_of_ble_eq_true rfl) (by omega) | omega); (conv => whnf))
    | ((refine DApp.d rfl rfl rfl rfl rfl rfl ?hb ?ho ?_); (case hb => first | exact bytes_bd (Nat.le_of_ble_eq_true rfl) (by omega) | omega); (case ho => omega); (conv => whnf))
    | ((with_reducible refine nil_no (by omega) ?_); (conv => whnf))
    | ((with_reducible refine nil_any ?_ (fun hn0 => ?_)) <;> (conv => whnf))
    | ((with_reducible refine CallStop.pure (hfit) rfl rfl ?_); conv => whnf) | ((with_reducible refine DCall.pure (hfit) rfl rfl ?_); conv => whnf)
    | ((apply CallStop.fn5 (h := hP)); (case hh => ((conv => whnf); repeat' (first | exact trivial | exact ArgLe.rfl rfl | exact ArgLe.ptr rfl | exact ArgLe.sl5 | exact ArgLe.sl rfl | exact ⟨rfl, rfl, rfl⟩ | exact ⟨rfl, Nat.le_of_ble_eq_true rfl⟩ | exact dir_arg4 | exact dir_argR4 (fun l hl => by rcases l with _ | _ | _ | _ | l <;> first | rfl | omega) | exact fun i hi => rfl | ((with_reducible refine And.intro ?_ ?_) <;> (conv => whnf))))); (case ha => ((conv => whnf); repeat' (first | exact trivial | exact ArgLe.rfl rfl | exact ArgLe.ptr rfl | exact ArgLe.sl rfl | ((with_reducible refine ArgLe.fn ?_); (conv => whnf)) | ((refine ArgLe.iref ?_); (conv => whnf)) | exact ArgLe.free SV.Le.nil rfl | ((with_reducible refine And.intro ?_ ?_) <;> (conv => whnf)) | ((refine ArgLe.free ?_ rfl); (repeat' (first | exact SV.Le.rfl _ | exact SV.Le.nil | exact SV.Le.sl (fun i hi => by (rcases i with _ | _ | _ | _ | i) <;> first | rfl | (exfalso; omega)) | with_reducible refine SV.Le.agg ?_ | exact Les.nil | with_reducible refine Les.cons ?_ ?_)))))); (case hd => exact rfl); (case hlive => exact rfl); (case hkeys => exact rfl); (case hlt => exact rfl); (conv => whnf))
    | ((apply CallStop.fn5 (h := hS)); (case hh => ((conv => whnf); repeat' (first | exact trivial | exact ArgLe.rfl rfl | exact ArgLe.ptr rfl | exact ArgLe.sl5 | exact ArgLe.sl rfl | exact ⟨rfl, rfl, rfl⟩ | exact ⟨rfl, Nat.le_of_ble_eq_true rfl⟩ | exact dir_arg4 | exact dir_argR4 (fun l hl => by rcases l with _ | _ | _ | _ | l <;> first | rfl | omega) | exact fun i hi => rfl | ((with_reducible refine And.intro ?_ ?_) <;> (conv => whnf))))); (case ha => ((conv => whnf); repeat' (first | exact trivial | exact ArgLe.rfl rfl | exact ArgLe.ptr rfl | exact ArgLe.sl rfl | ((with_reducible refine ArgLe.fn ?_); (conv => whnf)) | ((refine ArgLe.iref ?_); (conv => whnf)) | exact ArgLe.free SV.Le.nil rfl | ((with_reducible refine And.intro ?_ ?_) <;> (conv => whnf)) | ((refine ArgLe.free ?_ rfl); (repeat' (first | exact SV.Le.rfl _ | exact SV.Le.nil | exact SV.Le.sl (fun i hi => by (rcases i with _ | _ | _ | _ | i) <;> first | rfl | (exfalso; omega)) | with_reducible refine SV.Le.agg ?_ | exact Les.nil | with_reducible refine Les.cons ?_ ?_)))))); (case hd => exact rfl); (case hlive => exact rfl); (case hkeys => exact rfl); (case hlt => exact rfl); (conv => whnf))
    | ((refine ways (fun hc => ?_) (fun hc => ?_)) <;> (try simp only [decide_eq_true_eq, decide_eq_false_iff_not, Bool.and_eq_true, Bool.or_eq_true, Bool.and_eq_false_iff, Bool.or_eq_false_iff, Bool.not_eq_true', Bool.not_eq_false', beq_iff_eq, bne_iff_ne, ne_eq, beq_eq_false_iff_ne, bne_eq_false_iff_eq, Bool.not_eq_true, Bool.not_eq_false] at hc) <;> (try (exfalso; omega)) <;> (conv => whnf))))
        all_goals first
          | exact .rfl _
          | exact .b rfl
          | (refine ⟨(i + 1, M', cs', noteN nl, noteF nl f a, q + 1), ⟨by dsimp only; omega, by dsimp only; omega, hN', by dsimp only; omega, hq⟩, by dsimp only; omega, ?_⟩; (refine Le.by [0,1,2,3,6] rfl rfl rfl rfl ?_ ?_ <;> (conv => whnf) <;> (repeat' (first | exact trivial | exact ArgLe.rfl rfl | exact ArgLe.ptr rfl | exact ArgLe.sl rfl | exact dir_arg4 | exact dir_argR4 (fun l hl => by rcases l with _ | _ | _ | _ | l <;> first | rfl | omega) | exact ⟨rfl, rfl, rfl⟩ | exact ⟨rfl, Nat.le_of_ble_eq_true rfl⟩ | exact fun i hi => rfl | ((with_reducible refine And.intro ?_ ?_) <;> (conv => whnf))))); done)
    | false =>
      rw [hc] at hP
      have hT := law_Start (M := M) (nl := nl) (f := f) (clk := 0) (cnt := (i : Int) + 1) w (by omega) (1 + p.op.tmod 4) p.key p.val (by omega) (by omega) (by omega) hv (isC_no hc)
      have hL := h3.start w (1 + p.op.tmod 4) p.key p.val b4
      have h5' : q + (Dir.left dirOps M.W (Dir.upd cs w (startS (1 + p.op.tmod 4) p.key p.val)) : Int) ≤ 3448 := by
        have := startS_left (M := M) (1 + p.op.tmod 4) p.key p.val (isC_no hc); omega
      have hc' : isC (Dir.upd cs w (startS (1 + p.op.tmod 4) p.key p.val) w) = true := by rw [upd_same]; exact startS_is _ _ _
      generalize Dir.upd cs w (startS (1 + p.op.tmod 4) p.key p.val) = cs1 at hT hL h5' hc'
      obtain ⟨a, hS⟩ := law_Step (f := f) (clk := 0) hL (by omega) w (by omega) hc'
      have hq := quiet_on hL (by omega) hw8 hc' h5'
      have hN := hL.step (by omega) w
      rw [hw] at hS hT
      generalize Dir.step dirOps M (cs1 w) = Q at hS hq hN
      obtain ⟨M', s', ⟨dn, re, rn⟩⟩ := Q
      dsimp only at hS hq hN
      generalize Dir.upd cs1 w s' = cs' at hS hq hN
      have hN' : LawS (i + 1) M' cs' (noteN nl) (((i + 1 : Nat) : Int) + 1) := by
        rw [show ((i + 1 : Nat) : Int) + 1 = (i : Int) + 1 + 1 by omega]; exact hN
      cases dn with
      | true =>
        rw [if_pos rfl] at hq
        (repeat' (first
    | with_reducible refine Wp.seq ?_
    | with_reducible refine Wp.block ?_
    | ((with_reducible refine Wp.region ?_); conv => whnf)
    | ((with_reducible refine Wp.drawL TC_mixed ?_); conv => whnf)
    | ((with_reducible refine Wp.cond ?_); conv => whnf)
    | ((with_reducible refine Wp.ret ?_); conv => whnf)
    | ((with_reducible refine Wp.skip ?_); conv => whnf)
    | ((with_reducible refine Wp.exit ?_); conv => whnf)
    | ((with_reducible refine Go.mk ?_); conv => whnf)
    | ((with_reducible apply Eff1.of); conv => whnf)
    | with_reducible exact rfl
    | ((with_reducible refine Ov.ok (by first | exact IntWalk.i64_in _ (by omega) | exact IntWalk.u64_in _ (by omega) | exact IntWalk.u8_in _ (by omega) | exact IntWalk.u32_in _ (by omega) | exact IntWalk.i32_in _ (by omega) | exact IntWalk.u16_in _ (by omega)) ?_); conv => whnf)
    | (with_reducible refine Ov.sh1 (by with_unfolding_all exact rfl) ?_)
    | ((with_reducible refine Ov.quo (by omega) (by omega) (by omega) (fun _ _ => ?_)); conv => whnf)
    | ((with_reducible refine And.intro (show drawOK _ _ _ _ = true by kernel_rfl) ?_); conv => whnf)
    | ((with_reducible refine And.intro (by first | omega | exact Nat.le_of_ble_eq_true rfl) ?_); conv => whnf)
    | ((with_reducible refine And.intro ?hb ?_); (case hb => exact bytes_bd (Nat.le_of_ble_eq_true rfl) (by omega)); (conv => whnf))
    | ((refine DApp.a rfl rfl rfl rfl rfl rfl ?hb ?_); (case hb => first | exact bytes_bd (Nat.le_of_ble_eq_true rfl) (by omega) | omega); (conv => whnf))
    | ((refine DApp.b rfl rfl rfl rfl rfl rfl rfl rfl ?hb ?ho ?_); (case hb => first | exact bytes_bd (Nat.le_of_ble_eq_true rfl) (by omega) | omega); (case ho => omega); (conv => whnf))
    | ((refine DApp.c rfl rfl rfl rfl rfl ?hb ?_); (case hb => first | exact bytes_bd (Nat.le_of_ble_eq_true rfl) (by omega) | omega); (conv => whnf))
    | ((refine DApp.d rfl rfl rfl rfl rfl rfl ?hb ?ho ?_); (case hb => first | exact bytes_bd (Nat.le_of_ble_eq_true rfl) (by omega) | omega); (case ho => omega); (conv => whnf))
    | ((with_reducible refine nil_no (by omega) ?_); (conv => whnf))
    | ((with_reducible refine nil_any ?_ (fun hn0 => ?_)) <;> (conv => whnf))
    | ((with_reducible refine CallStop.pure (hfit) rfl rfl ?_); conv => whnf) | ((with_reducible refine DCall.pure (hfit) rfl rfl ?_); conv => whnf)
    | ((apply CallStop.fn5 (h := hP)); (case hh => ((conv => whnf); repeat' (first | exact trivial | exact ArgLe.rfl rfl | exact ArgLe.ptr rfl | exact ArgLe.sl5 | exact ArgLe.sl rfl | exact ⟨rfl, rfl, rfl⟩ | exact ⟨rfl, Nat.le_of_ble_eq_true rfl⟩ | exact dir_arg4 | exact dir_argR4 (fun l hl => by rcases l with _ | _ | _ | _ | l <;> first | rfl | omega) | exact fun i hi => rfl | ((with_reducible refine And.intro ?_ ?_) <;> (conv => whnf))))); (case ha => ((conv => whnf); repeat' (first | exact trivial | exact ArgLe.rfl rfl | exact ArgLe.ptr rfl | exact ArgLe.sl rfl | ((with_reducible refine ArgLe.fn ?_); (conv => whnf)) | ((refine ArgLe.iref ?_); (conv => whnf)) | exact ArgLe.free SV.Le.nil rfl | ((with_reducible refine And.intro ?_ ?_) <;> (conv => whnf)) | ((refine ArgLe.free ?_ rfl); (repeat' (first | exact SV.Le.rfl _ | exact SV.Le.nil | exact SV.Le.sl (fun i hi => by (rcases i with _ | _ | _ | _ | i) <;> first | rfl | (exfalso; omega)) | with_reducible refine SV.Le.agg ?_ | exact Les.nil | with_reducible refine Les.cons ?_ ?_)))))); (case hd => exact rfl); (case hlive => exact rfl); (case hkeys => exact rfl); (case hlt => exact rfl); (conv => whnf))
    | ((apply CallStop.fn5 (h := hT)); (case hh => ((conv => whnf); repeat' (first | exact trivial | exact ArgLe.rfl rfl | exact ArgLe.ptr rfl | exact ArgLe.sl5 | exact ArgLe.sl rfl | exact ⟨rfl, rfl, rfl⟩ | exact ⟨rfl, Nat.le_of_ble_eq_true rfl⟩ | exact dir_arg4 | exact dir_argR4 (fun l hl => by rcases l with _ | _ | _ | _ | l <;> first | rfl | omega) | exact fun i hi => rfl | ((with_reducible refine And.intro ?_ ?_) <;> (conv => whnf))))); (case ha => ((conv => whnf); repeat' (first | exact trivial | exact ArgLe.rfl rfl | exact ArgLe.ptr rfl | exact ArgLe.sl rfl | ((with_reducible refine ArgLe.fn ?_); (conv => whnf)) | ((refine ArgLe.iref ?_); (conv => whnf)) | exact ArgLe.free SV.Le.nil rfl | ((with_reducible refine And.intro ?_ ?_) <;> (conv => whnf)) | ((refine ArgLe.free ?_ rfl); (repeat' (first | exact SV.Le.rfl _ | exact SV.Le.nil | exact SV.Le.sl (fun i hi => by (rcases i with _ | _ | _ | _ | i) <;> first | rfl | (exfalso; omega)) | with_reducible refine SV.Le.agg ?_ | exact Les.nil | with_reducible refine Les.cons ?_ ?_)))))); (case hd => exact rfl); (case hlive => exact rfl); (case hkeys => exact rfl); (case hlt => exact rfl); (conv => whnf))
    | ((apply CallStop.fn5 (h := hS)); (case hh => ((conv => whnf); repeat' (first | exact trivial | exact ArgLe.rfl rfl | exact ArgLe.ptr rfl | exact ArgLe.sl5 | exact ArgLe.sl rfl | exact ⟨rfl, rfl, rfl⟩ | exact ⟨rfl, Nat.le_of_ble_eq_true rfl⟩ | exact dir_arg4 | exact dir_argR4 (fun l hl => by rcases l with _ | _ | _ | _ | l <;> first | rfl | omega) | exact fun i hi => rfl | ((with_reducible refine And.intro ?_ ?_) <;> (conv => whnf))))); (case ha => ((conv => whnf); repeat' (first | exact trivial | exact ArgLe.rfl rfl | exact ArgLe.ptr rfl | exact ArgLe.sl rfl | ((with_reducible refine ArgLe.fn ?_); (conv => whnf)) | ((refine ArgLe.iref ?_); (conv => whnf)) | exact ArgLe.free SV.Le.nil rfl | ((with_reducible refine And.intro ?_ ?_) <;> (conv => whnf)) | ((refine ArgLe.free ?_ rfl); (repeat' (first | exact SV.Le.rfl _ | exact SV.Le.nil | exact SV.Le.sl (fun i hi => by (rcases i with _ | _ | _ | _ | i) <;> first | rfl | (exfalso; omega)) | with_reducible refine SV.Le.agg ?_ | exact Les.nil | with_reducible refine Les.cons ?_ ?_)))))); (case hd => exact rfl); (case hlive => exact rfl); (case hkeys => exact rfl); (case hlt => exact rfl); (conv => whnf))
    | ((refine ways (fun hc => ?_) (fun hc => ?_)) <;> (try simp only [decide_eq_true_eq, decide_eq_false_iff_not, Bool.and_eq_true, Bool.or_eq_true, Bool.and_eq_false_iff, Bool.or_eq_false_iff, Bool.not_eq_true', Bool.not_eq_false', beq_iff_eq, bne_iff_ne, ne_eq, beq_eq_false_iff_ne, bne_eq_false_iff_eq, Bool.not_eq_true, Bool.not_eq_false] at hc) <;> (try (exfalso; omega)) <;> (conv => whnf))))
        all_goals first
          | exact .rfl _
          | exact .b rfl
          | (refine ⟨(i + 1, M', cs', noteN nl, noteF nl f a, 0), ⟨by dsimp only; omega, by dsimp only; omega, hN', Int.le_refl _, hq⟩, by dsimp only; omega, ?_⟩; (refine Le.by [0,1,2,3,6] rfl rfl rfl rfl ?_ ?_ <;> (conv => whnf) <;> (repeat' (first | exact trivial | exact ArgLe.rfl rfl | exact ArgLe.ptr rfl | exact ArgLe.sl rfl | exact dir_arg4 | exact dir_argR4 (fun l hl => by rcases l with _ | _ | _ | _ | l <;> first | rfl | omega) | exact ⟨rfl, rfl, rfl⟩ | exact ⟨rfl, Nat.le_of_ble_eq_true rfl⟩ | exact fun i hi => rfl | ((with_reducible refine And.intro ?_ ?_) <;> (conv => whnf))))); done)
      | false =>
        rw [if_neg (by decide)] at hq
        (repeat' (first
    | with_reducible refine Wp.seq ?_
    | with_reducible refine Wp.block ?_
    | ((with_reducible refine Wp.region ?_); conv => whnf)
    | ((with_reducible refine Wp.drawL TC_mixed ?_); conv => whnf)
    | ((with_reducible refine Wp.cond ?_); conv => whnf)
    | ((with_reducible refine Wp.ret ?_); conv => whnf)
    | ((with_reducible refine Wp.skip ?_); conv => whnf)
    | ((with_reducible refine Wp.exit ?_); conv => whnf)
    | ((with_reducible refine Go.mk ?_); conv => whnf)
    | ((with_reducible apply Eff1.of); conv => whnf)
    | with_reducible exact rfl
    | ((with_reducible refine Ov.ok (by first | exact IntWalk.i64_in _ (by omega) | exact IntWalk.u64_in _ (by omega) | exact IntWalk.u8_in _ (by omega) | exact IntWalk.u32_in _ (by omega) | exact IntWalk.i32_in _ (by omega) | exact IntWalk.u16_in _ (by omega)) ?_); conv => whnf)
    | (with_reducible refine Ov.sh1 (by with_unfolding_all exact rfl) ?_)
    | ((with_reducible refine Ov.quo (by omega) (by omega) (by omega) (fun _ _ => ?_)); conv => whnf)
    | ((with_reducible refine And.intro (show drawOK _ _ _ _ = true by kernel_rfl) ?_); conv => whnf)
    | ((with_reducible refine And.intro (by first | omega | exact Nat.le_of_ble_eq_true rfl) ?_); conv => whnf)
    | ((with_reducible refine And.intro ?hb ?_); (case hb => exact bytes_bd (Nat.le_of_ble_eq_true rfl) (by omega)); (conv => whnf))
    | ((refine DApp.a rfl rfl rfl rfl rfl rfl ?hb ?_); (case hb => first | exact bytes_bd (Nat.le_of_ble_eq_true rfl) (by omega) | omega); (conv => whnf))
    | ((refine DApp.b rfl rfl rfl rfl rfl rfl rfl rfl ?hb ?ho ?_); (case hb => first | exact bytes_bd (Nat.le_of_ble_eq_true rfl) (by omega) | omega); (case ho => omega); (conv => whnf))
    | ((refine DApp.c rfl rfl rfl rfl rfl ?hb ?_); (case hb => first | exact bytes_bd (Nat.le_of_ble_eq_true rfl) (by omega) | omega); (conv => whnf))
    | ((refine DApp.d rfl rfl rfl rfl rfl rfl ?hb ?ho ?_); (case hb => first | exact bytes_bd (Nat.le_of_ble_eq_true rfl) (by omega) | omega); (case ho => omega); (conv => whnf))
    | ((with_reducible refine nil_no (by omega) ?_); (conv => whnf))
    | ((with_reducible refine nil_any ?_ (fun hn0 => ?_)) <;> (conv => whnf))
    | ((with_reducible refine CallStop.pure (hfit) rfl rfl ?_); conv => whnf) | ((with_reducible refine DCall.pure (hfit) rfl rfl ?_); conv => whnf)
    | ((apply CallStop.fn5 (h := hP)); (case hh => ((conv => whnf); repeat' (first | exact trivial | exact ArgLe.rfl rfl | exact ArgLe.ptr rfl | exact ArgLe.sl5 | exact ArgLe.sl rfl | exact ⟨rfl, rfl, rfl⟩ | exact ⟨rfl, Nat.le_of_ble_eq_true rfl⟩ | exact dir_arg4 | exact dir_argR4 (fun l hl => by rcases l with _ | _ | _ | _ | l <;> first | rfl | omega) | exact fun i hi => rfl | ((with_reducible refine And.intro ?_ ?_) <;> (conv => whnf))))); (case ha => ((conv => whnf); repeat' (first | exact trivial | exact ArgLe.rfl rfl | exact ArgLe.ptr rfl | exact ArgLe.sl rfl | ((with_reducible refine ArgLe.fn ?_); (conv => whnf)) | ((refine ArgLe.iref ?_); (conv => whnf)) | exact ArgLe.free SV.Le.nil rfl | ((with_reducible refine And.intro ?_ ?_) <;> (conv => whnf)) | ((refine ArgLe.free ?_ rfl); (repeat' (first | exact SV.Le.rfl _ | exact SV.Le.nil | exact SV.Le.sl (fun i hi => by (rcases i with _ | _ | _ | _ | i) <;> first | rfl | (exfalso; omega)) | with_reducible refine SV.Le.agg ?_ | exact Les.nil | with_reducible refine Les.cons ?_ ?_)))))); (case hd => exact rfl); (case hlive => exact rfl); (case hkeys => exact rfl); (case hlt => exact rfl); (conv => whnf))
    | ((apply CallStop.fn5 (h := hT)); (case hh => ((conv => whnf); repeat' (first | exact trivial | exact ArgLe.rfl rfl | exact ArgLe.ptr rfl | exact ArgLe.sl5 | exact ArgLe.sl rfl | exact ⟨rfl, rfl, rfl⟩ | exact ⟨rfl, Nat.le_of_ble_eq_true rfl⟩ | exact dir_arg4 | exact dir_argR4 (fun l hl => by rcases l with _ | _ | _ | _ | l <;> first | rfl | omega) | exact fun i hi => rfl | ((with_reducible refine And.intro ?_ ?_) <;> (conv => whnf))))); (case ha => ((conv => whnf); repeat' (first | exact trivial | exact ArgLe.rfl rfl | exact ArgLe.ptr rfl | exact ArgLe.sl rfl | ((with_reducible refine ArgLe.fn ?_); (conv => whnf)) | ((refine ArgLe.iref ?_); (conv => whnf)) | exact ArgLe.free SV.Le.nil rfl | ((with_reducible refine And.intro ?_ ?_) <;> (conv => whnf)) | ((refine ArgLe.free ?_ rfl); (repeat' (first | exact SV.Le.rfl _ | exact SV.Le.nil | exact SV.Le.sl (fun i hi => by (rcases i with _ | _ | _ | _ | i) <;> first | rfl | (exfalso; omega)) | with_reducible refine SV.Le.agg ?_ | exact Les.nil | with_reducible refine Les.cons ?_ ?_)))))); (case hd => exact rfl); (case hlive => exact rfl); (case hkeys => exact rfl); (case hlt => exact rfl); (conv => whnf))
    | ((apply CallStop.fn5 (h := hS)); (case hh => ((conv => whnf); repeat' (first | exact trivial | exact ArgLe.rfl rfl | exact ArgLe.ptr rfl | exact ArgLe.sl5 | exact ArgLe.sl rfl | exact ⟨rfl, rfl, rfl⟩ | exact ⟨rfl, Nat.le_of_ble_eq_true rfl⟩ | exact dir_arg4 | exact dir_argR4 (fun l hl => by rcases l with _ | _ | _ | _ | l <;> first | rfl | omega) | exact fun i hi => rfl | ((with_reducible refine And.intro ?_ ?_) <;> (conv => whnf))))); (case ha => ((conv => whnf); repeat' (first | exact trivial | exact ArgLe.rfl rfl | exact ArgLe.ptr rfl | exact ArgLe.sl rfl | ((with_reducible refine ArgLe.fn ?_); (conv => whnf)) | ((refine ArgLe.iref ?_); (conv => whnf)) | exact ArgLe.free SV.Le.nil rfl | ((with_reducible refine And.intro ?_ ?_) <;> (conv => whnf)) | ((refine ArgLe.free ?_ rfl); (repeat' (first | exact SV.Le.rfl _ | exact SV.Le.nil | exact SV.Le.sl (fun i hi => by (rcases i with _ | _ | _ | _ | i) <;> first | rfl | (exfalso; omega)) | with_reducible refine SV.Le.agg ?_ | exact Les.nil | with_reducible refine Les.cons ?_ ?_)))))); (case hd => exact rfl); (case hlive => exact rfl); (case hkeys => exact rfl); (case hlt => exact rfl); (conv => whnf))
    | ((refine ways (fun hc => ?_) (fun hc => ?_)) <;> (try simp only [decide_eq_true_eq, decide_eq_false_iff_not, Bool.and_eq_true, Bool.or_eq_true, Bool.and_eq_false_iff, Bool.or_eq_false_iff, Bool.not_eq_true', Bool.not_eq_false', beq_iff_eq, bne_iff_ne, ne_eq, beq_eq_false_iff_ne, bne_eq_false_iff_eq, Bool.not_eq_true, Bool.not_eq_false] at hc) <;> (try (exfalso; omega)) <;> (conv => whnf))))
        all_goals first
          | exact .rfl _
          | exact .b rfl
          | (refine ⟨(i + 1, M', cs', noteN nl, noteF nl f a, q + 1), ⟨by dsimp only; omega, by dsimp only; omega, hN', by dsimp only; omega, hq⟩, by dsimp only; omega, ?_⟩; (refine Le.by [0,1,2,3,6] rfl rfl rfl rfl ?_ ?_ <;> (conv => whnf) <;> (repeat' (first | exact trivial | exact ArgLe.rfl rfl | exact ArgLe.ptr rfl | exact ArgLe.sl rfl | exact dir_arg4 | exact dir_argR4 (fun l hl => by rcases l with _ | _ | _ | _ | l <;> first | rfl | omega) | exact ⟨rfl, rfl, rfl⟩ | exact ⟨rfl, Nat.le_of_ble_eq_true rfl⟩ | exact fun i hi => rfl | ((with_reducible refine And.intro ?_ ?_) <;> (conv => whnf))))); done)
end Go.Proofs.Ytbdclkjelhlfbaa
