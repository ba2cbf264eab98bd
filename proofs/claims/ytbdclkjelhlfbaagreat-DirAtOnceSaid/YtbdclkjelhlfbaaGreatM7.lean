/- Parts of the proof, one behind the other: Bk7a, Br1, Br2, Br3a, Dr19, Br7, Sx23, Dp1, Dp2, Dp3, Dp4, Dp5, Dr1. Lemmas and contracts of functions; no condition of its own. -/
import Derived.Test.YtbdclkjelhlfbaaGreatM6
import Derived.Lib.BytesEntry
import Derived.Laws.Externs
import Derived.Test.YtbdclkjelhlfbaaGreatRows
import Derived.WalkKit
import Derived.WalkSpells
import Derived.WalkLawsBesides
import Derived.IntWalk
import Derived.BigQuiet
import Derived.Deep.QuietTactic
import Derived.StillTailTactics
import Derived.Deep.RegionWith
import Derived.Deep.RegionHeld3
import Derived.Lib.Hide
import Derived.Deep.Slices
import Derived.ReadAgain
import Derived.ChangeSame
import Derived.ProofKit
import Derived.OpenShut
import Derived.JoinedCond
import Derived.WideWitness
set_option linter.unusedVariables false
set_option linter.unusedSimpArgs false
set_option maxHeartbeats 1000000
namespace Go.Proofs.YtbdclkjelhlfbaaGreat
open Go.RowKit
set_option maxRecDepth 100000
def IsB (xs : List Int) : Prop := ∀ x ∈ xs, 0 ≤ x ∧ x ≤ 255
theorem IsB.cons {x : Int} {xs : List Int} (h : IsB (x :: xs)) : (0 ≤ x ∧ x ≤ 255) ∧ IsB xs := ⟨h x (by simp), fun y hy => h y (by simp [hy])⟩
def cmpI : List Int → List Int → Int
  | [], [] => 0
  | [], _ :: _ => -1
  | _ :: _, [] => 1
  | a :: r, b :: s => if a < b then -1 else if b < a then 1 else cmpI r s
theorem cmpI_bytes : ∀ (a b : List Int), IsB a → IsB b → Lib.compareBytes (Lib.bytesOf a) (Lib.bytesOf b) = cmpI a b
  | [], [], _, _ => rfl
  | [], _ :: _, _, _ => rfl
  | _ :: _, [], _, _ => rfl
  | x :: a, y :: b, ha, hb => by
    obtain ⟨hx, ha'⟩ := ha.cons
    obtain ⟨hy, hb'⟩ := hb.cons
    have ih := cmpI_bytes a b ha' hb'
    have e1 : (x.toNat.toUInt8 < y.toNat.toUInt8) ↔ x < y := by
      rw [UInt8.lt_iff_toNat_lt]; simp only [Nat.toUInt8, UInt8.toNat_ofNat']; omega
    have e2 : (y.toNat.toUInt8 < x.toNat.toUInt8) ↔ y < x := by
      rw [UInt8.lt_iff_toNat_lt]; simp only [Nat.toUInt8, UInt8.toNat_ofNat']; omega
    show Lib.compareBytes (x.toNat.toUInt8 :: Lib.bytesOf a) (y.toNat.toUInt8 :: Lib.bytesOf b) = _
    simp only [Lib.compareBytes, cmpI, e1, e2, ih]
theorem run_bytesOf {P : Program} {Im : Nat → Prop} {w : World} {v : Value} {xs : List Int} (h : RD w Im (slOf 1 (encI .u8) xs) v) : (∃ a cap, v = .slice a xs.length cap) ∧ (Extern.Bytes.bytesOf v).run P w = .ok ⟨(Lib.bytesOf xs).toArray⟩ w := by
  cases h with
  | sl _ _ _ a cap g hc hm hl ha hg =>
    refine ⟨⟨a, cap, rfl⟩, ?_⟩
    cases a with
    | none =>
      cases xs with
      | nil => simp [Extern.Bytes.bytesOf, Lib.bytesOf]; rfl
      | cons x r => obtain ⟨b, o, e, _⟩ := ha (by simp); cases e
    | some ad =>
      have := Lib.run_loadBytesX (P := P) w xs ad .empty (fun j x hj => by
        have hjl := (List.getElem?_eq_some_iff.1 hj).1
        obtain ⟨b, o, e, _, hcell⟩ := ha (by omega)
        cases e
        have h1 := hcell j 0 hjl (by omega)
        have h2 := hg j 0 hjl (by simp [encI])
        have h3 : (encI .u8 (xs.getD j default))[0]'(by simp [encI]) = .val (.int .u8 x) := by
          simp [encI, List.getD, hj]
        rw [h3] at h2
        have h4 : g j 0 = .int .u8 x := by generalize g j 0 = y at h2; cases h2; rfl
        rw [h4] at h1
        rw [Addr.add_lit]
        simpa using h1)
      simp only [Extern.Bytes.bytesOf, this]
      simp
set_option maxHeartbeats 400000 in
set_option maxRecDepth 100000 in
theorem bytes_Compare (a b : List Int) (ba : IsB a) (bb : IsB b) : Pure TC 110 [.d (slOf 1 (encI .u8) a), .d (slOf 1 (encI .u8) b)] (.i .i64 (cmpI a b)) := by
  refine ⟨.mk Tryz.func110 rfl rfl, fun E w vs hIm hsz hargs => ?_⟩
  obtain ⟨va, vb, rfl⟩ : ∃ va vb, vs = #[va, vb] := ⟨vs[0]'(by simp at hsz; omega), vs[1]'(by simp at hsz; omega), by
    apply Array.ext (by simpa using hsz)
    intro i h1 h2
    have : i = 0 ∨ i = 1 := by simp at h2; omega
    rcases this with rfl | rfl <;> rfl⟩
  have ha : RD w E.Im (slOf 1 (encI .u8) a) va := by
    have := hargs 0 (by simp)
    cases this with | d _ _ h => exact h
  have hb : RD w E.Im (slOf 1 (encI .u8) b) vb := by
    have := hargs 1 (by simp)
    cases this with | d _ _ h => exact h
  obtain ⟨⟨a1, c1, rfl⟩, h1⟩ := run_bytesOf (P := Tryz.prog) ha
  obtain ⟨⟨a2, c2, rfl⟩, h2⟩ := run_bytesOf (P := Tryz.prog) hb
  have hr : (callFunc 152 #[.slice a1 a.length c1, .slice a2 b.length c2]).run Tryz.prog w = .ok (.value (.int .i64 (cmpI a b))) w := by
    rw [run_callFunc_extern Tryz.func152 (by kernel_rfl) (by kernel_rfl) (by kernel_rfl) (e := Extern.BytealgCompare.compare) (by kernel_rfl)]
    have h3 : (Extern.BytealgCompare.compare #[.slice a1 a.length c1, .slice a2 b.length c2]).run Tryz.prog w = .ok (.int .i64 (cmpI a b)) w := by
      change Sem.run Tryz.prog (do pure (goInt (Extern.BytealgCompare.cmp (← Extern.Bytes.bytesOf (.slice a1 a.length c1)) (← Extern.Bytes.bytesOf (.slice a2 b.length c2))))) w = _
      simp only [Sem.run_bind, h1, h2, Result.andThen_ok, Sem.run_pure, Lib.cmp_eq]
      rw [cmpI_bytes a b ba bb]
      rfl
    rw [h3]; rfl
  have hc : Calls Tryz.prog 110 #[.slice a1 a.length c1, .slice a2 b.length c2] w fun e w' => e = .returned (.int .i64 (cmpI a b)) ∧ w = w' := by
    clear ha hb ba bb h1 h2 hargs hIm hsz
    go_enter Tryz.func110, Tryz.ntmps110
    go_wp2_with (rw [hr])
    go_ret
    exact ⟨rfl, rfl⟩
  refine hc.mono ?_
  rintro e w' ⟨rfl, rfl⟩
  exact ⟨_, rfl, Kp.refl _, .d _ _ (.val _ rfl)⟩
theorem hash_Order (a b : List Int) (ba : IsB a) (bb : IsB b) : Pure TC 66 [.d (slOf 1 (encI .u8) a), .d (slOf 1 (encI .u8) b)] (.i .i64 (cmpI a b)) := by
  refine Pure.mk' Tryz.func66 rfl rfl (Nat.le_of_ble_eq_true rfl) ?_
  (repeat' (first
    | with_reducible refine Wp.seq ?_
    | with_reducible refine Wp.block ?_
    | ((with_reducible first | refine Wp.region ?_ | refine Wp.drawL TC_mixed ?_ | refine Wp.cond ?_ | refine Wp.ret ?_ | refine Wp.skip ?_ | refine Wp.exit ?_ | refine Go.mk ?_ | apply Eff1.of); conv => whnf)
    | with_reducible exact rfl
    | ((with_reducible refine Ov.ok zO ?_); conv => whnf)
    | (with_reducible refine Ov.sh1 (by with_unfolding_all exact rfl) ?_)
    | ((with_reducible refine Ov.quo (by omega) (by omega) (by omega) (fun _ _ => ?_)); conv => whnf)
    | ((with_reducible refine And.intro (show drawOK _ _ _ _ = true by kernel_rfl) ?_); conv => whnf)
    | ((with_reducible refine And.intro zC ?_); conv => whnf)
    | ((with_reducible refine And.intro ?hb ?_); (case hb => exact bytes_bd (Nat.le_of_ble_eq_true rfl) (by omega)); (conv => whnf))
    | ((refine DApp.a rfl rfl rfl rfl rfl rfl ?hb ?_); (case hb => exact zB); (conv => whnf))
    | ((refine DApp.b rfl rfl rfl rfl rfl rfl rfl rfl ?hb ?ho ?_); (case hb => exact zB); (case ho => omega); (conv => whnf))
    | ((refine DApp.c rfl rfl rfl rfl rfl ?hb ?_); (case hb => exact zB); (conv => whnf))
    | ((refine DApp.d rfl rfl rfl rfl rfl rfl ?hb ?ho ?_); (case hb => exact zB); (case ho => omega); (conv => whnf))
    | ((with_reducible refine nil_no (by omega) ?_); (conv => whnf))
    | ((with_reducible refine nil_any ?_ (fun hn0 => ?_)) <;> (conv => whnf))
    | ((with_reducible refine CallStop.pure (bytes_Compare a b ba bb) rfl rfl ?_); conv => whnf) | ((with_reducible refine DCall.pure (bytes_Compare a b ba bb) rfl rfl ?_); conv => whnf)
    | ((refine ways (fun hc => ?_) (fun hc => ?_)) <;> (try simp only [decide_eq_true_eq, decide_eq_false_iff_not, Bool.and_eq_true, Bool.or_eq_true, Bool.and_eq_false_iff, Bool.or_eq_false_iff, Bool.not_eq_true', Bool.not_eq_false', beq_iff_eq, bne_iff_ne, ne_eq, beq_eq_false_iff_ne, bne_eq_false_iff_eq, Bool.not_eq_true, Bool.not_eq_false] at hc) <;> (try (exfalso; omega)) <;> (conv => whnf))))
  exact .i rfl
end Go.Proofs.YtbdclkjelhlfbaaGreat

namespace Go.Proofs.YtbdclkjelhlfbaaGreat
open Go.RowKit
inductive Sh where
  | int (k : IntKind)
  | bool
  | str
  | sl (z : Nat) (es : List Sh)
mutual
inductive FitD : Sh → D → Prop
  | int {k : IntKind} {n : Int} (h : (Lit.int k n).wf = true) : FitD (.int k) (.val (.int k n))
  | bool (b : Bool) : FitD .bool (.val (.bool b))
  | str (s : ByteArray) (h : s.size ≤ maxLen) : FitD .str (.val (.string s))
  | sl {z : Nat} {es : List Sh} {n : Nat} {f : Nat → List D} (hn : n ≤ maxLen) (h : ∀ i, i < n → FitL es (f i)) : FitD (.sl z es) (.sl z n f)
inductive FitL : List Sh → List D → Prop
  | nil : FitL [] []
  | cons {s : Sh} {d : D} {ss : List Sh} {ds : List D} (h : FitD s d) (t : FitL ss ds) : FitL (s :: ss) (d :: ds)
end
theorem FitL.len : ∀ {ss : List Sh} {ds : List D}, FitL ss ds → ds.length = ss.length
  | _, _, .nil => rfl
  | _, _, .cons _ t => by simp [FitL.len t]
theorem FitL.append : ∀ {ss ss' : List Sh} {ds ds' : List D}, FitL ss ds → FitL ss' ds' → FitL (ss ++ ss') (ds ++ ds')
  | _, _, _, _, .nil, h => h
  | _, _, _, _, .cons h t, h' => .cons h (t.append h')
def shF (r : TypeId → Option (List Sh)) (c : TypeId → Nat) : List Field → Nat → Option (List Sh)
  | [], _ => some []
  | f :: fs, o => if f.offset = o then (r f.type).bind fun a => if a.length = c f.type then (shF r c fs (o + a.length)).map (a ++ ·) else none else none
def shT (P : Program) : Nat → TypeId → Option (List Sh)
  | 0, _ => none
  | n + 1, t => match P.underlying t with
    | some .bool => some [.bool]
    | some (.int k) => some [.int k]
    | some .string => some [.str]
    | some (.slice e) => (shT P n e).bind fun es => if es.length = P.cellsOf e then some [.sl (P.cellsOf e) es] else none
    | some (.struct fs) => (shF (shT P n) P.cellsOf fs.toList 0).bind fun a => if a.length = P.cellsOf t then some a else none
    | _ => none
structure RLs (w : World) (ds : List D) (cs : List Value) : Prop where
  len : ds.length = cs.length
  out : ∀ (j : Nat) (d : D) (c : Value), ds[j]? = some d → cs[j]? = some c → RD w (fun b => b < w.heap.size) d c
theorem RLs.nil (w : World) : RLs w [] [] := ⟨rfl, fun j d c h => by simp at h⟩
theorem RLs.one {w : World} {d : D} {c : Value} (h : RD w (fun b => b < w.heap.size) d c) : RLs w [d] [c] := ⟨rfl, fun j d' c' hd hc => by
  cases j with
  | zero => simp at hd hc; subst hd hc; exact h
  | succ j => simp at hd⟩
theorem RLs.append {w : World} {ds ds' : List D} {cs cs' : List Value} (h : RLs w ds cs) (h' : RLs w ds' cs') : RLs w (ds ++ ds') (cs ++ cs') := by
  have hl := h.len
  refine ⟨by simp [h.len, h'.len], fun j d c hd hc => ?_⟩
  by_cases hj : j < ds.length
  · rw [List.getElem?_append_left hj] at hd
    rw [List.getElem?_append_left (by omega)] at hc
    exact h.out j d c hd hc
  · rw [List.getElem?_append_right (by omega)] at hd
    rw [List.getElem?_append_right (by omega)] at hc
    rw [← hl] at hc
    exact h'.out _ d c hd hc
section
variable {H : Type} {enc : TypeId × Value → H} {P : Program} {w : World} {spare : Nat → Bool}
theorem fit_fields {r : TypeId → Option (List Sh)} {c : TypeId → Nat} {cs : List Value} : ∀ (fs : List Field) (o : Nat) (a : List Sh), shF r c fs o = some a → o + a.length ≤ cs.length →
    (∀ f ∈ fs, ∀ b, r f.type = some b → ∃ ds, FitL b ds ∧ RLs w ds ((cs.drop f.offset).take (c f.type))) → ∃ ds, FitL a ds ∧ RLs w ds ((cs.drop o).take a.length)
  | [], o, a, h, hl, hr => by
    simp only [shF, Option.some.injEq] at h; subst h
    exact ⟨[], .nil, by simpa using RLs.nil w⟩
  | f :: fs, o, a, h, hl, hr => by
    unfold shF at h
    split at h
    · rename_i ho
      obtain ⟨b, hb, h⟩ := Option.bind_eq_some_iff.1 h
      split at h
      · rename_i hc
        obtain ⟨a', ha', rfl⟩ := Option.map_eq_some_iff.1 h
        rw [List.length_append] at hl
        obtain ⟨ds, h1, h2⟩ := hr f (by simp) b hb
        obtain ⟨ds', h3, h4⟩ := fit_fields fs _ a' ha' (by omega) (fun g hg => hr g (by simp [hg]))
        refine ⟨ds ++ ds', h1.append h3, ?_⟩
        rw [ho, ← hc] at h2
        have := h2.append h4
        rw [show (cs.drop o).take (b ++ a').length = (cs.drop o).take b.length ++ (cs.drop (o + b.length)).take a'.length by
          rw [List.length_append, List.take_add, List.drop_drop]]
        exact this
      · cases h
    · cases h
theorem spot_none {a : Addr} {v : Value} (h : w.cell? (a.add 0) = some v) : a.spot = none := by
  have := World.cell?_spot h
  unfold Addr.add at this
  simpa using this
theorem opened : ∀ (m fuel : Nat) (t : TypeId) (cs : List Value) (x : DataW H × List MemPlace) (shs : List Sh), DataW.trod enc P w 0 spare true fuel t cs = some x → shT P m t = some shs → ∃ ds, FitL shs ds ∧ RLs w ds cs
  | 0, fuel, t, cs, x, shs, h, hs => by simp [shT] at hs
  | m + 1, 0, t, cs, x, shs, h, hs => by simp [DataW.trod] at h
  | m + 1, fuel + 1, t, cs, x, shs, h, hs => by
    have ih := fun fuel t cs x shs h hs => opened m fuel t cs x shs h hs
    unfold shT at hs
    split at hs
    · rename_i hu
      cases hs
      unfold DataW.trod at h
      rw [hu] at h
      split at h <;> simp_all
      exact ⟨_, .cons (.bool _) .nil, .one (.val _ rfl)⟩
    · rename_i k hu
      cases hs
      unfold DataW.trod at h
      rw [hu] at h
      split at h <;> simp_all
      rename_i n _ _
      obtain ⟨⟨rfl, hw⟩, _⟩ := h
      exact ⟨_, .cons (.int hw) .nil, .one (.val _ rfl)⟩
    · rename_i hu
      cases hs
      unfold DataW.trod at h
      rw [hu] at h
      split at h <;> simp_all
      exact ⟨_, .cons (.str _ h.1) .nil, .one (.val _ rfl)⟩
    · rename_i e hu
      obtain ⟨es, he, hs⟩ := Option.bind_eq_some_iff.1 hs
      split at hs
      case isFalse => cases hs
      rename_i hz
      cases hs
      rcases Go.Deep.open_slice hu h with ⟨rfl, _⟩ | ⟨a, len, cap, mm, n, Dd, Pl, rfl, _, hl, hm, hmm, _, hel⟩
      · refine ⟨[.sl (P.cellsOf e) 0 fun _ => []], .cons (.sl (by unfold maxLen; omega) fun i hi => by omega) .nil, .one (.sl _ 0 _ none 0 (fun _ _ => undef) (Nat.le_refl _) (by unfold maxLen; omega) (fun i hi => by omega) (fun h => by omega) (fun i j hi => by omega))⟩
      · have hle : len ≤ mm := by rw [hmm]; split <;> omega
        have hx : ∀ i, ∃ p : List Value × List D, i < len → w.cells? 0 (a.add (i * P.cellsOf e)) (P.cellsOf e) = some p.1 ∧ FitL es p.2 ∧ RLs w p.2 p.1 := fun i => by
          by_cases hi : i < len
          · obtain ⟨cs', h1, h2⟩ := hel i (by omega)
            obtain ⟨ds, h3, h4⟩ := ih _ _ _ _ _ h2 he
            exact ⟨(cs', ds), fun _ => ⟨h1, h3, h4⟩⟩
          · exact ⟨([], []), fun h => absurd h hi⟩
        obtain ⟨F, hF⟩ := Classical.axiomOfChoice hx
        refine ⟨[.sl (P.cellsOf e) len fun i => (F i).2], .cons (.sl (by omega) fun i hi => (hF i hi).2.1) .nil, .one (.sl _ len _ (some a) cap (fun i j => ((F i).1[j]?).getD undef) hl hm (fun i hi => by rw [(hF i hi).2.1.len, hz]) (fun h0 => ?_) (fun i j hi hj => ?_))⟩
        · have h0' : 0 < len ∧ 0 < P.cellsOf e := ⟨Nat.pos_of_ne_zero fun h => by subst h; simp at h0, Nat.pos_of_ne_zero fun h => by rw [h] at h0; simp at h0⟩
          have hcell : ∀ i j, i < len → j < P.cellsOf e → ∃ v, (F i).1[j]? = some v ∧ w.cell? ((a.add (i * P.cellsOf e)).add j) = some v := fun i j hi hj => by
            obtain ⟨_, k2, k3⟩ := World.cells?_some (hF i hi).1
            have hj' : j < (F i).1.length := by omega
            refine ⟨_, List.getElem?_eq_getElem hj', ?_⟩
            rw [k3 j hj, List.getElem?_eq_getElem hj']
          obtain ⟨v0, _, c0⟩ := hcell 0 0 h0'.1 h0'.2
          rw [Nat.zero_mul] at c0
          have hsp : a.spot = none := spot_none (by
            have := World.cell?_spot c0
            have e1 : (a.add 0) = a := by unfold Addr.add; simp
            rw [e1] at c0; exact c0)
          obtain ⟨b, o, sp⟩ := a
          simp only at hsp
          subst hsp
          refine ⟨b, o, rfl, ?_, fun i j hi hj => ?_⟩
          · rw [Addr.add_mid, Addr.add_mid] at c0
            exact World.block_lt_of_cell? w _ c0
          · obtain ⟨v, k1, k2⟩ := hcell i j hi hj
            rw [Addr.add_mid, Addr.add_mid] at k2
            rw [k2, k1]; rfl
        · have h9 := (hF i hi).2.2
          have hl9 := h9.len
          have hj' : j < (F i).1.length := by rw [← hl9]; exact hj
          exact h9.out j _ _ (List.getElem?_eq_getElem hj) (by rw [List.getElem?_eq_getElem hj']; rfl)
    · rename_i fs hu
      obtain ⟨a, ha, hs⟩ := Option.bind_eq_some_iff.1 hs
      split at hs
      case isFalse => cases hs
      rename_i hz
      cases hs
      obtain ⟨xs, n, _, _, hl, _, hf⟩ := DataW.trod_struct hu h
      obtain ⟨ds, h1, h2⟩ := fit_fields (w := w) (cs := cs) fs.toList 0 shs ha (by omega) (fun f hf' b hb => by
        obtain ⟨i, hi, e⟩ := List.getElem_of_mem hf'
        have hi' : i < fs.size := by simpa using hi
        have hfi : fs[i]? = some f := by rw [Array.getElem?_eq_getElem hi']; rw [← e]; simp
        have hq := hf i f hfi
        rename_i hxl _
        have hxi : ∃ y, xs[i]? = some y := ⟨xs[i]'(by omega), List.getElem?_eq_getElem _⟩
        obtain ⟨y, hy⟩ := hxi
        rw [hy] at hq
        exact ih _ _ _ _ _ hq hb)
      refine ⟨ds, h1, ?_⟩
      rw [List.drop_zero, hz, ← hl, List.take_length] at h2
      exact h2
    · cases hs
end
end Go.Proofs.YtbdclkjelhlfbaaGreat

namespace Go.Proofs.YtbdclkjelhlfbaaGreat
open Go.ChangeShapes Go.WideShapes Go.ChangeAt Go.RowKit
section
variable {H : Type} {enc : TypeId × Value → H} {P : Program}
theorem all_carry {w w' : World} {base : Nat} {sp : Nat → Bool} {hd : Bool} : ∀ {ts : List TypeId} {vs : List Value} {ds : List (DataW H)} {ps : List MemPlace}, DataW.TrodAll enc P w base sp hd ts vs ds ps → (∀ p ∈ ps, w.sameAt w' p) → DataW.TrodAll enc P w' base sp hd ts vs ds ps
  | [], [], [], _, h, _ => h
  | t :: ts, v :: vs, d :: ds, ps, ⟨p, q, ⟨n, h1⟩, h2, e⟩, hs => ⟨p, q, ⟨n, DataW.trod_carry n _ _ _ h1 fun x hx => hs x (by rw [e]; exact List.mem_append_left _ hx)⟩, all_carry h2 fun x hx => hs x (by rw [e]; exact List.mem_append_right _ hx), e⟩
theorem kept_of {w w' : World} (h : Kp w w') (may : MemPlace → Prop) : w.keptBut w' may := by
  refine ⟨h.os, h.output, fun i hi => ?_⟩
  have hb := h.block i hi
  rw [hb]
  rcases hq : w.heap[i]? with _ | o
  · simp
  · cases o <;> simp
theorem law_post {T : TypeId → Prop} (K : Kids P T) (hz : ∀ t e, T t → P.underlying t = some (.slice e) → 0 < P.cellsOf e) {f : Func} {s : ChangeSpec} {W W' : World} {args : Array Value} {ds gs : List (DataW H)} {before : List MemPlace} {tb : TypeId}
    (hT : ∀ t ∈ f.params.toList, T t) (hvars : s.vars = []) (hr : f.resultTypes = #[tb]) (hb : P.underlying tb = some .bool)
    (hfn : gs = [] → (s.fn H (ds ++ gs)).results = [.lit (.bool true)] ∧ (s.fn H (ds ++ gs)).args = ds ∧ (s.fn H (ds ++ gs)).vars = [])
    (hW : DataW.Whole enc P f.params.toList s.vars false W args.toList ds gs before) (hk : Kp W W') : s.post enc P f false true false false W args (.bool true) W' := by
  have hW0 := hW
  obtain ⟨p, q, hA, hV, rfl, hfz, _⟩ := hW
  rw [hvars] at hV
  have hgs : gs = [] ∧ q = [] := by
    cases gs with
    | nil => exact ⟨rfl, hV⟩
    | cons x r => exact hV.elim
  obtain ⟨rfl, rfl⟩ := hgs
  obtain ⟨h1, h2, h3⟩ := hfn rfl
  have hlt := hW0.lt
  have hsame : ∀ x ∈ p, W.sameAt W' x := fun x hx => by
    have hb := hk.block x.block (hlt x (by simpa using hx))
    cases x with
    | cell b o => exact World.cell?_of_block hb
    | map b => exact hb
  have hA' := all_carry hA hsame
  refine ⟨ds, [], p ++ [], [], p, [], hW0, ?_, ?_, ?_, kept_of hk _, fun h => by cases h⟩
  · rw [h1, hr]
    exact ⟨[], [], shut_bool hb true, rfl, rfl⟩
  · rw [h2]
    exact DataW.TrodAll.respare K hz hT hA' fun x hx => by simpa using hlt x (by simpa using hx)
  · rw [h3, hvars]; rfl
end
end Go.Proofs.YtbdclkjelhlfbaaGreat

namespace Go.Proofs.YtbdclkjelhlfbaaGreat
open Go.ChangeShapes Go.WideShapes Go.ChangeAt Go.RowKit
theorem own : ownKnob Tryz.prog.godebug = none := by kernel_rfl
theorem kids : Kids Tryz.prog (· < Tryz.prog.types.size) := kids_rows (by kernel_rfl) (by kernel_rfl)
theorem full : ∀ t e, t < Tryz.prog.types.size → Tryz.prog.underlying t = some (.slice e) → 0 < Tryz.prog.cellsOf e := slices_full_of Tryz.prog (by kernel_rfl)
def shI (k : IntKind) (n : Int) : Prop := (Lit.int k n).wf = true
theorem fit_int {k : IntKind} {d : D} (h : FitD (.int k) d) : ∃ n, d = .val (.int k n) ∧ shI k n := by cases h with | int h => exact ⟨_, rfl, h⟩
theorem fit_sl {z : Nat} {es : List Sh} {d : D} (h : FitD (.sl z es) d) : ∃ n f, d = .sl z n f ∧ n ≤ maxLen ∧ ∀ i, i < n → FitL es (f i) := by cases h with | sl hn h => exact ⟨_, _, rfl, hn, h⟩
theorem fit_cons {s : Sh} {ss : List Sh} {ds : List D} (h : FitL (s :: ss) ds) : ∃ d r, ds = d :: r ∧ FitD s d ∧ FitL ss r := by cases h with | cons h t => exact ⟨_, _, rfl, h, t⟩
theorem fit_nil {ds : List D} (h : FitL [] ds) : ds = [] := by cases h; rfl
theorem wf_u8 {n : Int} (h : shI .u8 n) : 0 ≤ n ∧ n ≤ 255 := by simpa [shI, Lit.wf, IntKind.min, IntKind.max, IntKind.signed, IntKind.bits] using h
theorem wf_i64 {n : Int} (h : shI .i64 n) : -9223372036854775808 ≤ n ∧ n ≤ 9223372036854775807 := by simpa [shI, Lit.wf, IntKind.min, IntKind.max, IntKind.signed, IntKind.bits] using h
structure TLe (d d' : D) : Prop where
  out : ∀ w Im v, RD w Im d v → RD w Im d' v
theorem TLe.rfl (d : D) : TLe d d := ⟨fun _ _ _ h => h⟩
structure LsLe (ds ds' : List D) : Prop where
  len : ds.length = ds'.length
  out : ∀ (j : Nat) (d d' : D), ds[j]? = some d → ds'[j]? = some d' → TLe d d'
theorem LsLe.nil : LsLe [] [] := ⟨_root_.rfl, fun j d d' h => by simp at h⟩
theorem LsLe.cons {d d' : D} {ds ds' : List D} (h : TLe d d') (t : LsLe ds ds') : LsLe (d :: ds) (d' :: ds') :=
  ⟨by simp [t.len], fun j x y hx hy => by
    cases j with
    | zero => simp at hx hy; subst hx hy; exact h
    | succ j => simp at hx hy; exact t.out j x y hx hy⟩
theorem TLe.sl {z n : Nat} {f g : Nat → List D} (h : ∀ i, i < n → LsLe (f i) (g i)) : TLe (.sl z n f) (.sl z n g) := by
  refine ⟨fun w Im v hv => ?_⟩
  cases hv with
  | sl _ _ _ a cap gv hc hm hl ha hg =>
    refine .sl z n g a cap gv hc hm (fun i hi => by rw [← (h i hi).len]; exact hl i hi) ha fun i j hi hj => ?_
    have hj' : j < (f i).length := by rw [(h i hi).len]; exact hj
    exact ((h i hi).out j _ _ (List.getElem?_eq_getElem hj') (List.getElem?_eq_getElem hj)).out _ _ _ (hg i j hi hj')
theorem list_of {α : Type} [Inhabited α] {enc : α → List D} {p : α → Prop} {n : Nat} {f : Nat → List D} (h : ∀ i, i < n → ∃ x, LsLe (f i) (enc x) ∧ p x) : ∃ xs : List α, xs.length = n ∧ (∀ i, i < n → LsLe (f i) (enc (xs.getD i default))) ∧ ∀ x ∈ xs, p x := by
  induction n with
  | zero => exact ⟨[], rfl, fun i hi => by omega, fun x hx => by simp at hx⟩
  | succ n ih =>
    obtain ⟨xs, h1, h2, h3⟩ := ih fun i hi => h i (by omega)
    obtain ⟨x, h4, h5⟩ := h n (by omega)
    refine ⟨xs ++ [x], by simp [h1], fun i hi => ?_, fun y hy => ?_⟩
    · by_cases hin : i < n
      · have := h2 i hin
        rw [show (xs ++ [x]).getD i default = xs.getD i default by simp [List.getD, List.getElem?_append_left (show i < xs.length by omega)]]
        exact this
      · obtain rfl : i = n := by omega
        rw [show (xs ++ [x]).getD i default = x by simp [List.getD, h1]]
        exact h4
    · rcases List.mem_append.1 hy with hy | hy
      · exact h3 y hy
      · simp at hy; subst hy; exact h5
theorem fit_list {α : Type} [Inhabited α] {enc : α → List D} {p : α → Prop} {z : Nat} {es : List Sh} {d : D} (h : FitD (.sl z es) d) (hp : ∀ ds, FitL es ds → ∃ x, LsLe ds (enc x) ∧ p x) :
    ∃ xs : List α, TLe d (slOf z enc xs) ∧ xs.length ≤ maxLen ∧ ∀ x ∈ xs, p x := by
  obtain ⟨n, f, rfl, hn, hf⟩ := fit_sl h
  obtain ⟨xs, h1, h2, h3⟩ := list_of (enc := enc) (p := p) fun i hi => hp _ (hf i hi)
  subst h1
  exact ⟨xs, TLe.sl fun i hi => h2 i hi, hn, h3⟩
theorem fit_ints {k : IntKind} {d : D} (h : FitD (.sl 1 [.int k]) d) : ∃ xs : List Int, TLe d (slOf 1 (encI k) xs) ∧ xs.length ≤ maxLen ∧ ∀ x ∈ xs, shI k x :=
  fit_list h fun ds hd => by
    obtain ⟨d, r, rfl, h1, h2⟩ := fit_cons hd
    obtain ⟨n, rfl, hn⟩ := fit_int h1
    obtain rfl := fit_nil h2
    exact ⟨n, .cons (.rfl _) .nil, hn⟩
theorem arg1 {H : Type} {enc : TypeId × Value → H} {W : World} {t : TypeId} {v : Value} {d : DataW H} {p : List MemPlace} {s : Sh} (h : DataW.Trod enc Tryz.prog W 0 (fun _ => true) true t v d p) (hs : shT Tryz.prog 8 t = some [s]) (hv : v.cells.toList = [v]) :
    ∃ x, FitD s x ∧ RD W (fun b => b < W.heap.size) x v := by
  obtain ⟨n, h⟩ := h
  obtain ⟨ds, h1, h2⟩ := opened 8 n t _ _ _ h hs
  obtain ⟨x, r, rfl, h3, h4⟩ := fit_cons h1
  obtain rfl := fit_nil h4
  rw [hv] at h2
  exact ⟨x, h3, h2.out 0 x v rfl rfl⟩
end Go.Proofs.YtbdclkjelhlfbaaGreat

namespace Go.Proofs.YtbdclkjelhlfbaaGreat
open Go.RowKit
set_option maxRecDepth 100000
def clampI (n : Int) : Int := min (max n 0) 4611686018427387903
theorem clampI_bd (n : Int) : 0 ≤ clampI n ∧ clampI n ≤ 4611686018427387903 := by unfold clampI; omega
def wordL (n : Int) : List Int := if n = 0 then [] else if n / 4294967296 = 0 then [n % 4294967296] else [n % 4294967296, n / 4294967296]
theorem sl_eq {z m n : Nat} {f g : Nat → List D} (h : m = n) (hf : ∀ i, i < n → f i = g i) : SV.Le (.d (.sl z m f)) (.d (.sl z n g)) := by subst h; exact SV.Le.sl hf
theorem Pure.le {C : Cx} {g : Nat} {args args' : List SV} {r : SV} (h : Pure C g args' r) (ha : Les args args') : Pure C g args r :=
  ⟨h.ent, fun E w vs hIm hsz hargs => h.out E w vs hIm (hsz.trans ha.len) fun j hj => (ha.out j (by rw [ha.len]; exact hj) hj).out _ _ _ _ (hargs j (by rw [ha.len]; exact hj))⟩
theorem r1_Word (n : Int) (h0 : 0 ≤ n) (h1 : n < 18446744073709551616) : Pure TC 113 [.i .u64 n] (.d (slOf 1 (encI .u64) (wordL n))) := by
  have hm : n.tmod 4294967296 = n % 4294967296 := Int.tmod_eq_emod_of_nonneg h0
  have hd : n.tdiv 4294967296 = n / 4294967296 := Int.tdiv_eq_ediv_of_nonneg h0
  refine Pure.mk' Tryz.func113 rfl rfl (Nat.le_of_ble_eq_true rfl) ?_
  (repeat' (first
    | with_reducible refine Wp.seq ?_
    | with_reducible refine Wp.block ?_
    | ((with_reducible first | refine Wp.region ?_ | refine Wp.drawL TC_mixed ?_ | refine Wp.cond ?_ | refine Wp.ret ?_ | refine Wp.skip ?_ | refine Wp.exit ?_ | refine Go.mk ?_ | apply Eff1.of); conv => whnf)
    | with_reducible exact rfl
    | ((with_reducible refine Ov.ok zO ?_); conv => whnf)
    | (with_reducible refine Ov.sh1 (by with_unfolding_all exact rfl) ?_)
    | ((with_reducible refine Ov.quo (by omega) (by omega) (by omega) (fun _ _ => ?_)); conv => whnf)
    | ((with_reducible refine And.intro (show drawOK _ _ _ _ = true by kernel_rfl) ?_); conv => whnf)
    | ((with_reducible refine And.intro zC ?_); conv => whnf)
    | ((with_reducible refine And.intro ?hb ?_); (case hb => exact bytes_bd (Nat.le_of_ble_eq_true rfl) (by omega)); (conv => whnf))
    | ((refine DApp.a rfl rfl rfl rfl rfl rfl ?hb ?_); (case hb => exact zB); (conv => whnf))
    | ((refine DApp.b rfl rfl rfl rfl rfl rfl rfl rfl ?hb ?ho ?_); (case hb => exact zB); (case ho => omega); (conv => whnf))
    | ((refine DApp.c rfl rfl rfl rfl rfl ?hb ?_); (case hb => exact zB); (conv => whnf))
    | ((refine DApp.d rfl rfl rfl rfl rfl rfl ?hb ?ho ?_); (case hb => exact zB); (case ho => omega); (conv => whnf))
    | ((with_reducible refine nil_no (by omega) ?_); (conv => whnf))
    | ((with_reducible refine nil_any ?_ (fun hn0 => ?_)) <;> (conv => whnf))
    | (with_reducible refine CallStop.inline Tryz.func154 rfl rfl rfl (Nat.le_of_ble_eq_true rfl) ?_)
    | ((with_reducible refine Wp.loopN 4 ?_); conv => whnf)
    | ((refine ways (fun hc => ?_) (fun hc => ?_)) <;> (try simp only [decide_eq_true_eq, decide_eq_false_iff_not, Bool.and_eq_true, Bool.or_eq_true, Bool.and_eq_false_iff, Bool.or_eq_false_iff, Bool.not_eq_true', Bool.not_eq_false', beq_iff_eq, bne_iff_ne, ne_eq, beq_eq_false_iff_ne, bne_eq_false_iff_eq, Bool.not_eq_true, Bool.not_eq_false] at hc) <;> (try (exfalso; omega)) <;> (conv => whnf))))
  · rw [wordL, if_pos (by omega)]; exact sl_eq rfl fun i hi => absurd hi (Nat.not_lt_zero _)
  · rw [wordL, if_neg (by omega), if_pos (by omega), hm]
    exact sl_eq rfl fun i hi => by
      have : i = 0 := by simp at hi; omega
      subst this; rfl
  · rw [wordL, if_neg (by omega), if_neg (by omega), hm, hd]
    exact sl_eq rfl fun i hi => by
      have : i = 0 ∨ i = 1 := by simp at hi; omega
      rcases this with rfl | rfl <;> rfl
def f1 (a : Int) : Nat → List D := fun _ => [.val (.int .u64 a)]
def f2 (a b : Int) : Nat → List D
  | 0 => [.val (.int .u64 a)]
  | _ + 1 => [.val (.int .u64 b)]
theorem r1_Fits (n : Int) (h0 : 0 ≤ n) (h1 : n < 18446744073709551616) : Pure TC 153 [.d (slOf 1 (encI .u64) (wordL n))] (.tup [.i .u64 n, .b true]) := by
  unfold wordL
  split
  · refine Pure.le (args' := [.d (.sl 1 0 (f1 0))]) ?_ (.cons (sl_eq rfl fun i hi => absurd hi (Nat.not_lt_zero _)) .nil)
    refine Pure.mk' Tryz.func153 rfl rfl (Nat.le_of_ble_eq_true rfl) ?_
    (repeat' (first
    | with_reducible refine Wp.seq ?_
    | with_reducible refine Wp.block ?_
    | ((with_reducible first | refine Wp.region ?_ | refine Wp.drawL TC_mixed ?_ | refine Wp.cond ?_ | refine Wp.ret ?_ | refine Wp.skip ?_ | refine Wp.exit ?_ | refine Go.mk ?_ | apply Eff1.of); conv => whnf)
    | with_reducible exact rfl
    | ((with_reducible refine Ov.ok zO ?_); conv => whnf)
    | (with_reducible refine Ov.sh1 (by with_unfolding_all exact rfl) ?_)
    | ((with_reducible refine Ov.quo (by omega) (by omega) (by omega) (fun _ _ => ?_)); conv => whnf)
    | ((with_reducible refine And.intro (show drawOK _ _ _ _ = true by kernel_rfl) ?_); conv => whnf)
    | ((with_reducible refine And.intro zC ?_); conv => whnf)
    | ((with_reducible refine And.intro ?hb ?_); (case hb => exact bytes_bd (Nat.le_of_ble_eq_true rfl) (by omega)); (conv => whnf))
    | ((refine DApp.a rfl rfl rfl rfl rfl rfl ?hb ?_); (case hb => exact zB); (conv => whnf))
    | ((refine DApp.b rfl rfl rfl rfl rfl rfl rfl rfl ?hb ?ho ?_); (case hb => exact zB); (case ho => omega); (conv => whnf))
    | ((refine DApp.c rfl rfl rfl rfl rfl ?hb ?_); (case hb => exact zB); (conv => whnf))
    | ((refine DApp.d rfl rfl rfl rfl rfl rfl ?hb ?ho ?_); (case hb => exact zB); (case ho => omega); (conv => whnf))
    | ((with_reducible refine nil_no (by omega) ?_); (conv => whnf))
    | ((with_reducible refine nil_any ?_ (fun hn0 => ?_)) <;> (conv => whnf))
    | ((with_reducible refine Wp.loopN 4 ?_); conv => whnf)
    | ((refine ways (fun hc => ?_) (fun hc => ?_)) <;> (try simp only [decide_eq_true_eq, decide_eq_false_iff_not, Bool.and_eq_true, Bool.or_eq_true, Bool.and_eq_false_iff, Bool.or_eq_false_iff, Bool.not_eq_true', Bool.not_eq_false', beq_iff_eq, bne_iff_ne, ne_eq, beq_eq_false_iff_ne, bne_eq_false_iff_eq, Bool.not_eq_true, Bool.not_eq_false] at hc) <;> (try (exfalso; omega)) <;> (conv => whnf))))
    exact .tup (.cons (.i (by omega)) (.cons (.b rfl) .nil))
  · split
    · refine Pure.le (args' := [.d (.sl 1 1 (f1 (n % 4294967296)))]) ?_ (.cons (sl_eq rfl fun i hi => by
        have : i = 0 := by omega
        subst this; rfl) .nil)
      refine Pure.mk' Tryz.func153 rfl rfl (Nat.le_of_ble_eq_true rfl) ?_
      (repeat' (first
    | with_reducible refine Wp.seq ?_
    | with_reducible refine Wp.block ?_
    | ((with_reducible first | refine Wp.region ?_ | refine Wp.drawL TC_mixed ?_ | refine Wp.cond ?_ | refine Wp.ret ?_ | refine Wp.skip ?_ | refine Wp.exit ?_ | refine Go.mk ?_ | apply Eff1.of); conv => whnf)
    | with_reducible exact rfl
    | ((with_reducible refine Ov.ok zO ?_); conv => whnf)
    | (with_reducible refine Ov.sh1 (by with_unfolding_all exact rfl) ?_)
    | ((with_reducible refine Ov.quo (by omega) (by omega) (by omega) (fun _ _ => ?_)); conv => whnf)
    | ((with_reducible refine And.intro (show drawOK _ _ _ _ = true by kernel_rfl) ?_); conv => whnf)
    | ((with_reducible refine And.intro zC ?_); conv => whnf)
    | ((with_reducible refine And.intro ?hb ?_); (case hb => exact bytes_bd (Nat.le_of_ble_eq_true rfl) (by omega)); (conv => whnf))
    | ((refine DApp.a rfl rfl rfl rfl rfl rfl ?hb ?_); (case hb => exact zB); (conv => whnf))
    | ((refine DApp.b rfl rfl rfl rfl rfl rfl rfl rfl ?hb ?ho ?_); (case hb => exact zB); (case ho => omega); (conv => whnf))
    | ((refine DApp.c rfl rfl rfl rfl rfl ?hb ?_); (case hb => exact zB); (conv => whnf))
    | ((refine DApp.d rfl rfl rfl rfl rfl rfl ?hb ?ho ?_); (case hb => exact zB); (case ho => omega); (conv => whnf))
    | ((with_reducible refine nil_no (by omega) ?_); (conv => whnf))
    | ((with_reducible refine nil_any ?_ (fun hn0 => ?_)) <;> (conv => whnf))
    | ((with_reducible refine Wp.loopN 4 ?_); conv => whnf)
    | ((refine ways (fun hc => ?_) (fun hc => ?_)) <;> (try simp only [decide_eq_true_eq, decide_eq_false_iff_not, Bool.and_eq_true, Bool.or_eq_true, Bool.and_eq_false_iff, Bool.or_eq_false_iff, Bool.not_eq_true', Bool.not_eq_false', beq_iff_eq, bne_iff_ne, ne_eq, beq_eq_false_iff_ne, bne_eq_false_iff_eq, Bool.not_eq_true, Bool.not_eq_false] at hc) <;> (try (exfalso; omega)) <;> (conv => whnf))))
      exact .tup (.cons (.i (by omega)) (.cons (.b rfl) .nil))
    · refine Pure.le (args' := [.d (.sl 1 2 (f2 (n % 4294967296) (n / 4294967296)))]) ?_ (.cons (sl_eq rfl fun i hi => by
        have : i = 0 ∨ i = 1 := by omega
        rcases this with rfl | rfl <;> rfl) .nil)
      refine Pure.mk' Tryz.func153 rfl rfl (Nat.le_of_ble_eq_true rfl) ?_
      (repeat' (first
    | with_reducible refine Wp.seq ?_
    | with_reducible refine Wp.block ?_
    | ((with_reducible first | refine Wp.region ?_ | refine Wp.drawL TC_mixed ?_ | refine Wp.cond ?_ | refine Wp.ret ?_ | refine Wp.skip ?_ | refine Wp.exit ?_ | refine Go.mk ?_ | apply Eff1.of); conv => whnf)
    | with_reducible exact rfl
    | ((with_reducible refine Ov.ok zO ?_); conv => whnf)
    | (with_reducible refine Ov.sh1 (by with_unfolding_all exact rfl) ?_)
    | ((with_reducible refine Ov.quo (by omega) (by omega) (by omega) (fun _ _ => ?_)); conv => whnf)
    | ((with_reducible refine And.intro (show drawOK _ _ _ _ = true by kernel_rfl) ?_); conv => whnf)
    | ((with_reducible refine And.intro zC ?_); conv => whnf)
    | ((with_reducible refine And.intro ?hb ?_); (case hb => exact bytes_bd (Nat.le_of_ble_eq_true rfl) (by omega)); (conv => whnf))
    | ((refine DApp.a rfl rfl rfl rfl rfl rfl ?hb ?_); (case hb => exact zB); (conv => whnf))
    | ((refine DApp.b rfl rfl rfl rfl rfl rfl rfl rfl ?hb ?ho ?_); (case hb => exact zB); (case ho => omega); (conv => whnf))
    | ((refine DApp.c rfl rfl rfl rfl rfl ?hb ?_); (case hb => exact zB); (conv => whnf))
    | ((refine DApp.d rfl rfl rfl rfl rfl rfl ?hb ?ho ?_); (case hb => exact zB); (case ho => omega); (conv => whnf))
    | ((with_reducible refine nil_no (by omega) ?_); (conv => whnf))
    | ((with_reducible refine nil_any ?_ (fun hn0 => ?_)) <;> (conv => whnf))
    | ((with_reducible refine Wp.loopN 4 ?_); conv => whnf)
    | ((refine ways (fun hc => ?_) (fun hc => ?_)) <;> (try simp only [decide_eq_true_eq, decide_eq_false_iff_not, Bool.and_eq_true, Bool.or_eq_true, Bool.and_eq_false_iff, Bool.or_eq_false_iff, Bool.not_eq_true', Bool.not_eq_false', beq_iff_eq, bne_iff_ne, ne_eq, beq_eq_false_iff_ne, bne_eq_false_iff_eq, Bool.not_eq_true, Bool.not_eq_false] at hc) <;> (try (exfalso; omega)) <;> (conv => whnf))))
      exact .tup (.cons (.i (by omega)) (.cons (.b rfl) .nil))
theorem r1_Held (n : Int) (h0 : 0 ≤ n) (h1 : n < 18446744073709551616) : Pure TC 112 [.d (slOf 1 (encI .u64) (wordL n))] (.i .i64 (min n 4611686018427387903)) := by
  refine Pure.mk' Tryz.func112 rfl rfl (Nat.le_of_ble_eq_true rfl) ?_
  (repeat' (first
    | with_reducible refine Wp.seq ?_
    | with_reducible refine Wp.block ?_
    | ((with_reducible first | refine Wp.region ?_ | refine Wp.drawL TC_mixed ?_ | refine Wp.cond ?_ | refine Wp.ret ?_ | refine Wp.skip ?_ | refine Wp.exit ?_ | refine Go.mk ?_ | apply Eff1.of); conv => whnf)
    | with_reducible exact rfl
    | ((with_reducible refine Ov.ok zO ?_); conv => whnf)
    | (with_reducible refine Ov.sh1 (by with_unfolding_all exact rfl) ?_)
    | ((with_reducible refine Ov.quo (by omega) (by omega) (by omega) (fun _ _ => ?_)); conv => whnf)
    | ((with_reducible refine And.intro (show drawOK _ _ _ _ = true by kernel_rfl) ?_); conv => whnf)
    | ((with_reducible refine And.intro zC ?_); conv => whnf)
    | ((with_reducible refine And.intro ?hb ?_); (case hb => exact bytes_bd (Nat.le_of_ble_eq_true rfl) (by omega)); (conv => whnf))
    | ((refine DApp.a rfl rfl rfl rfl rfl rfl ?hb ?_); (case hb => exact zB); (conv => whnf))
    | ((refine DApp.b rfl rfl rfl rfl rfl rfl rfl rfl ?hb ?ho ?_); (case hb => exact zB); (case ho => omega); (conv => whnf))
    | ((refine DApp.c rfl rfl rfl rfl rfl ?hb ?_); (case hb => exact zB); (conv => whnf))
    | ((refine DApp.d rfl rfl rfl rfl rfl rfl ?hb ?ho ?_); (case hb => exact zB); (case ho => omega); (conv => whnf))
    | ((with_reducible refine nil_no (by omega) ?_); (conv => whnf))
    | ((with_reducible refine nil_any ?_ (fun hn0 => ?_)) <;> (conv => whnf))
    | ((with_reducible refine CallStop.pure (r1_Fits n h0 h1) rfl rfl ?_); conv => whnf) | ((with_reducible refine DCall.pure (r1_Fits n h0 h1) rfl rfl ?_); conv => whnf)
    | ((refine ways (fun hc => ?_) (fun hc => ?_)) <;> (try simp only [decide_eq_true_eq, decide_eq_false_iff_not, Bool.and_eq_true, Bool.or_eq_true, Bool.and_eq_false_iff, Bool.or_eq_false_iff, Bool.not_eq_true', Bool.not_eq_false', beq_iff_eq, bne_iff_ne, ne_eq, beq_eq_false_iff_ne, bne_eq_false_iff_eq, Bool.not_eq_true, Bool.not_eq_false] at hc) <;> (try (exfalso; omega)) <;> (conv => whnf))))
  · exact .i (by omega)
  · exact .i (by omega)
theorem r1_Clamp (n : Int) (h : n ≤ 9223372036854775807) : Pure TC 69 [.i .i64 n] (.i .i64 (clampI n)) := by
  refine Pure.mk' Tryz.func69 rfl rfl (Nat.le_of_ble_eq_true rfl) ?_
  (repeat' (first
    | with_reducible refine Wp.seq ?_
    | with_reducible refine Wp.block ?_
    | ((with_reducible first | refine Wp.region ?_ | refine Wp.drawL TC_mixed ?_ | refine Wp.cond ?_ | refine Wp.ret ?_ | refine Wp.skip ?_ | refine Wp.exit ?_ | refine Go.mk ?_ | apply Eff1.of); conv => whnf)
    | with_reducible exact rfl
    | ((with_reducible refine Ov.ok zO ?_); conv => whnf)
    | (with_reducible refine Ov.sh1 (by with_unfolding_all exact rfl) ?_)
    | ((with_reducible refine Ov.quo (by omega) (by omega) (by omega) (fun _ _ => ?_)); conv => whnf)
    | ((with_reducible refine And.intro (show drawOK _ _ _ _ = true by kernel_rfl) ?_); conv => whnf)
    | ((with_reducible refine And.intro zC ?_); conv => whnf)
    | ((with_reducible refine And.intro ?hb ?_); (case hb => exact bytes_bd (Nat.le_of_ble_eq_true rfl) (by omega)); (conv => whnf))
    | ((refine DApp.a rfl rfl rfl rfl rfl rfl ?hb ?_); (case hb => exact zB); (conv => whnf))
    | ((refine DApp.b rfl rfl rfl rfl rfl rfl rfl rfl ?hb ?ho ?_); (case hb => exact zB); (case ho => omega); (conv => whnf))
    | ((refine DApp.c rfl rfl rfl rfl rfl ?hb ?_); (case hb => exact zB); (conv => whnf))
    | ((refine DApp.d rfl rfl rfl rfl rfl rfl ?hb ?ho ?_); (case hb => exact zB); (case ho => omega); (conv => whnf))
    | ((with_reducible refine nil_no (by omega) ?_); (conv => whnf))
    | ((with_reducible refine nil_any ?_ (fun hn0 => ?_)) <;> (conv => whnf))
    | ((with_reducible refine CallStop.pure (r1_Word n (by omega) (by omega)) rfl rfl ?_); conv => whnf) | ((with_reducible refine DCall.pure (r1_Word n (by omega) (by omega)) rfl rfl ?_); conv => whnf)
    | ((with_reducible refine CallStop.pure (r1_Held n (by omega) (by omega)) rfl rfl ?_); conv => whnf) | ((with_reducible refine DCall.pure (r1_Held n (by omega) (by omega)) rfl rfl ?_); conv => whnf)
    | ((refine ways (fun hc => ?_) (fun hc => ?_)) <;> (try simp only [decide_eq_true_eq, decide_eq_false_iff_not, Bool.and_eq_true, Bool.or_eq_true, Bool.and_eq_false_iff, Bool.or_eq_false_iff, Bool.not_eq_true', Bool.not_eq_false', beq_iff_eq, bne_iff_ne, ne_eq, beq_eq_false_iff_ne, bne_eq_false_iff_eq, Bool.not_eq_true, Bool.not_eq_false] at hc) <;> (try (exfalso; omega)) <;> (conv => whnf))))
  · exact .i (by unfold clampI; omega)
  · exact .i (by unfold clampI; omega)
structure Pk where
  who : Int
  op : Int
  key : List Int
  val : Int
  deriving Inhabited
@[reducible] def Pk.D (p : Pk) : List D := [.val (.int .i64 p.who), .val (.int .u8 p.op), slOf 1 (encI .u8) p.key, .val (.int .i64 p.val)]
@[reducible] def Pk.S (p : Pk) : SV := .agg [.i .i64 p.who, .i .u8 p.op, .d (slOf 1 (encI .u8) p.key), .i .i64 p.val]
def Pk.ok (p : Pk) : Prop := (-9223372036854775808 ≤ p.who ∧ p.who ≤ 9223372036854775807) ∧ (0 ≤ p.op ∧ p.op ≤ 255) ∧ IsB p.key ∧ (-9223372036854775808 ≤ p.val ∧ p.val ≤ 9223372036854775807)
def fitP (p : Pk) : Pk := ⟨(IntKind.u64.wrap p.who) % 5, if 4 < p.op then 1 + p.op % 4 else p.op, p.key.take 3, clampI p.val⟩
theorem law_fit (p : Pk) (h : p.ok) : Pure TC 34 [p.S] (fitP p).S := by
  obtain ⟨⟨h0, h1⟩, ⟨h2, h3⟩, h4, h5, h6⟩ := h
  have hm : p.op.tmod 4 = p.op % 4 := Int.tmod_eq_emod_of_nonneg h2
  refine Pure.mk' Tryz.func34 rfl rfl (Nat.le_of_ble_eq_true rfl) ?_
  have hu : IntKind.u64.wrap p.who = p.who % 18446744073709551616 := by simp [IntKind.wrap, IntKind.bits, IntKind.signed]
  have hub : 0 ≤ IntKind.u64.wrap p.who ∧ IntKind.u64.wrap p.who < 18446744073709551616 := by omega
  have hu5 : (IntKind.u64.wrap p.who).tmod 5 = IntKind.u64.wrap p.who % 5 := Int.tmod_eq_emod_of_nonneg hub.1
  clear hu
  (repeat' (first
    | with_reducible refine Wp.seq ?_
    | with_reducible refine Wp.block ?_
    | ((with_reducible first | refine Wp.region ?_ | refine Wp.drawL TC_mixed ?_ | refine Wp.cond ?_ | refine Wp.ret ?_ | refine Wp.skip ?_ | refine Wp.exit ?_ | refine Go.mk ?_ | apply Eff1.of); conv => whnf)
    | with_reducible exact rfl
    | ((with_reducible refine Ov.ok zO ?_); conv => whnf)
    | (with_reducible refine Ov.sh1 (by with_unfolding_all exact rfl) ?_)
    | ((with_reducible refine Ov.quo (by omega) (by omega) (by omega) (fun _ _ => ?_)); conv => whnf)
    | ((with_reducible refine And.intro (show drawOK _ _ _ _ = true by kernel_rfl) ?_); conv => whnf)
    | ((with_reducible refine And.intro zC ?_); conv => whnf)
    | ((with_reducible refine And.intro ?hb ?_); (case hb => exact bytes_bd (Nat.le_of_ble_eq_true rfl) (by omega)); (conv => whnf))
    | ((refine DApp.a rfl rfl rfl rfl rfl rfl ?hb ?_); (case hb => exact zB); (conv => whnf))
    | ((refine DApp.b rfl rfl rfl rfl rfl rfl rfl rfl ?hb ?ho ?_); (case hb => exact zB); (case ho => omega); (conv => whnf))
    | ((refine DApp.c rfl rfl rfl rfl rfl ?hb ?_); (case hb => exact zB); (conv => whnf))
    | ((refine DApp.d rfl rfl rfl rfl rfl rfl ?hb ?ho ?_); (case hb => exact zB); (case ho => omega); (conv => whnf))
    | ((with_reducible refine nil_no (by omega) ?_); (conv => whnf))
    | ((with_reducible refine nil_any ?_ (fun hn0 => ?_)) <;> (conv => whnf))
    | ((with_reducible refine CallStop.pure (r1_Clamp _ (by omega)) rfl rfl ?_); conv => whnf) | ((with_reducible refine DCall.pure (r1_Clamp _ (by omega)) rfl rfl ?_); conv => whnf)
    | ((with_reducible refine Ov.mk ?_); conv => whnf)
    | ((refine ways (fun hc => ?_) (fun hc => ?_)) <;> (try simp only [decide_eq_true_eq, decide_eq_false_iff_not, Bool.and_eq_true, Bool.or_eq_true, Bool.and_eq_false_iff, Bool.or_eq_false_iff, Bool.not_eq_true', Bool.not_eq_false', beq_iff_eq, bne_iff_ne, ne_eq, beq_eq_false_iff_ne, bne_eq_false_iff_eq, Bool.not_eq_true, Bool.not_eq_false] at hc) <;> (try (exfalso; omega)) <;> (conv => whnf))))
  all_goals refine SV.Le.agg (.cons (.i ?_) (.cons (.i ?_) (.cons (sl_eq ?_ fun i hi => ?_) (.cons (.i ?_) .nil))))
  all_goals first
    | exact rfl
    | exact hu5
    | (simp only [fitP]; (repeat' split) <;> omega)
    | (simp only [fitP, List.length_take]; split <;> omega)
    | (simp only [fitP, Nat.zero_add] at hi ⊢; rw [List.getD_eq_getElem?_getD, List.getD_eq_getElem?_getD, List.getElem?_take, if_pos (by simp at hi; omega)])
theorem fitP_bd {p : Pk} (h : p.ok) : (0 ≤ (fitP p).op ∧ (fitP p).op ≤ 4) ∧ (fitP p).key.length ≤ 3 ∧ IsB (fitP p).key ∧ (0 ≤ (fitP p).val ∧ (fitP p).val ≤ 4611686018427387903) := by
  obtain ⟨_, ⟨h2, h3⟩, h4, h5, h6⟩ := h
  refine ⟨?_, ?_, ?_, clampI_bd _⟩
  · simp only [fitP]; split <;> omega
  · simp only [fitP, List.length_take]; omega
  · intro x hx; exact h4 x (List.mem_of_mem_take hx)
end Go.Proofs.YtbdclkjelhlfbaaGreat

namespace Go.Proofs.YtbdclkjelhlfbaaGreat
open Go.ChangeShapes Go.WideShapes Go.ChangeAt Go.RowKit
@[reducible] def shPk : List Sh := [.int .i64, .int .u8, .sl 1 [.int .u8], .int .i64]
theorem fit_pk {ds : List D} (h : FitL shPk ds) : ∃ a : Pk, LsLe ds a.D ∧ a.ok := by
  obtain ⟨d0, r0, rfl, h0, t0⟩ := fit_cons h
  obtain ⟨d1, r1, rfl, h1, t1⟩ := fit_cons t0
  obtain ⟨d2, r2, rfl, h2, t2⟩ := fit_cons t1
  obtain ⟨d3, r3, rfl, h3, t3⟩ := fit_cons t2
  obtain rfl := fit_nil t3
  obtain ⟨n0, rfl, w0⟩ := fit_int h0
  obtain ⟨n1, rfl, w1⟩ := fit_int h1
  obtain ⟨key, le, _, w2⟩ := fit_ints h2
  obtain ⟨n3, rfl, w3⟩ := fit_int h3
  exact ⟨⟨n0, n1, key, n3⟩, .cons (.rfl _) (.cons (.rfl _) (.cons le (.cons (.rfl _) .nil))), wf_i64 w0, wf_u8 w1, fun x hx => wf_u8 (w2 x hx), wf_i64 w3⟩
theorem argPicks {H : Type} {enc : TypeId × Value → H} {W : World} {v : Value} {d : DataW H} {p : List MemPlace} (h : DataW.Trod enc Tryz.prog W 0 (fun _ => true) true 41 v d p) (hv : v.cells.toList = [v]) :
    ∃ script : List Pk, (∀ a ∈ script, a.ok) ∧ ∀ E : Env, E.Im = (fun b => b < W.heap.size) → RS E 0 W (.d (slOf 4 Pk.D script)) v := by
  obtain ⟨x, f, g⟩ := arg1 h (s := .sl 4 shPk) (by kernel_rfl) hv
  obtain ⟨script, le, _, hok⟩ := fit_list f fun ds hd => fit_pk hd
  exact ⟨script, hok, fun E hE => .d _ _ (by rw [hE]; exact le.out _ _ _ g)⟩
end Go.Proofs.YtbdclkjelhlfbaaGreat

namespace Go.Proofs.YtbdclkjelhlfbaaGreat
open Go.RowKit
end Go.Proofs.YtbdclkjelhlfbaaGreat

namespace Go.Proofs.YtbdclkjelhlfbaaGreat
namespace Dir
structure Ent where
  key : List Int
  val : Int
deriving DecidableEq, Inhabited
structure Res where
  done : Bool
  e : Int
  n : Int
deriving DecidableEq, Inhabited
structure Kc where
  op : Int
  key : List Int
  val : Int
deriving DecidableEq, Inhabited
inductive CS where
  | none
  | k0 (c : Kc)
  | kE (c : Kc) (w : Nat)
  | kF (c : Kc) (lv w : Nat)
  | kG (c : Kc) (lv w : Nat) (v : Int) (h : List Ent)
  | kH (c : Kc) (lv w : Nat) (h : List Ent)
  | kL (c : Kc) (lv w : Nat) (h : List Ent)
  | kS (c : Kc) (w : Nat) (v : Int) (m : List Ent) (n : Int)
  | s0
  | sM (lv : Nat)
  | sF (lv i : Nat)
  | sG (lv i : Nat) (v : Int) (h : List Ent)
  | sH (lv i : Nat) (up : Bool) (h : List Ent)
  | sL (lv i : Nat) (up : Bool) (h : List Ent)
  | sV (lv : Nat)
deriving Inhabited
abbrev FZ : Int := 4611686018427387904
structure Mc where
  W : Nat → Int
  Hd : Nat → List Ent
def upd {α : Type} (f : Nat → α) (i : Nat) (x : α) : Nat → α := fun j => if j = i then x else f j
def Mc.set (M : Mc) (w : Nat) (v : Int) (h : List Ent) : Mc := ⟨upd M.W w v, upd M.Hd w h⟩
structure Ops where
  sum : List Int → Int
  cut : List Ent → Nat → Nat → List Ent
  
  fnd : Kc → List Ent → Res ⊕ (List Ent × Int)
def plc (lv : Nat) (s : Int) : Nat := 2 ^ lv + (s % 2 ^ lv).toNat
def r0 : Res := ⟨false, 0, 0⟩
section
variable (P : Ops)
def found (c : Kc) (w : Nat) (v : Int) (h : List Ent) : CS × Res :=
  match P.fnd c h with
  | .inl r => (.none, r)
  | .inr (m, n) => (.kS c w v m n, r0)
def entered (c : Kc) (w : Nat) (v : Int) (h : List Ent) : CS × Res :=
  if v = 0 ∨ FZ ≤ v then (.k0 c, r0) else found P c w v h
def toH (c : Kc) (lv : Nat) (h : List Ent) : CS := .kH c (lv + 1) (plc (lv + 1) (P.sum c.key)) h
def move (lv i : Nat) : CS := if i = 2 ^ lv then .sV lv else .sF lv i
def upW (lv i : Nat) (up : Bool) : Nat := 2 ^ (lv + 1) + (if up then i + 2 ^ lv else i)
def on (lv i : Nat) (up : Bool) (h : List Ent) : CS := if up then move lv (i + 1) else .sH lv i true h
def step (M : Mc) : CS → Mc × CS × Res
  | .none => (M, .none, r0)
  | .k0 c => (M, if M.W 0 % 2 = 0 then .kE c (plc (M.W 0 / 2).toNat (P.sum c.key)) else .kF c (M.W 0 / 2).toNat (plc (M.W 0 / 2).toNat (P.sum c.key)), r0)
  | .kE c w => (M, entered P c w (M.W w) (M.Hd w))
  | .kF c lv w => (M, if FZ ≤ M.W w then toH P c lv (M.Hd w) else .kG c lv w (M.W w) (M.Hd w), r0)
  | .kG c lv w v h => if M.W w = v then (M.set w (v + FZ) h, toH P c lv h, r0) else (M, .kF c lv w, r0)
  | .kH c lv w h => if M.W w = 0 then (M, .kL c lv w h, r0) else (M, entered P c w (M.W w) (M.Hd w))
  | .kL c lv w h => (if M.W w = 0 then M.set w 1 (P.cut h lv (w - 2 ^ lv)) else M, .kE c w, r0)
  | .kS c w v m n => if M.W w = v then (M.set w (v + 1) m, .none, ⟨true, 0, n⟩) else (M, .k0 c, r0)
  | .s0 => if M.W 0 % 2 = 1 then (M, .sF (M.W 0 / 2).toNat 0, r0) else if M.W 0 / 2 = 4 then (M, .none, ⟨true, 5, 0⟩) else (M, .sM (M.W 0 / 2).toNat, r0)
  | .sM lv => if M.W 0 = 2 * lv then (M.set 0 (2 * lv + 1) [], .sF lv 0, r0) else (M, .s0, r0)
  | .sF lv i => (M, if FZ ≤ M.W (2 ^ lv + i) then .sH lv i false (M.Hd (2 ^ lv + i)) else .sG lv i (M.W (2 ^ lv + i)) (M.Hd (2 ^ lv + i)), r0)
  | .sG lv i v h => if M.W (2 ^ lv + i) = v then (M.set (2 ^ lv + i) (v + FZ) h, .sH lv i false h, r0) else (M, .sF lv i, r0)
  | .sH lv i up h => (M, if M.W (upW lv i up) = 0 then .sL lv i up h else on lv i up h, r0)
  | .sL lv i up h => (if M.W (upW lv i up) = 0 then M.set (upW lv i up) 1 (P.cut h (lv + 1) (upW lv i up - 2 ^ (lv + 1))) else M, on lv i up h, r0)
  | .sV lv => (if M.W 0 = 2 * lv + 1 then M.set 0 (2 * lv + 2) [] else M, .none, ⟨true, 0, 0⟩)
end
def okW (D : Int) (lv : Nat) (x low : Int) (B : Int) : Prop :=
  0 ≤ x ∧ (x < FZ → x ≤ B) ∧ (2 * (lv : Int) + 1 < D → FZ ≤ x) ∧ (D = 2 * (lv : Int) + 1 → x ≠ 0) ∧ (D = 2 * (lv : Int) → 0 < x ∧ x < FZ) ∧ (D + 1 = 2 * (lv : Int) → x = 0 ∨ (0 < x ∧ x < FZ ∧ FZ ≤ low)) ∧ (D + 1 < 2 * (lv : Int) → x = 0)
def lowW (W : Nat → Int) (lv i : Nat) : Int := W (2 ^ (lv - 1) + i % 2 ^ (lv - 1))
structure Iw (W : Nat → Int) (B : Int) : Prop where
  d : 0 ≤ W 0 ∧ W 0 ≤ 8
  w : ∀ lv i, lv ≤ 4 → i < 2 ^ lv → okW (W 0) lv (W (2 ^ lv + i)) (lowW W lv i) B
def Cw (P : Ops) (W : Nat → Int) : CS → Prop
  | .none => True
  | .k0 _ => True
  | .kE _ w => 1 ≤ w ∧ w < 32
  | .kF c lv w => lv ≤ 3 ∧ w = plc lv (P.sum c.key) ∧ 2 * (lv : Int) + 1 ≤ W 0
  | .kG c lv w v _ => lv ≤ 3 ∧ w = plc lv (P.sum c.key) ∧ 2 * (lv : Int) + 1 ≤ W 0 ∧ v < FZ
  | .kH c lv w _ => 1 ≤ lv ∧ lv ≤ 4 ∧ w = plc lv (P.sum c.key) ∧ 2 * (lv : Int) - 1 ≤ W 0 ∧ FZ ≤ W (plc (lv - 1) (P.sum c.key))
  | .kL c lv w _ => 1 ≤ lv ∧ lv ≤ 4 ∧ w = plc lv (P.sum c.key) ∧ 2 * (lv : Int) - 1 ≤ W 0 ∧ FZ ≤ W (plc (lv - 1) (P.sum c.key))
  | .kS _ w v _ _ => 1 ≤ w ∧ w < 32 ∧ 0 < v ∧ v < FZ
  | .s0 => True
  | .sM lv => lv ≤ 3
  | .sF lv i => lv ≤ 3 ∧ i < 2 ^ lv ∧ 2 * (lv : Int) + 1 ≤ W 0 ∧ gone W lv i
  | .sG lv i v _ => lv ≤ 3 ∧ i < 2 ^ lv ∧ 2 * (lv : Int) + 1 ≤ W 0 ∧ gone W lv i ∧ v < FZ
  | .sH lv i up _ => lv ≤ 3 ∧ i < 2 ^ lv ∧ 2 * (lv : Int) + 1 ≤ W 0 ∧ gone W lv i ∧ FZ ≤ W (2 ^ lv + i) ∧ (up = true → W (2 ^ (lv + 1) + i) ≠ 0)
  | .sL lv i up _ => lv ≤ 3 ∧ i < 2 ^ lv ∧ 2 * (lv : Int) + 1 ≤ W 0 ∧ gone W lv i ∧ FZ ≤ W (2 ^ lv + i) ∧ (up = true → W (2 ^ (lv + 1) + i) ≠ 0)
  | .sV lv => lv ≤ 3 ∧ 2 * (lv : Int) + 1 ≤ W 0 ∧ gone W lv (2 ^ lv)
where
  gone (W : Nat → Int) (lv i : Nat) : Prop := ∀ j, j < i → FZ ≤ W (2 ^ lv + j) ∧ W (2 ^ (lv + 1) + j) ≠ 0 ∧ W (2 ^ (lv + 1) + (j + 2 ^ lv)) ≠ 0
end Dir
end Go.Proofs.YtbdclkjelhlfbaaGreat

namespace Go.Proofs.YtbdclkjelhlfbaaGreat
namespace Dir
theorem upd_same {α : Type} (f : Nat → α) (i : Nat) (x : α) : upd f i x i = x := by simp [upd]
theorem upd_ne {α : Type} (f : Nat → α) {i j : Nat} (x : α) (h : j ≠ i) : upd f i x j = f j := by simp [upd, h]
theorem sh_lt {lv l0 i : Nat} (hi : i < 2 ^ lv) (h : lv < l0) : 2 ^ lv + i < 2 ^ l0 := by
  have : 2 ^ (lv + 1) ≤ 2 ^ l0 := Nat.pow_le_pow_right (by omega) h
  rw [Nat.pow_succ] at this; omega
theorem sh_inj {lv l0 i i0 : Nat} (hi : i < 2 ^ lv) (hi0 : i0 < 2 ^ l0) (h : 2 ^ lv + i = 2 ^ l0 + i0) : lv = l0 ∧ i = i0 := by
  rcases Nat.lt_trichotomy lv l0 with h1 | h1 | h1
  · have := sh_lt hi h1; omega
  · subst h1; omega
  · have := sh_lt hi0 h1; omega
theorem pow_pos2 (n : Nat) : 0 < 2 ^ n := Nat.pow_pos (by omega)
theorem sh_32 {lv i : Nat} (hl : lv ≤ 4) (hi : i < 2 ^ lv) : 1 ≤ 2 ^ lv + i ∧ 2 ^ lv + i < 32 := by
  have h1 := sh_lt (l0 := 5) hi (by omega)
  have := pow_pos2 lv
  omega
theorem plc_sh (lv : Nat) (s : Int) : ∃ i, i < 2 ^ lv ∧ plc lv s = 2 ^ lv + i := by
  refine ⟨(s % 2 ^ lv).toNat, ?_, rfl⟩
  have hp : (0 : Int) < 2 ^ lv := by exact_mod_cast pow_pos2 lv
  have h1 := Int.emod_nonneg s (by omega : (2 ^ lv : Int) ≠ 0)
  have h2 := Int.emod_lt_of_pos s hp
  have e : ((2 ^ lv : Nat) : Int) = 2 ^ lv := by norm_cast
  omega
theorem plc_low (lv : Nat) (s : Int) : 2 ^ lv + (plc (lv + 1) s - 2 ^ (lv + 1)) % 2 ^ lv = plc lv s := by
  unfold plc
  congr 1
  rw [Nat.add_sub_cancel_left]
  have hp : (0 : Int) < 2 ^ lv := by exact_mod_cast pow_pos2 lv
  have e : ((2 ^ lv : Nat) : Int) = 2 ^ lv := by norm_cast
  have e2 : (2 ^ (lv + 1) : Int) = 2 ^ lv * 2 := by rw [Int.pow_succ]
  have h1 := Int.emod_nonneg s (by omega : (2 ^ lv : Int) ≠ 0)
  have h2 := Int.emod_nonneg s (by omega : (2 ^ (lv + 1) : Int) ≠ 0)
  have h3 : (s % 2 ^ (lv + 1)) % 2 ^ lv = s % 2 ^ lv := Int.emod_emod_of_dvd s ⟨2, e2⟩
  have h4 : (((s % 2 ^ (lv + 1)).toNat % 2 ^ lv : Nat) : Int) = s % 2 ^ lv := by
    rw [Int.natCast_emod, Int.toNat_of_nonneg h2, e, h3]
  omega
theorem okW.low {D : Int} {lv : Nat} {x low low' B B' : Int} (h : okW D lv x low B) (hl : FZ ≤ low → FZ ≤ low') (hB : B ≤ B') : okW D lv x low' B' := by
  unfold okW at h ⊢; omega
theorem Iw.sh {W : Nat → Int} {B : Int} (h : Iw W B) {lv i : Nat} (hl : lv ≤ 4) (hi : i < 2 ^ lv) : okW (W 0) lv (W (2 ^ lv + i)) (lowW W lv i) B := h.w lv i hl hi
theorem Iw.mono {W : Nat → Int} {B B' : Int} (h : Iw W B) (hB : B ≤ B') : Iw W B' := ⟨h.d, fun lv i hl hi => (h.w lv i hl hi).low (fun h => h) hB⟩
theorem Iw.set_sh {W : Nat → Int} {B B' : Int} (h : Iw W B) {l0 i0 : Nat} {x : Int} (hl0 : l0 ≤ 4) (hi0 : i0 < 2 ^ l0) (hB : B ≤ B') (hx : okW (W 0) l0 x (lowW W l0 i0) B') (hfz : FZ ≤ W (2 ^ l0 + i0) → FZ ≤ x) : Iw (upd W (2 ^ l0 + i0) x) B' := by
  have h00 := sh_32 hl0 hi0
  have e0 : upd W (2 ^ l0 + i0) x 0 = W 0 := upd_ne _ _ (by omega)
  have hlow : ∀ j, FZ ≤ W j → FZ ≤ upd W (2 ^ l0 + i0) x j := fun j hj => by
    unfold upd
    by_cases e : j = 2 ^ l0 + i0
    · rw [if_pos e]; subst e; exact hfz hj
    · rw [if_neg e]; exact hj
  refine ⟨by rw [e0]; exact h.d, fun lv i hl hi => ?_⟩
  rw [e0]
  by_cases e : 2 ^ lv + i = 2 ^ l0 + i0
  · obtain ⟨rfl, rfl⟩ := sh_inj hi hi0 e
    rw [upd_same]
    exact hx.low (hlow _) (Int.le_refl _)
  · rw [upd_ne _ _ e]
    exact (h.w lv i hl hi).low (hlow _) hB
theorem Iw.set_d {W : Nat → Int} {B d : Int} (h : Iw W B) (hd : 0 ≤ d ∧ d ≤ 8) (hw : ∀ lv i, lv ≤ 4 → i < 2 ^ lv → okW (W 0) lv (W (2 ^ lv + i)) (lowW W lv i) B → okW d lv (W (2 ^ lv + i)) (lowW W lv i) B) : Iw (upd W 0 d) B := by
  refine ⟨by rw [upd_same]; exact hd, fun lv i hl hi => ?_⟩
  have h1 := sh_32 hl hi
  have h2 : upd W 0 d (2 ^ lv + i) = W (2 ^ lv + i) := upd_ne _ _ (by omega)
  have h3 : lowW (upd W 0 d) lv i = lowW W lv i := upd_ne _ _ (by have := pow_pos2 (lv - 1); omega)
  rw [h2, h3, upd_same]
  exact hw lv i hl hi (h.w lv i hl hi)
theorem Iw.begin {W : Nat → Int} {B : Int} (h : Iw W B) {k : Nat} (hk : k ≤ 3) (e : W 0 = 2 * k) : Iw (upd W 0 (2 * k + 1)) B := by
  refine h.set_d (by omega) fun lv i hl hi ho => ?_
  unfold okW at ho ⊢; omega
theorem Iw.fin {W : Nat → Int} {B : Int} (h : Iw W B) {k : Nat} (hk : k ≤ 3) (e : W 0 = 2 * k + 1) (hg : Cw.gone W k (2 ^ k)) : Iw (upd W 0 (2 * k + 2)) B := by
  refine h.set_d (by omega) fun lv i hl hi ho => ?_
  by_cases e1 : lv = k
  · subst e1
    have := (hg i hi).1
    unfold okW at ho ⊢; omega
  · by_cases e2 : lv = k + 1
    · subst e2
      have hne : W (2 ^ (k + 1) + i) ≠ 0 := by
        by_cases hlt : i < 2 ^ k
        · exact (hg i hlt).2.1
        · have hj : i - 2 ^ k < 2 ^ k := by rw [Nat.pow_succ] at hi; omega
          have := (hg _ hj).2.2
          rwa [Nat.sub_add_cancel (by omega)] at this
      unfold okW at ho ⊢; omega
    · unfold okW at ho ⊢; omega
structure Gr (W W' : Nat → Int) : Prop where
  d : W 0 ≤ W' 0
  fz : ∀ w, FZ ≤ W w → FZ ≤ W' w
  ne : ∀ w, W w ≠ 0 → W' w ≠ 0
theorem Gr.refl (W : Nat → Int) : Gr W W := ⟨Int.le_refl _, fun _ h => h, fun _ h => h⟩
theorem Gr.gone {W W' : Nat → Int} (h : Gr W W') {lv i : Nat} (hg : Cw.gone W lv i) : Cw.gone W' lv i := fun j hj => let ⟨a, b, c⟩ := hg j hj; ⟨h.fz _ a, h.ne _ b, h.ne _ c⟩
theorem Gr.cw {P : Ops} {W W' : Nat → Int} (h : Gr W W') {s : CS} (hs : Cw P W s) : Cw P W' s := by
  have hd := h.d
  cases s with
  | none => trivial
  | k0 c => trivial
  | kE c w => exact hs
  | kF c lv w => obtain ⟨a, b, d⟩ := hs; exact ⟨a, b, by omega⟩
  | kG c lv w v m => obtain ⟨a, b, d, e⟩ := hs; exact ⟨a, b, by omega, e⟩
  | kH c lv w m => obtain ⟨a, b, d, e, f⟩ := hs; exact ⟨a, b, d, by omega, h.fz _ f⟩
  | kL c lv w m => obtain ⟨a, b, d, e, f⟩ := hs; exact ⟨a, b, d, by omega, h.fz _ f⟩
  | kS c w v m n => exact hs
  | s0 => trivial
  | sM lv => exact hs
  | sF lv i => obtain ⟨a, b, d, e⟩ := hs; exact ⟨a, b, by omega, h.gone e⟩
  | sG lv i v m => obtain ⟨a, b, d, e, f⟩ := hs; exact ⟨a, b, by omega, h.gone e, f⟩
  | sH lv i up m => obtain ⟨a, b, d, e, f, g⟩ := hs; exact ⟨a, b, by omega, h.gone e, h.fz _ f, fun hu => h.ne _ (g hu)⟩
  | sL lv i up m => obtain ⟨a, b, d, e, f, g⟩ := hs; exact ⟨a, b, by omega, h.gone e, h.fz _ f, fun hu => h.ne _ (g hu)⟩
  | sV lv => obtain ⟨a, b, d⟩ := hs; exact ⟨a, by omega, h.gone d⟩
theorem Gr.set {W : Nat → Int} {w : Nat} {x : Int} (hd : w = 0 → W 0 ≤ x) (hf : FZ ≤ W w → FZ ≤ x) (hn : W w ≠ 0 → x ≠ 0) : Gr W (upd W w x) := by
  refine ⟨?_, fun j hj => ?_, fun j hj => ?_⟩
  · unfold upd
    by_cases e : 0 = w
    · rw [if_pos e]; exact hd e.symm
    · rw [if_neg e]; exact Int.le_refl _
  · unfold upd
    by_cases e : j = w
    · rw [if_pos e]; subst e; exact hf hj
    · rw [if_neg e]; exact hj
  · unfold upd
    by_cases e : j = w
    · rw [if_pos e]; subst e; exact hn hj
    · rw [if_neg e]; exact hj
inductive Chg (W W' : Nat → Int) (s' : CS) (r : Res) : Prop
  | no (h : W' = W)
  | d (h1 : W' = upd W 0 (W 0 + 1)) (h2 : W 0 < 8)
  | fz (w : Nat) (h0 : 1 ≤ w ∧ w < 16) (h1 : 0 < W w ∧ W w < FZ) (h2 : W' = upd W w (W w + FZ))
  | lay (w : Nat) (h0 : 1 ≤ w ∧ w < 32) (h1 : W w = 0) (h2 : W' = upd W w 1)
  | key (w : Nat) (h0 : 1 ≤ w ∧ w < 32) (h1 : 0 < W w ∧ W w < FZ) (h2 : W' = upd W w (W w + 1)) (h3 : s' = .none) (h4 : r.done = true)
theorem sh_16 {lv i : Nat} (hl : lv ≤ 3) (hi : i < 2 ^ lv) : 1 ≤ 2 ^ lv + i ∧ 2 ^ lv + i < 16 := by
  have h1 := sh_lt (l0 := 4) hi (by omega)
  have := pow_pos2 lv
  omega
theorem word_sh {w : Nat} (h : 1 ≤ w ∧ w < 32) : ∃ lv i, lv ≤ 4 ∧ i < 2 ^ lv ∧ w = 2 ^ lv + i := by
  by_cases h1 : w < 2
  · exact ⟨0, w - 1, by omega, by omega, by omega⟩
  by_cases h2 : w < 4
  · exact ⟨1, w - 2, by omega, by omega, by omega⟩
  by_cases h3 : w < 8
  · exact ⟨2, w - 4, by omega, by omega, by omega⟩
  by_cases h4 : w < 16
  · exact ⟨3, w - 8, by omega, by omega, by omega⟩
  · exact ⟨4, w - 16, by omega, by omega, by omega⟩
theorem freeze_ok {W : Nat → Int} {B : Int} (h : Iw W B) {lv i : Nat} (hl : lv ≤ 3) (hi : i < 2 ^ lv) (hd : 2 * (lv : Int) + 1 ≤ W 0) {v : Int} (hv : v < FZ) (e : W (2 ^ lv + i) = v) :
    (0 < v) ∧ W 0 = 2 * lv + 1 ∧ Iw (upd W (2 ^ lv + i) (v + FZ)) B := by
  have ho := h.sh (by omega : lv ≤ 4) hi
  rw [e] at ho
  have h1 : 0 < v ∧ W 0 = 2 * lv + 1 := by unfold okW at ho; omega
  refine ⟨h1.1, h1.2, h.set_sh (by omega) hi (Int.le_refl _) ?_ (by rw [e]; omega)⟩
  unfold okW at ho ⊢; omega
theorem lay_ok {W : Nat → Int} {B : Int} (h : Iw W B) (hB : 1 ≤ B) {lv i : Nat} (h1 : 1 ≤ lv) (hl : lv ≤ 4) (hi : i < 2 ^ lv) (hd : 2 * (lv : Int) - 1 ≤ W 0) (hlow : FZ ≤ lowW W lv i) (e : W (2 ^ lv + i) = 0) :
    Iw (upd W (2 ^ lv + i) 1) B := by
  have ho := h.sh hl hi
  rw [e] at ho
  have hF : FZ = 4611686018427387904 := rfl
  refine h.set_sh hl hi (Int.le_refl _) ?_ (by rw [e]; omega)
  unfold okW at ho ⊢; omega
theorem live_ok {W : Nat → Int} {B : Int} (h : Iw W B) {w : Nat} (hw : 1 ≤ w ∧ w < 32) (hB : B + 1 < FZ) (hv : 0 < W w ∧ W w < FZ) : Iw (upd W w (W w + 1)) (B + 1) := by
  obtain ⟨lv, i, hl, hi, rfl⟩ := word_sh hw
  have ho := h.sh hl hi
  refine h.set_sh hl hi (by omega) ?_ (by omega)
  unfold okW at ho ⊢; omega
end Dir
end Go.Proofs.YtbdclkjelhlfbaaGreat

namespace Go.Proofs.YtbdclkjelhlfbaaGreat
namespace Dir
structure Stepped (P : Ops) (W : Nat → Int) (B : Int) (M' : Mc) (s' : CS) (r : Res) : Prop where
  iw : Iw M'.W (B + 1)
  cw : Cw P M'.W s'
  gr : Gr W M'.W
  chg : Chg W M'.W s' r
theorem Stepped.same {P : Ops} {M : Mc} {B : Int} {s' : CS} {r : Res} (h : Iw M.W B) (hc : Cw P M.W s') : Stepped P M.W B M s' r := ⟨h.mono (by omega), hc, .refl _, .no rfl⟩
theorem entered_cw {P : Ops} {W : Nat → Int} {c : Kc} {w : Nat} {v : Int} {h : List Ent} (hw : 1 ≤ w ∧ w < 32) (hv : 0 ≤ v) : Cw P W (entered P c w v h).1 := by
  unfold entered
  split
  · trivial
  · unfold found
    split
    · trivial
    · exact ⟨hw.1, hw.2, by omega, by omega⟩
theorem move_cw {P : Ops} {W : Nat → Int} {lv i : Nat} (hl : lv ≤ 3) (hi : i < 2 ^ lv) (hd : 2 * (lv : Int) + 1 ≤ W 0) (hg : Cw.gone W lv (i + 1)) : Cw P W (move lv (i + 1)) := by
  unfold move
  split
  · rename_i e; rw [e] at hg; exact ⟨hl, hd, hg⟩
  · exact ⟨hl, by omega, hd, hg⟩
theorem gone_succ {W : Nat → Int} {lv i : Nat} (h : Cw.gone W lv i) (h1 : FZ ≤ W (2 ^ lv + i)) (h2 : W (2 ^ (lv + 1) + i) ≠ 0) (h3 : W (2 ^ (lv + 1) + (i + 2 ^ lv)) ≠ 0) : Cw.gone W lv (i + 1) := fun j hj => by
  by_cases e : j = i
  · subst e; exact ⟨h1, h2, h3⟩
  · exact h j (by omega)
theorem upW_sh {lv i : Nat} {up : Bool} (hi : i < 2 ^ lv) : ∃ j, j < 2 ^ (lv + 1) ∧ upW lv i up = 2 ^ (lv + 1) + j ∧ j % 2 ^ lv = i := by
  have hp := Nat.pow_succ 2 lv
  unfold upW
  cases up with
  | true => exact ⟨i + 2 ^ lv, by omega, rfl, by rw [Nat.add_mod_right, Nat.mod_eq_of_lt hi]⟩
  | false => exact ⟨i, by omega, rfl, Nat.mod_eq_of_lt hi⟩
theorem on_cw {P : Ops} {W : Nat → Int} {lv i : Nat} {up : Bool} {h : List Ent} (hl : lv ≤ 3) (hi : i < 2 ^ lv) (hd : 2 * (lv : Int) + 1 ≤ W 0) (hg : Cw.gone W lv i) (hf : FZ ≤ W (2 ^ lv + i))
    (hu : up = true → W (2 ^ (lv + 1) + i) ≠ 0) (hn : W (upW lv i up) ≠ 0) : Cw P W (on lv i up h) := by
  unfold on
  cases up with
  | true =>
    refine move_cw hl hi hd (gone_succ hg hf (hu rfl) ?_)
    simpa [upW] using hn
  | false => exact ⟨hl, hi, hd, hg, hf, fun _ => by simpa [upW] using hn⟩
theorem step_ok {P : Ops} (hP : ∀ c h r, P.fnd c h = .inl r → r.done = true) {M : Mc} {B : Int} (h : Iw M.W B) (hB : 1 ≤ B ∧ B + 1 < FZ) {s : CS} (hs : Cw P M.W s) :
    Stepped P M.W B (step P M s).1 (step P M s).2.1 (step P M s).2.2 := by
  have hF : FZ = 4611686018427387904 := rfl
  have hd := h.d
  cases s with
  | none => exact .same h trivial
  | k0 c =>
    have hk : (M.W 0 / 2).toNat ≤ 4 := by omega
    obtain ⟨i, h1, h2⟩ := plc_sh (M.W 0 / 2).toNat (P.sum c.key)
    have := sh_32 hk h1
    refine .same h ?_
    show Cw P M.W (if _ then _ else _)
    split
    · rw [h2]; exact this
    · exact ⟨by omega, rfl, by omega⟩
  | kE c w =>
    obtain ⟨lv, i, hl, hi, rfl⟩ := word_sh hs
    have := h.sh hl hi
    exact .same h (entered_cw hs (by unfold okW at this; omega))
  | kF c lv w =>
    obtain ⟨a, b, d⟩ := hs
    refine .same h ?_
    show Cw P M.W (if _ then _ else _)
    split
    · exact ⟨by omega, by omega, rfl, by omega, by rw [Nat.add_sub_cancel, ← b]; assumption⟩
    · exact ⟨a, b, d, by omega⟩
  | kG c lv w v m =>
    obtain ⟨a, b, d, e⟩ := hs
    obtain ⟨i, h1, h2⟩ := plc_sh lv (P.sum c.key)
    show Stepped P M.W B (if _ then _ else _ : Mc × CS × Res).1 _ _
    by_cases hm : M.W w = v
    · have hb := b
      rw [h2] at hb
      subst hb
      obtain ⟨g1, g2, g3⟩ := freeze_ok h a h1 d e hm
      have g4 : Gr M.W (upd M.W (2 ^ lv + i) (v + FZ)) := .set (fun e0 => by have := sh_16 a h1; omega) (fun _ => by omega) (fun _ => by omega)
      simp only [step, if_pos hm]
      have hd2 := g4.d
      refine ⟨g3.mono (by omega), ⟨by omega, by omega, rfl, ?_, ?_⟩, g4, .fz _ (sh_16 a h1) (by omega) (by rw [hm]; rfl)⟩
      · show _ ≤ upd M.W _ _ 0; omega
      · rw [Nat.add_sub_cancel, h2]; show FZ ≤ upd M.W _ _ _; rw [upd_same]; omega
    · simp only [step, if_neg hm]
      exact .same h ⟨a, b, d⟩
  | kH c lv w m =>
    obtain ⟨a, b, d, e, f⟩ := hs
    obtain ⟨i, h1, h2⟩ := plc_sh lv (P.sum c.key)
    have hw := sh_32 b h1
    rw [← h2, ← d] at hw
    have ho := h.sh b h1
    rw [← h2, ← d] at ho
    show Stepped P M.W B (if _ then _ else _ : Mc × CS × Res).1 _ _
    by_cases hm : M.W w = 0
    · simp only [step, if_pos hm]; exact .same h ⟨a, b, d, e, f⟩
    · simp only [step, if_neg hm]; exact .same h (entered_cw hw (by unfold okW at ho; omega))
  | kL c lv w m =>
    obtain ⟨a, b, d, e, f⟩ := hs
    obtain ⟨i, h1, h2⟩ := plc_sh lv (P.sum c.key)
    have hw := sh_32 b h1
    have hlow : FZ ≤ lowW M.W lv i := by
      have h3 := plc_low (lv - 1) (P.sum c.key)
      rw [Nat.sub_add_cancel a, h2, Nat.add_sub_cancel_left] at h3
      unfold lowW; rw [h3]; exact f
    rw [h2] at d
    subst d
    by_cases hm : M.W (2 ^ lv + i) = 0
    · simp only [step, if_pos hm]
      refine ⟨(lay_ok h hB.1 a b h1 e hlow hm).mono (by omega), hw, .set (fun e0 => by omega) (fun _ => by omega) (fun _ => by omega), .lay _ hw hm rfl⟩
    · simp only [step, if_neg hm]; exact .same h hw
  | kS c w v m n =>
    obtain ⟨a, b, d, e⟩ := hs
    by_cases hm : M.W w = v
    · simp only [step, if_pos hm]
      subst hm
      exact ⟨live_ok h ⟨a, b⟩ hB.2 ⟨d, e⟩, trivial, .set (fun e0 => by omega) (fun _ => by omega) (fun _ => by omega), .key _ ⟨a, b⟩ ⟨d, e⟩ rfl rfl rfl⟩
    · simp only [step, if_neg hm]; exact .same h trivial
  | s0 =>
    show Stepped P M.W B (if _ then _ else _ : Mc × CS × Res).1 _ _
    by_cases h1 : M.W 0 % 2 = 1
    · simp only [step, if_pos h1]
      exact .same h ⟨by omega, pow_pos2 _, by omega, fun j hj => by omega⟩
    · by_cases h2 : M.W 0 / 2 = 4
      · simp only [step, if_neg h1, if_pos h2]; exact .same h trivial
      · simp only [step, if_neg h1, if_neg h2]
        refine .same h ?_
        show _ ≤ _
        omega
  | sM lv =>
    by_cases hm : M.W 0 = 2 * lv
    · simp only [step, if_pos hm]
      have hl : lv ≤ 3 := hs
      have g := h.begin hl hm
      have h2 : (M.set 0 (2 * lv + 1) []).W 0 = 2 * lv + 1 := by simp [Mc.set, upd]
      refine ⟨g.mono (by omega), ⟨hl, pow_pos2 _, by omega, fun j hj => by omega⟩, .set (fun _ => by omega) (fun _ => by omega) (fun _ => by omega), .d ?_ (by omega)⟩
      rw [hm]; rfl
    · simp only [step, if_neg hm]; exact .same h trivial
  | sF lv i =>
    obtain ⟨a, b, d, e⟩ := hs
    refine .same h ?_
    show Cw P M.W (if _ then _ else _)
    split
    · exact ⟨a, b, d, e, by assumption, fun hf => by simp at hf⟩
    · exact ⟨a, b, d, e, by omega⟩
  | sG lv i v m =>
    obtain ⟨a, b, d, e, f⟩ := hs
    by_cases hm : M.W (2 ^ lv + i) = v
    · obtain ⟨g1, g2, g3⟩ := freeze_ok h a b d f hm
      have g4 : Gr M.W (upd M.W (2 ^ lv + i) (v + FZ)) := .set (fun e0 => by have := sh_16 a b; omega) (fun _ => by omega) (fun _ => by omega)
      simp only [step, if_pos hm]
      have hd2 := g4.d
      exact ⟨g3.mono (by omega), ⟨a, b, by show _ ≤ upd M.W _ _ 0; omega, g4.gone e, by show FZ ≤ upd M.W _ _ _; rw [upd_same]; omega, fun hf => by simp at hf⟩, g4, .fz _ (sh_16 a b) (by omega) (by rw [hm]; rfl)⟩
    · simp only [step, if_neg hm]; exact .same h ⟨a, b, d, e⟩
  | sH lv i up m =>
    obtain ⟨a, b, d, e, f, g⟩ := hs
    refine .same h ?_
    show Cw P M.W (if _ then _ else _)
    split
    · exact ⟨a, b, d, e, f, g⟩
    · exact on_cw a b d e f g (by assumption)
  | sL lv i up m =>
    obtain ⟨a, b, d, e, f, g⟩ := hs
    obtain ⟨j, h1, h2, h3⟩ := upW_sh (up := up) b
    have hw := sh_32 (by omega : lv + 1 ≤ 4) h1
    by_cases hm : M.W (upW lv i up) = 0
    · simp only [step, if_pos hm]
      have hlow : FZ ≤ lowW M.W (lv + 1) j := by unfold lowW; rw [Nat.add_sub_cancel, h3]; exact f
      have g4 : Gr M.W (upd M.W (upW lv i up) 1) := .set (fun e0 => by omega) (fun _ => by omega) (fun _ => by omega)
      have hd2 := g4.d
      refine ⟨?_, on_cw a b (by show _ ≤ upd M.W _ _ 0; omega) (g4.gone e) (g4.fz _ f) (fun hu => g4.ne _ (g hu)) (by show upd M.W _ _ _ ≠ 0; rw [upd_same]; omega), g4, .lay _ (by omega) hm rfl⟩
      have := lay_ok h hB.1 (by omega : 1 ≤ lv + 1) (by omega) h1 (by omega) hlow (by rw [← h2]; exact hm)
      rw [← h2] at this
      exact this.mono (by omega)
    · simp only [step, if_neg hm]; exact .same h (on_cw a b d e f g hm)
  | sV lv =>
    obtain ⟨a, b, d⟩ := hs
    by_cases hm : M.W 0 = 2 * lv + 1
    · simp only [step, if_pos hm]
      refine ⟨(h.fin a hm d).mono (by omega), trivial, .set (fun _ => by omega) (fun _ => by omega) (fun _ => by omega), .d ?_ (by omega)⟩
      rw [hm]; show upd M.W 0 _ = upd M.W 0 _; congr 1
    · simp only [step, if_neg hm]; exact .same h trivial
end Dir
end Go.Proofs.YtbdclkjelhlfbaaGreat

namespace Go.Proofs.YtbdclkjelhlfbaaGreat
namespace Dir
def sumN (n : Nat) (f : Nat → Nat) : Nat :=
  match n with
  | 0 => 0
  | n + 1 => sumN n f + f n
theorem sumN_le {f g : Nat → Nat} {c : Nat} : ∀ {n : Nat}, (∀ j, j < n → g j ≤ f j + c) → sumN n g ≤ sumN n f + n * c
  | 0, _ => by simp [sumN]
  | n + 1, h => by
    have h1 := sumN_le (n := n) fun j hj => h j (by omega)
    have h2 := h n (by omega)
    simp only [sumN, Nat.add_mul, Nat.one_mul]; omega
theorem sumN_one {f g : Nat → Nat} {i c : Nat} : ∀ {n : Nat}, i < n → (∀ j, j < n → j ≠ i → g j ≤ f j + c) → sumN n g + f i ≤ sumN n f + g i + n * c
  | 0, h, _ => by omega
  | n + 1, h, hh => by
    simp only [sumN, Nat.add_mul, Nat.one_mul]
    by_cases e : i = n
    · subst e
      have h1 := sumN_le (f := f) (g := g) (c := c) (n := i) fun j hj => hh j (by omega) (by omega)
      omega
    · have h1 := sumN_one (n := n) (by omega : i < n) fun j hj hne => hh j (by omega) hne
      have h2 := hh n (by omega) (fun e' => e e'.symm)
      omega
def remW (x : Int) (w : Nat) : Nat := if w = 0 then (8 - x).toNat else if w < 16 then (if x = 0 then 2 else if x < FZ then 1 else 0) else if x = 0 then 1 else 0
def rem (W : Nat → Int) : Nat := sumN 32 fun w => remW (W w) w
def TH (x : Int) : Nat := if x = 0 then 4 else if x < FZ then 2 else 8
def TF (x y : Int) : Nat := TH y + if x < FZ then 2 else 1
def TE (x : Int) : Nat := if x ≠ 0 ∧ x < FZ then 2 else 8
def U (lv i : Nat) : Nat := 6 * (2 ^ lv - i) + 1
def T (P : Ops) (W : Nat → Int) : CS → Nat
  | .none => 53
  | .k0 _ => if W 0 % 2 = 0 then 3 else 7
  | .kE _ w => TE (W w)
  | .kF c lv w => TF (W w) (W (plc (lv + 1) (P.sum c.key)))
  | .kG c lv w v _ => if W w = v then 1 + TH (W (plc (lv + 1) (P.sum c.key))) else 1 + TF (W w) (W (plc (lv + 1) (P.sum c.key)))
  | .kH _ _ w _ => TH (W w)
  | .kL _ _ w _ => 1 + if W w = 0 then 2 else TE (W w)
  | .kS _ w v _ _ => if W w = v then 1 else 8
  | .s0 => 52
  | .sM lv => if W 0 = 2 * lv then 51 else 53
  | .sF lv i => U lv i
  | .sG lv i v _ => if W (2 ^ lv + i) = v then U lv i - 1 else U lv i + 1
  | .sH lv i up _ => U lv i - (if up then 4 else 2)
  | .sL lv i up _ => U lv i - (if up then 5 else 3)
  | .sV _ => 1
theorem U_le {lv i : Nat} (h : lv ≤ 3) : U lv i ≤ 49 := by
  have : 2 ^ lv ≤ 2 ^ 3 := Nat.pow_le_pow_right (by omega) h
  unfold U; omega
theorem U_succ {lv i : Nat} (hi : i < 2 ^ lv) : U lv i = U lv (i + 1) + 6 ∧ 1 ≤ U lv (i + 1) := by unfold U; omega
theorem T_le {P : Ops} {W : Nat → Int} {s : CS} (hs : Cw P W s) : T P W s ≤ 53 := by
  have hTH : ∀ x, TH x ≤ 8 := fun x => by unfold TH; split <;> (try split) <;> omega
  have hTE : ∀ x, TE x ≤ 8 := fun x => by unfold TE; split <;> omega
  have hTF : ∀ x y, TF x y ≤ 10 := fun x y => by have := hTH y; unfold TF; split <;> omega
  cases s with
  | none => simp [T]
  | k0 c => simp only [T]; split <;> omega
  | kE c w => have := hTE (W w); simp only [T]; omega
  | kF c lv w => have := hTF (W w) (W (plc (lv + 1) (P.sum c.key))); simp only [T]; omega
  | kG c lv w v m => have := hTF (W w) (W (plc (lv + 1) (P.sum c.key))); have := hTH (W (plc (lv + 1) (P.sum c.key))); simp only [T]; split <;> omega
  | kH c lv w m => have := hTH (W w); simp only [T]; omega
  | kL c lv w m => have := hTE (W w); simp only [T]; split <;> omega
  | kS c w v m n => simp only [T]; split <;> omega
  | s0 => simp [T]
  | sM lv => simp only [T]; split <;> omega
  | sF lv i => have := U_le (i := i) hs.1; simp only [T]; omega
  | sG lv i v m => have := U_le (i := i) hs.1; simp only [T]; split <;> omega
  | sH lv i up m => have := U_le (i := i) hs.1; simp only [T]; split <;> omega
  | sL lv i up m => have := U_le (i := i) hs.1; simp only [T]; split <;> omega
  | sV lv => simp [T]
theorem Chg.rem {W W' : Nat → Int} {s' : CS} {r : Res} (h : Chg W W' s' r) (hr : r.done = false) : W' = W ∨ Dir.rem W' + 1 ≤ Dir.rem W := by
  have key : ∀ w x, w < 32 → remW x w + 1 ≤ remW (W w) w → Dir.rem (upd W w x) + 1 ≤ Dir.rem W := fun w x hw hx => by
    have h1 := sumN_one (f := fun w => remW (W w) w) (g := fun j => remW (upd W w x j) j) (i := w) (c := 0) (n := 32) hw fun j hj hne => by rw [upd_ne _ _ hne]; omega
    simp only [upd_same] at h1
    unfold Dir.rem; omega
  have hF : FZ = 4611686018427387904 := rfl
  cases h with
  | no h => exact .inl h
  | d h1 h2 => subst h1; exact .inr (key 0 _ (by omega) (by simp only [remW, if_pos]; omega))
  | fz w h0 h1 h2 =>
    subst h2; refine .inr (key w _ (by omega) ?_)
    have e1 : remW (W w) w = 1 := by unfold remW; rw [if_neg (by omega), if_pos h0.2, if_neg (by omega), if_pos h1.2]
    have e2 : remW (W w + FZ) w = 0 := by unfold remW; rw [if_neg (by omega), if_pos h0.2, if_neg (by omega), if_neg (by omega)]
    omega
  | lay w h0 h1 h2 =>
    subst h2; refine .inr (key w _ (by omega) ?_)
    rw [h1]
    by_cases e : w < 16
    · have e1 : remW 0 w = 2 := by unfold remW; rw [if_neg (by omega), if_pos e, if_pos rfl]
      have e2 : remW 1 w = 1 := by unfold remW; rw [if_neg (by omega), if_pos e, if_neg (by omega), if_pos (by omega)]
      omega
    · have e1 : remW 0 w = 1 := by unfold remW; rw [if_neg (by omega), if_neg e, if_pos rfl]
      have e2 : remW 1 w = 0 := by unfold remW; rw [if_neg (by omega), if_neg e, if_neg (by omega)]
      omega
  | key w h0 h1 h2 h3 h4 => rw [h4] at hr; exact absurd hr (by decide)
end Dir
end Go.Proofs.YtbdclkjelhlfbaaGreat

namespace Go.Proofs.YtbdclkjelhlfbaaGreat
namespace Dir
theorem entered_T {P : Ops} {W : Nat → Int} {c : Kc} {w : Nat} {h : List Ent} (h0 : 0 ≤ W w) (hr : (entered P c w (W w) h).2.done = false) (hP : ∀ c h r, P.fnd c h = .inl r → r.done = true) : T P W (entered P c w (W w) h).1 + 1 ≤ TE (W w) := by
  unfold entered at hr ⊢
  unfold TE
  by_cases e : W w = 0 ∨ FZ ≤ W w
  · rw [if_pos e, if_neg (by omega)]
    simp only [T]; split <;> omega
  · rw [if_neg e] at hr ⊢
    rw [if_pos (by omega)]
    unfold found at hr ⊢
    split at hr
    · rename_i r hf
      rw [hP _ _ _ hf] at hr; exact absurd hr (by decide)
    · rename_i m n hf
      simp [T]
theorem T_on {P : Ops} {W : Nat → Int} {lv i : Nat} {up : Bool} {h : List Ent} (hi : i < 2 ^ lv) : T P W (on lv i up h) + 1 ≤ U lv i - (if up then 5 else 3) := by
  obtain ⟨g1, g2⟩ := U_succ hi
  cases up
  · simp [on, T]; omega
  · simp only [on, move, if_true]
    by_cases e : i + 1 = 2 ^ lv
    · rw [if_pos e]; simp only [T]; omega
    · rw [if_neg e]; simp only [T]; omega
theorem step_T {P : Ops} (hP : ∀ c h r, P.fnd c h = .inl r → r.done = true) {M : Mc} {B : Int} (h : Iw M.W B) {s : CS} (hn : s ≠ .none) (hs : Cw P M.W s) (hr : (step P M s).2.2.done = false) :
    T P (step P M s).1.W (step P M s).2.1 + 1 ≤ T P M.W s := by
  have hF : FZ = 4611686018427387904 := rfl
  have hd := h.d
  cases s with
  | none => exact absurd rfl hn
  | k0 c =>
    have hk : (M.W 0 / 2).toNat ≤ 4 := by omega
    obtain ⟨i, h1, h2⟩ := plc_sh (M.W 0 / 2).toNat (P.sum c.key)
    have ho := h.sh hk h1
    rw [← h2] at ho
    by_cases e : M.W 0 % 2 = 0
    · simp only [step, if_pos e, T]
      have hx : 0 < M.W (plc (M.W 0 / 2).toNat (P.sum c.key)) ∧ M.W (plc (M.W 0 / 2).toNat (P.sum c.key)) < FZ := by unfold okW at ho; omega
      have : TE (M.W (plc (M.W 0 / 2).toNat (P.sum c.key))) = 2 := by unfold TE; rw [if_pos (by omega)]
      omega
    · simp only [step, if_neg e, T]
      obtain ⟨j, g1, g2⟩ := plc_sh ((M.W 0 / 2).toNat + 1) (P.sum c.key)
      have ho2 := h.sh (by omega : (M.W 0 / 2).toNat + 1 ≤ 4) g1
      rw [← g2] at ho2
      have hlow : lowW M.W ((M.W 0 / 2).toNat + 1) j = M.W (plc (M.W 0 / 2).toNat (P.sum c.key)) := by
        have h3 := plc_low (M.W 0 / 2).toNat (P.sum c.key)
        rw [g2, Nat.add_sub_cancel_left] at h3
        unfold lowW; rw [Nat.add_sub_cancel, h3]
      rw [hlow] at ho2
      have hx : (M.W (plc ((M.W 0 / 2).toNat + 1) (P.sum c.key)) = 0 ∨ (0 < M.W (plc ((M.W 0 / 2).toNat + 1) (P.sum c.key)) ∧ M.W (plc ((M.W 0 / 2).toNat + 1) (P.sum c.key)) < FZ)) := by unfold okW at ho2; omega
      have h4 : TH (M.W (plc ((M.W 0 / 2).toNat + 1) (P.sum c.key))) ≤ 4 := by unfold TH; (repeat' split) <;> omega
      unfold TF; split <;> omega
  | kE c w =>
    obtain ⟨lv, i, hl, hi, rfl⟩ := word_sh hs
    have ho := h.sh hl hi
    have h0 : 0 ≤ M.W (2 ^ lv + i) := ho.1
    exact entered_T h0 hr hP
  | kF c lv w =>
    obtain ⟨a, b, d⟩ := hs
    by_cases e : FZ ≤ M.W w
    · simp only [step, if_pos e, T, toH]
      unfold TF; rw [if_neg (by omega)]; omega
    · simp only [step, if_neg e, T, if_true]
      unfold TF; rw [if_pos (by omega)]; omega
  | kG c lv w v m =>
    obtain ⟨a, b, d, e⟩ := hs
    by_cases hm : M.W w = v
    · simp only [step, if_pos hm, T, toH]
      have hne : plc (lv + 1) (P.sum c.key) ≠ w := by
        intro e9
        obtain ⟨i, g1, g2⟩ := plc_sh lv (P.sum c.key)
        obtain ⟨j, g3, g4⟩ := plc_sh (lv + 1) (P.sum c.key)
        rw [b, g2, g4] at e9
        have := sh_inj g1 g3 e9.symm
        omega
      show TH (upd M.W w _ _) + 1 ≤ _
      rw [upd_ne _ _ hne]; omega
    · simp only [step, if_neg hm, T]; omega
  | kH c lv w m =>
    obtain ⟨a, b, d, e, f⟩ := hs
    obtain ⟨i, h1, h2⟩ := plc_sh lv (P.sum c.key)
    have ho := h.sh b h1
    rw [← h2, ← d] at ho
    by_cases hm : M.W w = 0
    · simp only [step, if_pos hm, T]
      rw [hm]; decide
    · simp only [step, if_neg hm] at hr ⊢
      have h5 := entered_T (P := P) (W := M.W) (c := c) (w := w) (h := M.Hd w) ho.1 hr hP
      have h4 : TE (M.W w) = TH (M.W w) := by unfold TE TH; (repeat' split) <;> omega
      show _ ≤ TH (M.W w)
      omega
  | kL c lv w m =>
    by_cases hm : M.W w = 0
    · simp only [step, if_pos hm, T]
      show TE (upd M.W w 1 w) + 1 ≤ _
      rw [upd_same]; decide
    · simp only [step, if_neg hm, T]; omega
  | kS c w v m n =>
    by_cases hm : M.W w = v
    · simp [step, if_pos hm] at hr
    · simp only [step, if_neg hm, T]; split <;> omega
  | s0 =>
    by_cases h1 : M.W 0 % 2 = 1
    · simp only [step, if_pos h1, T]
      have := U_le (lv := (M.W 0 / 2).toNat) (i := 0) (by omega)
      omega
    · by_cases h2 : M.W 0 / 2 = 4
      · simp [step, if_neg h1, if_pos h2] at hr
      · simp only [step, if_neg h1, if_neg h2, T]
        rw [if_pos (by omega)]; omega
  | sM lv =>
    have := U_le (i := 0) hs
    by_cases hm : M.W 0 = 2 * lv
    · simp only [step, if_pos hm, T]; omega
    · simp only [step, if_neg hm, T]; omega
  | sF lv i =>
    obtain ⟨g1, g2⟩ := U_succ hs.2.1
    by_cases e : FZ ≤ M.W (2 ^ lv + i)
    · simp only [step, if_pos e, T]; simp; omega
    · simp only [step, if_neg e, T, if_true]; omega
  | sG lv i v m =>
    obtain ⟨g1, g2⟩ := U_succ hs.2.1
    by_cases hm : M.W (2 ^ lv + i) = v
    · simp only [step, if_pos hm, T]; simp; omega
    · simp only [step, if_neg hm, T]; omega
  | sH lv i up m =>
    obtain ⟨g1, g2⟩ := U_succ hs.2.1
    by_cases hm : M.W (upW lv i up) = 0
    · simp only [step, if_pos hm, T]; cases up <;> simp <;> omega
    · simp only [step, if_neg hm]
      have := T_on (P := P) (W := M.W) (up := up) (h := m) hs.2.1
      cases up <;> simp only [T, if_true, Bool.false_eq_true, if_false] at this ⊢ <;> omega
  | sL lv i up m =>
    exact T_on hs.2.1
  | sV lv => simp [step] at hr
def left (P : Ops) (W : Nat → Int) (cs : Nat → CS) : Nat := sumN 8 (fun j => T P W (cs j)) + 56 * rem W
structure Inv (P : Ops) (M : Mc) (cs : Nat → CS) (B : Int) : Prop where
  iw : Iw M.W B
  b : 1 ≤ B
  cw : ∀ j, Cw P M.W (cs j)
theorem Inv.step {P : Ops} (hP : ∀ c h r, P.fnd c h = .inl r → r.done = true) {M : Mc} {cs : Nat → CS} {B : Int} (h : Inv P M cs B) (hB : B + 1 < FZ) (i : Nat) : Inv P (step P M (cs i)).1 (upd cs i (Dir.step P M (cs i)).2.1) (B + 1) := by
  have h1 := step_ok hP h.iw ⟨h.b, hB⟩ (h.cw i)
  refine ⟨h1.iw, by have := h.b; omega, fun j => ?_⟩
  by_cases e : j = i
  · subst e; rw [upd_same]; exact h1.cw
  · rw [upd_ne _ _ e]; exact h1.gr.cw (h.cw j)
def M0 : Mc := ⟨fun w => if w = 1 then 1 else 0, fun _ => []⟩
theorem Inv.zero (P : Ops) : Inv P M0 (fun _ => .none) 1 := by
  refine ⟨⟨by simp [M0], fun lv i hl hi => ?_⟩, by omega, fun j => trivial⟩
  have hF : FZ = 4611686018427387904 := rfl
  have h0 : M0.W 0 = 0 := rfl
  rw [h0]
  by_cases e : lv = 0
  · subst e
    obtain rfl : i = 0 := by omega
    show okW 0 0 1 _ 1
    unfold okW; omega
  · have : M0.W (2 ^ lv + i) = 0 := by
      have : 2 ^ 1 ≤ 2 ^ lv := Nat.pow_le_pow_right (by omega) (by omega)
      simp only [M0]; rw [if_neg (by omega)]
    rw [this]; unfold okW; omega
end Dir
end Go.Proofs.YtbdclkjelhlfbaaGreat

namespace Go.Proofs.YtbdclkjelhlfbaaGreat
open Go.RowKit
set_option maxRecDepth 100000
theorem and_mask (k : IntKind) (hk : k.bits = 64) (x : Int) (n : Nat) (hn : n ≤ 30) : bits .and k x (2 ^ n - 1) = x % 2 ^ n := by
  have hp : (0 : Int) < 2 ^ n := Int.pow_pos (by decide)
  have hle : (2 : Nat) ^ n ≤ 2 ^ 30 := Nat.pow_le_pow_right (by decide) hn
  have hpe : ((2 ^ n : Nat) : Int) = 2 ^ n := by simp
  have e1 : (BitVec.ofInt k.bits ((2 : Int) ^ n - 1)).toNat = 2 ^ n - 1 := by
    rw [BitVec.toNat_ofInt, hk]
    have : ((2 : Int) ^ n - 1) % ((2 ^ 64 : Nat) : Int) = 2 ^ n - 1 := Int.emod_eq_of_lt (by omega) (by omega)
    rw [this]; omega
  have e2 : ((BitVec.ofInt k.bits x &&& BitVec.ofInt k.bits ((2 : Int) ^ n - 1)).toNat : Int) = x % 2 ^ n := by
    rw [BitVec.toNat_and, e1, Nat.and_two_pow_sub_one_eq_mod, BitVec.toNat_ofInt, hk]
    have h0 : 0 ≤ x % ((2 ^ 64 : Nat) : Int) := Int.emod_nonneg _ (by decide)
    rw [Int.natCast_emod, Int.toNat_of_nonneg h0, hpe]
    refine Int.emod_emod_of_dvd x ?_
    obtain ⟨d, hd⟩ : ∃ d, 64 = n + d := ⟨64 - n, by omega⟩
    rw [hd]
    exact ⟨2 ^ d, by rw [← Int.pow_add]; norm_cast⟩
  have h1 := Int.emod_nonneg x (by omega : (2 ^ n : Int) ≠ 0)
  have h2 := Int.emod_lt_of_pos x hp
  unfold bits
  simp only
  rw [e2]
  have hw : ∀ v : Int, 0 ≤ v → v < 2 ^ 30 → k.wrap v = v := by
    intro v h3 h4
    cases k <;> first | (exact IntWalk.i64_in _ (by omega)) | (exact IntWalk.u64_in _ (by omega)) | (simp [IntKind.bits] at hk) | (unfold IntKind.wrap; simp [IntKind.bits, IntKind.signed]; omega)
  exact hw _ h1 (by omega)
theorem wrap_mod (s : Int) (n : Nat) (hn : n ≤ 30) : IntKind.i64.wrap s % 2 ^ n = s % 2 ^ n := by
  have hw : ∃ q : Int, IntKind.i64.wrap s = s + 2 ^ 64 * q := by
    have hdef := Int.emod_def s (2 ^ 64)
    show ∃ q : Int, (if (IntKind.i64.signed && decide (s % 2 ^ 64 ≥ 2 ^ 63)) = true then s % 2 ^ 64 - 2 ^ 64 else s % 2 ^ 64) = _
    split
    · exact ⟨-(s / 2 ^ 64) - 1, by rw [hdef, Int.mul_sub, Int.mul_neg]; omega⟩
    · exact ⟨-(s / 2 ^ 64), by rw [hdef, Int.mul_neg]; omega⟩
  obtain ⟨q, hq⟩ := hw
  rw [hq]
  obtain ⟨d, hd⟩ : ∃ d, 64 = n + d := ⟨64 - n, by omega⟩
  rw [hd, Int.pow_add, Int.mul_assoc, Int.add_mul_emod_self_left]
def entD (e : Dir.Ent) : List D := [slOf 1 (encI .u8) e.key, .val (.int .i64 e.val)]
theorem board_Is (n : Int) : Pure TC 47 [.i .i64 n] (.b (decide (0 ≤ n) && decide (n < 64))) := by
  refine Pure.mk' Tryz.func47 rfl rfl (Nat.le_of_ble_eq_true rfl) ?_
  (repeat' (first
    | with_reducible refine Wp.seq ?_
    | with_reducible refine Wp.block ?_
    | ((with_reducible first | refine Wp.region ?_ | refine Wp.drawL TC_mixed ?_ | refine Wp.cond ?_ | refine Wp.ret ?_ | refine Wp.skip ?_ | refine Wp.exit ?_ | refine Go.mk ?_ | apply Eff1.of); conv => whnf)
    | with_reducible exact rfl
    | ((with_reducible refine Ov.ok zO ?_); conv => whnf)
    | (with_reducible refine Ov.sh1 (by with_unfolding_all exact rfl) ?_)
    | ((with_reducible refine Ov.quo (by omega) (by omega) (by omega) (fun _ _ => ?_)); conv => whnf)
    | ((with_reducible refine And.intro (show drawOK _ _ _ _ = true by kernel_rfl) ?_); conv => whnf)
    | ((with_reducible refine And.intro zC ?_); conv => whnf)
    | ((with_reducible refine And.intro ?hb ?_); (case hb => exact bytes_bd (Nat.le_of_ble_eq_true rfl) (by omega)); (conv => whnf))
    | ((refine DApp.a rfl rfl rfl rfl rfl rfl ?hb ?_); (case hb => exact zB); (conv => whnf))
    | ((refine DApp.b rfl rfl rfl rfl rfl rfl rfl rfl ?hb ?ho ?_); (case hb => exact zB); (case ho => omega); (conv => whnf))
    | ((refine DApp.c rfl rfl rfl rfl rfl ?hb ?_); (case hb => exact zB); (conv => whnf))
    | ((refine DApp.d rfl rfl rfl rfl rfl rfl ?hb ?ho ?_); (case hb => exact zB); (case ho => omega); (conv => whnf))
    | ((with_reducible refine nil_no (by omega) ?_); (conv => whnf))
    | ((with_reducible refine nil_any ?_ (fun hn0 => ?_)) <;> (conv => whnf))
    
    | ((refine ways (fun hc => ?_) (fun hc => ?_)) <;> (try simp only [decide_eq_true_eq, decide_eq_false_iff_not, Bool.and_eq_true, Bool.or_eq_true, Bool.and_eq_false_iff, Bool.or_eq_false_iff, Bool.not_eq_true', Bool.not_eq_false', beq_iff_eq, bne_iff_ne, ne_eq, beq_eq_false_iff_ne, bne_eq_false_iff_eq, Bool.not_eq_true, Bool.not_eq_false] at hc) <;> (try (exfalso; omega)) <;> (conv => whnf))))
  all_goals exact .b (by simp; omega)
theorem mach_worker (who word words : Int) : Pure TC 175 [.i .i64 who, .i .i64 word, .i .i64 words] (.i .i64 (if (0 ≤ who ∧ who < 64) ∧ 0 ≤ word ∧ word < words then 0 else 1)) := by
  refine Pure.mk' Tryz.func175 rfl rfl (Nat.le_of_ble_eq_true rfl) ?_
  (repeat' (first
    | with_reducible refine Wp.seq ?_
    | with_reducible refine Wp.block ?_
    | ((with_reducible first | refine Wp.region ?_ | refine Wp.drawL TC_mixed ?_ | refine Wp.cond ?_ | refine Wp.ret ?_ | refine Wp.skip ?_ | refine Wp.exit ?_ | refine Go.mk ?_ | apply Eff1.of); conv => whnf)
    | with_reducible exact rfl
    | ((with_reducible refine Ov.ok zO ?_); conv => whnf)
    | (with_reducible refine Ov.sh1 (by with_unfolding_all exact rfl) ?_)
    | ((with_reducible refine Ov.quo (by omega) (by omega) (by omega) (fun _ _ => ?_)); conv => whnf)
    | ((with_reducible refine And.intro (show drawOK _ _ _ _ = true by kernel_rfl) ?_); conv => whnf)
    | ((with_reducible refine And.intro zC ?_); conv => whnf)
    | ((with_reducible refine And.intro ?hb ?_); (case hb => exact bytes_bd (Nat.le_of_ble_eq_true rfl) (by omega)); (conv => whnf))
    | ((refine DApp.a rfl rfl rfl rfl rfl rfl ?hb ?_); (case hb => exact zB); (conv => whnf))
    | ((refine DApp.b rfl rfl rfl rfl rfl rfl rfl rfl ?hb ?ho ?_); (case hb => exact zB); (case ho => omega); (conv => whnf))
    | ((refine DApp.c rfl rfl rfl rfl rfl ?hb ?_); (case hb => exact zB); (conv => whnf))
    | ((refine DApp.d rfl rfl rfl rfl rfl rfl ?hb ?ho ?_); (case hb => exact zB); (case ho => omega); (conv => whnf))
    | ((with_reducible refine nil_no (by omega) ?_); (conv => whnf))
    | ((with_reducible refine nil_any ?_ (fun hn0 => ?_)) <;> (conv => whnf))
    
    | ((refine ways (fun hc => ?_) (fun hc => ?_)) <;> (try simp only [decide_eq_true_eq, decide_eq_false_iff_not, Bool.and_eq_true, Bool.or_eq_true, Bool.and_eq_false_iff, Bool.or_eq_false_iff, Bool.not_eq_true', Bool.not_eq_false', beq_iff_eq, bne_iff_ne, ne_eq, beq_eq_false_iff_ne, bne_eq_false_iff_eq, Bool.not_eq_true, Bool.not_eq_false] at hc) <;> (try (exfalso; omega)) <;> (conv => whnf))))
  all_goals first | exact .i (by rw [if_pos (by omega)]) | exact .i (by rw [if_neg (by omega)])
theorem place_val (lv : Nat) (hl : lv ≤ 4) (s : Int) : IntKind.i64.wrap (IntKind.i64.wrap (1 * 2 ^ min ((lv : Nat) : Int).toNat IntKind.i64.bits) + bits .and .i64 (IntKind.i64.wrap s) (IntKind.i64.wrap (IntKind.i64.wrap (1 * 2 ^ min ((lv : Nat) : Int).toNat IntKind.i64.bits) - 1))) = Dir.plc lv s := by
  have e1 : IntKind.i64.wrap (1 * 2 ^ min ((lv : Nat) : Int).toNat IntKind.i64.bits) = 2 ^ lv ∧ IntKind.i64.wrap (2 ^ lv - 1) = 2 ^ lv - 1 ∧ (2 : Int) ^ lv ≤ 16 ∧ (0 : Int) < 2 ^ lv := by
    have hlv : lv = 0 ∨ lv = 1 ∨ lv = 2 ∨ lv = 3 ∨ lv = 4 := by omega
    rcases hlv with rfl | rfl | rfl | rfl | rfl <;> decide
  obtain ⟨e1, e2, e3, e4⟩ := e1
  rw [e1, e2, and_mask .i64 rfl _ lv (by omega), wrap_mod s lv (by omega)]
  have h1 := Int.emod_nonneg s (by omega : (2 ^ lv : Int) ≠ 0)
  have h2 := Int.emod_lt_of_pos s e4
  rw [IntWalk.i64_in _ (by omega)]
  unfold Dir.plc
  have : ((2 ^ lv : Nat) : Int) = 2 ^ lv := by simp
  omega
theorem lane_place (lv : Nat) (hl : lv ≤ 4) (s : Int) : Pure TC 83 [.i .i64 lv, .i .u64 s] (.i .i64 (Dir.plc lv s)) := by
  refine Pure.mk' Tryz.func83 rfl rfl (Nat.le_of_ble_eq_true rfl) ?_
  (repeat' (first
    | with_reducible refine Wp.seq ?_
    | with_reducible refine Wp.block ?_
    | ((with_reducible first | refine Wp.region ?_ | refine Wp.drawL TC_mixed ?_ | refine Wp.cond ?_ | refine Wp.ret ?_ | refine Wp.skip ?_ | refine Wp.exit ?_ | refine Go.mk ?_ | apply Eff1.of); conv => whnf)
    | with_reducible exact rfl
    | ((with_reducible refine Ov.ok zO ?_); conv => whnf)
    | (with_reducible refine Ov.sh1 (by with_unfolding_all exact rfl) ?_)
    | ((with_reducible refine Ov.quo (by omega) (by omega) (by omega) (fun _ _ => ?_)); conv => whnf)
    | ((with_reducible refine And.intro (show drawOK _ _ _ _ = true by kernel_rfl) ?_); conv => whnf)
    | ((with_reducible refine And.intro zC ?_); conv => whnf)
    | ((with_reducible refine And.intro ?hb ?_); (case hb => exact bytes_bd (Nat.le_of_ble_eq_true rfl) (by omega)); (conv => whnf))
    | ((refine DApp.a rfl rfl rfl rfl rfl rfl ?hb ?_); (case hb => exact zB); (conv => whnf))
    | ((refine DApp.b rfl rfl rfl rfl rfl rfl rfl rfl ?hb ?ho ?_); (case hb => exact zB); (case ho => omega); (conv => whnf))
    | ((refine DApp.c rfl rfl rfl rfl rfl ?hb ?_); (case hb => exact zB); (conv => whnf))
    | ((refine DApp.d rfl rfl rfl rfl rfl rfl ?hb ?ho ?_); (case hb => exact zB); (case ho => omega); (conv => whnf))
    | ((with_reducible refine nil_no (by omega) ?_); (conv => whnf))
    | ((with_reducible refine nil_any ?_ (fun hn0 => ?_)) <;> (conv => whnf))
    | ((with_reducible refine Ov.mk ?_); conv => whnf)
    | ((refine ways (fun hc => ?_) (fun hc => ?_)) <;> (try simp only [decide_eq_true_eq, decide_eq_false_iff_not, Bool.and_eq_true, Bool.or_eq_true, Bool.and_eq_false_iff, Bool.or_eq_false_iff, Bool.not_eq_true', Bool.not_eq_false', beq_iff_eq, bne_iff_ne, ne_eq, beq_eq_false_iff_ne, bne_eq_false_iff_eq, Bool.not_eq_true, Bool.not_eq_false] at hc) <;> (try (exfalso; omega)) <;> (conv => whnf))))
  exact .i (place_val lv hl s)
def sumF (h : Int) : List Int → Int
  | [] => h
  | x :: r => sumF (IntKind.u64.wrap (bits .xor .u64 h (IntKind.u64.wrap x) * 1099511628211)) r
def sumK (key : List Int) : Int := sumF 14695981039346656037 key
theorem sumF_snoc (h : Int) (x : Int) : ∀ l : List Int, sumF h (l ++ [x]) = IntKind.u64.wrap (bits .xor .u64 (sumF h l) (IntKind.u64.wrap x) * 1099511628211) := by
  intro l
  induction l generalizing h with
  | nil => rfl
  | cons y r ih => exact ih _
theorem sumF_take (h : Int) {p : List Int} {k : Nat} (hk : k < p.length) : sumF h (p.take (k + 1)) = IntKind.u64.wrap (bits .xor .u64 (sumF h (p.take k)) (IntKind.u64.wrap (p.getD (k : Int).toNat default)) * 1099511628211) := by
  rw [List.take_succ_eq_append_getElem hk, sumF_snoc, Int.toNat_natCast, List.getD_eq_getElem?_getD, List.getElem?_eq_getElem hk]; rfl
theorem hash_Update (h : Int) (p : List Int) : Pure TC 135 [.i .u64 h, .d (slOf 1 (encI .u8) p)] (.i .u64 (sumF h p)) := by
  refine Pure.lens (.mk Tryz.func135 rfl rfl) fun hlen => ?_
  have ha := hlen p.length (by simp [lensOf, slOf])
  clear hlen
  refine Pure.mk' Tryz.func135 rfl rfl (Nat.le_of_ble_eq_true rfl) ?_
  (repeat' (first
    | with_reducible refine Wp.seq ?_
    | with_reducible refine Wp.block ?_
    | ((with_reducible first | refine Wp.region ?_ | refine Wp.drawL TC_mixed ?_ | refine Wp.cond ?_ | refine Wp.ret ?_ | refine Wp.skip ?_ | refine Wp.exit ?_ | refine Go.mk ?_ | apply Eff1.of); conv => whnf)
    | with_reducible exact rfl
    | ((with_reducible refine Ov.ok zO ?_); conv => whnf)
    | (with_reducible refine Ov.sh1 (by with_unfolding_all exact rfl) ?_)
    | ((with_reducible refine Ov.quo (by omega) (by omega) (by omega) (fun _ _ => ?_)); conv => whnf)
    | ((with_reducible refine And.intro (show drawOK _ _ _ _ = true by kernel_rfl) ?_); conv => whnf)
    | ((with_reducible refine And.intro zC ?_); conv => whnf)
    | ((with_reducible refine And.intro ?hb ?_); (case hb => exact bytes_bd (Nat.le_of_ble_eq_true rfl) (by omega)); (conv => whnf))
    | ((refine DApp.a rfl rfl rfl rfl rfl rfl ?hb ?_); (case hb => exact zB); (conv => whnf))
    | ((refine DApp.b rfl rfl rfl rfl rfl rfl rfl rfl ?hb ?ho ?_); (case hb => exact zB); (case ho => omega); (conv => whnf))
    | ((refine DApp.c rfl rfl rfl rfl rfl ?hb ?_); (case hb => exact zB); (conv => whnf))
    | ((refine DApp.d rfl rfl rfl rfl rfl rfl ?hb ?ho ?_); (case hb => exact zB); (case ho => omega); (conv => whnf))
    | ((with_reducible refine nil_no (by omega) ?_); (conv => whnf))
    | ((with_reducible refine nil_any ?_ (fun hn0 => ?_)) <;> (conv => whnf))
    
    | ((refine ways (fun hc => ?_) (fun hc => ?_)) <;> (try simp only [decide_eq_true_eq, decide_eq_false_iff_not, Bool.and_eq_true, Bool.or_eq_true, Bool.and_eq_false_iff, Bool.or_eq_false_iff, Bool.not_eq_true', Bool.not_eq_false', beq_iff_eq, bne_iff_ne, ne_eq, beq_eq_false_iff_ne, bne_eq_false_iff_eq, Bool.not_eq_true, Bool.not_eq_false] at hc) <;> (try (exfalso; omega)) <;> (conv => whnf))))
  refine Wp.loopP (ι := Nat) (fun k => k ≤ p.length) (fun k => ⟨⟨Tryz.f135.ntmps, 0⟩, 0, [(0, .i .u64 (sumF h (p.take k))), (7, .d (slOf 1 (encI .u8) p)), (8, .i .i64 p.length), (9, .i .i64 k)], []⟩) (fun k => p.length - k) 0 (Nat.zero_le _) ?_ ?_
  · (refine Le.by [] rfl rfl rfl rfl ?_ ?_ <;> (conv => whnf) <;> (repeat' (first | exact trivial | exact ArgLe.rfl rfl | exact ArgLe.ptr rfl | exact ArgLe.sl rfl | ((with_reducible refine ArgLe.fn ?_); (conv => whnf)) | ((refine ArgLe.iref ?_); (conv => whnf)) | exact ⟨rfl, rfl, rfl⟩ | exact fun i hi => rfl | ((with_reducible refine And.intro ?_ ?_) <;> (conv => whnf)))))
  · rintro k h1
    (repeat' (first
    | with_reducible refine Wp.seq ?_
    | with_reducible refine Wp.block ?_
    | ((with_reducible first | refine Wp.region ?_ | refine Wp.drawL TC_mixed ?_ | refine Wp.cond ?_ | refine Wp.ret ?_ | refine Wp.skip ?_ | refine Wp.exit ?_ | refine Go.mk ?_ | apply Eff1.of); conv => whnf)
    | with_reducible exact rfl
    | ((with_reducible refine Ov.ok zO ?_); conv => whnf)
    | (with_reducible refine Ov.sh1 (by with_unfolding_all exact rfl) ?_)
    | ((with_reducible refine Ov.quo (by omega) (by omega) (by omega) (fun _ _ => ?_)); conv => whnf)
    | ((with_reducible refine And.intro (show drawOK _ _ _ _ = true by kernel_rfl) ?_); conv => whnf)
    | ((with_reducible refine And.intro zC ?_); conv => whnf)
    | ((with_reducible refine And.intro ?hb ?_); (case hb => exact bytes_bd (Nat.le_of_ble_eq_true rfl) (by omega)); (conv => whnf))
    | ((refine DApp.a rfl rfl rfl rfl rfl rfl ?hb ?_); (case hb => exact zB); (conv => whnf))
    | ((refine DApp.b rfl rfl rfl rfl rfl rfl rfl rfl ?hb ?ho ?_); (case hb => exact zB); (case ho => omega); (conv => whnf))
    | ((refine DApp.c rfl rfl rfl rfl rfl ?hb ?_); (case hb => exact zB); (conv => whnf))
    | ((refine DApp.d rfl rfl rfl rfl rfl rfl ?hb ?ho ?_); (case hb => exact zB); (case ho => omega); (conv => whnf))
    | ((with_reducible refine nil_no (by omega) ?_); (conv => whnf))
    | ((with_reducible refine nil_any ?_ (fun hn0 => ?_)) <;> (conv => whnf))
    | ((with_reducible refine Ov.mk ?_); conv => whnf)
    | ((refine ways (fun hc => ?_) (fun hc => ?_)) <;> (try simp only [decide_eq_true_eq, decide_eq_false_iff_not, Bool.and_eq_true, Bool.or_eq_true, Bool.and_eq_false_iff, Bool.or_eq_false_iff, Bool.not_eq_true', Bool.not_eq_false', beq_iff_eq, bne_iff_ne, ne_eq, beq_eq_false_iff_ne, bne_eq_false_iff_eq, Bool.not_eq_true, Bool.not_eq_false] at hc) <;> (try (exfalso; omega)) <;> (conv => whnf))))
    · refine ⟨k + 1, by dsimp only; omega, by dsimp only; omega, ?_⟩
      dsimp only
      rw [sumF_take h (by omega)]
      (refine Le.by [] rfl rfl rfl rfl ?_ ?_ <;> (conv => whnf) <;> (repeat' (first | exact trivial | exact ArgLe.rfl rfl | exact ArgLe.ptr rfl | exact ArgLe.sl rfl | ((with_reducible refine ArgLe.fn ?_); (conv => whnf)) | ((refine ArgLe.iref ?_); (conv => whnf)) | exact ⟨rfl, rfl, rfl⟩ | exact fun i hi => rfl | ((with_reducible refine And.intro ?_ ?_) <;> (conv => whnf)))))
    · obtain rfl : k = p.length := by omega
      rw [List.take_length]; exact .i rfl
theorem hash_Sum (p : List Int) : Pure TC 90 [.d (slOf 1 (encI .u8) p)] (.i .u64 (sumK p)) := by
  refine Pure.mk' Tryz.func90 rfl rfl (Nat.le_of_ble_eq_true rfl) ?_
  (repeat' (first
    | with_reducible refine Wp.seq ?_
    | with_reducible refine Wp.block ?_
    | ((with_reducible first | refine Wp.region ?_ | refine Wp.drawL TC_mixed ?_ | refine Wp.cond ?_ | refine Wp.ret ?_ | refine Wp.skip ?_ | refine Wp.exit ?_ | refine Go.mk ?_ | apply Eff1.of); conv => whnf)
    | with_reducible exact rfl
    | ((with_reducible refine Ov.ok zO ?_); conv => whnf)
    | (with_reducible refine Ov.sh1 (by with_unfolding_all exact rfl) ?_)
    | ((with_reducible refine Ov.quo (by omega) (by omega) (by omega) (fun _ _ => ?_)); conv => whnf)
    | ((with_reducible refine And.intro (show drawOK _ _ _ _ = true by kernel_rfl) ?_); conv => whnf)
    | ((with_reducible refine And.intro zC ?_); conv => whnf)
    | ((with_reducible refine And.intro ?hb ?_); (case hb => exact bytes_bd (Nat.le_of_ble_eq_true rfl) (by omega)); (conv => whnf))
    | ((refine DApp.a rfl rfl rfl rfl rfl rfl ?hb ?_); (case hb => exact zB); (conv => whnf))
    | ((refine DApp.b rfl rfl rfl rfl rfl rfl rfl rfl ?hb ?ho ?_); (case hb => exact zB); (case ho => omega); (conv => whnf))
    | ((refine DApp.c rfl rfl rfl rfl rfl ?hb ?_); (case hb => exact zB); (conv => whnf))
    | ((refine DApp.d rfl rfl rfl rfl rfl rfl ?hb ?ho ?_); (case hb => exact zB); (case ho => omega); (conv => whnf))
    | ((with_reducible refine nil_no (by omega) ?_); (conv => whnf))
    | ((with_reducible refine nil_any ?_ (fun hn0 => ?_)) <;> (conv => whnf))
    | ((with_reducible refine CallStop.pure (hash_Update 14695981039346656037 p) rfl rfl ?_); conv => whnf) | ((with_reducible refine DCall.pure (hash_Update 14695981039346656037 p) rfl rfl ?_); conv => whnf)
    | ((refine ways (fun hc => ?_) (fun hc => ?_)) <;> (try simp only [decide_eq_true_eq, decide_eq_false_iff_not, Bool.and_eq_true, Bool.or_eq_true, Bool.and_eq_false_iff, Bool.or_eq_false_iff, Bool.not_eq_true', Bool.not_eq_false', beq_iff_eq, bne_iff_ne, ne_eq, beq_eq_false_iff_ne, bne_eq_false_iff_eq, Bool.not_eq_true, Bool.not_eq_false] at hc) <;> (try (exfalso; omega)) <;> (conv => whnf))))
  exact .i (by unfold sumK; rfl)
theorem shard_val (lv : Nat) (hl : lv ≤ 4) (s : Int) : IntKind.i64.wrap (bits .and .u64 s (IntKind.u64.wrap (IntKind.u64.wrap (1 * 2 ^ min ((lv : Nat) : Int).toNat IntKind.u64.bits) - 1))) = s % 2 ^ lv := by
  have e1 : IntKind.u64.wrap (1 * 2 ^ min ((lv : Nat) : Int).toNat IntKind.u64.bits) = 2 ^ lv ∧ IntKind.u64.wrap (2 ^ lv - 1) = 2 ^ lv - 1 ∧ (2 : Int) ^ lv ≤ 16 ∧ (0 : Int) < 2 ^ lv := by
    have hlv : lv = 0 ∨ lv = 1 ∨ lv = 2 ∨ lv = 3 ∨ lv = 4 := by omega
    rcases hlv with rfl | rfl | rfl | rfl | rfl <;> decide
  obtain ⟨e1, e2, e3, e4⟩ := e1
  rw [e1, e2, and_mask .u64 rfl _ lv (by omega)]
  have h1 := Int.emod_nonneg s (by omega : (2 ^ lv : Int) ≠ 0)
  have h2 := Int.emod_lt_of_pos s e4
  exact IntWalk.i64_in _ (by omega)
theorem hash_Shard (p : List Int) (lv : Nat) (hl : lv ≤ 4) : Pure TC 84 [.d (slOf 1 (encI .u8) p), .i .i64 lv] (.tup [.i .i64 (sumK p % 2 ^ lv), .i .i64 0]) := by
  refine Pure.mk' Tryz.func84 rfl rfl (Nat.le_of_ble_eq_true rfl) ?_
  (repeat' (first
    | with_reducible refine Wp.seq ?_
    | with_reducible refine Wp.block ?_
    | ((with_reducible first | refine Wp.region ?_ | refine Wp.drawL TC_mixed ?_ | refine Wp.cond ?_ | refine Wp.ret ?_ | refine Wp.skip ?_ | refine Wp.exit ?_ | refine Go.mk ?_ | apply Eff1.of); conv => whnf)
    | with_reducible exact rfl
    | ((with_reducible refine Ov.ok zO ?_); conv => whnf)
    | (with_reducible refine Ov.sh1 (by with_unfolding_all exact rfl) ?_)
    | ((with_reducible refine Ov.quo (by omega) (by omega) (by omega) (fun _ _ => ?_)); conv => whnf)
    | ((with_reducible refine And.intro (show drawOK _ _ _ _ = true by kernel_rfl) ?_); conv => whnf)
    | ((with_reducible refine And.intro zC ?_); conv => whnf)
    | ((with_reducible refine And.intro ?hb ?_); (case hb => exact bytes_bd (Nat.le_of_ble_eq_true rfl) (by omega)); (conv => whnf))
    | ((refine DApp.a rfl rfl rfl rfl rfl rfl ?hb ?_); (case hb => exact zB); (conv => whnf))
    | ((refine DApp.b rfl rfl rfl rfl rfl rfl rfl rfl ?hb ?ho ?_); (case hb => exact zB); (case ho => omega); (conv => whnf))
    | ((refine DApp.c rfl rfl rfl rfl rfl ?hb ?_); (case hb => exact zB); (conv => whnf))
    | ((refine DApp.d rfl rfl rfl rfl rfl rfl ?hb ?ho ?_); (case hb => exact zB); (case ho => omega); (conv => whnf))
    | ((with_reducible refine nil_no (by omega) ?_); (conv => whnf))
    | ((with_reducible refine nil_any ?_ (fun hn0 => ?_)) <;> (conv => whnf))
    | ((with_reducible refine CallStop.pure (hash_Sum _) rfl rfl ?_); conv => whnf) | ((with_reducible refine DCall.pure (hash_Sum _) rfl rfl ?_); conv => whnf)
    | ((with_reducible refine Ov.mk ?_); conv => whnf)
    | ((refine ways (fun hc => ?_) (fun hc => ?_)) <;> (try simp only [decide_eq_true_eq, decide_eq_false_iff_not, Bool.and_eq_true, Bool.or_eq_true, Bool.and_eq_false_iff, Bool.or_eq_false_iff, Bool.not_eq_true', Bool.not_eq_false', beq_iff_eq, bne_iff_ne, ne_eq, beq_eq_false_iff_ne, bne_eq_false_iff_eq, Bool.not_eq_true, Bool.not_eq_false] at hc) <;> (try (exfalso; omega)) <;> (conv => whnf))))
  all_goals try (exfalso; omega)
  exact .tup (.cons (.i (shard_val lv hl _)) (.cons (.rfl _) .nil))
end Go.Proofs.YtbdclkjelhlfbaaGreat
