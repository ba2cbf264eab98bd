/- Lemmas of Bk16, Bk17, Br1, Br2, Br3a, Pl1, Pl2, Pl3, Pl4, Hi1, Hi2, Sx23, Sx29, Sx31. No condition. -/
import Derived.Test.YtlplngmpggkloaaGreatMJ8
import Derived.Deep.Slices
import Derived.ReadAgain
import Derived.ChangeSame
import Derived.ProofKit
import Derived.OpenShut
import Derived.JoinedCond
import Derived.WideWitness
import Derived.Test.YtlplngmpggkloaaGreatRows
set_option linter.unusedVariables false
set_option linter.unusedSimpArgs false
set_option maxHeartbeats 80000000
set_option maxRecDepth 100000
namespace Go.Proofs.YtlplngmpggkloaaGreat
open Go.RowKit
def pO (e : Int) : Rpl := ⟨e, false, 0, 0, 0, 0⟩
def bV (p : Pol) (c : Cel) (op n now serial : Int) : Rpl × Cel := if op = 1 then (cZ p c now n, bU p c now n) else if op = 2 then (fS p c serial, ff p c serial) else (jU p c n, fA p c n)
def nE (room : Int) (xs : List Cel) (pol : Int) (key : List Int) (z : Bool) (q : Rpl × Cel) : Rpl × List Cel :=
  if q.1.g = false ∨ z = true then (q.1, xs) else if bP xs (aw pol key) = false ∧ (xs.length : Int) = room then (pO 10, xs)
  else (q.1, c5 xs (a8 xs (aw pol key)) (bP xs (aw pol key)) q.2)
def doS (ps : List Pol) (room : Int) (xs : List Cel) (op pol : Int) (key : List Int) (n now serial : Int) : Rpl × List Cel :=
  if bJ ps op pol key n now serial ≠ 0 then (pO (bJ ps op pol key n now serial), xs)
  else if op = 5 then (⟨0, false, (xs.length : Int) - (stay ps now xs).length, 0, 0, now⟩, stay ps now xs)
  else if op = 6 then (pO 0, xs)
  else if op = 4 then (bX (ps.getD pol.toNat default) (bm xs pol key) now, xs)
  else nE room xs pol key (decide (op = 1 ∧ n = 0)) (bV (ps.getD pol.toNat default) (bm xs pol key) op n now serial)
structure kV (ps : List Pol) (xs : List Cel) : Prop where
  len : xs.length ≤ 1000000
  byt : ∀ k, IsB (xs.getD k default).key
  key : ∀ k, (xs.getD k default).key.length ≤ 255
  held : ∀ k, (xs.getD k default).held.length ≤ 64
  pol : ∀ k, k < xs.length → 0 ≤ (xs.getD k default).pol ∧ (xs.getD k default).pol < ps.length
theorem fx {ps : List Pol} {op pol : Int} {key : List Int} {n now serial : Int} (h : bJ ps op pol key n now serial = 0) : (0 ≤ now ∧ now ≤ 4611686018427387903) ∧ 1 ≤ op ∧ op ≤ 6 ∧ aG ps = 0 ∧ (op < 5 → key.length ≤ 255 ∧ 0 ≤ pol ∧ pol < ps.length) ∧ (op = 1 → 0 ≤ n ∧ n ≤ 4611686018427387903) ∧ (op = 2 → 1 ≤ serial ∧ serial ≤ 4611686018427387903) ∧
    (fC op ≠ 0 → (ps.getD pol.toNat default).kind = fC op) := by
  unfold bJ at h
  split at h
  · omega
  · rename_i h0
    unfold iE at h
    split at h
    · omega
    · rename_i h1
      split at h
      · omega
      · rename_i h2
        split at h
        · exact absurd h (by assumption)
        · rename_i h3
          split at h
          · omega
          · rename_i h4
            have t0 : bk now = true := by cases h : bk now with | true => rfl | false => exact absurd (Or.inl h) h0
            have t1 := (bp now).1 t0
            have h3 : aG ps = 0 := Classical.byContradiction h3
            refine ⟨t1, by omega, by omega, h3, fun h => by omega, fun h => ?_, fun h => by omega, fun h => ?_⟩
            · refine (bp n).1 ?_
              cases hq : bk n with | true => rfl | false => exact absurd (Or.inr (Or.inr ⟨h, hq⟩)) h1
            · refine Classical.byContradiction fun hne => h4 ⟨?_, Or.inr (Or.inr ⟨h, hne⟩)⟩
              unfold fC at h
              split at h
              · omega
              · split at h <;> omega
theorem j8 {ps : List Pol} (h : aG ps = 0) : ∀ k, k < ps.length → eW (ps.getD k default).kind (ps.getD k default).T (ps.getD k default).tau (ps.getD k default).permits = true := by
  intro k hk
  unfold aG at h
  split at h
  · omega
  · split at h
    · rename_i h2
      rw [Q23] at h2
      refine h2 _ ?_
      rw [Q1, Q0 hk]; exact Q14 hk
    · omega
theorem i5 {room : Int} {xs : List Cel} {pol : Int} {key : List Int} {z : Bool} {q : Rpl × Cel} (h : q.1.g = false ∨ z = true) : nE room xs pol key z q = (q.1, xs) := by rw [nE, if_pos h]
theorem gl {room : Int} {xs : List Cel} {pol : Int} {key : List Int} {z : Bool} {q : Rpl × Cel} (h : q.1.g = true) (hz : z = false) (h2 : bP xs (aw pol key) = false) (h3 : (xs.length : Int) = room) : nE room xs pol key z q = (pO 10, xs) := by
  rw [nE, if_neg (by rw [h, hz]; simp), if_pos ⟨h2, h3⟩]
theorem eJ {room : Int} {xs : List Cel} {pol : Int} {key : List Int} {z : Bool} {q : Rpl × Cel} (h : q.1.g = true) (hz : z = false) (h2 : ¬ (bP xs (aw pol key) = false ∧ (xs.length : Int) = room)) : nE room xs pol key z q = (q.1, c5 xs (a8 xs (aw pol key)) (bP xs (aw pol key)) q.2) := by
  rw [nE, if_neg (by rw [h, hz]; simp), if_neg h2]
theorem c9 {p : Pol} {c : Cel} {op n now serial : Int} (h : op = 1) : bV p c op n now serial = (cZ p c now n, bU p c now n) := by rw [bV, if_pos h]
theorem dF {p : Pol} {c : Cel} {op n now serial : Int} (h : op = 2) : bV p c op n now serial = (fS p c serial, ff p c serial) := by rw [bV, if_neg (by omega), if_pos h]
theorem dZ {p : Pol} {c : Cel} {op n now serial : Int} (h : op = 3) : bV p c op n now serial = (jU p c n, fA p c n) := by rw [bV, if_neg (by omega), if_neg (by omega)]
theorem eD {p : Pol} {c : Cel} {n : Int} : (ff p c n).key = c.key := by unfold ff; split <;> rfl
theorem dU {p : Pol} {c : Cel} {n : Int} : (fA p c n).key = c.key := by unfold fA; split <;> rfl
theorem nM {xs : List Cel} {p : Nat} {t : Bool} {c : Cel} (h : p ≤ xs.length) : (c5 xs p t c).length ≤ xs.length + 1 := by
  unfold c5; split
  · simp
  · rw [aD _ _ _ h]; omega
theorem book_Do (ps : List Pol) (room : Int) (xs : List Cel) (op pol : Int) (key : List Int) (n now serial : Int) (hb : kV ps xs) (hk : IsB key) :
    Fun TC 32 2 [.ptr 0 0, .agg [.i .u8 op, .i .i64 pol, .d (ak 1 (ar .u8) key), .i .i64 n], .i .i64 now, .i .i64 serial] (sk ps room xs) 3 (doS ps room xs op pol key n now serial).1.S
      [(0, some (.cells [.d (ak 4 Pol.D ps), .i .i64 room, .sl 2 4 0 (doS ps room xs op pol key n now serial).2.length])), (1, none), (2, some (aN 65 4 Cel.D (doS ps room xs op pol key n now serial).2))] := by
  have hlen := hb.len
  have hpos := lg xs (aw pol key)
  by_cases hE : bJ ps op pol key n now serial = 0
  · obtain ⟨hnow, hop1, hop2, hps, hkey, hn, hser, hkind⟩ := fx hE
    have hpl := cw hps
    have hperm : op < 5 → (ps.getD pol.toNat default).kind = 2 → -4611686018427387904 ≤ (ps.getD pol.toNat default).permits ∧ (ps.getD pol.toNat default).permits ≤ 4611686018427387903 := fun h1 h2 => by
      have := j8 hps pol.toNat (by have := hkey h1; omega)
      unfold eW at this
      rw [if_neg (by omega), if_pos h2] at this
      simp only [Q5, decide_eq_true_eq] at this
      omega
    have hheld : (bm xs pol key).held.length ≤ 64 := by
      unfold bm
      split
      · exact hb.held _
      · simp [aw]
    have hD : doS ps room xs op pol key n now serial = if op = 5 then (⟨0, false, (xs.length : Int) - (stay ps now xs).length, 0, 0, now⟩, stay ps now xs)
      else if op = 6 then (pO 0, xs)
      else if op = 4 then (bX (ps.getD pol.toNat default) (bm xs pol key) now, xs)
      else nE room xs pol key (decide (op = 1 ∧ n = 0)) (bV (ps.getD pol.toNat default) (bm xs pol key) op n now serial) := by
      unfold doS; rw [if_neg (fun h => h hE)]
    have hst : (stay ps now xs).length ≤ xs.length := List.length_filter_le _ _
    rw [hD]
    clear hD
    have hposl : bP xs (aw pol key) = true → a8 xs (aw pol key) < xs.length := fun h => ((fk _ _).1 h).1
    have hkk : op < 5 → (bm xs pol key).key.length ≤ 16777216 := fun h => by
      unfold bm
      split
      · have := hb.key (a8 xs (aw pol key)); omega
      · have := (hkey h).1; simp only [aw]; omega
    refine Fun.mk' Tryz.func32 rfl rfl (zzb rfl) (by decide) ?_
    (repeat' (first
    | with_reducible refine Wp.seq ?_
    | with_reducible refine Wp.block ?_
    | ((with_reducible first | refine Wp.region ?_ | refine Wp.drawL ac ?_ | refine Wp.cond ?_ | refine Wp.ret ?_ | refine Wp.skip ?_ | refine Wp.exit ?_ | refine Go.mk ?_ | apply ao.of); conv => whnf)
    | with_reducible exact rfl
    | ((with_reducible refine Ov.ok zO ?_); conv => whnf)
    | (with_reducible refine Ov.sh1 (by with_unfolding_all exact rfl) ?_)
    | ((with_reducible refine Ov.quo (by omega) (by omega) (by omega) (fun _ _ => ?_)); conv => whnf)
    | ((with_reducible refine And.intro (show ah _ _ _ _ = true by kernel_rfl) ?_); conv => whnf)
    | ((with_reducible refine And.intro zC ?_); conv => whnf)
    | ((with_reducible refine And.intro ?hb ?_); (case hb => exact ae (zzb rfl) (by omega)); (conv => whnf))
    | ((refine af.a rfl rfl rfl rfl rfl rfl ?hb ?_); (case hb => exact zB); (conv => whnf))
    | ((refine af.b rfl rfl rfl rfl rfl rfl rfl rfl ?hb ?ho ?_); (case hb => exact zB); (case ho => omega); (conv => whnf))
    | ((refine af.c rfl rfl rfl rfl rfl ?hb ?_); (case hb => exact zB); (conv => whnf))
    | ((refine af.d rfl rfl rfl rfl rfl rfl ?hb ?ho ?_); (case hb => exact zB); (case ho => omega); (conv => whnf))
    | (with_reducible refine Or.inl ?_)
    | ((with_reducible refine IxA.ptr ?_); conv => whnf)
    | ((with_reducible refine nil_no (by omega) ?_); (conv => whnf))
    | ((with_reducible refine ag ?_ (fun hn0 => ?_)) <;> (conv => whnf))
    | ((refine ab.fn (aP ps room xs op pol key n now serial) [0,1] rfl rfl rfl rfl rfl ?ha ?hh ?_); (case ha => exact zA); (case hh => exact zH); (conv => whnf))
    | ((refine ai.fn (aP ps room xs op pol key n now serial) [0,1] [0,1] rfl rfl rfl rfl rfl ?ha ?hh ?hs ?_); (case ha => exact zA); (case hh => exact zH); (case hs => exact zK); (conv => whnf)) | ((refine ai.new (aP ps room xs op pol key n now serial) [0,1] [0,1] rfl rfl rfl rfl rfl rfl ?ha ?hh ?hs ?_); (case ha => exact zA); (case hh => exact zH); (case hs => exact zK); (conv => whnf))
    | ((refine ai.fn (aP ps room xs op pol key n now serial) [0,1] [] rfl rfl rfl rfl rfl ?ha ?hh ?hs ?_); (case ha => exact zA); (case hh => exact zH); (case hs => exact zK); (conv => whnf)) | ((refine ai.new (aP ps room xs op pol key n now serial) [0,1] [] rfl rfl rfl rfl rfl rfl ?ha ?hh ?hs ?_); (case ha => exact zA); (case hh => exact zH); (case hs => exact zK); (conv => whnf))
    | ((refine ab.fn (co ps room now xs hb.pol (by omega)) [1,0,2,4] rfl rfl rfl rfl rfl ?ha ?hh ?_); (case ha => exact zA); (case hh => exact zH); (conv => whnf))
    | ((refine ai.fn (co ps room now xs hb.pol (by omega)) [1,0,2,4] [0,2,4] rfl rfl rfl rfl rfl ?ha ?hh ?hs ?_); (case ha => exact zA); (case hh => exact zH); (case hs => exact zK); (conv => whnf)) | ((refine ai.new (co ps room now xs hb.pol (by omega)) [1,0,2,4] [0,2,4] rfl rfl rfl rfl rfl rfl ?ha ?hh ?hs ?_); (case ha => exact zA); (case hh => exact zH); (case hs => exact zK); (conv => whnf))
    | ((refine ab.fn (dl xs pol key (by omega) hb.byt hk) [1] rfl rfl rfl rfl rfl ?ha ?hh ?_); (case ha => exact zA); (case hh => exact zH); (conv => whnf))
    | ((refine ai.fn (dl xs pol key (by omega) hb.byt hk) [1] [1] rfl rfl rfl rfl rfl ?ha ?hh ?hs ?_); (case ha => exact zA); (case hh => exact zH); (case hs => exact zK); (conv => whnf)) | ((refine ai.new (dl xs pol key (by omega) hb.byt hk) [1] [1] rfl rfl rfl rfl rfl rfl ?ha ?hh ?hs ?_); (case ha => exact zA); (case hh => exact zH); (case hs => exact zK); (conv => whnf))
    | ((refine ai.fn (dl xs pol key (by omega) hb.byt hk) [1] [] rfl rfl rfl rfl rfl ?ha ?hh ?hs ?_); (case ha => exact zA); (case hh => exact zH); (case hs => exact zK); (conv => whnf)) | ((refine ai.new (dl xs pol key (by omega) hb.byt hk) [1] [] rfl rfl rfl rfl rfl rfl ?ha ?hh ?hs ?_); (case ha => exact zA); (case hh => exact zH); (case hs => exact zK); (conv => whnf))
    | ((with_reducible refine ab.pure (kS _ _ _ (hperm (by omega)) (by omega)) rfl rfl ?_); conv => whnf) | ((with_reducible refine ai.pure (kS _ _ _ (hperm (by omega)) (by omega)) rfl rfl ?_); conv => whnf)
    | ((with_reducible refine ab.pure (iH _ _ _ _) rfl rfl ?_); conv => whnf) | ((with_reducible refine ai.pure (iH _ _ _ _) rfl rfl ?_); conv => whnf)
    | ((with_reducible refine ab.pure (fw _ _ _) rfl rfl ?_); conv => whnf) | ((with_reducible refine ai.pure (fw _ _ _) rfl rfl ?_); conv => whnf)
    | ((with_reducible refine ab.pure (fv _ _ _) rfl rfl ?_); conv => whnf) | ((with_reducible refine ai.pure (fv _ _ _) rfl rfl ?_); conv => whnf)
    | ((refine ab.fn (aF xs (a8 xs (aw pol key)) (bP xs (aw pol key)) (bU (ps.getD pol.toNat default) (bm xs pol key) now n) (by omega) (hkk (by omega)) hpos hposl) [1] rfl rfl rfl rfl rfl ?ha ?hh ?_); (case ha => exact zA); (case hh => exact zH); (conv => whnf))
    | ((refine ai.fn (aF xs (a8 xs (aw pol key)) (bP xs (aw pol key)) (bU (ps.getD pol.toNat default) (bm xs pol key) now n) (by omega) (hkk (by omega)) hpos hposl) [1] [1] rfl rfl rfl rfl rfl ?ha ?hh ?hs ?_); (case ha => exact zA); (case hh => exact zH); (case hs => exact zK); (conv => whnf)) | ((refine ai.new (aF xs (a8 xs (aw pol key)) (bP xs (aw pol key)) (bU (ps.getD pol.toNat default) (bm xs pol key) now n) (by omega) (hkk (by omega)) hpos hposl) [1] [1] rfl rfl rfl rfl rfl rfl ?ha ?hh ?hs ?_); (case ha => exact zA); (case hh => exact zH); (case hs => exact zK); (conv => whnf))
    | ((refine ai.fn (aF xs (a8 xs (aw pol key)) (bP xs (aw pol key)) (bU (ps.getD pol.toNat default) (bm xs pol key) now n) (by omega) (hkk (by omega)) hpos hposl) [1] [] rfl rfl rfl rfl rfl ?ha ?hh ?hs ?_); (case ha => exact zA); (case hh => exact zH); (case hs => exact zK); (conv => whnf)) | ((refine ai.new (aF xs (a8 xs (aw pol key)) (bP xs (aw pol key)) (bU (ps.getD pol.toNat default) (bm xs pol key) now n) (by omega) (hkk (by omega)) hpos hposl) [1] [] rfl rfl rfl rfl rfl rfl ?ha ?hh ?hs ?_); (case ha => exact zA); (case hh => exact zH); (case hs => exact zK); (conv => whnf))
    | ((refine ab.fn (aF xs (a8 xs (aw pol key)) (bP xs (aw pol key)) (ff (ps.getD pol.toNat default) (bm xs pol key) serial) (by omega) (by rw [eD]; exact hkk (by omega)) hpos hposl) [1] rfl rfl rfl rfl rfl ?ha ?hh ?_); (case ha => exact zA); (case hh => exact zH); (conv => whnf))
    | ((refine ai.fn (aF xs (a8 xs (aw pol key)) (bP xs (aw pol key)) (ff (ps.getD pol.toNat default) (bm xs pol key) serial) (by omega) (by rw [eD]; exact hkk (by omega)) hpos hposl) [1] [1] rfl rfl rfl rfl rfl ?ha ?hh ?hs ?_); (case ha => exact zA); (case hh => exact zH); (case hs => exact zK); (conv => whnf)) | ((refine ai.new (aF xs (a8 xs (aw pol key)) (bP xs (aw pol key)) (ff (ps.getD pol.toNat default) (bm xs pol key) serial) (by omega) (by rw [eD]; exact hkk (by omega)) hpos hposl) [1] [1] rfl rfl rfl rfl rfl rfl ?ha ?hh ?hs ?_); (case ha => exact zA); (case hh => exact zH); (case hs => exact zK); (conv => whnf))
    | ((refine ai.fn (aF xs (a8 xs (aw pol key)) (bP xs (aw pol key)) (ff (ps.getD pol.toNat default) (bm xs pol key) serial) (by omega) (by rw [eD]; exact hkk (by omega)) hpos hposl) [1] [] rfl rfl rfl rfl rfl ?ha ?hh ?hs ?_); (case ha => exact zA); (case hh => exact zH); (case hs => exact zK); (conv => whnf)) | ((refine ai.new (aF xs (a8 xs (aw pol key)) (bP xs (aw pol key)) (ff (ps.getD pol.toNat default) (bm xs pol key) serial) (by omega) (by rw [eD]; exact hkk (by omega)) hpos hposl) [1] [] rfl rfl rfl rfl rfl rfl ?ha ?hh ?hs ?_); (case ha => exact zA); (case hh => exact zH); (case hs => exact zK); (conv => whnf))
    | ((refine ab.fn (aF xs (a8 xs (aw pol key)) (bP xs (aw pol key)) (fA (ps.getD pol.toNat default) (bm xs pol key) n) (by omega) (by rw [dU]; exact hkk (by omega)) hpos hposl) [1] rfl rfl rfl rfl rfl ?ha ?hh ?_); (case ha => exact zA); (case hh => exact zH); (conv => whnf))
    | ((refine ai.fn (aF xs (a8 xs (aw pol key)) (bP xs (aw pol key)) (fA (ps.getD pol.toNat default) (bm xs pol key) n) (by omega) (by rw [dU]; exact hkk (by omega)) hpos hposl) [1] [1] rfl rfl rfl rfl rfl ?ha ?hh ?hs ?_); (case ha => exact zA); (case hh => exact zH); (case hs => exact zK); (conv => whnf)) | ((refine ai.new (aF xs (a8 xs (aw pol key)) (bP xs (aw pol key)) (fA (ps.getD pol.toNat default) (bm xs pol key) n) (by omega) (by rw [dU]; exact hkk (by omega)) hpos hposl) [1] [1] rfl rfl rfl rfl rfl rfl ?ha ?hh ?hs ?_); (case ha => exact zA); (case hh => exact zH); (case hs => exact zK); (conv => whnf))
    | ((refine ai.fn (aF xs (a8 xs (aw pol key)) (bP xs (aw pol key)) (fA (ps.getD pol.toNat default) (bm xs pol key) n) (by omega) (by rw [dU]; exact hkk (by omega)) hpos hposl) [1] [] rfl rfl rfl rfl rfl ?ha ?hh ?hs ?_); (case ha => exact zA); (case hh => exact zH); (case hs => exact zK); (conv => whnf)) | ((refine ai.new (aF xs (a8 xs (aw pol key)) (bP xs (aw pol key)) (fA (ps.getD pol.toNat default) (bm xs pol key) n) (by omega) (by rw [dU]; exact hkk (by omega)) hpos hposl) [1] [] rfl rfl rfl rfl rfl rfl ?ha ?hh ?hs ?_); (case ha => exact zA); (case hh => exact zH); (case hs => exact zK); (conv => whnf))
    | ((refine ap (fun hc => ?_) (fun hc => ?_)) <;> (try simp only [decide_eq_true_eq, decide_eq_false_iff_not, Q5, Q20, Bool.and_eq_false_iff, Bool.or_eq_false_iff, Bool.not_eq_true', Bool.not_eq_false', beq_iff_eq, bne_iff_ne, ne_eq, beq_eq_false_iff_ne, bne_eq_false_iff_eq, Bool.not_eq_true, Bool.not_eq_false] at hc) <;> (try (exfalso; omega)) <;> (conv => whnf))))
    · rw [if_pos (by assumption)]
      refine aq.mv2 rfl rfl ?_ ?_
      · conv => whnf
        exact .rfl _
      · ((conv => whnf); repeat' (first | exact trivial | exact SV.Le.rfl _ | exact ⟨rfl, rfl, rfl⟩ | exact fun i hi => rfl | ((with_reducible refine And.intro ?_ ?_) <;> (conv => whnf))))
    · rw [if_neg (by omega), if_pos (by assumption)]
      refine aq.mv2 rfl rfl ?_ ?_
      · conv => whnf
        exact .rfl _
      · ((conv => whnf); repeat' (first | exact trivial | exact SV.Le.rfl _ | exact ⟨rfl, rfl, rfl⟩ | exact fun i hi => rfl | ((with_reducible refine And.intro ?_ ?_) <;> (conv => whnf))))
    · rw [if_neg (by omega), if_neg (by omega), if_pos (by assumption)]
      refine aq.mv2 rfl rfl ?_ ?_
      · conv => whnf
        exact .rfl _
      · ((conv => whnf); repeat' (first | exact trivial | exact SV.Le.rfl _ | exact ⟨rfl, rfl, rfl⟩ | exact fun i hi => rfl | ((with_reducible refine And.intro ?_ ?_) <;> (conv => whnf))))
    · rw [if_neg (by omega), if_neg (by omega), if_neg (by omega), c9 (by assumption), i5 (Or.inl (by assumption))]
      refine aq.mv2 rfl rfl ?_ ?_
      · conv => whnf
        exact .rfl _
      · ((conv => whnf); repeat' (first | exact trivial | exact SV.Le.rfl _ | exact ⟨rfl, rfl, rfl⟩ | exact fun i hi => rfl | ((with_reducible refine And.intro ?_ ?_) <;> (conv => whnf))))
    · rw [if_neg (by omega), if_neg (by omega), if_neg (by omega), c9 (by assumption), i5 (Or.inr (decide_eq_true ⟨by assumption, by assumption⟩))]
      refine aq.mv2 rfl rfl ?_ ?_
      · conv => whnf
        exact .rfl _
      · ((conv => whnf); repeat' (first | exact trivial | exact SV.Le.rfl _ | exact ⟨rfl, rfl, rfl⟩ | exact fun i hi => rfl | ((with_reducible refine And.intro ?_ ?_) <;> (conv => whnf))))
    · rw [if_neg (by omega), if_neg (by omega), if_neg (by omega), c9 (by assumption), gl (by assumption) (decide_eq_false (by omega)) (by assumption) (by assumption)]
      refine aq.mv2 rfl rfl ?_ ?_
      · conv => whnf
        exact .rfl _
      · ((conv => whnf); repeat' (first | exact trivial | exact SV.Le.rfl _ | exact ⟨rfl, rfl, rfl⟩ | exact fun i hi => rfl | ((with_reducible refine And.intro ?_ ?_) <;> (conv => whnf))))
    · rw [if_neg (by omega), if_neg (by omega), if_neg (by omega), c9 (by assumption), eJ (by assumption) (decide_eq_false (by omega)) (fun h => absurd h.2 (by assumption))]
      refine aq.of [0, 1, 56] rfl (fun i hi => by have : i = 0 ∨ i = 1 := (by omega); rcases this with h | h <;> subst h <;> rfl) rfl ?_ ?_
      · conv => whnf
        exact .rfl _
      · ((conv => whnf); repeat' (first | exact trivial | exact SV.Le.rfl _ | exact ⟨rfl, rfl, rfl⟩ | exact fun i hi => rfl | ((with_reducible refine And.intro ?_ ?_) <;> (conv => whnf))))
    · rw [if_neg (by omega), if_neg (by omega), if_neg (by omega), c9 (by assumption), eJ (by assumption) (decide_eq_false (by omega)) (fun h => by rw [hc] at h; cases h.1)]
      refine aq.of [0, 1, 56] rfl (fun i hi => by have : i = 0 ∨ i = 1 := (by omega); rcases this with h | h <;> subst h <;> rfl) rfl ?_ ?_
      · conv => whnf
        exact .rfl _
      · ((conv => whnf); repeat' (first | exact trivial | exact SV.Le.rfl _ | exact ⟨rfl, rfl, rfl⟩ | exact fun i hi => rfl | ((with_reducible refine And.intro ?_ ?_) <;> (conv => whnf))))
    · rw [if_neg (by omega), if_neg (by omega), if_neg (by omega), dF (by assumption), i5 (Or.inl (by assumption))]
      refine aq.mv2 rfl rfl ?_ ?_
      · conv => whnf
        exact .rfl _
      · ((conv => whnf); repeat' (first | exact trivial | exact SV.Le.rfl _ | exact ⟨rfl, rfl, rfl⟩ | exact fun i hi => rfl | ((with_reducible refine And.intro ?_ ?_) <;> (conv => whnf))))
    · rw [if_neg (by omega), if_neg (by omega), if_neg (by omega), dF (by assumption), gl (by assumption) (decide_eq_false (by omega)) (by assumption) (by assumption)]
      refine aq.mv2 rfl rfl ?_ ?_
      · conv => whnf
        exact .rfl _
      · ((conv => whnf); repeat' (first | exact trivial | exact SV.Le.rfl _ | exact ⟨rfl, rfl, rfl⟩ | exact fun i hi => rfl | ((with_reducible refine And.intro ?_ ?_) <;> (conv => whnf))))
    · rw [if_neg (by omega), if_neg (by omega), if_neg (by omega), dF (by assumption), eJ (by assumption) (decide_eq_false (by omega)) (fun h => absurd h.2 (by assumption))]
      refine aq.of [0, 1, 56] rfl (fun i hi => by have : i = 0 ∨ i = 1 := (by omega); rcases this with h | h <;> subst h <;> rfl) rfl ?_ ?_
      · conv => whnf
        exact .rfl _
      · ((conv => whnf); repeat' (first | exact trivial | exact SV.Le.rfl _ | exact ⟨rfl, rfl, rfl⟩ | exact fun i hi => rfl | ((with_reducible refine And.intro ?_ ?_) <;> (conv => whnf))))
    · rw [if_neg (by omega), if_neg (by omega), if_neg (by omega), dF (by assumption), eJ (by assumption) (decide_eq_false (by omega)) (fun h => by rw [hc] at h; cases h.1)]
      refine aq.of [0, 1, 56] rfl (fun i hi => by have : i = 0 ∨ i = 1 := (by omega); rcases this with h | h <;> subst h <;> rfl) rfl ?_ ?_
      · conv => whnf
        exact .rfl _
      · ((conv => whnf); repeat' (first | exact trivial | exact SV.Le.rfl _ | exact ⟨rfl, rfl, rfl⟩ | exact fun i hi => rfl | ((with_reducible refine And.intro ?_ ?_) <;> (conv => whnf))))
    · rw [if_neg (by omega), if_neg (by omega), if_neg (by omega), dZ (by assumption), i5 (Or.inl (by assumption))]
      refine aq.mv2 rfl rfl ?_ ?_
      · conv => whnf
        exact .rfl _
      · ((conv => whnf); repeat' (first | exact trivial | exact SV.Le.rfl _ | exact ⟨rfl, rfl, rfl⟩ | exact fun i hi => rfl | ((with_reducible refine And.intro ?_ ?_) <;> (conv => whnf))))
    · rw [if_neg (by omega), if_neg (by omega), if_neg (by omega), dZ (by assumption), gl (by assumption) (decide_eq_false (by omega)) (by assumption) (by assumption)]
      refine aq.mv2 rfl rfl ?_ ?_
      · conv => whnf
        exact .rfl _
      · ((conv => whnf); repeat' (first | exact trivial | exact SV.Le.rfl _ | exact ⟨rfl, rfl, rfl⟩ | exact fun i hi => rfl | ((with_reducible refine And.intro ?_ ?_) <;> (conv => whnf))))
    · rw [if_neg (by omega), if_neg (by omega), if_neg (by omega), dZ (by assumption), eJ (by assumption) (decide_eq_false (by omega)) (fun h => absurd h.2 (by assumption))]
      refine aq.of [0, 1, 56] rfl (fun i hi => by have : i = 0 ∨ i = 1 := (by omega); rcases this with h | h <;> subst h <;> rfl) rfl ?_ ?_
      · conv => whnf
        exact .rfl _
      · ((conv => whnf); repeat' (first | exact trivial | exact SV.Le.rfl _ | exact ⟨rfl, rfl, rfl⟩ | exact fun i hi => rfl | ((with_reducible refine And.intro ?_ ?_) <;> (conv => whnf))))
    · rw [if_neg (by omega), if_neg (by omega), if_neg (by omega), dZ (by assumption), eJ (by assumption) (decide_eq_false (by omega)) (fun h => by rw [hc] at h; cases h.1)]
      refine aq.of [0, 1, 56] rfl (fun i hi => by have : i = 0 ∨ i = 1 := (by omega); rcases this with h | h <;> subst h <;> rfl) rfl ?_ ?_
      · conv => whnf
        exact .rfl _
      · ((conv => whnf); repeat' (first | exact trivial | exact SV.Le.rfl _ | exact ⟨rfl, rfl, rfl⟩ | exact fun i hi => rfl | ((with_reducible refine And.intro ?_ ?_) <;> (conv => whnf))))
  · have hD : doS ps room xs op pol key n now serial = (pO (bJ ps op pol key n now serial), xs) := by unfold doS; rw [if_pos hE]
    rw [hD]
    refine Fun.mk' Tryz.func32 rfl rfl (zzb rfl) (by decide) ?_
    (repeat' (first
    | with_reducible refine Wp.seq ?_
    | with_reducible refine Wp.block ?_
    | ((with_reducible first | refine Wp.region ?_ | refine Wp.drawL ac ?_ | refine Wp.cond ?_ | refine Wp.ret ?_ | refine Wp.skip ?_ | refine Wp.exit ?_ | refine Go.mk ?_ | apply ao.of); conv => whnf)
    | with_reducible exact rfl
    | ((with_reducible refine Ov.ok zO ?_); conv => whnf)
    | (with_reducible refine Ov.sh1 (by with_unfolding_all exact rfl) ?_)
    | ((with_reducible refine Ov.quo (by omega) (by omega) (by omega) (fun _ _ => ?_)); conv => whnf)
    | ((with_reducible refine And.intro (show ah _ _ _ _ = true by kernel_rfl) ?_); conv => whnf)
    | ((with_reducible refine And.intro zC ?_); conv => whnf)
    | ((with_reducible refine And.intro ?hb ?_); (case hb => exact ae (zzb rfl) (by omega)); (conv => whnf))
    | ((refine af.a rfl rfl rfl rfl rfl rfl ?hb ?_); (case hb => exact zB); (conv => whnf))
    | ((refine af.b rfl rfl rfl rfl rfl rfl rfl rfl ?hb ?ho ?_); (case hb => exact zB); (case ho => omega); (conv => whnf))
    | ((refine af.c rfl rfl rfl rfl rfl ?hb ?_); (case hb => exact zB); (conv => whnf))
    | ((refine af.d rfl rfl rfl rfl rfl rfl ?hb ?ho ?_); (case hb => exact zB); (case ho => omega); (conv => whnf))
    | (with_reducible refine Or.inl ?_)
    | ((with_reducible refine IxA.ptr ?_); conv => whnf)
    | ((with_reducible refine nil_no (by omega) ?_); (conv => whnf))
    | ((with_reducible refine ag ?_ (fun hn0 => ?_)) <;> (conv => whnf))
    | ((refine ab.fn (aP ps room xs op pol key n now serial) [0,1] rfl rfl rfl rfl rfl ?ha ?hh ?_); (case ha => exact zA); (case hh => exact zH); (conv => whnf))
    | ((refine ai.fn (aP ps room xs op pol key n now serial) [0,1] [0,1] rfl rfl rfl rfl rfl ?ha ?hh ?hs ?_); (case ha => exact zA); (case hh => exact zH); (case hs => exact zK); (conv => whnf)) | ((refine ai.new (aP ps room xs op pol key n now serial) [0,1] [0,1] rfl rfl rfl rfl rfl rfl ?ha ?hh ?hs ?_); (case ha => exact zA); (case hh => exact zH); (case hs => exact zK); (conv => whnf))
    | ((refine ai.fn (aP ps room xs op pol key n now serial) [0,1] [] rfl rfl rfl rfl rfl ?ha ?hh ?hs ?_); (case ha => exact zA); (case hh => exact zH); (case hs => exact zK); (conv => whnf)) | ((refine ai.new (aP ps room xs op pol key n now serial) [0,1] [] rfl rfl rfl rfl rfl rfl ?ha ?hh ?hs ?_); (case ha => exact zA); (case hh => exact zH); (case hs => exact zK); (conv => whnf))
    | exact absurd (by assumption) hE
    | ((refine ap (fun hc => ?_) (fun hc => ?_)) <;> (try simp only [decide_eq_true_eq, decide_eq_false_iff_not, Q5, Q20, Bool.and_eq_false_iff, Bool.or_eq_false_iff, Bool.not_eq_true', Bool.not_eq_false', beq_iff_eq, bne_iff_ne, ne_eq, beq_eq_false_iff_ne, bne_eq_false_iff_eq, Bool.not_eq_true, Bool.not_eq_false] at hc) <;> (try (exfalso; omega)) <;> (conv => whnf))))
    refine aq.mv2 rfl rfl ?_ ?_
    · conv => whnf
      exact .rfl _
    · ((conv => whnf); repeat' (first | exact trivial | exact SV.Le.rfl _ | exact ⟨rfl, rfl, rfl⟩ | exact fun i hi => rfl | ((with_reducible refine And.intro ?_ ?_) <;> (conv => whnf))))
def cs0 : List Cel := []
theorem ok_of {ps : List Pol} {xs : List Cel} (h : xs.length ≤ 1000000 ∧ ∀ c ∈ xs, (∀ b ∈ c.key, 0 ≤ b ∧ b ≤ 255) ∧ c.key.length ≤ 255 ∧ c.held.length ≤ 64 ∧ 0 ≤ c.pol ∧ c.pol < ps.length) : kV ps xs := by
  have key : ∀ k, k < xs.length → xs.getD k default ∈ xs := fun k hk => by
    rw [Q1, Q0 hk]; exact Q14 hk
  have dflt : ∀ k, ¬ k < xs.length → xs.getD k default = default := fun k hk => by
    rw [Q1, List.getElem?_eq_none (by omega)]; rfl
  refine ⟨h.1, fun k => ?_, fun k => ?_, fun k => ?_, fun k hk => ⟨(h.2 _ (key k hk)).2.2.2.1, (h.2 _ (key k hk)).2.2.2.2⟩⟩
  · by_cases hk : k < xs.length
    · exact (h.2 _ (key k hk)).1
    · rw [dflt k hk]; intro x hx; cases hx
  · by_cases hk : k < xs.length
    · exact (h.2 _ (key k hk)).2.1
    · rw [dflt k hk]; exact Nat.zero_le _
  · by_cases hk : k < xs.length
    · exact (h.2 _ (key k hk)).2.2.1
    · rw [dflt k hk]; exact Nat.zero_le _
section
inductive Sh where
  | int (k : IntKind)
  | bool
  | str
  | sl (z : Nat) (es : List Sh)
mutual
inductive mV : Sh → D → Prop
  | int {k : IntKind} {n : Int} (h : (Lit.int k n).wf = true) : mV (.int k) (.val (.int k n))
  | bool (b : Bool) : mV .bool (.val (.bool b))
  | str (s : ByteArray) (h : s.size ≤ maxLen) : mV .str (.val (.string s))
  | sl {z : Nat} {es : List Sh} {n : Nat} {f : Nat → List D} (hn : n ≤ maxLen) (h : ∀ i, i < n → fg es (f i)) : mV (.sl z es) (.sl z n f)
inductive fg : List Sh → List D → Prop
  | nil : fg [] []
  | cons {s : Sh} {d : D} {ss : List Sh} {ds : List D} (h : mV s d) (t : fg ss ds) : fg (s :: ss) (d :: ds)
end
theorem fg.len : ∀ {ss : List Sh} {ds : List D}, fg ss ds → ds.length = ss.length
  | _, _, .nil => rfl
  | _, _, .cons _ t => by simp [fg.len t]
theorem fg.append : ∀ {ss ss' : List Sh} {ds ds' : List D}, fg ss ds → fg ss' ds' → fg (ss ++ ss') (ds ++ ds')
  | _, _, _, _, .nil, h => h
  | _, _, _, _, .cons h t, h' => .cons h (t.append h')
def shF (r : TypeId → Option (List Sh)) (c : TypeId → Nat) : List Field → Nat → Option (List Sh)
  | [], _ => some []
  | f :: fs, o => if f.offset = o then (r f.type).bind fun a => if a.length = c f.type then (shF r c fs (o + a.length)).map (a ++ ·) else none else none
def shT (P : Program) : Nat → TypeId → Option (List Sh)
  | 0, _ => none
  | n + 1, t => match P.underlying t with
    | some .bool => some [.bool]
    | some (.int k) => some [.int k]
    | some .string => some [.str]
    | some (.slice e) => (shT P n e).bind fun es => if es.length = P.cellsOf e then some [.sl (P.cellsOf e) es] else none
    | some (.struct fs) => (shF (shT P n) P.cellsOf fs.toList 0).bind fun a => if a.length = P.cellsOf t then some a else none
    | _ => none
structure RLs (w : World) (ds : List D) (cs : List Value) : Prop where
  len : ds.length = cs.length
  out : ∀ (j : Nat) (d : D) (c : Value), ds[j]? = some d → cs[j]? = some c → RD w (fun b => b < w.heap.size) d c
theorem RLs.nil (w : World) : RLs w [] [] := ⟨rfl, fun j d c h => by simp at h⟩
theorem RLs.one {w : World} {d : D} {c : Value} (h : RD w (fun b => b < w.heap.size) d c) : RLs w [d] [c] := ⟨rfl, fun j d' c' hd hc => by
  cases j with
  | zero => simp at hd hc; subst hd hc; exact h
  | succ j => simp at hd⟩
theorem RLs.append {w : World} {ds ds' : List D} {cs cs' : List Value} (h : RLs w ds cs) (h' : RLs w ds' cs') : RLs w (ds ++ ds') (cs ++ cs') := by
  have hl := h.len
  refine ⟨by simp [h.len, h'.len], fun j d c hd hc => ?_⟩
  by_cases hj : j < ds.length
  · rw [Q11 hj] at hd
    rw [Q11 (by omega)] at hc
    exact h.out j d c hd hc
  · rw [Q12 (by omega)] at hd
    rw [Q12 (by omega)] at hc
    rw [← hl] at hc
    exact h'.out _ d c hd hc
section
variable {H : Type} {enc : TypeId × Value → H} {P : Program} {w : World} {spare : Nat → Bool}
theorem iz {r : TypeId → Option (List Sh)} {c : TypeId → Nat} {cs : List Value} : ∀ (fs : List Field) (o : Nat) (a : List Sh), shF r c fs o = some a → o + a.length ≤ cs.length →
    (∀ f ∈ fs, ∀ b, r f.type = some b → ∃ ds, fg b ds ∧ RLs w ds ((cs.drop f.offset).take (c f.type))) → ∃ ds, fg a ds ∧ RLs w ds ((cs.drop o).take a.length)
  | [], o, a, h, hl, hr => by
    simp only [shF, Option.some.injEq] at h; subst h
    exact ⟨[], .nil, by simpa using RLs.nil w⟩
  | f :: fs, o, a, h, hl, hr => by
    unfold shF at h
    split at h
    · rename_i ho
      obtain ⟨b, hb, h⟩ := Option.bind_eq_some_iff.1 h
      split at h
      · rename_i hc
        obtain ⟨a', ha', rfl⟩ := Option.map_eq_some_iff.1 h
        rw [Q9] at hl
        obtain ⟨ds, h1, h2⟩ := hr f (by simp) b hb
        obtain ⟨ds', h3, h4⟩ := iz fs _ a' ha' (by omega) (fun g hg => hr g (by simp [hg]))
        refine ⟨ds ++ ds', h1.append h3, ?_⟩
        rw [ho, ← hc] at h2
        have := h2.append h4
        rw [show (cs.drop o).take (b ++ a').length = (cs.drop o).take b.length ++ (cs.drop (o + b.length)).take a'.length by
          rw [Q9, List.take_add, List.drop_drop]]
        exact this
      · cases h
    · cases h
theorem jS {a : Addr} {v : Value} (h : w.cell? (a.add 0) = some v) : a.spot = none := by
  have := World.cell?_spot h
  unfold Addr.add at this
  simpa using this
theorem sK : ∀ (m fuel : Nat) (t : TypeId) (cs : List Value) (x : DataW H × List MemPlace) (shs : List Sh), DataW.trod enc P w 0 spare true fuel t cs = some x → shT P m t = some shs → ∃ ds, fg shs ds ∧ RLs w ds cs
  | 0, fuel, t, cs, x, shs, h, hs => by simp [shT] at hs
  | m + 1, 0, t, cs, x, shs, h, hs => by simp [DataW.trod] at h
  | m + 1, fuel + 1, t, cs, x, shs, h, hs => by
    have ih := fun fuel t cs x shs h hs => sK m fuel t cs x shs h hs
    unfold shT at hs
    split at hs
    · rename_i hu
      cases hs
      unfold DataW.trod at h
      rw [hu] at h
      split at h <;> simp_all
      exact ⟨_, .cons (.bool _) .nil, .one (.val _ rfl)⟩
    · rename_i k hu
      cases hs
      unfold DataW.trod at h
      rw [hu] at h
      split at h <;> simp_all
      rename_i n _ _
      obtain ⟨⟨rfl, hw⟩, _⟩ := h
      exact ⟨_, .cons (.int hw) .nil, .one (.val _ rfl)⟩
    · rename_i hu
      cases hs
      unfold DataW.trod at h
      rw [hu] at h
      split at h <;> simp_all
      exact ⟨_, .cons (.str _ h.1) .nil, .one (.val _ rfl)⟩
    · rename_i e hu
      obtain ⟨es, he, hs⟩ := Option.bind_eq_some_iff.1 hs
      split at hs
      case isFalse => cases hs
      rename_i hz
      cases hs
      rcases Go.Deep.open_slice hu h with ⟨rfl, _⟩ | ⟨a, len, cap, mm, n, Dd, Pl, rfl, _, hl, hm, hmm, _, hel⟩
      · refine ⟨[.sl (P.cellsOf e) 0 fun _ => []], .cons (.sl (by unfold maxLen; omega) fun i hi => by omega) .nil, .one (.sl _ 0 _ none 0 (fun _ _ => undef) (Q4 _) (by unfold maxLen; omega) (fun i hi => by omega) (fun h => by omega) (fun i j hi => by omega))⟩
      · have hle : len ≤ mm := by rw [hmm]; split <;> omega
        have hx : ∀ i, ∃ p : List Value × List D, i < len → w.cells? 0 (a.add (i * P.cellsOf e)) (P.cellsOf e) = some p.1 ∧ fg es p.2 ∧ RLs w p.2 p.1 := fun i => by
          by_cases hi : i < len
          · obtain ⟨cs', h1, h2⟩ := hel i (by omega)
            obtain ⟨ds, h3, h4⟩ := ih _ _ _ _ _ h2 he
            exact ⟨(cs', ds), fun _ => ⟨h1, h3, h4⟩⟩
          · exact ⟨([], []), fun h => absurd h hi⟩
        obtain ⟨F, hF⟩ := Classical.axiomOfChoice hx
        refine ⟨[.sl (P.cellsOf e) len fun i => (F i).2], .cons (.sl (by omega) fun i hi => (hF i hi).2.1) .nil, .one (.sl _ len _ (some a) cap (fun i j => ((F i).1[j]?).getD undef) hl hm (fun i hi => by rw [(hF i hi).2.1.len, hz]) (fun h0 => ?_) (fun i j hi hj => ?_))⟩
        · have h0' : 0 < len ∧ 0 < P.cellsOf e := ⟨Nat.pos_of_ne_zero fun h => by subst h; simp at h0, Nat.pos_of_ne_zero fun h => by rw [h] at h0; simp at h0⟩
          have hcell : ∀ i j, i < len → j < P.cellsOf e → ∃ v, (F i).1[j]? = some v ∧ w.cell? ((a.add (i * P.cellsOf e)).add j) = some v := fun i j hi hj => by
            obtain ⟨_, k2, k3⟩ := World.cells?_some (hF i hi).1
            have hj' : j < (F i).1.length := by omega
            refine ⟨_, Q0 hj', ?_⟩
            rw [k3 j hj, Q0 hj']
          obtain ⟨v0, _, c0⟩ := hcell 0 0 h0'.1 h0'.2
          rw [Nat.zero_mul] at c0
          have hsp : a.spot = none := jS (by
            have := World.cell?_spot c0
            have e1 : (a.add 0) = a := by unfold Addr.add; simp
            rw [e1] at c0; exact c0)
          obtain ⟨b, o, sp⟩ := a
          simp only at hsp
          subst hsp
          refine ⟨b, o, rfl, ?_, fun i j hi hj => ?_⟩
          · rw [Addr.add_mid, Addr.add_mid] at c0
            exact World.block_lt_of_cell? w _ c0
          · obtain ⟨v, k1, k2⟩ := hcell i j hi hj
            rw [Addr.add_mid, Addr.add_mid] at k2
            rw [k2, k1]; rfl
        · have h9 := (hF i hi).2.2
          have hl9 := h9.len
          have hj' : j < (F i).1.length := by rw [← hl9]; exact hj
          exact h9.out j _ _ (Q0 hj) (by rw [Q0 hj']; rfl)
    · rename_i fs hu
      obtain ⟨a, ha, hs⟩ := Option.bind_eq_some_iff.1 hs
      split at hs
      case isFalse => cases hs
      rename_i hz
      cases hs
      obtain ⟨xs, n, _, _, hl, _, hf⟩ := DataW.trod_struct hu h
      obtain ⟨ds, h1, h2⟩ := iz (w := w) (cs := cs) fs.toList 0 shs ha (by omega) (fun f hf' b hb => by
        obtain ⟨i, hi, e⟩ := List.getElem_of_mem hf'
        have hi' : i < fs.size := by simpa using hi
        have hfi : fs[i]? = some f := by rw [Array.getElem?_eq_getElem hi']; rw [← e]; simp
        have hq := hf i f hfi
        rename_i hxl _
        have hxi : ∃ y, xs[i]? = some y := ⟨xs[i]'(by omega), Q0 _⟩
        obtain ⟨y, hy⟩ := hxi
        rw [hy] at hq
        exact ih _ _ _ _ _ hq hb)
      refine ⟨ds, h1, ?_⟩
      rw [List.drop_zero, hz, ← hl, List.take_length] at h2
      exact h2
    · cases hs
end
end
section
open Go.ChangeShapes Go.WideShapes Go.ChangeAt Go.RowKit
section
variable {H : Type} {enc : TypeId × Value → H} {P : Program}
theorem kU {w w' : World} {base : Nat} {sp : Nat → Bool} {hd : Bool} : ∀ {ts : List TypeId} {vs : List Value} {ds : List (DataW H)} {ps : List MemPlace}, DataW.TrodAll enc P w base sp hd ts vs ds ps → (∀ p ∈ ps, w.sameAt w' p) → DataW.TrodAll enc P w' base sp hd ts vs ds ps
  | [], [], [], _, h, _ => h
  | t :: ts, v :: vs, d :: ds, ps, ⟨p, q, ⟨n, h1⟩, h2, e⟩, hs => ⟨p, q, ⟨n, DataW.trod_carry n _ _ _ h1 fun x hx => hs x (by rw [e]; exact List.mem_append_left _ hx)⟩, kU h2 fun x hx => hs x (by rw [e]; exact List.mem_append_right _ hx), e⟩
theorem kept_of {w w' : World} (h : Kp w w') (may : MemPlace → Prop) : w.keptBut w' may := by
  refine ⟨h.os, h.output, fun i hi => ?_⟩
  have hb := h.block i hi
  rw [hb]
  rcases hq : w.heap[i]? with _ | o
  · simp
  · cases o <;> simp
theorem rI {T : TypeId → Prop} (K : Kids P T) (hz : ∀ t e, T t → P.underlying t = some (.slice e) → 0 < P.cellsOf e) {f : Func} {s : ChangeSpec} {W W' : World} {args : Array Value} {ds gs : List (DataW H)} {before : List MemPlace} {tb : TypeId}
    (hT : ∀ t ∈ f.params.toList, T t) (hvars : s.vars = []) (hr : f.resultTypes = #[tb]) (hb : P.underlying tb = some .bool)
    (hfn : gs = [] → (s.fn H (ds ++ gs)).results = [.lit (.bool true)] ∧ (s.fn H (ds ++ gs)).args = ds ∧ (s.fn H (ds ++ gs)).vars = [])
    (hW : DataW.Whole enc P f.params.toList s.vars false W args.toList ds gs before) (hk : Kp W W') : s.post enc P f false true false false W args (.bool true) W' := by
  have hW0 := hW
  obtain ⟨p, q, hA, hV, rfl, hfz, _⟩ := hW
  rw [hvars] at hV
  have hgs : gs = [] ∧ q = [] := by
    cases gs with
    | nil => exact ⟨rfl, hV⟩
    | cons x r => exact hV.elim
  obtain ⟨rfl, rfl⟩ := hgs
  obtain ⟨h1, h2, h3⟩ := hfn rfl
  have hlt := hW0.lt
  have hsame : ∀ x ∈ p, W.sameAt W' x := fun x hx => by
    have hb := hk.block x.block (hlt x (by simpa using hx))
    cases x with
    | cell b o => exact World.cell?_of_block hb
    | map b => exact hb
  have hA' := kU hA hsame
  refine ⟨ds, [], p ++ [], [], p, [], hW0, ?_, ?_, ?_, kept_of hk _, fun h => by cases h⟩
  · rw [h1, hr]
    exact ⟨[], [], shut_bool hb true, rfl, rfl⟩
  · rw [h2]
    exact DataW.TrodAll.respare K hz hT hA' fun x hx => by simpa using hlt x (by simpa using hx)
  · rw [h3, hvars]; rfl
end
end
section
open Go.ChangeShapes Go.WideShapes Go.ChangeAt Go.RowKit
theorem own : ownKnob Tryz.prog.godebug = none := by kernel_rfl
theorem kids : Kids Tryz.prog (· < Tryz.prog.types.size) := kids_rows (by kernel_rfl) (by kernel_rfl)
theorem full : ∀ t e, t < Tryz.prog.types.size → Tryz.prog.underlying t = some (.slice e) → 0 < Tryz.prog.cellsOf e := slices_full_of Tryz.prog (by kernel_rfl)
def shI (k : IntKind) (n : Int) : Prop := (Lit.int k n).wf = true
theorem a7 {k : IntKind} {d : D} (h : mV (.int k) d) : ∃ n, d = .val (.int k n) ∧ shI k n := by cases h with | int h => exact ⟨_, rfl, h⟩
theorem s4 {z : Nat} {es : List Sh} {d : D} (h : mV (.sl z es) d) : ∃ n f, d = .sl z n f ∧ n ≤ maxLen ∧ ∀ i, i < n → fg es (f i) := by cases h with | sl hn h => exact ⟨_, _, rfl, hn, h⟩
theorem aC {s : Sh} {ss : List Sh} {ds : List D} (h : fg (s :: ss) ds) : ∃ d r, ds = d :: r ∧ mV s d ∧ fg ss r := by cases h with | cons h t => exact ⟨_, _, rfl, h, t⟩
theorem gB {ds : List D} (h : fg [] ds) : ds = [] := by cases h; rfl
theorem wf_u8 {n : Int} (h : shI .u8 n) : 0 ≤ n ∧ n ≤ 255 := by simpa [shI, Lit.wf, IntKind.min, IntKind.max, IntKind.signed, IntKind.bits] using h
structure TLe (d d' : D) : Prop where
  out : ∀ w Im v, RD w Im d v → RD w Im d' v
theorem TLe.rfl (d : D) : TLe d d := ⟨fun _ _ _ h => h⟩
theorem TLe.sv {d d' : D} (h : TLe d d') : SV.Le (.d d) (.d d') := ⟨fun E nx w v hv => by cases hv with | d _ _ hv => exact .d _ _ (h.out _ _ _ hv)⟩
structure nB (ds ds' : List D) : Prop where
  len : ds.length = ds'.length
  out : ∀ (j : Nat) (d d' : D), ds[j]? = some d → ds'[j]? = some d' → TLe d d'
theorem nB.nil : nB [] [] := ⟨_root_.rfl, fun j d d' h => by simp at h⟩
theorem nB.cons {d d' : D} {ds ds' : List D} (h : TLe d d') (t : nB ds ds') : nB (d :: ds) (d' :: ds') :=
  ⟨by simp [t.len], fun j x y hx hy => by
    cases j with
    | zero => simp at hx hy; subst hx hy; exact h
    | succ j => simp at hx hy; exact t.out j x y hx hy⟩
theorem TLe.sl {z n : Nat} {f g : Nat → List D} (h : ∀ i, i < n → nB (f i) (g i)) : TLe (.sl z n f) (.sl z n g) := by
  refine ⟨fun w Im v hv => ?_⟩
  cases hv with
  | sl _ _ _ a cap gv hc hm hl ha hg =>
    refine .sl z n g a cap gv hc hm (fun i hi => by rw [← (h i hi).len]; exact hl i hi) ha fun i j hi hj => ?_
    have hj' : j < (f i).length := by rw [(h i hi).len]; exact hj
    exact ((h i hi).out j _ _ (Q0 hj') (Q0 hj)).out _ _ _ (hg i j hi hj')
theorem oJ {α : Type} [Inhabited α] {enc : α → List D} {p : α → Prop} {n : Nat} {f : Nat → List D} (h : ∀ i, i < n → ∃ x, nB (f i) (enc x) ∧ p x) : ∃ xs : List α, xs.length = n ∧ (∀ i, i < n → nB (f i) (enc (xs.getD i default))) ∧ ∀ x ∈ xs, p x := by
  induction n with
  | zero => exact ⟨[], rfl, fun i hi => by omega, fun x hx => by simp at hx⟩
  | succ n ih =>
    obtain ⟨xs, h1, h2, h3⟩ := ih fun i hi => h i (by omega)
    obtain ⟨x, h4, h5⟩ := h n (by omega)
    refine ⟨xs ++ [x], by simp [h1], fun i hi => ?_, fun y hy => ?_⟩
    · by_cases hin : i < n
      · have := h2 i hin
        rw [show (xs ++ [x]).getD i default = xs.getD i default by simp [List.getD, Q11 (show i < xs.length by omega)]]
        exact this
      · obtain rfl : i = n := by omega
        rw [show (xs ++ [x]).getD i default = x by simp [List.getD, h1]]
        exact h4
    · rcases List.mem_append.1 hy with hy | hy
      · exact h3 y hy
      · simp at hy; subst hy; exact h5
theorem rS {α : Type} [Inhabited α] {enc : α → List D} {p : α → Prop} {z : Nat} {es : List Sh} {d : D} (h : mV (.sl z es) d) (hp : ∀ ds, fg es ds → ∃ x, nB ds (enc x) ∧ p x) :
    ∃ xs : List α, TLe d (ak z enc xs) ∧ xs.length ≤ maxLen ∧ ∀ x ∈ xs, p x := by
  obtain ⟨n, f, rfl, hn, hf⟩ := s4 h
  obtain ⟨xs, h1, h2, h3⟩ := oJ (enc := enc) (p := p) fun i hi => hp _ (hf i hi)
  subst h1
  exact ⟨xs, TLe.sl fun i hi => h2 i hi, hn, h3⟩
theorem arg1 {H : Type} {enc : TypeId × Value → H} {W : World} {t : TypeId} {v : Value} {d : DataW H} {p : List MemPlace} {s : Sh} (h : DataW.Trod enc Tryz.prog W 0 (fun _ => true) true t v d p) (hs : shT Tryz.prog 8 t = some [s]) (hv : v.cells.toList = [v]) :
    ∃ x, mV s x ∧ RD W (fun b => b < W.heap.size) x v := by
  obtain ⟨n, h⟩ := h
  obtain ⟨ds, h1, h2⟩ := sK 8 n t _ _ _ h hs
  obtain ⟨x, r, rfl, h3, h4⟩ := aC h1
  obtain rfl := gB h4
  rw [hv] at h2
  exact ⟨x, h3, h2.out 0 x v rfl rfl⟩
end
theorem bf : ∀ a : List Int, cE a a = 0
  | [] => rfl
  | x :: r => by simp only [cE]; rw [if_neg (by omega), if_neg (by omega)]; exact bf r
theorem jw : ∀ {a b : List Int}, cE a b = 0 → a = b
  | [], [], _ => rfl
  | [], _ :: _, h => by simp [cE] at h
  | _ :: _, [], h => by simp [cE] at h
  | x :: a, y :: b, h => by
    simp only [cE] at h
    split at h
    · omega
    · split at h
      · omega
      · rw [jw h, show x = y by omega]
theorem kJ : ∀ a b : List Int, cE b a = - cE a b
  | [], [] => rfl
  | [], _ :: _ => rfl
  | _ :: _, [] => rfl
  | x :: a, y :: b => by
    simp only [cE]
    by_cases h1 : x < y
    · rw [if_neg (by omega), if_pos h1, if_pos h1]; rfl
    · by_cases h2 : y < x
      · rw [if_pos h2, if_neg h1, if_pos h2]
      · rw [if_neg h2, if_neg h1, if_neg h1, if_neg h2]; exact kJ a b
theorem dB : ∀ {a b c : List Int}, cE a b < 0 → cE b c < 0 → cE a c < 0
  | [], [], _, h, _ => by simp [cE] at h
  | [], _ :: _, [], _, h => by simp [cE] at h
  | [], _ :: _, _ :: _, _, _ => by simp [cE]
  | _ :: _, [], _, h, _ => by simp [cE] at h
  | _ :: _, _ :: _, [], _, h => by simp [cE] at h
  | x :: a, y :: b, z :: c, h1, h2 => by
    simp only [cE] at h1 h2 ⊢
    by_cases e1 : x < y
    · by_cases e2 : y < z
      · rw [if_pos (by omega)]; omega
      · by_cases e3 : z < y
        · rw [if_neg e2, if_pos e3] at h2; omega
        · rw [if_pos (by omega)]; omega
    · by_cases e2 : y < x
      · rw [if_neg e1, if_pos e2] at h1; omega
      · rw [if_neg e1, if_neg e2] at h1
        by_cases e3 : y < z
        · rw [if_pos (by omega)]; omega
        · by_cases e4 : z < y
          · rw [if_neg e3, if_pos e4] at h2; omega
          · rw [if_neg e3, if_neg e4] at h2
            rw [if_neg (by omega), if_neg (by omega)]
            exact dB h1 h2
def idn (c : Cel) : List Int := c.pol :: c.key
def ma (pol : Int) (key : List Int) : Prop := 0 ≤ pol ∧ pol < 32 ∧ key.length ≤ 255
theorem kr {pol : Int} {key : List Int} (h : ma pol key) : aZ pol key = pol :: key := by
  obtain ⟨h1, h2, h3⟩ := h
  rw [aZ, if_pos (by rw [aI, if_neg (by omega), if_neg (by omega)])]
theorem i9 {a b : Cel} (ha : ma a.pol a.key) (hb : ma b.pol b.key) : ng a b = cE (idn a) (idn b) := by
  rw [ng, kr ha, kr hb]; rfl
theorem jz {lt : Nat → Bool} {n : Nat} (mono : ∀ i j, i ≤ j → j < n → lt j = true → lt i = true) : ∀ (q i j : Nat), i ≤ j → j ≤ n → j - i < q → (∀ k, k < i → lt k = true) → (∀ k, j ≤ k → k < n → lt k = false) →
    (∀ k, k < bsF lt q i j → lt k = true) ∧ ∀ k, bsF lt q i j ≤ k → k < n → lt k = false
  | 0, i, j, _, _, h, _, _ => by omega
  | q + 1, i, j, h1, h2, h3, h4, h5 => by
    unfold bsF
    by_cases hij : i < j
    · rw [if_pos hij]
      by_cases hl : lt ((i + j) / 2) = true
      · rw [if_pos hl]
        exact jz mono q _ _ (by omega) h2 (by omega) (fun k hk => mono k ((i + j) / 2) (by omega) (by omega) hl) h5
      · rw [if_neg hl]
        refine jz mono q _ _ (by omega) (by omega) (by omega) h4 (fun k hk hkn => ?_)
        cases hlk : lt k with
        | false => rfl
        | true => exact absurd (mono _ k hk hkn hlk) hl
    · rw [if_neg hij]
      exact ⟨h4, fun k hk hkn => h5 k (by omega) hkn⟩
theorem pr {lt : Nat → Bool} {n : Nat} (mono : ∀ i j, i ≤ j → j < n → lt j = true → lt i = true) : (∀ k, k < bs lt n → lt k = true) ∧ ∀ k, bs lt n ≤ k → k < n → lt k = false :=
  jz mono (n + 1) 0 n (Nat.zero_le _) (Q4 _) (by omega) (fun k hk => by omega) (fun k hk hkn => by omega)
structure Srt (xs : List Cel) : Prop where
  ok : ∀ c ∈ xs, ma c.pol c.key
  lt : xs.Pairwise fun a b => cE (idn a) (idn b) < 0
theorem dx {xs : List Cel} {k : Nat} (h : k < xs.length) : xs.getD k default ∈ xs := by
  rw [Q1, Q0 h]; exact Q14 h
theorem cd {xs : List Cel} {k : Nat} (h : k < xs.length) : xs.getD k default = xs[k] := by
  rw [Q1, Q0 h]; rfl
theorem Srt.at {xs : List Cel} (h : Srt xs) {i j : Nat} (hij : i < j) (hj : j < xs.length) : cE (idn (xs.getD i default)) (idn (xs.getD j default)) < 0 := by
  rw [cd hj, cd (show i < xs.length by omega)]
  exact List.pairwise_iff_getElem.1 h.lt i j (by omega) hj hij
theorem l7 {xs : List Cel} (h : Srt xs) {t : Cel} (ht : ma t.pol t.key) : a8 xs t ≤ xs.length ∧ (∀ k, k < a8 xs t → cE (idn (xs.getD k default)) (idn t) < 0) ∧ ∀ k, a8 xs t ≤ k → k < xs.length → ¬ cE (idn (xs.getD k default)) (idn t) < 0 := by
  have hle : a8 xs t ≤ xs.length := lg xs t
  have hord : ∀ k, k < xs.length → ng (xs.getD k default) t = cE (idn (xs.getD k default)) (idn t) := fun k hk => i9 (h.ok _ (dx hk)) ht
  have := pr (lt := fun k => decide (ng (xs.getD k default) t < 0)) (n := xs.length) (fun i j hij hj hlt => by
    simp only [decide_eq_true_eq] at hlt ⊢
    rw [hord j hj] at hlt
    rw [hord i (by omega)]
    by_cases e : i = j
    · subst e; exact hlt
    · exact dB (h.at (by omega) hj) hlt)
  refine ⟨hle, fun k hk => ?_, fun k hk hkn => ?_⟩
  · have := this.1 k hk
    simp only [decide_eq_true_eq] at this
    rw [hord k (by omega)] at this; exact this
  · have := this.2 k hk hkn
    simp only [decide_eq_false_iff_not] at this
    rw [hord k hkn] at this; exact this
def look (xs : List Cel) (i : List Int) : Option Cel := xs.find? fun c => decide (idn c = i)
theorem bu {xs : List Cel} {i : List Int} {c : Cel} (h : look xs i = some c) : c ∈ xs ∧ idn c = i := by
  unfold look at h
  exact ⟨List.mem_of_find?_eq_some h, by simpa using List.find?_some h⟩
theorem Srt.uniq {xs : List Cel} (h : Srt xs) {a b : Cel} (ha : a ∈ xs) (hb : b ∈ xs) (e : idn a = idn b) : a = b := by
  obtain ⟨i, hi, rfl⟩ := List.getElem_of_mem ha
  obtain ⟨j, hj, rfl⟩ := List.getElem_of_mem hb
  have hp := List.pairwise_iff_getElem.1 h.lt
  rcases Nat.lt_trichotomy i j with hlt | rfl | hlt
  · have := hp i j hi hj hlt; rw [e, bf] at this; omega
  · rfl
  · have := hp j i hj hi hlt; rw [e, bf] at this; omega
theorem Srt.look_of {xs : List Cel} (h : Srt xs) {c : Cel} (hc : c ∈ xs) : look xs (idn c) = some c := by
  cases hl : look xs (idn c) with
  | none => unfold look at hl; rw [List.find?_eq_none] at hl; exact absurd (by simp) (hl c hc)
  | some d => obtain ⟨h1, h2⟩ := bu hl; rw [h.uniq h1 hc h2]
theorem ke {xs : List Cel} {i : List Int} : look xs i = none ↔ ∀ c ∈ xs, idn c ≠ i := by unfold look; rw [List.find?_eq_none]; simp
theorem jm {xs : List Cel} (h : Srt xs) {t : Cel} (ht : ma t.pol t.key) : (bP xs t = true → look xs (idn t) = some (xs.getD (a8 xs t) default)) ∧ (bP xs t = false → look xs (idn t) = none) := by
  obtain ⟨h1, h2, h3⟩ := l7 h ht
  constructor
  · intro hh
    obtain ⟨p1, p2⟩ := (fk _ _).1 hh
    rw [i9 (h.ok _ (dx p1)) ht] at p2
    rw [← jw p2]
    exact h.look_of (dx p1)
  · intro hh
    rw [ke]
    intro c hc e
    obtain ⟨k, hk, rfl⟩ := List.getElem_of_mem hc
    rw [← cd hk] at e
    have h9 : ¬ k < a8 xs t := fun hlt => by have := h2 k hlt; rw [e, bf] at this; omega
    by_cases hkp : k = a8 xs t
    · subst hkp
      have : bP xs t = true := (fk _ _).2 ⟨hk, by rw [i9 (h.ok _ (dx hk)) ht, e, bf]⟩
      rw [this] at hh; cases hh
    · have := h3 (a8 xs t) (Q4 _) (by omega)
      have h8 := h.at (show a8 xs t < k by omega) hk
      rw [e] at h8
      exact this h8
theorem oR {xs : List Cel} (h : Srt xs) {t : Cel} (ht : ma t.pol t.key) : bP xs t = (look xs (idn t)).isSome := by
  obtain ⟨h1, h2⟩ := jm h ht
  cases hh : bP xs t with
  | true => rw [h1 hh]; rfl
  | false => rw [h2 hh]; rfl
theorem o3 {xs : List Cel} (h : Srt xs) {pol : Int} {key : List Int} (ht : ma pol key) : bm xs pol key = (look xs (pol :: key)).getD (aw pol key) := by
  obtain ⟨h1, h2⟩ := jm h (t := aw pol key) ht
  unfold bm
  by_cases hh : bP xs (aw pol key) = true
  · rw [if_pos hh]; have := h1 hh; rw [show idn (aw pol key) = pol :: key from rfl] at this; rw [this]; rfl
  · rw [if_neg hh]; have := h2 (by simpa using hh); rw [show idn (aw pol key) = pol :: key from rfl] at this; rw [this]; rfl
theorem cR {xs : List Cel} (h : Srt xs) {i : List Int} {d : Cel} : look xs i = some d ↔ d ∈ xs ∧ idn d = i :=
  ⟨bu, fun ⟨h1, h2⟩ => by rw [← h2]; exact h.look_of h1⟩
theorem lh {α : Type} {a b : Option α} (h : ∀ d, a = some d ↔ b = some d) : a = b := by
  cases a with
  | none => cases b with
    | none => rfl
    | some d => have := (h d).2 rfl; cases this
  | some d => exact ((h d).1 rfl).symm
theorem Srt.ids {xs : List Cel} (h : Srt xs) : (xs.map idn).Pairwise fun a b => cE a b < 0 := by rw [List.pairwise_map]; exact h.lt
theorem set_mem {xs : List Cel} (h : Srt xs) {p : Nat} {c : Cel} (hp : p < xs.length) (e : idn (xs.getD p default) = idn c) (d : Cel) : d ∈ xs.set p c ↔ d = c ∨ (d ∈ xs ∧ idn d ≠ idn c) := by
  rw [cd hp] at e
  constructor
  · intro hd
    obtain ⟨k, hk, rfl⟩ := List.getElem_of_mem hd
    rw [List.length_set] at hk
    rw [List.getElem_set]
    by_cases hkp : p = k
    · rw [if_pos hkp]; exact Or.inl rfl
    · rw [if_neg hkp]
      refine Or.inr ⟨Q14 hk, fun e2 => ?_⟩
      have hp2 := List.pairwise_iff_getElem.1 h.lt
      rw [← e] at e2
      rcases Nat.lt_or_gt_of_ne hkp with hlt | hlt
      · have := hp2 p k hp hk hlt; rw [e2, bf] at this; omega
      · have := hp2 k p hk hp hlt; rw [e2, bf] at this; omega
  · rintro (rfl | ⟨h1, h2⟩)
    · exact List.mem_set hp _
    · obtain ⟨k, hk, rfl⟩ := List.getElem_of_mem h1
      have hkp : ¬ p = k := fun e2 => by subst e2; exact h2 e
      have : (xs.set p c)[k]'(by rw [List.length_set]; exact hk) = xs[k] := by rw [List.getElem_set, if_neg hkp]
      rw [← this]; exact Q14 _
theorem iK {xs : List Cel} (h : Srt xs) {t c : Cel} (hc : ma c.pol c.key) (e : idn c = idn t) :
    Srt (c5 xs (a8 xs t) (bP xs t) c) ∧ (∀ d, d ∈ c5 xs (a8 xs t) (bP xs t) c ↔ d = c ∨ (d ∈ xs ∧ idn d ≠ idn c)) ∧ (c5 xs (a8 xs t) (bP xs t) c).length = if bP xs t = true then xs.length else xs.length + 1 := by
  have ht : ma t.pol t.key := by
    have e1 : c.pol = t.pol := by have := e; simp only [idn, List.cons.injEq] at this; exact this.1
    have e2 : c.key = t.key := by have := e; simp only [idn, List.cons.injEq] at this; exact this.2
    rw [← e1, ← e2]; exact hc
  obtain ⟨h1, h2, h3⟩ := l7 h ht
  cases hh : bP xs t with
  | true =>
    obtain ⟨p1, p2⟩ := (fk _ _).1 hh
    rw [i9 (h.ok _ (dx p1)) ht] at p2
    have p3 : idn (xs.getD (a8 xs t) default) = idn c := by rw [jw p2, e]
    have hm := set_mem h p1 p3
    simp only [c5, if_true]
    refine ⟨⟨fun d hd => ?_, ?_⟩, hm, List.length_set ..⟩
    · rcases (hm d).1 hd with rfl | ⟨hd, _⟩
      · exact hc
      · exact h.ok d hd
    · rw [← List.pairwise_map (f := idn) (R := fun a b => cE a b < 0), List.map_set, ← p3]
      have : (xs.map idn).set (a8 xs t) (idn (xs.getD (a8 xs t) default)) = xs.map idn := by
        rw [cd p1]
        have : idn xs[a8 xs t] = (xs.map idn)[a8 xs t]'(by simpa using p1) := by simp
        rw [this]; exact List.set_getElem_self _
      rw [this]; exact h.ids
  | false =>
    simp only [c5, Bool.false_eq_true, if_false]
    have hn := ke.1 ((jm h ht).2 hh)
    have hge : ∀ k, a8 xs t ≤ k → k < xs.length → cE (idn c) (idn (xs.getD k default)) < 0 := fun k hk hkn => by
      have h9 := h3 k hk hkn
      have h8 := kJ (idn (xs.getD k default)) (idn t)
      rw [e, h8]
      have h7 : cE (idn (xs.getD k default)) (idn t) ≠ 0 := fun h0 => hn _ (dx hkn) (jw h0)
      omega
    have hm : ∀ d, d ∈ bE xs (a8 xs t) c ↔ d = c ∨ (d ∈ xs ∧ idn d ≠ idn c) := fun d => by
      have hx : d ∈ bE xs (a8 xs t) c ↔ d = c ∨ d ∈ xs := by
        unfold bE
        rw [List.mem_append, List.mem_append, List.mem_singleton]
        constructor
        · rintro ((h | h) | h)
          · exact Or.inr (List.mem_of_mem_take h)
          · exact Or.inl h
          · exact Or.inr (List.mem_of_mem_drop h)
        · rintro (h | h)
          · exact Or.inl (Or.inr h)
          · rw [← List.take_append_drop (a8 xs t) xs] at h
            rcases List.mem_append.1 h with h | h
            · exact Or.inl (Or.inl h)
            · exact Or.inr h
      rw [hx]
      constructor
      · rintro (h | h)
        · exact Or.inl h
        · exact Or.inr ⟨h, by rw [e]; exact hn d h⟩
      · rintro (h | ⟨h, _⟩)
        · exact Or.inl h
        · exact Or.inr h
    refine ⟨⟨fun d hd => ?_, ?_⟩, hm, aD _ _ _ h1⟩
    · rcases (hm d).1 hd with rfl | ⟨hd, _⟩
      · exact hc
      · exact h.ok d hd
    · unfold bE
      rw [List.append_assoc, List.pairwise_append]
      have hpt : (xs.take (a8 xs t)).Pairwise fun a b => cE (idn a) (idn b) < 0 := h.lt.sublist (List.take_sublist _ _)
      have hpd : (xs.drop (a8 xs t)).Pairwise fun a b => cE (idn a) (idn b) < 0 := h.lt.sublist (List.drop_sublist _ _)
      have htl : ∀ a ∈ xs.take (a8 xs t), cE (idn a) (idn c) < 0 := fun a ha => by
        obtain ⟨k, hk, rfl⟩ := List.getElem_of_mem ha
        rw [Q10] at hk
        rw [List.getElem_take, ← cd (show k < xs.length by omega), e]
        exact h2 k (by omega)
      have hdl : ∀ b ∈ xs.drop (a8 xs t), cE (idn c) (idn b) < 0 := fun b hb => by
        obtain ⟨k, hk, rfl⟩ := List.getElem_of_mem hb
        rw [List.length_drop] at hk
        rw [List.getElem_drop, ← cd (show a8 xs t + k < xs.length by omega)]
        exact hge _ (by omega) (by omega)
      refine ⟨hpt, ?_, fun a ha b hb => ?_⟩
      · rw [List.singleton_append, List.pairwise_cons]; exact ⟨hdl, hpd⟩
      · rw [List.singleton_append] at hb
        rcases Q22 hb with rfl | hb
        · exact htl a ha
        · exact dB (htl a ha) (hdl b hb)
theorem nL {xs : List Cel} (h : Srt xs) {t c : Cel} (hc : ma c.pol c.key) (e : idn c = idn t) (i : List Int) : look (c5 xs (a8 xs t) (bP xs t) c) i = if i = idn c then some c else look xs i := by
  obtain ⟨h1, h2, _⟩ := iK h hc e
  refine lh fun d => ?_
  rw [cR h1, h2]
  by_cases hi : i = idn c
  · rw [if_pos hi]
    constructor
    · rintro ⟨rfl | ⟨_, h4⟩, h5⟩
      · rfl
      · exact absurd (h5.trans hi) h4
    · intro h; cases h; exact ⟨Or.inl rfl, hi.symm⟩
  · rw [if_neg hi, cR h]
    constructor
    · rintro ⟨rfl | ⟨h3, _⟩, h5⟩
      · exact absurd h5.symm hi
      · exact ⟨h3, h5⟩
    · rintro ⟨h3, h5⟩; exact ⟨Or.inr ⟨h3, fun e2 => hi (h5.symm.trans e2)⟩, h5⟩
theorem Srt.filter {xs : List Cel} (h : Srt xs) (q : Cel → Bool) : Srt (xs.filter q) := ⟨fun c hc => h.ok c (List.mem_filter.1 hc).1, h.lt.filter _⟩
theorem gD {xs : List Cel} (h : Srt xs) (q : Cel → Bool) (i : List Int) : look (xs.filter q) i = (look xs i).filter q := by
  refine lh fun d => ?_
  rw [cR (h.filter q), List.mem_filter, Option.filter_eq_some_iff, cR h]
  exact ⟨fun ⟨⟨a, b⟩, c⟩ => ⟨⟨a, c⟩, b⟩, fun ⟨⟨a, c⟩, b⟩ => ⟨⟨a, b⟩, c⟩⟩
theorem Srt.tail {c : Cel} {xs : List Cel} (h : Srt (c :: xs)) : Srt xs := ⟨fun d hd => h.ok d (by simp [hd]), (List.pairwise_cons.1 h.lt).2⟩
theorem nV : ∀ {xs ys : List Cel}, Srt xs → Srt ys → (∀ i, look xs i = look ys i) → xs = ys
  | [], [], _, _, _ => rfl
  | [], b :: s, _, h', e => by have := e (idn b); rw [h'.look_of (by simp)] at this; simp [look] at this
  | a :: r, [], h, _, e => by have := e (idn a); rw [h.look_of (by simp)] at this; simp [look] at this
  | a :: r, b :: s, h, h', e => by
    have ha : a ∈ b :: s := by have := e (idn a); rw [h.look_of (by simp)] at this; exact (bu this.symm).1
    have hb : b ∈ a :: r := by have := e (idn b); rw [h'.look_of (by simp)] at this; exact (bu this).1
    have hab : a = b := by
      rcases Q22 ha with h1 | h1
      · exact h1
      · rcases Q22 hb with h2 | h2
        · exact h2.symm
        · have p1 := (List.pairwise_cons.1 h'.lt).1 a h1
          have p2 := (List.pairwise_cons.1 h.lt).1 b h2
          have := dB p1 p2
          rw [bf] at this; omega
    subst hab
    congr 1
    refine nV h.tail h'.tail fun i => lh fun d => ?_
    have e1 := e i
    rw [cR h.tail, cR h'.tail]
    have key : ∀ {zs : List Cel} (hz : Srt (a :: zs)), (d ∈ zs ∧ idn d = i) ↔ (look (a :: zs) i = some d ∧ i ≠ idn a) := fun {zs} hz => by
      rw [cR hz]
      constructor
      · rintro ⟨h1, h2⟩
        refine ⟨⟨by simp [h1], h2⟩, fun e2 => ?_⟩
        have := (List.pairwise_cons.1 hz.lt).1 d h1
        rw [h2, e2, bf] at this; omega
      · rintro ⟨⟨h1, h2⟩, h3⟩
        rcases Q22 h1 with rfl | h1
        · exact absurd h2.symm h3
        · exact ⟨h1, h2⟩
    rw [key h, key h', e1]
section
theorem kV.mem {ps : List Pol} {xs : List Cel} (h : kV ps xs) {c : Cel} (hc : c ∈ xs) : (∀ b ∈ c.key, 0 ≤ b ∧ b ≤ 255) ∧ c.key.length ≤ 255 ∧ c.held.length ≤ 64 ∧ 0 ≤ c.pol ∧ c.pol < ps.length := by
  obtain ⟨k, hk, rfl⟩ := List.getElem_of_mem hc
  have e := cd hk
  refine ⟨?_, ?_, ?_, ?_⟩
  · have := h.byt k; rw [e] at this; exact this
  · have := h.key k; rw [e] at this; exact this
  · have := h.held k; rw [e] at this; exact this
  · have := h.pol k hk; rw [e] at this; exact this
structure gN (ps : List Pol) (room : Int) (xs : List Cel) : Prop where
  srt : Srt xs
  ok : kV ps xs
  le : (xs.length : Int) ≤ room
  rm : room ≤ 4096
  pl : ps.length ≤ 32
theorem gN.nil {ps : List Pol} {room : Int} (h0 : 0 ≤ room) (h1 : room ≤ 4096) (h2 : ps.length ≤ 32) : gN ps room [] :=
  ⟨⟨fun c hc => by simp at hc, .nil⟩, ok_of ⟨by simp, fun c hc => by simp at hc⟩, by simpa using h0, h1, h2⟩
theorem gN.len {ps : List Pol} {room : Int} {xs : List Cel} (h : gN ps room xs) : xs.length ≤ 4096 := by have := h.le; have := h.rm; omega
section
variable {ps : List Pol} {room : Int} {xs : List Cel} {op pol : Int} {key : List Int} {n now serial : Int}
theorem rM (hE : bJ ps op pol key n now serial = 0) (hop : op < 5) : ma pol key ∧ pol < ps.length := by
  obtain ⟨_, _, _, h1, h2, _⟩ := fx hE
  have := h2 hop
  have := cw h1
  exact ⟨⟨by omega, by omega, by omega⟩, by omega⟩
theorem one_idn {p : Pol} {c : Cel} : idn (bV p c op n now serial).2 = idn c := by
  unfold bV
  split
  · rfl
  · split
    · unfold ff idn; split <;> rfl
    · unfold fA idn; split <;> rfl
theorem rA {p : Pol} {c : Cel} (h : c.held.length ≤ 64) : (bV p c op n now serial).2.held.length ≤ 64 := by
  unfold bV
  split
  · exact h
  · split
    · unfold ff
      split
      · have := lO (by assumption : aM p.permits c.held serial = 0); simp only; omega
      · exact h
    · unfold fA
      split
      · have := mz (by assumption : ck p.permits c.held n = 0); simp only; omega
      · exact h
def bS (p : Pol) (o : Option Cel) (op pol : Int) (key : List Int) (n now serial : Int) : Rpl × Option Cel :=
  if op = 4 then (bX p (o.getD (aw pol key)) now, none)
  else if (bV p (o.getD (aw pol key)) op n now serial).1.g = false ∨ (op = 1 ∧ n = 0) then ((bV p (o.getD (aw pol key)) op n now serial).1, none)
  else ((bV p (o.getD (aw pol key)) op n now serial).1, some (bV p (o.getD (aw pol key)) op n now serial).2)
theorem ju (h : gN ps room xs) (hE : bJ ps op pol key n now serial = 0) (hop : op < 5) :
    doS ps room xs op pol key n now serial = match (bS (ps.getD pol.toNat default) (look xs (pol :: key)) op pol key n now serial).2 with
      | none => ((bS (ps.getD pol.toNat default) (look xs (pol :: key)) op pol key n now serial).1, xs)
      | some c => if look xs (pol :: key) = none ∧ (xs.length : Int) = room then (pO 10, xs) else ((bS (ps.getD pol.toNat default) (look xs (pol :: key)) op pol key n now serial).1, c5 xs (a8 xs (aw pol key)) (bP xs (aw pol key)) c) := by
  obtain ⟨hid, _⟩ := rM hE hop
  unfold doS
  rw [if_neg (fun h => h hE), if_neg (by omega), if_neg (by omega), o3 h.srt hid]
  unfold bS
  by_cases h4 : op = 4
  · rw [if_pos h4, if_pos h4]
  · rw [if_neg h4, if_neg h4]
    unfold nE
    have hdz : (decide (op = 1 ∧ n = 0) = true) ↔ (op = 1 ∧ n = 0) := by simp
    generalize bV (ps.getD pol.toNat default) ((look xs (pol :: key)).getD (aw pol key)) op n now serial = q
    by_cases h1 : q.1.g = false ∨ (op = 1 ∧ n = 0)
    · rw [if_pos (h1.imp (fun h => h) hdz.2), if_pos h1]
    · rw [if_neg (fun h => h1 (h.imp (fun h => h) hdz.1)), if_neg h1]
      have hh : bP xs (aw pol key) = false ↔ look xs (pol :: key) = none := by
        have := oR h.srt (t := aw pol key) hid
        rw [this, show idn (aw pol key) = pol :: key from rfl]
        cases look xs (pol :: key) <;> simp
      show _ = if look xs (pol :: key) = none ∧ (xs.length : Int) = room then _ else _
      by_cases h9 : look xs (pol :: key) = none ∧ (xs.length : Int) = room
      · rw [if_pos ⟨hh.2 h9.1, h9.2⟩, if_pos h9]
      · rw [if_neg (fun h => h9 ⟨hh.1 h.1, h.2⟩), if_neg h9]
theorem jx {p : Pol} {o : Option Cel} {c : Cel} (ho : ∀ d, o = some d → idn d = pol :: key) (h : (bS p o op pol key n now serial).2 = some c) : idn c = pol :: key := by
  have hb : idn (o.getD (aw pol key)) = pol :: key := by
    cases o with
    | none => rfl
    | some d => exact ho d rfl
  unfold bS at h
  split at h
  · cases h
  · split at h
    · cases h
    · simp only [Option.some.injEq] at h; rw [← h, one_idn]; exact hb
theorem pp {p : Pol} {o : Option Cel} {c : Cel} (ho : ∀ d, o = some d → d.held.length ≤ 64) (h : (bS p o op pol key n now serial).2 = some c) : c.held.length ≤ 64 := by
  have hb : (o.getD (aw pol key)).held.length ≤ 64 := by
    cases o with
    | none => exact Nat.zero_le _
    | some d => exact ho d rfl
  unfold bS at h
  split at h
  · cases h
  · split at h
    · cases h
    · simp only [Option.some.injEq] at h; rw [← h]; exact rA hb
theorem ok_put (h : gN ps room xs) (hk : IsB key) (hE : bJ ps op pol key n now serial = 0) (hop : op < 5) {c : Cel} (hc : (bS (ps.getD pol.toNat default) (look xs (pol :: key)) op pol key n now serial).2 = some c) (hfull : ¬ (look xs (pol :: key) = none ∧ (xs.length : Int) = room)) :
    gN ps room (c5 xs (a8 xs (aw pol key)) (bP xs (aw pol key)) c) := by
  obtain ⟨hid, hpl⟩ := rM hE hop
  have hidn : idn c = pol :: key := jx (fun d hd => (bu hd).2) hc
  have e1 : c.pol = pol ∧ c.key = key := by simpa [idn] using hidn
  have hheld : c.held.length ≤ 64 := pp (fun d hd => (h.ok.mem (bu hd).1).2.2.1) hc
  have hcid : ma c.pol c.key := by rw [e1.1, e1.2]; exact hid
  obtain ⟨s1, s2, s3⟩ := iK h.srt (t := aw pol key) hcid hidn
  have hlen : ((c5 xs (a8 xs (aw pol key)) (bP xs (aw pol key)) c).length : Int) ≤ room := by
    have hr := h.le
    rw [s3]
    split
    · exact hr
    · rename_i hh
      have h9 : look xs (pol :: key) = none := by
        have := oR h.srt (t := aw pol key) hid
        rw [show idn (aw pol key) = pol :: key from rfl] at this
        cases hl : look xs (pol :: key) with
        | none => rfl
        | some d => rw [this, hl] at hh; simp at hh
      have : ¬ (xs.length : Int) = room := fun e => hfull ⟨h9, e⟩
      push_cast
      omega
  refine ⟨s1, ok_of ⟨?_, fun d hd => ?_⟩, hlen, h.rm, h.pl⟩
  · have := h.rm; omega
  · rcases (s2 d).1 hd with rfl | ⟨hd, _⟩
    · rw [e1.1, e1.2]
      exact ⟨hk, hid.2.2, hheld, hid.1, hpl⟩
    · exact h.ok.mem hd
theorem pc (h : gN ps room xs) (hk : IsB key) : gN ps room (doS ps room xs op pol key n now serial).2 := by
  by_cases hE : bJ ps op pol key n now serial = 0
  · by_cases hop : op < 5
    · rw [ju h hE hop]
      cases hc : (bS (ps.getD pol.toNat default) (look xs (pol :: key)) op pol key n now serial).2 with
      | none => exact h
      | some c =>
        simp only
        split
        · exact h
        · exact ok_put h hk hE hop hc (by assumption)
    · unfold doS
      rw [if_neg (fun h => h hE)]
      have hb := (fx hE).2.2.1
      by_cases h5 : op = 5
      · rw [if_pos h5]
        refine ⟨h.srt.filter _, ok_of ⟨?_, fun d hd => h.ok.mem (List.mem_filter.1 hd).1⟩, ?_, h.rm, h.pl⟩
        · have := List.length_filter_le (fun c => !aQ ps c now) xs
          have := h.len
          simp only [stay]; omega
        · have := List.length_filter_le (fun c => !aQ ps c now) xs
          have := h.le
          simp only [stay]; omega
      · rw [if_neg h5, if_pos (by omega)]; exact h
  · unfold doS; rw [if_pos hE]; exact h
def aT (ps : List Pol) (o : Option Cel) (op pol : Int) (key : List Int) (n now serial : Int) : Rpl × Option Cel :=
  if bJ ps op pol key n now serial ≠ 0 then (pO (bJ ps op pol key n now serial), none) else bS (ps.getD pol.toNat default) o op pol key n now serial
theorem e7 (h : gN ps room xs) (hop : op < 5) (hroom : (xs.length : Int) < room) :
    (doS ps room xs op pol key n now serial).1 = (aT ps (look xs (pol :: key)) op pol key n now serial).1 ∧
    (∀ i, look (doS ps room xs op pol key n now serial).2 i = if i = pol :: key then ((aT ps (look xs (pol :: key)) op pol key n now serial).2.or (look xs i)) else look xs i) ∧
    (doS ps room xs op pol key n now serial).2.length ≤ xs.length + 1 := by
  unfold aT
  by_cases hE : bJ ps op pol key n now serial = 0
  · rw [if_neg (fun h => h hE), ju h hE hop]
    obtain ⟨hid, _⟩ := rM hE hop
    cases hc : (bS (ps.getD pol.toNat default) (look xs (pol :: key)) op pol key n now serial).2 with
    | none => exact ⟨rfl, fun i => by simp, by simp⟩
    | some c =>
      simp only
      rw [if_neg (fun h => by omega)]
      have hidn : idn c = pol :: key := jx (fun d hd => (bu hd).2) hc
      have e1 : c.pol = pol ∧ c.key = key := by simpa [idn] using hidn
      have hcid : ma c.pol c.key := by rw [e1.1, e1.2]; exact hid
      refine ⟨rfl, fun i => ?_, ?_⟩
      · rw [nL h.srt (t := aw pol key) hcid hidn, hidn]
        split <;> simp
      · rw [(iK h.srt (t := aw pol key) hcid hidn).2.2]
        split <;> omega
  · rw [if_pos hE]
    unfold doS
    rw [if_pos hE]
    exact ⟨rfl, fun i => by simp, by simp⟩
theorem rY (hE : bJ ps 5 pol key n now serial = 0) : doS ps room xs 5 pol key n now serial = (⟨0, false, (xs.length : Int) - (stay ps now xs).length, 0, 0, now⟩, stay ps now xs) := by
  unfold doS; rw [if_neg (fun h => h hE), if_pos rfl]
theorem jR (h : Srt xs) (i : List Int) : look (stay ps now xs) i = (look xs i).filter fun c => !aQ ps c now := gD h _ i
end
end
section
section
variable {ps : List Pol} {room : Int} {xs : List Cel} {op pol : Int} {key : List Int} {n now serial : Int}
end
end
section
section
variable {ps : List Pol} {room : Int} {xs ys : List Cel}
def Only (id : List Int) (xs ys : List Cel) : Prop := ∀ i, look ys i = if i = id then look xs i else none
theorem rz {id : List Int} (hy : Srt ys) (h : Only id xs ys) : ys.length ≤ 1 := by
  match ys, hy, h with
  | [], _, _ => simp
  | [_], _, _ => simp
  | a :: b :: r, hy, h =>
    exfalso
    have key : ∀ c ∈ a :: b :: r, idn c = id := fun c hc => by
      have h1 := hy.look_of hc
      rw [h] at h1
      split at h1
      · assumption
      · cases h1
    have h1 := key a (by simp)
    have h2 := key b (by simp)
    have := (List.pairwise_cons.1 hy.lt).1 b (by simp)
    rw [h1, h2, bf] at this
    omega
theorem s8 (h : gN ps room xs) {op pol n now serial : Int} {key : List Int} : (doS ps room xs op pol key n now serial).2.length ≤ xs.length + 1 := by
  by_cases hE : bJ ps op pol key n now serial = 0
  · by_cases hop : op < 5
    · rw [ju h hE hop]
      obtain ⟨hid, _⟩ := rM hE hop
      cases hc : (bS (ps.getD pol.toNat default) (look xs (pol :: key)) op pol key n now serial).2 with
      | none => simp
      | some c =>
        simp only
        split
        · simp
        · exact nM (lg _ _)
    · have hb := (fx hE).2.2.1
      by_cases h5 : op = 5
      · subst h5
        rw [rY hE]
        have := List.length_filter_le (fun c => !aQ ps c now) xs
        simp only [stay]; omega
      · unfold doS; rw [if_neg (fun h => h hE), if_neg h5, if_pos (by omega)]; simp
  · unfold doS; rw [if_pos hE]; simp
end
end
structure HD where
  who : Int
  op : Int
  pol : Int
  key : List Int
  n : Int
  first : Int
  last : Int
  r : Rpl
  deriving Inhabited
@[reducible] def HD.D (d : HD) : List D := [.val (.int .i64 d.who), .val (.int .u8 d.op), .val (.int .i64 d.pol), ak 1 (ar .u8) d.key, .val (.int .i64 d.n), .val (.int .i64 d.first), .val (.int .i64 d.last), .val (.int .i64 d.r.e), .val (.bool d.r.g), .val (.int .i64 d.r.left), .val (.int .i64 d.r.wait), .val (.int .i64 d.r.serial), .val (.int .i64 d.r.now)]
@[reducible] def HD.S (d : HD) : SV := .agg [.i .i64 d.who, .i .u8 d.op, .i .i64 d.pol, .d (ak 1 (ar .u8) d.key), .i .i64 d.n, .i .i64 d.first, .i .i64 d.last, .i .i64 d.r.e, .b d.r.g, .i .i64 d.r.left, .i .i64 d.r.wait, .i .i64 d.r.serial, .i .i64 d.r.now]
namespace Hist
def cp (d : HD) : Bool := if d.op = 1 then d.r.e != 10 else if d.op = 2 then d.r.e != 10 && d.r.e != 5 else d.op == 3 || d.op == 4
def ser (spare : Int) (d : HD) : Int := if d.r.serial = 0 then spare else d.r.serial
def doH (ps : List Pol) (spare : Int) (xs : List Cel) (d : HD) : Rpl × List Cel := doS ps 4096 xs d.op d.pol d.key d.n d.r.now (ser spare d)
def play (ps : List Pol) (spare : Int) (l : List HD) : List Cel := l.foldl (fun xs d => (doH ps spare xs d).2) []
def eqR (a b : Rpl) : Bool := a.e == b.e && (a.g == b.g && (a.left == b.left && (a.wait == b.wait && (a.serial == b.serial && a.now == b.now))))
theorem eqR_iff {a b : Rpl} : eqR a b = true ↔ a = b := by
  obtain ⟨a1, a2, a3, a4, a5, a6⟩ := a
  obtain ⟨b1, b2, b3, b4, b5, b6⟩ := b
  simp [eqR, and_assoc]
def lZ (ps : List Pol) (spare : Int) (done : List HD) (d : HD) : Bool := eqR (doH ps spare (play ps spare done) d).1 d.r
theorem dY (ps : List Pol) (spare : Int) (l : List HD) (d : HD) : play ps spare (l ++ [d]) = (doH ps spare (play ps spare l) d).2 := by
  unfold play; rw [List.foldl_append]; rfl
theorem ov {ps : List Pol} {spare : Int} : ∀ {l : List HD} {xs : List Cel}, gN ps 4096 xs → (∀ d ∈ l, IsB d.key) → gN ps 4096 (l.foldl (fun xs d => (doH ps spare xs d).2) xs)
  | [], _, h, _ => h
  | d :: l, _, h, hk => ov (l := l) (pc h (hk d (List.mem_cons_self ..))) fun e he => hk e (List.mem_cons_of_mem _ he)
theorem i7 {ps : List Pol} (hp : ps.length ≤ 32) {spare : Int} {l : List HD} (h : ∀ d ∈ l, IsB d.key) : gN ps 4096 (play ps spare l) := ov (.nil (by decide) (by decide) hp) h
def mZ (ps : List Pol) (l : List HD) (spare : Int) (left : Nat) (done : List HD) (i : Nat) : Bool := left.testBit i && ((List.range l.length).all fun j => !(left.testBit j && decide ((l.getD j default).last < (l.getD i default).first))) && lZ ps spare done (l.getD i default)
def srch (ps : List Pol) (l : List HD) (spare : Int) : Nat → Nat → List HD → Bool
  | 0, left, _ => left == 0
  | f + 1, left, done => left == 0 || (List.range l.length).any fun i => mZ ps l spare left done i && srch ps l spare f (left - 2 ^ i) (done ++ [l.getD i default])
def popc (left : Nat) : Nat := ((List.range 8).filter left.testBit).length
end Hist
section
open Hist
theorem ls (d : HD) : Pure TC 22 [d.S] (.b (cp d)) := by
  refine Pure.mk' Tryz.func22 rfl rfl (zzb rfl) ?_
  (repeat' (first
    | with_reducible refine Wp.seq ?_
    | with_reducible refine Wp.block ?_
    | ((with_reducible first | refine Wp.region ?_ | refine Wp.drawL ac ?_ | refine Wp.cond ?_ | refine Wp.ret ?_ | refine Wp.skip ?_ | refine Wp.exit ?_ | refine Go.mk ?_ | apply ao.of); conv => whnf)
    | with_reducible exact rfl
    | ((with_reducible refine Ov.ok zO ?_); conv => whnf)
    | (with_reducible refine Ov.sh1 (by with_unfolding_all exact rfl) ?_)
    | ((with_reducible refine Ov.quo (by omega) (by omega) (by omega) (fun _ _ => ?_)); conv => whnf)
    | ((with_reducible refine And.intro (show ah _ _ _ _ = true by kernel_rfl) ?_); conv => whnf)
    | ((with_reducible refine And.intro zC ?_); conv => whnf)
    | ((with_reducible refine And.intro ?hb ?_); (case hb => exact ae (zzb rfl) (by omega)); (conv => whnf))
    | ((refine af.a rfl rfl rfl rfl rfl rfl ?hb ?_); (case hb => exact zB); (conv => whnf))
    | ((refine af.b rfl rfl rfl rfl rfl rfl rfl rfl ?hb ?ho ?_); (case hb => exact zB); (case ho => omega); (conv => whnf))
    | ((refine af.c rfl rfl rfl rfl rfl ?hb ?_); (case hb => exact zB); (conv => whnf))
    | ((refine af.d rfl rfl rfl rfl rfl rfl ?hb ?ho ?_); (case hb => exact zB); (case ho => omega); (conv => whnf))
    | (with_reducible refine Or.inl ?_)
    | ((with_reducible refine IxA.ptr ?_); conv => whnf)
    | ((with_reducible refine nil_no (by omega) ?_); (conv => whnf))
    | ((with_reducible refine ag ?_ (fun hn0 => ?_)) <;> (conv => whnf))
    
    | ((refine ap (fun hc => ?_) (fun hc => ?_)) <;> (try simp only [decide_eq_true_eq, decide_eq_false_iff_not, Q5, Q20, Bool.and_eq_false_iff, Bool.or_eq_false_iff, Bool.not_eq_true', Bool.not_eq_false', beq_iff_eq, bne_iff_ne, ne_eq, beq_eq_false_iff_ne, bne_eq_false_iff_eq, Bool.not_eq_true, Bool.not_eq_false] at hc) <;> (try (exfalso; omega)) <;> (conv => whnf))))
  all_goals exact .b (by unfold cp; simp [*])
namespace Hist
def usedB (l : List HD) (n : Int) : Bool := l.any fun d => d.r.serial == n || d.n == n
def spF (l : List HD) : Nat → Int → Int
  | 0, n => n
  | f + 1, n => if usedB l n = true then spF l f (n - 1) else n
def mu (l : List HD) (n : Int) : Nat := ((l.map (·.r.serial) ++ l.map (·.n)).filter fun u => decide (u ≤ n)).length
theorem iA (p q : Int → Bool) (hpq : ∀ x, q x = true → p x = true) {e : Int} (hp : p e = true) (hq : q e = false) : ∀ (l : List Int), e ∈ l → (l.filter q).length < (l.filter p).length
  | x :: l, he => by
    have hle : (l.filter q).length ≤ (l.filter p).length := by
      clear he
      induction l with
      | nil => exact Q4 _
      | cons y l ih =>
        rw [List.filter_cons, List.filter_cons]
        by_cases h1 : q y = true
        · rw [if_pos h1, if_pos (hpq y h1)]; simpa using ih
        · rw [if_neg h1]; split
          · simp only [List.length_cons]; omega
          · exact ih
    rw [List.filter_cons, List.filter_cons]
    rcases Q22 he with rfl | h
    · rw [if_pos hp, if_neg (by rw [hq]; decide)]; simp only [List.length_cons]; omega
    · have := iA p q hpq hp hq l h
      by_cases h1 : q x = true
      · rw [if_pos h1, if_pos (hpq x h1)]; simp only [List.length_cons]; omega
      · rw [if_neg h1]; split
        · simp only [List.length_cons]; omega
        · exact this
theorem pS {l : List HD} {n : Int} : usedB l n = true ↔ n ∈ l.map (·.r.serial) ++ l.map (·.n) := by
  unfold usedB
  rw [List.any_eq_true, List.mem_append, List.mem_map, List.mem_map]
  constructor
  · rintro ⟨d, hd, h⟩
    rw [Q20, beq_iff_eq, beq_iff_eq] at h
    rcases h with h | h
    · exact .inl ⟨d, hd, h⟩
    · exact .inr ⟨d, hd, h⟩
  · rintro (⟨d, hd, h⟩ | ⟨d, hd, h⟩)
    · exact ⟨d, hd, by simp [h]⟩
    · exact ⟨d, hd, by simp [h]⟩
theorem rF {l : List HD} {n : Int} (h : usedB l n = true) : mu l (n - 1) < mu l n :=
  iA _ _ (fun x hx => by simp at hx ⊢; omega) (by simp) (by simp; omega) _ (pS.1 h)
theorem nX (l : List HD) : ∀ (f : Nat) (n : Int), mu l n ≤ f → spF l f n = spF l (mu l n) n
  | 0, n, h => by have : mu l n = 0 := by omega
                  rw [this]
  | f + 1, n, h => by
    cases hu : usedB l n with
    | false =>
      have e : ∀ g, spF l g n = n := fun g => by cases g with
        | zero => rfl
        | succ g => unfold spF; rw [if_neg (by rw [hu]; decide)]
      rw [e, e]
    | true =>
      have h1 := rF hu
      have h2 := nX l f (n - 1) (by omega)
      obtain ⟨g, hg⟩ : ∃ g, mu l n = g + 1 := ⟨mu l n - 1, by omega⟩
      rw [hg]
      show (if usedB l n = true then spF l f (n - 1) else n) = if usedB l n = true then spF l g (n - 1) else n
      rw [if_pos hu, if_pos hu, h2]
      exact (nX l g (n - 1) (by omega)).symm
theorem lQ {l : List HD} {n : Int} (hu : usedB l n = false) : ∀ g, spF l g n = n
  | 0 => rfl
  | g + 1 => by unfold spF; rw [if_neg (by rw [hu]; decide)]
theorem lR {l : List HD} {n : Int} (hu : usedB l n = true) : spF l (mu l (n - 1)) (n - 1) = spF l (mu l n) n := by
  have h1 := rF hu
  obtain ⟨g, hg⟩ : ∃ g, mu l n = g + 1 := ⟨mu l n - 1, by omega⟩
  rw [hg]
  show _ = if usedB l n = true then spF l g (n - 1) else n
  rw [if_pos hu]
  exact (nX l g (n - 1) (by omega)).symm
def spI (l : List HD) : Int := spF l (mu l 4611686018427387903) 4611686018427387903
theorem mu_le (l : List HD) (n : Int) : mu l n ≤ 2 * l.length := by
  unfold mu
  refine Nat.le_trans (List.length_filter_le _ _) ?_
  rw [Q9, List.length_map, List.length_map]; omega
theorem jK {l : List HD} {i : Nat} (h : i < l.length) (n : Int) : usedB (l.take (i + 1)) n = (usedB (l.take i) n || ((l.getD (i : Int).toNat default).r.serial == n || (l.getD (i : Int).toNat default).n == n)) := by
  unfold usedB
  rw [List.take_succ_eq_append_getElem h, List.any_append, Q13, Q1, Q0 h]
  simp
end Hist
theorem ni (l : List HD) (hl : l.length ≤ 4096) : Pure TC 12 [.d (ak 13 HD.D l)] (.i .i64 (spI l)) := by
  refine Pure.mk' Tryz.func12 rfl rfl (zzb rfl) ?_
  have h0 := mu_le l 4611686018427387903
  (repeat' (first
    | with_reducible refine Wp.seq ?_
    | with_reducible refine Wp.block ?_
    | ((with_reducible first | refine Wp.region ?_ | refine Wp.drawL ac ?_ | refine Wp.cond ?_ | refine Wp.ret ?_ | refine Wp.skip ?_ | refine Wp.exit ?_ | refine Go.mk ?_ | apply ao.of); conv => whnf)
    | with_reducible exact rfl
    | ((with_reducible refine Ov.ok zO ?_); conv => whnf)
    | (with_reducible refine Ov.sh1 (by with_unfolding_all exact rfl) ?_)
    | ((with_reducible refine Ov.quo (by omega) (by omega) (by omega) (fun _ _ => ?_)); conv => whnf)
    | ((with_reducible refine And.intro (show ah _ _ _ _ = true by kernel_rfl) ?_); conv => whnf)
    | ((with_reducible refine And.intro zC ?_); conv => whnf)
    | ((with_reducible refine And.intro ?hb ?_); (case hb => exact ae (zzb rfl) (by omega)); (conv => whnf))
    | ((refine af.a rfl rfl rfl rfl rfl rfl ?hb ?_); (case hb => exact zB); (conv => whnf))
    | ((refine af.b rfl rfl rfl rfl rfl rfl rfl rfl ?hb ?ho ?_); (case hb => exact zB); (case ho => omega); (conv => whnf))
    | ((refine af.c rfl rfl rfl rfl rfl ?hb ?_); (case hb => exact zB); (conv => whnf))
    | ((refine af.d rfl rfl rfl rfl rfl rfl ?hb ?ho ?_); (case hb => exact zB); (case ho => omega); (conv => whnf))
    | (with_reducible refine Or.inl ?_)
    | ((with_reducible refine IxA.ptr ?_); conv => whnf)
    | ((with_reducible refine nil_no (by omega) ?_); (conv => whnf))
    | ((with_reducible refine ag ?_ (fun hn0 => ?_)) <;> (conv => whnf))
    
    | ((refine ap (fun hc => ?_) (fun hc => ?_)) <;> (try simp only [decide_eq_true_eq, decide_eq_false_iff_not, Q5, Q20, Bool.and_eq_false_iff, Bool.or_eq_false_iff, Bool.not_eq_true', Bool.not_eq_false', beq_iff_eq, bne_iff_ne, ne_eq, beq_eq_false_iff_ne, bne_eq_false_iff_eq, Bool.not_eq_true, Bool.not_eq_false] at hc) <;> (try (exfalso; omega)) <;> (conv => whnf))))
  refine Wp.loopP (ι := Int) (fun n => mu l n ≤ 8192 ∧ 4611686018427387903 - 8192 + mu l n ≤ n ∧ n ≤ 4611686018427387903 ∧ spF l (mu l n) n = spI l) (fun n => ⟨⟨Tryz.f12.ntmps, 0⟩, 0, [(0, .d (ak 13 HD.D l)), (3, .i .i64 n)], []⟩) (fun n => mu l n) 4611686018427387903 ⟨by omega, by omega, Int.le_refl _, rfl⟩ ?_ ?_
  · (refine Le.by [] rfl rfl rfl rfl ?_ ?_ <;> (conv => whnf) <;> (repeat' (first | exact trivial | exact aa.rfl rfl | exact aa.ptr rfl | exact aa.sl rfl | ((with_reducible refine aa.fn ?_); (conv => whnf)) | ((refine aa.iref ?_); (conv => whnf)) | exact ⟨rfl, rfl, rfl⟩ | exact fun i hi => rfl | ((with_reducible refine And.intro ?_ ?_) <;> (conv => whnf)))))
  · rintro n ⟨a1, a2, a3, a4⟩
    (repeat' (first
    | with_reducible refine Wp.seq ?_
    | with_reducible refine Wp.block ?_
    | ((with_reducible first | refine Wp.region ?_ | refine Wp.drawL ac ?_ | refine Wp.cond ?_ | refine Wp.ret ?_ | refine Wp.skip ?_ | refine Wp.exit ?_ | refine Go.mk ?_ | apply ao.of); conv => whnf)
    | with_reducible exact rfl
    | ((with_reducible refine Ov.ok zO ?_); conv => whnf)
    | (with_reducible refine Ov.sh1 (by with_unfolding_all exact rfl) ?_)
    | ((with_reducible refine Ov.quo (by omega) (by omega) (by omega) (fun _ _ => ?_)); conv => whnf)
    | ((with_reducible refine And.intro (show ah _ _ _ _ = true by kernel_rfl) ?_); conv => whnf)
    | ((with_reducible refine And.intro zC ?_); conv => whnf)
    | ((with_reducible refine And.intro ?hb ?_); (case hb => exact ae (zzb rfl) (by omega)); (conv => whnf))
    | ((refine af.a rfl rfl rfl rfl rfl rfl ?hb ?_); (case hb => exact zB); (conv => whnf))
    | ((refine af.b rfl rfl rfl rfl rfl rfl rfl rfl ?hb ?ho ?_); (case hb => exact zB); (case ho => omega); (conv => whnf))
    | ((refine af.c rfl rfl rfl rfl rfl ?hb ?_); (case hb => exact zB); (conv => whnf))
    | ((refine af.d rfl rfl rfl rfl rfl rfl ?hb ?ho ?_); (case hb => exact zB); (case ho => omega); (conv => whnf))
    | (with_reducible refine Or.inl ?_)
    | ((with_reducible refine IxA.ptr ?_); conv => whnf)
    | ((with_reducible refine nil_no (by omega) ?_); (conv => whnf))
    | ((with_reducible refine ag ?_ (fun hn0 => ?_)) <;> (conv => whnf))
    
    | ((refine ap (fun hc => ?_) (fun hc => ?_)) <;> (try simp only [decide_eq_true_eq, decide_eq_false_iff_not, Q5, Q20, Bool.and_eq_false_iff, Bool.or_eq_false_iff, Bool.not_eq_true', Bool.not_eq_false', beq_iff_eq, bne_iff_ne, ne_eq, beq_eq_false_iff_ne, bne_eq_false_iff_eq, Bool.not_eq_true, Bool.not_eq_false] at hc) <;> (try (exfalso; omega)) <;> (conv => whnf))))
    refine Wp.loopP (ι := Nat) (fun i => i ≤ l.length) (fun i => ⟨⟨Tryz.f12.ntmps, 0⟩, 0, [(0, .d (ak 13 HD.D l)), (3, .i .i64 n), (4, .b (usedB (l.take i) n)), (9, .d (ak 13 HD.D l)), (10, .i .i64 l.length), (11, .i .i64 i)], []⟩) (fun i => l.length - i) 0 (Nat.zero_le _) ?_ ?_
    · (refine Le.by [] rfl rfl rfl rfl ?_ ?_ <;> (conv => whnf) <;> (repeat' (first | exact trivial | exact aa.rfl rfl | exact aa.ptr rfl | exact aa.sl rfl | ((with_reducible refine aa.fn ?_); (conv => whnf)) | ((refine aa.iref ?_); (conv => whnf)) | exact ⟨rfl, rfl, rfl⟩ | exact fun i hi => rfl | ((with_reducible refine And.intro ?_ ?_) <;> (conv => whnf)))))
    · rintro i h1
      by_cases hi : i < l.length
      · have hu := jK hi n
        (repeat' (first
    | with_reducible refine Wp.seq ?_
    | with_reducible refine Wp.block ?_
    | ((with_reducible first | refine Wp.region ?_ | refine Wp.drawL ac ?_ | refine Wp.cond ?_ | refine Wp.ret ?_ | refine Wp.skip ?_ | refine Wp.exit ?_ | refine Go.mk ?_ | apply ao.of); conv => whnf)
    | with_reducible exact rfl
    | ((with_reducible refine Ov.ok zO ?_); conv => whnf)
    | (with_reducible refine Ov.sh1 (by with_unfolding_all exact rfl) ?_)
    | ((with_reducible refine Ov.quo (by omega) (by omega) (by omega) (fun _ _ => ?_)); conv => whnf)
    | ((with_reducible refine And.intro (show ah _ _ _ _ = true by kernel_rfl) ?_); conv => whnf)
    | ((with_reducible refine And.intro zC ?_); conv => whnf)
    | ((with_reducible refine And.intro ?hb ?_); (case hb => exact ae (zzb rfl) (by omega)); (conv => whnf))
    | ((refine af.a rfl rfl rfl rfl rfl rfl ?hb ?_); (case hb => exact zB); (conv => whnf))
    | ((refine af.b rfl rfl rfl rfl rfl rfl rfl rfl ?hb ?ho ?_); (case hb => exact zB); (case ho => omega); (conv => whnf))
    | ((refine af.c rfl rfl rfl rfl rfl ?hb ?_); (case hb => exact zB); (conv => whnf))
    | ((refine af.d rfl rfl rfl rfl rfl rfl ?hb ?ho ?_); (case hb => exact zB); (case ho => omega); (conv => whnf))
    | (with_reducible refine Or.inl ?_)
    | ((with_reducible refine IxA.ptr ?_); conv => whnf)
    | ((with_reducible refine nil_no (by omega) ?_); (conv => whnf))
    | ((with_reducible refine ag ?_ (fun hn0 => ?_)) <;> (conv => whnf))
    
    | ((refine ap (fun hc => ?_) (fun hc => ?_)) <;> (try simp only [decide_eq_true_eq, decide_eq_false_iff_not, Q5, Q20, Bool.and_eq_false_iff, Bool.or_eq_false_iff, Bool.not_eq_true', Bool.not_eq_false', beq_iff_eq, bne_iff_ne, ne_eq, beq_eq_false_iff_ne, bne_eq_false_iff_eq, Bool.not_eq_true, Bool.not_eq_false] at hc) <;> (try (exfalso; omega)) <;> (conv => whnf))))
        all_goals
          refine ⟨i + 1, by dsimp only; omega, by dsimp only; omega, ?_⟩
          dsimp only
          generalize l.getD (i : Int).toNat default = d at *
          rw [hu]
          (refine Le.by [] rfl rfl rfl rfl ?_ ?_ <;> (conv => whnf) <;> (repeat' (first | exact trivial | exact aa.rfl rfl | exact aa.ptr rfl | exact aa.sl rfl | ((with_reducible refine aa.fn ?_); (conv => whnf)) | ((refine aa.iref ?_); (conv => whnf)) | exact ⟨rfl, rfl, rfl⟩ | exact fun i hi => rfl | ((with_reducible refine And.intro ?_ ?_) <;> (conv => whnf)))))
          all_goals exact aa.free (.b (by simp [*])) rfl
      · obtain rfl : i = l.length := by omega
        rw [List.take_length]
        (repeat' (first
    | with_reducible refine Wp.seq ?_
    | with_reducible refine Wp.block ?_
    | ((with_reducible first | refine Wp.region ?_ | refine Wp.drawL ac ?_ | refine Wp.cond ?_ | refine Wp.ret ?_ | refine Wp.skip ?_ | refine Wp.exit ?_ | refine Go.mk ?_ | apply ao.of); conv => whnf)
    | with_reducible exact rfl
    | ((with_reducible refine Ov.ok zO ?_); conv => whnf)
    | (with_reducible refine Ov.sh1 (by with_unfolding_all exact rfl) ?_)
    | ((with_reducible refine Ov.quo (by omega) (by omega) (by omega) (fun _ _ => ?_)); conv => whnf)
    | ((with_reducible refine And.intro (show ah _ _ _ _ = true by kernel_rfl) ?_); conv => whnf)
    | ((with_reducible refine And.intro zC ?_); conv => whnf)
    | ((with_reducible refine And.intro ?hb ?_); (case hb => exact ae (zzb rfl) (by omega)); (conv => whnf))
    | ((refine af.a rfl rfl rfl rfl rfl rfl ?hb ?_); (case hb => exact zB); (conv => whnf))
    | ((refine af.b rfl rfl rfl rfl rfl rfl rfl rfl ?hb ?ho ?_); (case hb => exact zB); (case ho => omega); (conv => whnf))
    | ((refine af.c rfl rfl rfl rfl rfl ?hb ?_); (case hb => exact zB); (conv => whnf))
    | ((refine af.d rfl rfl rfl rfl rfl rfl ?hb ?ho ?_); (case hb => exact zB); (case ho => omega); (conv => whnf))
    | (with_reducible refine Or.inl ?_)
    | ((with_reducible refine IxA.ptr ?_); conv => whnf)
    | ((with_reducible refine nil_no (by omega) ?_); (conv => whnf))
    | ((with_reducible refine ag ?_ (fun hn0 => ?_)) <;> (conv => whnf))
    
    | ((refine ap (fun hc => ?_) (fun hc => ?_)) <;> (try simp only [decide_eq_true_eq, decide_eq_false_iff_not, Q5, Q20, Bool.and_eq_false_iff, Bool.or_eq_false_iff, Bool.not_eq_true', Bool.not_eq_false', beq_iff_eq, bne_iff_ne, ne_eq, beq_eq_false_iff_ne, bne_eq_false_iff_eq, Bool.not_eq_true, Bool.not_eq_false] at hc) <;> (try (exfalso; omega)) <;> (conv => whnf))))
        · exact .i (by rw [← a4, lQ hc])
        · have h9 := rF hc
          exact ⟨n - 1, ⟨by omega, by omega, by omega, (lR hc).trans a4⟩, h9, by (refine Le.by [] rfl rfl rfl rfl ?_ ?_ <;> (conv => whnf) <;> (repeat' (first | exact trivial | exact aa.rfl rfl | exact aa.ptr rfl | exact aa.sl rfl | ((with_reducible refine aa.fn ?_); (conv => whnf)) | ((refine aa.iref ?_); (conv => whnf)) | exact ⟨rfl, rfl, rfl⟩ | exact fun i hi => rfl | ((with_reducible refine And.intro ?_ ?_) <;> (conv => whnf)))))⟩
end
theorem bN {α : Type} [Inhabited α] (D : α → List D) (z : Nat) (zs : List α) (d : α) (c : Nat → List Go.Proofs.YtlplngmpggkloaaGreat.D) (hc : c 0 = D d) : ∀ k, k < zs.length + 1 → cq zs.length (fun i => D (zs.getD i default)) c k = D ((zs ++ [d]).getD k default) := fun k hk => by
  simp only [cq]
  by_cases e : k < zs.length
  · rw [if_pos e, Q1, Q1, Q11 e]
  · rw [if_neg e]
    obtain rfl : k = zs.length := by omega
    have : (zs ++ [d]).getD zs.length default = d := by simp
    rw [Nat.sub_self, this, hc]
end Go.Proofs.YtlplngmpggkloaaGreat
