/- Parts of the proof, one behind the other: Bk16, Bk17, Br1. Lemmas and contracts of functions; no condition of its own. -/
import Derived.Test.YtkdolemhhihidaaM9
import Derived.Deep.Slices
import Derived.ReadAgain
import Derived.ChangeSame
import Derived.ProofKit
import Derived.OpenShut
set_option linter.unusedVariables false
set_option linter.unusedSimpArgs false
namespace Go.Proofs.Ytkdolemhhihidaa
open Go.RowKit
set_option maxRecDepth 100000

def errR (e : Int) : Rpl := ⟨e, false, 0, 0, 0, 0⟩
def oneR (p : Pol) (c : Cel) (op n now serial : Int) : Rpl × Cel := if op = 1 then (allowR p c now n, allowC p c now n) else if op = 2 then (acqR p c serial, acqC p c serial) else (relR p c n, relC p c n)
def putS (room : Int) (xs : List Cel) (pol : Int) (key : List Int) (z : Bool) (q : Rpl × Cel) : Rpl × List Cel :=
  if q.1.g = false ∨ z = true then (q.1, xs) else if hasC xs (newC pol key) = false ∧ (xs.length : Int) = room then (errR 10, xs)
  else (q.1, withC xs (posC xs (newC pol key)) (hasC xs (newC pol key)) q.2)
/-- a call of a book: its reply, and the cells behind it -/
def doS (ps : List Pol) (room : Int) (xs : List Cel) (op pol : Int) (key : List Int) (n now serial : Int) : Rpl × List Cel :=
  if bchkE ps op pol key n now serial ≠ 0 then (errR (bchkE ps op pol key n now serial), xs)
  else if op = 5 then (⟨0, false, (xs.length : Int) - (stay ps now xs).length, 0, 0, now⟩, stay ps now xs)
  else if op = 6 then (errR 0, xs)
  else if op = 4 then (peekR (ps.getD pol.toNat default) (findC xs pol key) now, xs)
  else putS room xs pol key (decide (op = 1 ∧ n = 0)) (oneR (ps.getD pol.toNat default) (findC xs pol key) op n now serial)
structure BookOK (ps : List Pol) (xs : List Cel) : Prop where
  len : xs.length ≤ 1000000
  byt : ∀ k, IsB (xs.getD k default).key
  key : ∀ k, (xs.getD k default).key.length ≤ 255
  held : ∀ k, (xs.getD k default).held.length ≤ 64
  pol : ∀ k, k < xs.length → 0 ≤ (xs.getD k default).pol ∧ (xs.getD k default).pol < ps.length
theorem bchk_0 {ps : List Pol} {op pol : Int} {key : List Int} {n now serial : Int} (h : bchkE ps op pol key n now serial = 0) : (0 ≤ now ∧ now ≤ 4611686018427387903) ∧ 1 ≤ op ∧ op ≤ 6 ∧ polsE ps = 0 ∧ (op < 5 → key.length ≤ 255 ∧ 0 ≤ pol ∧ pol < ps.length) ∧ (op = 1 → 0 ≤ n ∧ n ≤ 4611686018427387903) ∧ (op = 2 → 1 ≤ serial ∧ serial ≤ 4611686018427387903) ∧
    (kindE op ≠ 0 → (ps.getD pol.toNat default).kind = kindE op) := by
  unfold bchkE at h
  split at h
  · omega
  · rename_i h0
    unfold chkE at h
    split at h
    · omega
    · rename_i h1
      split at h
      · omega
      · rename_i h2
        split at h
        · exact absurd h (by assumption)
        · rename_i h3
          split at h
          · omega
          · rename_i h4
            have t0 : tickB now = true := by cases h : tickB now with | true => rfl | false => exact absurd (Or.inl h) h0
            have t1 := (tickB_iff now).1 t0
            have h3 : polsE ps = 0 := Classical.byContradiction h3
            refine ⟨t1, by omega, by omega, h3, fun h => by omega, fun h => ?_, fun h => by omega, fun h => ?_⟩
            · refine (tickB_iff n).1 ?_
              cases hq : tickB n with | true => rfl | false => exact absurd (Or.inr (Or.inr ⟨h, hq⟩)) h1
            · refine Classical.byContradiction fun hne => h4 ⟨?_, Or.inr (Or.inr ⟨h, hne⟩)⟩
              unfold kindE at h
              split at h
              · omega
              · split at h <;> omega
theorem pols_form {ps : List Pol} (h : polsE ps = 0) : ∀ k, k < ps.length → formB (ps.getD k default).kind (ps.getD k default).T (ps.getD k default).tau (ps.getD k default).permits = true := by
  intro k hk
  unfold polsE at h
  split at h
  · omega
  · split at h
    · rename_i h2
      rw [List.all_eq_true] at h2
      refine h2 _ ?_
      rw [List.getD_eq_getElem?_getD, List.getElem?_eq_getElem hk]; exact List.getElem_mem hk
    · omega
theorem putS_no {room : Int} {xs : List Cel} {pol : Int} {key : List Int} {z : Bool} {q : Rpl × Cel} (h : q.1.g = false ∨ z = true) : putS room xs pol key z q = (q.1, xs) := by rw [putS, if_pos h]
theorem putS_full {room : Int} {xs : List Cel} {pol : Int} {key : List Int} {z : Bool} {q : Rpl × Cel} (h : q.1.g = true) (hz : z = false) (h2 : hasC xs (newC pol key) = false) (h3 : (xs.length : Int) = room) : putS room xs pol key z q = (errR 10, xs) := by
  rw [putS, if_neg (by rw [h, hz]; simp), if_pos ⟨h2, h3⟩]
theorem putS_ok {room : Int} {xs : List Cel} {pol : Int} {key : List Int} {z : Bool} {q : Rpl × Cel} (h : q.1.g = true) (hz : z = false) (h2 : ¬ (hasC xs (newC pol key) = false ∧ (xs.length : Int) = room)) : putS room xs pol key z q = (q.1, withC xs (posC xs (newC pol key)) (hasC xs (newC pol key)) q.2) := by
  rw [putS, if_neg (by rw [h, hz]; simp), if_neg h2]
theorem oneR_1 {p : Pol} {c : Cel} {op n now serial : Int} (h : op = 1) : oneR p c op n now serial = (allowR p c now n, allowC p c now n) := by rw [oneR, if_pos h]
theorem oneR_2 {p : Pol} {c : Cel} {op n now serial : Int} (h : op = 2) : oneR p c op n now serial = (acqR p c serial, acqC p c serial) := by rw [oneR, if_neg (by omega), if_pos h]
theorem oneR_3 {p : Pol} {c : Cel} {op n now serial : Int} (h : op = 3) : oneR p c op n now serial = (relR p c n, relC p c n) := by rw [oneR, if_neg (by omega), if_neg (by omega)]
theorem acqC_key {p : Pol} {c : Cel} {n : Int} : (acqC p c n).key = c.key := by unfold acqC; split <;> rfl
theorem relC_key {p : Pol} {c : Cel} {n : Int} : (relC p c n).key = c.key := by unfold relC; split <;> rfl
theorem withC_len {xs : List Cel} {p : Nat} {t : Bool} {c : Cel} (h : p ≤ xs.length) : (withC xs p t c).length ≤ xs.length + 1 := by
  unfold withC; split
  · simp
  · rw [insAt_length _ _ _ h]; omega
set_option maxHeartbeats 8000000 in
theorem book_Do (ps : List Pol) (room : Int) (xs : List Cel) (op pol : Int) (key : List Int) (n now serial : Int) (hb : BookOK ps xs) (hk : IsB key) :
    Fun TC 18 2 [.ptr 0 0, .agg [.i .u8 op, .i .i64 pol, .d (slOf 1 (encI .u8) key), .i .i64 n], .i .i64 now, .i .i64 serial] (bookH ps room xs) 3 (doS ps room xs op pol key n now serial).1.S
      [(0, some (.cells [.d (slOf 4 Pol.D ps), .i .i64 room, .sl 2 4 0 (doS ps room xs op pol key n now serial).2.length])), (1, none), (2, some (rowOf 73 4 Cel.D (doS ps room xs op pol key n now serial).2))] := by
  have hlen := hb.len
  have hpos := posC_le xs (newC pol key)
  by_cases hE : bchkE ps op pol key n now serial = 0
  · obtain ⟨hnow, hop1, hop2, hps, hkey, hn, hser, hkind⟩ := bchk_0 hE
    have hpl := polsE_len hps
    have hperm : op < 5 → (ps.getD pol.toNat default).kind = 2 → -4611686018427387904 ≤ (ps.getD pol.toNat default).permits ∧ (ps.getD pol.toNat default).permits ≤ 4611686018427387903 := fun h1 h2 => by
      have := pols_form hps pol.toNat (by have := hkey h1; omega)
      unfold formB at this
      rw [if_neg (by omega), if_pos h2] at this
      simp only [Bool.and_eq_true, decide_eq_true_eq] at this
      omega
    have hheld : (findC xs pol key).held.length ≤ 64 := by
      unfold findC
      split
      · exact hb.held _
      · simp [newC]
    have hD : doS ps room xs op pol key n now serial = if op = 5 then (⟨0, false, (xs.length : Int) - (stay ps now xs).length, 0, 0, now⟩, stay ps now xs)
      else if op = 6 then (errR 0, xs)
      else if op = 4 then (peekR (ps.getD pol.toNat default) (findC xs pol key) now, xs)
      else putS room xs pol key (decide (op = 1 ∧ n = 0)) (oneR (ps.getD pol.toNat default) (findC xs pol key) op n now serial) := by
      unfold doS; rw [if_neg (fun h => h hE)]
    have hst : (stay ps now xs).length ≤ xs.length := List.length_filter_le _ _
    rw [hD]
    clear hD
    have hposl : hasC xs (newC pol key) = true → posC xs (newC pol key) < xs.length := fun h => ((hasC_t _ _).1 h).1
    have hkk : op < 5 → (findC xs pol key).key.length ≤ 16777216 := fun h => by
      unfold findC
      split
      · have := hb.key (posC xs (newC pol key)); omega
      · have := (hkey h).1; simp only [newC]; omega
    refine Fun.mk' Try.func18 rfl rfl (Nat.le_of_ble_eq_true rfl) (by decide) ?_
    (repeat' (first
    | with_reducible refine Wp.seq ?_
    | with_reducible refine Wp.block ?_
    | ((with_reducible refine Wp.region ?_); conv => whnf)
    | ((with_reducible refine Wp.drawL TC_mixed ?_); conv => whnf)
    | ((with_reducible refine Wp.cond ?_); conv => whnf)
    | ((with_reducible refine Wp.ret ?_); conv => whnf)
    | ((with_reducible refine Wp.skip ?_); conv => whnf)
    | ((with_reducible refine Wp.exit ?_); conv => whnf)
    | ((with_reducible refine Go.mk ?_); conv => whnf)
    | ((with_reducible apply Eff1.of); conv => whnf)
    | with_reducible exact rfl
    | ((with_reducible refine Ov.ok (by first | exact IntWalk.i64_in _ (by omega) | exact IntWalk.u64_in _ (by omega) | exact IntWalk.u8_in _ (by omega) | exact IntWalk.u32_in _ (by omega) | exact IntWalk.i32_in _ (by omega) | exact IntWalk.u16_in _ (by omega)) ?_); conv => whnf)
    | (with_reducible refine Ov.sh1 (by with_unfolding_all exact rfl) ?_)
    | ((with_reducible refine Ov.quo (by omega) (by omega) (by omega) (fun _ _ => ?_)); conv => whnf)
    | ((with_reducible refine And.intro (show drawOK _ _ _ _ = true by kernel_rfl) ?_); conv => whnf)
    | ((with_reducible refine And.intro (by first | omega | exact Nat.le_of_ble_eq_true rfl) ?_); conv => whnf)
    | ((with_reducible refine And.intro ?hb ?_); (case hb => exact bytes_bd (Nat.le_of_ble_eq_true rfl) (by omega)); (conv => whnf))
    | ((refine DApp.a rfl rfl rfl rfl rfl rfl ?hb ?_); (case hb => first | exact bytes_bd (Nat.le_of_ble_eq_true rfl) (by omega) | omega); (conv => whnf))
    | ((refine DApp.b rfl rfl rfl rfl rfl rfl rfl rfl ?hb ?ho ?_); (case hb => first | exact bytes_bd (Nat.le_of_ble_eq_true rfl) (by omega) | omega); (case ho => omega); (conv => whnf))
    | ((refine DApp.c rfl rfl rfl rfl rfl ?hb ?_); (case hb => first | exact bytes_bd (Nat.le_of_ble_eq_true rfl) (by omega) | omega); (conv => whnf))
    | ((refine DApp.d rfl rfl rfl rfl rfl rfl ?hb ?ho ?_); (case hb => first | exact bytes_bd (Nat.le_of_ble_eq_true rfl) (by omega) | omega); (case ho => omega); (conv => whnf))
    | ((with_reducible refine nil_no (by omega) ?_); (conv => whnf))
    | ((with_reducible refine nil_any ?_ (fun hn0 => ?_)) <;> (conv => whnf))
    | ((refine CallStop.fn (book_check ps room xs op pol key n now serial) [0,1] rfl rfl rfl rfl rfl ?ha ?hh ?_); (case ha => ((conv => whnf); repeat' (first | exact trivial | exact ArgLe.rfl rfl | exact ArgLe.ptr rfl | exact ArgLe.sl rfl | ((with_reducible refine ArgLe.fn ?_); (conv => whnf)) | exact ArgLe.free SV.Le.nil rfl | ((with_reducible refine And.intro ?_ ?_) <;> (conv => whnf)) | ((refine ArgLe.free ?_ rfl); (repeat' (first | exact SV.Le.rfl _ | exact SV.Le.nil | exact SV.Le.sl (fun i hi => by (rcases i with _ | _ | _ | _ | i) <;> first | rfl | (exfalso; omega)) | with_reducible refine SV.Le.agg ?_ | exact Les.nil | with_reducible refine Les.cons ?_ ?_)))))); (case hh => ((conv => whnf); repeat' (first | exact trivial | exact ArgLe.rfl rfl | exact ArgLe.ptr rfl | exact ArgLe.sl rfl | ((with_reducible refine ArgLe.fn ?_); (conv => whnf)) | exact ArgLe.free SV.Le.nil rfl | exact ⟨rfl, rfl, rfl⟩ | exact fun i hi => rfl | exact (fun i hi => by (rcases i with _ | i) <;> first | rfl | (exfalso; omega)) | ((with_reducible refine And.intro ?_ ?_) <;> (conv => whnf))))); (conv => whnf))
    | ((refine DCall.fn (book_check ps room xs op pol key n now serial) [0,1] [0,1] rfl rfl rfl rfl rfl ?ha ?hh ?hs ?_); (case ha => ((conv => whnf); repeat' (first | exact trivial | exact ArgLe.rfl rfl | exact ArgLe.ptr rfl | exact ArgLe.sl rfl | ((with_reducible refine ArgLe.fn ?_); (conv => whnf)) | exact ArgLe.free SV.Le.nil rfl | ((with_reducible refine And.intro ?_ ?_) <;> (conv => whnf)) | ((refine ArgLe.free ?_ rfl); (repeat' (first | exact SV.Le.rfl _ | exact SV.Le.nil | exact SV.Le.sl (fun i hi => by (rcases i with _ | _ | _ | _ | i) <;> first | rfl | (exfalso; omega)) | with_reducible refine SV.Le.agg ?_ | exact Les.nil | with_reducible refine Les.cons ?_ ?_)))))); (case hh => ((conv => whnf); repeat' (first | exact trivial | exact ArgLe.rfl rfl | exact ArgLe.ptr rfl | exact ArgLe.sl rfl | ((with_reducible refine ArgLe.fn ?_); (conv => whnf)) | exact ArgLe.free SV.Le.nil rfl | exact ⟨rfl, rfl, rfl⟩ | exact fun i hi => rfl | exact (fun i hi => by (rcases i with _ | i) <;> first | rfl | (exfalso; omega)) | ((with_reducible refine And.intro ?_ ?_) <;> (conv => whnf))))); (case hs => (conv => whnf); repeat' (first | exact trivial | ((refine And.intro rfl ?_); (conv => whnf)))); (conv => whnf)) | ((refine DCall.new (book_check ps room xs op pol key n now serial) [0,1] [0,1] rfl rfl rfl rfl rfl rfl ?ha ?hh ?hs ?_); (case ha => ((conv => whnf); repeat' (first | exact trivial | exact ArgLe.rfl rfl | exact ArgLe.ptr rfl | exact ArgLe.sl rfl | ((with_reducible refine ArgLe.fn ?_); (conv => whnf)) | exact ArgLe.free SV.Le.nil rfl | ((with_reducible refine And.intro ?_ ?_) <;> (conv => whnf)) | ((refine ArgLe.free ?_ rfl); (repeat' (first | exact SV.Le.rfl _ | exact SV.Le.nil | exact SV.Le.sl (fun i hi => by (rcases i with _ | _ | _ | _ | i) <;> first | rfl | (exfalso; omega)) | with_reducible refine SV.Le.agg ?_ | exact Les.nil | with_reducible refine Les.cons ?_ ?_)))))); (case hh => ((conv => whnf); repeat' (first | exact trivial | exact ArgLe.rfl rfl | exact ArgLe.ptr rfl | exact ArgLe.sl rfl | ((with_reducible refine ArgLe.fn ?_); (conv => whnf)) | exact ArgLe.free SV.Le.nil rfl | exact ⟨rfl, rfl, rfl⟩ | exact fun i hi => rfl | exact (fun i hi => by (rcases i with _ | i) <;> first | rfl | (exfalso; omega)) | ((with_reducible refine And.intro ?_ ?_) <;> (conv => whnf))))); (case hs => (conv => whnf); repeat' (first | exact trivial | ((refine And.intro rfl ?_); (conv => whnf)))); (conv => whnf))
    | ((refine DCall.fn (book_check ps room xs op pol key n now serial) [0,1] [] rfl rfl rfl rfl rfl ?ha ?hh ?hs ?_); (case ha => ((conv => whnf); repeat' (first | exact trivial | exact ArgLe.rfl rfl | exact ArgLe.ptr rfl | exact ArgLe.sl rfl | ((with_reducible refine ArgLe.fn ?_); (conv => whnf)) | exact ArgLe.free SV.Le.nil rfl | ((with_reducible refine And.intro ?_ ?_) <;> (conv => whnf)) | ((refine ArgLe.free ?_ rfl); (repeat' (first | exact SV.Le.rfl _ | exact SV.Le.nil | exact SV.Le.sl (fun i hi => by (rcases i with _ | _ | _ | _ | i) <;> first | rfl | (exfalso; omega)) | with_reducible refine SV.Le.agg ?_ | exact Les.nil | with_reducible refine Les.cons ?_ ?_)))))); (case hh => ((conv => whnf); repeat' (first | exact trivial | exact ArgLe.rfl rfl | exact ArgLe.ptr rfl | exact ArgLe.sl rfl | ((with_reducible refine ArgLe.fn ?_); (conv => whnf)) | exact ArgLe.free SV.Le.nil rfl | exact ⟨rfl, rfl, rfl⟩ | exact fun i hi => rfl | exact (fun i hi => by (rcases i with _ | i) <;> first | rfl | (exfalso; omega)) | ((with_reducible refine And.intro ?_ ?_) <;> (conv => whnf))))); (case hs => (conv => whnf); repeat' (first | exact trivial | ((refine And.intro rfl ?_); (conv => whnf)))); (conv => whnf)) | ((refine DCall.new (book_check ps room xs op pol key n now serial) [0,1] [] rfl rfl rfl rfl rfl rfl ?ha ?hh ?hs ?_); (case ha => ((conv => whnf); repeat' (first | exact trivial | exact ArgLe.rfl rfl | exact ArgLe.ptr rfl | exact ArgLe.sl rfl | ((with_reducible refine ArgLe.fn ?_); (conv => whnf)) | exact ArgLe.free SV.Le.nil rfl | ((with_reducible refine And.intro ?_ ?_) <;> (conv => whnf)) | ((refine ArgLe.free ?_ rfl); (repeat' (first | exact SV.Le.rfl _ | exact SV.Le.nil | exact SV.Le.sl (fun i hi => by (rcases i with _ | _ | _ | _ | i) <;> first | rfl | (exfalso; omega)) | with_reducible refine SV.Le.agg ?_ | exact Les.nil | with_reducible refine Les.cons ?_ ?_)))))); (case hh => ((conv => whnf); repeat' (first | exact trivial | exact ArgLe.rfl rfl | exact ArgLe.ptr rfl | exact ArgLe.sl rfl | ((with_reducible refine ArgLe.fn ?_); (conv => whnf)) | exact ArgLe.free SV.Le.nil rfl | exact ⟨rfl, rfl, rfl⟩ | exact fun i hi => rfl | exact (fun i hi => by (rcases i with _ | i) <;> first | rfl | (exfalso; omega)) | ((with_reducible refine And.intro ?_ ?_) <;> (conv => whnf))))); (case hs => (conv => whnf); repeat' (first | exact trivial | ((refine And.intro rfl ?_); (conv => whnf)))); (conv => whnf))
    | ((refine CallStop.fn (DeleteFunc_cel ps room now xs hb.pol (by omega)) [1,0,2,4] rfl rfl rfl rfl rfl ?ha ?hh ?_); (case ha => ((conv => whnf); repeat' (first | exact trivial | exact ArgLe.rfl rfl | exact ArgLe.ptr rfl | exact ArgLe.sl rfl | ((with_reducible refine ArgLe.fn ?_); (conv => whnf)) | exact ArgLe.free SV.Le.nil rfl | ((with_reducible refine And.intro ?_ ?_) <;> (conv => whnf)) | ((refine ArgLe.free ?_ rfl); (repeat' (first | exact SV.Le.rfl _ | exact SV.Le.nil | exact SV.Le.sl (fun i hi => by (rcases i with _ | _ | _ | _ | i) <;> first | rfl | (exfalso; omega)) | with_reducible refine SV.Le.agg ?_ | exact Les.nil | with_reducible refine Les.cons ?_ ?_)))))); (case hh => ((conv => whnf); repeat' (first | exact trivial | exact ArgLe.rfl rfl | exact ArgLe.ptr rfl | exact ArgLe.sl rfl | ((with_reducible refine ArgLe.fn ?_); (conv => whnf)) | exact ArgLe.free SV.Le.nil rfl | exact ⟨rfl, rfl, rfl⟩ | exact fun i hi => rfl | exact (fun i hi => by (rcases i with _ | i) <;> first | rfl | (exfalso; omega)) | ((with_reducible refine And.intro ?_ ?_) <;> (conv => whnf))))); (conv => whnf))
    | ((refine DCall.fn (DeleteFunc_cel ps room now xs hb.pol (by omega)) [1,0,2,4] [0,2,4] rfl rfl rfl rfl rfl ?ha ?hh ?hs ?_); (case ha => ((conv => whnf); repeat' (first | exact trivial | exact ArgLe.rfl rfl | exact ArgLe.ptr rfl | exact ArgLe.sl rfl | ((with_reducible refine ArgLe.fn ?_); (conv => whnf)) | exact ArgLe.free SV.Le.nil rfl | ((with_reducible refine And.intro ?_ ?_) <;> (conv => whnf)) | ((refine ArgLe.free ?_ rfl); (repeat' (first | exact SV.Le.rfl _ | exact SV.Le.nil | exact SV.Le.sl (fun i hi => by (rcases i with _ | _ | _ | _ | i) <;> first | rfl | (exfalso; omega)) | with_reducible refine SV.Le.agg ?_ | exact Les.nil | with_reducible refine Les.cons ?_ ?_)))))); (case hh => ((conv => whnf); repeat' (first | exact trivial | exact ArgLe.rfl rfl | exact ArgLe.ptr rfl | exact ArgLe.sl rfl | ((with_reducible refine ArgLe.fn ?_); (conv => whnf)) | exact ArgLe.free SV.Le.nil rfl | exact ⟨rfl, rfl, rfl⟩ | exact fun i hi => rfl | exact (fun i hi => by (rcases i with _ | i) <;> first | rfl | (exfalso; omega)) | ((with_reducible refine And.intro ?_ ?_) <;> (conv => whnf))))); (case hs => (conv => whnf); repeat' (first | exact trivial | ((refine And.intro rfl ?_); (conv => whnf)))); (conv => whnf)) | ((refine DCall.new (DeleteFunc_cel ps room now xs hb.pol (by omega)) [1,0,2,4] [0,2,4] rfl rfl rfl rfl rfl rfl ?ha ?hh ?hs ?_); (case ha => ((conv => whnf); repeat' (first | exact trivial | exact ArgLe.rfl rfl | exact ArgLe.ptr rfl | exact ArgLe.sl rfl | ((with_reducible refine ArgLe.fn ?_); (conv => whnf)) | exact ArgLe.free SV.Le.nil rfl | ((with_reducible refine And.intro ?_ ?_) <;> (conv => whnf)) | ((refine ArgLe.free ?_ rfl); (repeat' (first | exact SV.Le.rfl _ | exact SV.Le.nil | exact SV.Le.sl (fun i hi => by (rcases i with _ | _ | _ | _ | i) <;> first | rfl | (exfalso; omega)) | with_reducible refine SV.Le.agg ?_ | exact Les.nil | with_reducible refine Les.cons ?_ ?_)))))); (case hh => ((conv => whnf); repeat' (first | exact trivial | exact ArgLe.rfl rfl | exact ArgLe.ptr rfl | exact ArgLe.sl rfl | ((with_reducible refine ArgLe.fn ?_); (conv => whnf)) | exact ArgLe.free SV.Le.nil rfl | exact ⟨rfl, rfl, rfl⟩ | exact fun i hi => rfl | exact (fun i hi => by (rcases i with _ | i) <;> first | rfl | (exfalso; omega)) | ((with_reducible refine And.intro ?_ ?_) <;> (conv => whnf))))); (case hs => (conv => whnf); repeat' (first | exact trivial | ((refine And.intro rfl ?_); (conv => whnf)))); (conv => whnf))
    | ((refine CallStop.fn (book_Find xs pol key (by omega) hb.byt hk) [1] rfl rfl rfl rfl rfl ?ha ?hh ?_); (case ha => ((conv => whnf); repeat' (first | exact trivial | exact ArgLe.rfl rfl | exact ArgLe.ptr rfl | exact ArgLe.sl rfl | ((with_reducible refine ArgLe.fn ?_); (conv => whnf)) | exact ArgLe.free SV.Le.nil rfl | ((with_reducible refine And.intro ?_ ?_) <;> (conv => whnf)) | ((refine ArgLe.free ?_ rfl); (repeat' (first | exact SV.Le.rfl _ | exact SV.Le.nil | exact SV.Le.sl (fun i hi => by (rcases i with _ | _ | _ | _ | i) <;> first | rfl | (exfalso; omega)) | with_reducible refine SV.Le.agg ?_ | exact Les.nil | with_reducible refine Les.cons ?_ ?_)))))); (case hh => ((conv => whnf); repeat' (first | exact trivial | exact ArgLe.rfl rfl | exact ArgLe.ptr rfl | exact ArgLe.sl rfl | ((with_reducible refine ArgLe.fn ?_); (conv => whnf)) | exact ArgLe.free SV.Le.nil rfl | exact ⟨rfl, rfl, rfl⟩ | exact fun i hi => rfl | exact (fun i hi => by (rcases i with _ | i) <;> first | rfl | (exfalso; omega)) | ((with_reducible refine And.intro ?_ ?_) <;> (conv => whnf))))); (conv => whnf))
    | ((refine DCall.fn (book_Find xs pol key (by omega) hb.byt hk) [1] [1] rfl rfl rfl rfl rfl ?ha ?hh ?hs ?_); (case ha => ((conv => whnf); repeat' (first | exact trivial | exact ArgLe.rfl rfl | exact ArgLe.ptr rfl | exact ArgLe.sl rfl | ((with_reducible refine ArgLe.fn ?_); (conv => whnf)) | exact ArgLe.free SV.Le.nil rfl | ((with_reducible refine And.intro ?_ ?_) <;> (conv => whnf)) | ((refine ArgLe.free ?_ rfl); (repeat' (first | exact SV.Le.rfl _ | exact SV.Le.nil | exact SV.Le.sl (fun i hi => by (rcases i with _ | _ | _ | _ | i) <;> first | rfl | (exfalso; omega)) | with_reducible refine SV.Le.agg ?_ | exact Les.nil | with_reducible refine Les.cons ?_ ?_)))))); (case hh => ((conv => whnf); repeat' (first | exact trivial | exact ArgLe.rfl rfl | exact ArgLe.ptr rfl | exact ArgLe.sl rfl | ((with_reducible refine ArgLe.fn ?_); (conv => whnf)) | exact ArgLe.free SV.Le.nil rfl | exact ⟨rfl, rfl, rfl⟩ | exact fun i hi => rfl | exact (fun i hi => by (rcases i with _ | i) <;> first | rfl | (exfalso; omega)) | ((with_reducible refine And.intro ?_ ?_) <;> (conv => whnf))))); (case hs => (conv => whnf); repeat' (first | exact trivial | ((refine And.intro rfl ?_); (conv => whnf)))); (conv => whnf)) | ((refine DCall.new (book_Find xs pol key (by omega) hb.byt hk) [1] [1] rfl rfl rfl rfl rfl rfl ?ha ?hh ?hs ?_); (case ha => ((conv => whnf); repeat' (first | exact trivial | exact ArgLe.rfl rfl | exact ArgLe.ptr rfl | exact ArgLe.sl rfl | ((with_reducible refine ArgLe.fn ?_); (conv => whnf)) | exact ArgLe.free SV.Le.nil rfl | ((with_reducible refine And.intro ?_ ?_) <;> (conv => whnf)) | ((refine ArgLe.free ?_ rfl); (repeat' (first | exact SV.Le.rfl _ | exact SV.Le.nil | exact SV.Le.sl (fun i hi => by (rcases i with _ | _ | _ | _ | i) <;> first | rfl | (exfalso; omega)) | with_reducible refine SV.Le.agg ?_ | exact Les.nil | with_reducible refine Les.cons ?_ ?_)))))); (case hh => ((conv => whnf); repeat' (first | exact trivial | exact ArgLe.rfl rfl | exact ArgLe.ptr rfl | exact ArgLe.sl rfl | ((with_reducible refine ArgLe.fn ?_); (conv => whnf)) | exact ArgLe.free SV.Le.nil rfl | exact ⟨rfl, rfl, rfl⟩ | exact fun i hi => rfl | exact (fun i hi => by (rcases i with _ | i) <;> first | rfl | (exfalso; omega)) | ((with_reducible refine And.intro ?_ ?_) <;> (conv => whnf))))); (case hs => (conv => whnf); repeat' (first | exact trivial | ((refine And.intro rfl ?_); (conv => whnf)))); (conv => whnf))
    | ((refine DCall.fn (book_Find xs pol key (by omega) hb.byt hk) [1] [] rfl rfl rfl rfl rfl ?ha ?hh ?hs ?_); (case ha => ((conv => whnf); repeat' (first | exact trivial | exact ArgLe.rfl rfl | exact ArgLe.ptr rfl | exact ArgLe.sl rfl | ((with_reducible refine ArgLe.fn ?_); (conv => whnf)) | exact ArgLe.free SV.Le.nil rfl | ((with_reducible refine And.intro ?_ ?_) <;> (conv => whnf)) | ((refine ArgLe.free ?_ rfl); (repeat' (first | exact SV.Le.rfl _ | exact SV.Le.nil | exact SV.Le.sl (fun i hi => by (rcases i with _ | _ | _ | _ | i) <;> first | rfl | (exfalso; omega)) | with_reducible refine SV.Le.agg ?_ | exact Les.nil | with_reducible refine Les.cons ?_ ?_)))))); (case hh => ((conv => whnf); repeat' (first | exact trivial | exact ArgLe.rfl rfl | exact ArgLe.ptr rfl | exact ArgLe.sl rfl | ((with_reducible refine ArgLe.fn ?_); (conv => whnf)) | exact ArgLe.free SV.Le.nil rfl | exact ⟨rfl, rfl, rfl⟩ | exact fun i hi => rfl | exact (fun i hi => by (rcases i with _ | i) <;> first | rfl | (exfalso; omega)) | ((with_reducible refine And.intro ?_ ?_) <;> (conv => whnf))))); (case hs => (conv => whnf); repeat' (first | exact trivial | ((refine And.intro rfl ?_); (conv => whnf)))); (conv => whnf)) | ((refine DCall.new (book_Find xs pol key (by omega) hb.byt hk) [1] [] rfl rfl rfl rfl rfl rfl ?ha ?hh ?hs ?_); (case ha => ((conv => whnf); repeat' (first | exact trivial | exact ArgLe.rfl rfl | exact ArgLe.ptr rfl | exact ArgLe.sl rfl | ((with_reducible refine ArgLe.fn ?_); (conv => whnf)) | exact ArgLe.free SV.Le.nil rfl | ((with_reducible refine And.intro ?_ ?_) <;> (conv => whnf)) | ((refine ArgLe.free ?_ rfl); (repeat' (first | exact SV.Le.rfl _ | exact SV.Le.nil | exact SV.Le.sl (fun i hi => by (rcases i with _ | _ | _ | _ | i) <;> first | rfl | (exfalso; omega)) | with_reducible refine SV.Le.agg ?_ | exact Les.nil | with_reducible refine Les.cons ?_ ?_)))))); (case hh => ((conv => whnf); repeat' (first | exact trivial | exact ArgLe.rfl rfl | exact ArgLe.ptr rfl | exact ArgLe.sl rfl | ((with_reducible refine ArgLe.fn ?_); (conv => whnf)) | exact ArgLe.free SV.Le.nil rfl | exact ⟨rfl, rfl, rfl⟩ | exact fun i hi => rfl | exact (fun i hi => by (rcases i with _ | i) <;> first | rfl | (exfalso; omega)) | ((with_reducible refine And.intro ?_ ?_) <;> (conv => whnf))))); (case hs => (conv => whnf); repeat' (first | exact trivial | ((refine And.intro rfl ?_); (conv => whnf)))); (conv => whnf))
    | ((with_reducible refine CallStop.pure (book_Peek _ _ _ (hperm (by omega)) (by omega)) rfl rfl ?_); conv => whnf) | ((with_reducible refine DCall.pure (book_Peek _ _ _ (hperm (by omega)) (by omega)) rfl rfl ?_); conv => whnf)
    | ((with_reducible refine CallStop.pure (book_Allow _ _ _ _) rfl rfl ?_); conv => whnf) | ((with_reducible refine DCall.pure (book_Allow _ _ _ _) rfl rfl ?_); conv => whnf)
    | ((with_reducible refine CallStop.pure (book_Acquire _ _ _) rfl rfl ?_); conv => whnf) | ((with_reducible refine DCall.pure (book_Acquire _ _ _) rfl rfl ?_); conv => whnf)
    | ((with_reducible refine CallStop.pure (book_Release _ _ _) rfl rfl ?_); conv => whnf) | ((with_reducible refine DCall.pure (book_Release _ _ _) rfl rfl ?_); conv => whnf)
    | ((refine CallStop.fn (book_With xs (posC xs (newC pol key)) (hasC xs (newC pol key)) (allowC (ps.getD pol.toNat default) (findC xs pol key) now n) (by omega) (hkk (by omega)) hpos hposl) [1] rfl rfl rfl rfl rfl ?ha ?hh ?_); (case ha => ((conv => whnf); repeat' (first | exact trivial | exact ArgLe.rfl rfl | exact ArgLe.ptr rfl | exact ArgLe.sl rfl | ((with_reducible refine ArgLe.fn ?_); (conv => whnf)) | exact ArgLe.free SV.Le.nil rfl | ((with_reducible refine And.intro ?_ ?_) <;> (conv => whnf)) | ((refine ArgLe.free ?_ rfl); (repeat' (first | exact SV.Le.rfl _ | exact SV.Le.nil | exact SV.Le.sl (fun i hi => by (rcases i with _ | _ | _ | _ | i) <;> first | rfl | (exfalso; omega)) | with_reducible refine SV.Le.agg ?_ | exact Les.nil | with_reducible refine Les.cons ?_ ?_)))))); (case hh => ((conv => whnf); repeat' (first | exact trivial | exact ArgLe.rfl rfl | exact ArgLe.ptr rfl | exact ArgLe.sl rfl | ((with_reducible refine ArgLe.fn ?_); (conv => whnf)) | exact ArgLe.free SV.Le.nil rfl | exact ⟨rfl, rfl, rfl⟩ | exact fun i hi => rfl | exact (fun i hi => by (rcases i with _ | i) <;> first | rfl | (exfalso; omega)) | ((with_reducible refine And.intro ?_ ?_) <;> (conv => whnf))))); (conv => whnf))
    | ((refine DCall.fn (book_With xs (posC xs (newC pol key)) (hasC xs (newC pol key)) (allowC (ps.getD pol.toNat default) (findC xs pol key) now n) (by omega) (hkk (by omega)) hpos hposl) [1] [1] rfl rfl rfl rfl rfl ?ha ?hh ?hs ?_); (case ha => ((conv => whnf); repeat' (first | exact trivial | exact ArgLe.rfl rfl | exact ArgLe.ptr rfl | exact ArgLe.sl rfl | ((with_reducible refine ArgLe.fn ?_); (conv => whnf)) | exact ArgLe.free SV.Le.nil rfl | ((with_reducible refine And.intro ?_ ?_) <;> (conv => whnf)) | ((refine ArgLe.free ?_ rfl); (repeat' (first | exact SV.Le.rfl _ | exact SV.Le.nil | exact SV.Le.sl (fun i hi => by (rcases i with _ | _ | _ | _ | i) <;> first | rfl | (exfalso; omega)) | with_reducible refine SV.Le.agg ?_ | exact Les.nil | with_reducible refine Les.cons ?_ ?_)))))); (case hh => ((conv => whnf); repeat' (first | exact trivial | exact ArgLe.rfl rfl | exact ArgLe.ptr rfl | exact ArgLe.sl rfl | ((with_reducible refine ArgLe.fn ?_); (conv => whnf)) | exact ArgLe.free SV.Le.nil rfl | exact ⟨rfl, rfl, rfl⟩ | exact fun i hi => rfl | exact (fun i hi => by (rcases i with _ | i) <;> first | rfl | (exfalso; omega)) | ((with_reducible refine And.intro ?_ ?_) <;> (conv => whnf))))); (case hs => (conv => whnf); repeat' (first | exact trivial | ((refine And.intro rfl ?_); (conv => whnf)))); (conv => whnf)) | ((refine DCall.new (book_With xs (posC xs (newC pol key)) (hasC xs (newC pol key)) (allowC (ps.getD pol.toNat default) (findC xs pol key) now n) (by omega) (hkk (by omega)) hpos hposl) [1] [1] rfl rfl rfl rfl rfl rfl ?ha ?hh ?hs ?_); (case ha => ((conv => whnf); repeat' (first | exact trivial | exact ArgLe.rfl rfl | exact ArgLe.ptr rfl | exact ArgLe.sl rfl | ((with_reducible refine ArgLe.fn ?_); (conv => whnf)) | exact ArgLe.free SV.Le.nil rfl | ((with_reducible refine And.intro ?_ ?_) <;> (conv => whnf)) | ((refine ArgLe.free ?_ rfl); (repeat' (first | exact SV.Le.rfl _ | exact SV.Le.nil | exact SV.Le.sl (fun i hi => by (rcases i with _ | _ | _ | _ | i) <;> first | rfl | (exfalso; omega)) | with_reducible refine SV.Le.agg ?_ | exact Les.nil | with_reducible refine Les.cons ?_ ?_)))))); (case hh => ((conv => whnf); repeat' (first | exact trivial | exact ArgLe.rfl rfl | exact ArgLe.ptr rfl | exact ArgLe.sl rfl | ((with_reducible refine ArgLe.fn ?_); (conv => whnf)) | exact ArgLe.free SV.Le.nil rfl | exact ⟨rfl, rfl, rfl⟩ | exact fun i hi => rfl | exact (fun i hi => by (rcases i with _ | i) <;> first | rfl | (exfalso; omega)) | ((with_reducible refine And.intro ?_ ?_) <;> (conv => whnf))))); (case hs => (conv => whnf); repeat' (first | exact trivial | ((refine And.intro rfl ?_); (conv => whnf)))); (conv => whnf))
    | ((refine DCall.fn (book_With xs (posC xs (newC pol key)) (hasC xs (newC pol key)) (allowC (ps.getD pol.toNat default) (findC xs pol key) now n) (by omega) (hkk (by omega)) hpos hposl) [1] [] rfl rfl rfl rfl rfl ?ha ?hh ?hs ?_); (case ha => ((conv => whnf); repeat' (first | exact trivial | exact ArgLe.rfl rfl | exact ArgLe.ptr rfl | exact ArgLe.sl rfl | ((with_reducible refine ArgLe.fn ?_); (conv => whnf)) | exact ArgLe.free SV.Le.nil rfl | ((with_reducible refine And.intro ?_ ?_) <;> (conv => whnf)) | ((refine ArgLe.free ?_ rfl); (repeat' (first | exact SV.Le.rfl _ | exact SV.Le.nil | exact SV.Le.sl (fun i hi => by (rcases i with _ | _ | _ | _ | i) <;> first | rfl | (exfalso; omega)) | with_reducible refine SV.Le.agg ?_ | exact Les.nil | with_reducible refine Les.cons ?_ ?_)))))); (case hh => ((conv => whnf); repeat' (first | exact trivial | exact ArgLe.rfl rfl | exact ArgLe.ptr rfl | exact ArgLe.sl rfl | ((with_reducible refine ArgLe.fn ?_); (conv => whnf)) | exact ArgLe.free SV.Le.nil rfl | exact ⟨rfl, rfl, rfl⟩ | exact fun i hi => rfl | exact (fun i hi => by (rcases i with _ | i) <;> first | rfl | (exfalso; omega)) | ((with_reducible refine And.intro ?_ ?_) <;> (conv => whnf))))); (case hs => (conv => whnf); repeat' (first | exact trivial | ((refine And.intro rfl ?_); (conv => whnf)))); (conv => whnf)) | ((refine DCall.new (book_With xs (posC xs (newC pol key)) (hasC xs (newC pol key)) (allowC (ps.getD pol.toNat default) (findC xs pol key) now n) (by omega) (hkk (by omega)) hpos hposl) [1] [] rfl rfl rfl rfl rfl rfl ?ha ?hh ?hs ?_); (case ha => ((conv => whnf); repeat' (first | exact trivial | exact ArgLe.rfl rfl | exact ArgLe.ptr rfl | exact ArgLe.sl rfl | ((with_reducible refine ArgLe.fn ?_); (conv => whnf)) | exact ArgLe.free SV.Le.nil rfl | ((with_reducible refine And.intro ?_ ?_) <;> (conv => whnf)) | ((refine ArgLe.free ?_ rfl); (repeat' (first | exact SV.Le.rfl _ | exact SV.Le.nil | exact SV.Le.sl (fun i hi => by (rcases i with _ | _ | _ | _ | i) <;> first | rfl | (exfalso; omega)) | with_reducible refine SV.Le.agg ?_ | exact Les.nil | with_reducible refine Les.cons ?_ ?_)))))); (case hh => ((conv => whnf); repeat' (first | exact trivial | exact ArgLe.rfl rfl | exact ArgLe.ptr rfl | exact ArgLe.sl rfl | ((with_reducible refine ArgLe.fn ?_); (conv => whnf)) | exact ArgLe.free SV.Le.nil rfl | exact ⟨rfl, rfl, rfl⟩ | exact fun i hi => rfl | exact (fun i hi => by (rcases i with _ | i) <;> first | rfl | (exfalso; omega)) | ((with_reducible refine And.intro ?_ ?_) <;> (conv => whnf))))); (case hs => (conv => whnf); repeat' (first | exact trivial | ((refine And.intro rfl ?_); (conv => whnf)))); (conv => whnf))
    | ((refine CallStop.fn (book_With xs (posC xs (newC pol key)) (hasC xs (newC pol key)) (acqC (ps.getD pol.toNat default) (findC xs pol key) serial) (by omega) (by rw [acqC_key]; exact hkk (by omega)) hpos hposl) [1] rfl rfl rfl rfl rfl ?ha ?hh ?_); (case ha => ((conv => whnf); repeat' (first | exact trivial | exact ArgLe.rfl rfl | exact ArgLe.ptr rfl | exact ArgLe.sl rfl | ((with_reducible refine ArgLe.fn ?_); (conv => whnf)) | exact ArgLe.free SV.Le.nil rfl | ((with_reducible refine And.intro ?_ ?_) <;> (conv => whnf)) | ((refine ArgLe.free ?_ rfl); (repeat' (first | exact SV.Le.rfl _ | exact SV.Le.nil | exact SV.Le.sl (fun i hi => by (rcases i with _ | _ | _ | _ | i) <;> first | rfl | (exfalso; omega)) | with_reducible refine SV.Le.agg ?_ | exact Les.nil | with_reducible refine Les.cons ?_ ?_)))))); (case hh => ((conv => whnf); repeat' (first | exact trivial | exact ArgLe.rfl rfl | exact ArgLe.ptr rfl | exact ArgLe.sl rfl | ((with_reducible refine ArgLe.fn ?_); (conv => whnf)) | exact ArgLe.free SV.Le.nil rfl | exact ⟨rfl, rfl, rfl⟩ | exact fun i hi => rfl | exact (fun i hi => by (rcases i with _ | i) <;> first | rfl | (exfalso; omega)) | ((with_reducible refine And.intro ?_ ?_) <;> (conv => whnf))))); (conv => whnf))
    | ((refine DCall.fn (book_With xs (posC xs (newC pol key)) (hasC xs (newC pol key)) (acqC (ps.getD pol.toNat default) (findC xs pol key) serial) (by omega) (by rw [acqC_key]; exact hkk (by omega)) hpos hposl) [1] [1] rfl rfl rfl rfl rfl ?ha ?hh ?hs ?_); (case ha => ((conv => whnf); repeat' (first | exact trivial | exact ArgLe.rfl rfl | exact ArgLe.ptr rfl | exact ArgLe.sl rfl | ((with_reducible refine ArgLe.fn ?_); (conv => whnf)) | exact ArgLe.free SV.Le.nil rfl | ((with_reducible refine And.intro ?_ ?_) <;> (conv => whnf)) | ((refine ArgLe.free ?_ rfl); (repeat' (first | exact SV.Le.rfl _ | exact SV.Le.nil | exact SV.Le.sl (fun i hi => by (rcases i with _ | _ | _ | _ | i) <;> first | rfl | (exfalso; omega)) | with_reducible refine SV.Le.agg ?_ | exact Les.nil | with_reducible refine Les.cons ?_ ?_)))))); (case hh => ((conv => whnf); repeat' (first | exact trivial | exact ArgLe.rfl rfl | exact ArgLe.ptr rfl | exact ArgLe.sl rfl | ((with_reducible refine ArgLe.fn ?_); (conv => whnf)) | exact ArgLe.free SV.Le.nil rfl | exact ⟨rfl, rfl, rfl⟩ | exact fun i hi => rfl | exact (fun i hi => by (rcases i with _ | i) <;> first | rfl | (exfalso; omega)) | ((with_reducible refine And.intro ?_ ?_) <;> (conv => whnf))))); (case hs => (conv => whnf); repeat' (first | exact trivial | ((refine And.intro rfl ?_); (conv => whnf)))); (conv => whnf)) | ((refine DCall.new (book_With xs (posC xs (newC pol key)) (hasC xs (newC pol key)) (acqC (ps.getD pol.toNat default) (findC xs pol key) serial) (by omega) (by rw [acqC_key]; exact hkk (by omega)) hpos hposl) [1] [1] rfl rfl rfl rfl rfl rfl ?ha ?hh ?hs ?_); (case ha => ((conv => whnf); repeat' (first | exact trivial | exact ArgLe.rfl rfl | exact ArgLe.ptr rfl | exact ArgLe.sl rfl | ((with_reducible refine ArgLe.fn ?_); (conv => whnf)) | exact ArgLe.free SV.Le.nil rfl | ((with_reducible refine And.intro ?_ ?_) <;> (conv => whnf)) | ((refine ArgLe.free ?_ rfl); (repeat' (first | exact SV.Le.rfl _ | exact SV.Le.nil | exact SV.Le.sl (fun i hi => by (rcases i with _ | _ | _ | _ | i) <;> first | rfl | (exfalso; omega)) | with_reducible refine SV.Le.agg ?_ | exact Les.nil | with_reducible refine Les.cons ?_ ?_)))))); (case hh => ((conv => whnf); repeat' (first | exact trivial | exact ArgLe.rfl rfl | exact ArgLe.ptr rfl | exact ArgLe.sl rfl | ((with_reducible refine ArgLe.fn ?_); (conv => whnf)) | exact ArgLe.free SV.Le.nil rfl | exact ⟨rfl, rfl, rfl⟩ | exact fun i hi => rfl | exact (fun i hi => by (rcases i with _ | i) <;> first | rfl | (exfalso; omega)) | ((with_reducible refine And.intro ?_ ?_) <;> (conv => whnf))))); (case hs => (conv => whnf); repeat' (first | exact trivial | ((refine And.intro rfl ?_); (conv => whnf)))); (conv => whnf))
    | ((refine DCall.fn (book_With xs (posC xs (newC pol key)) (hasC xs (newC pol key)) (acqC (ps.getD pol.toNat default) (findC xs pol key) serial) (by omega) (by rw [acqC_key]; exact hkk (by omega)) hpos hposl) [1] [] rfl rfl rfl rfl rfl ?ha ?hh ?hs ?_); (case ha => ((conv => whnf); repeat' (first | exact trivial | exact ArgLe.rfl rfl | exact ArgLe.ptr rfl | exact ArgLe.sl rfl | ((with_reducible refine ArgLe.fn ?_); (conv => whnf)) | exact ArgLe.free SV.Le.nil rfl | ((with_reducible refine And.intro ?_ ?_) <;> (conv => whnf)) | ((refine ArgLe.free ?_ rfl); (repeat' (first | exact SV.Le.rfl _ | exact SV.Le.nil | exact SV.Le.sl (fun i hi => by (rcases i with _ | _ | _ | _ | i) <;> first | rfl | (exfalso; omega)) | with_reducible refine SV.Le.agg ?_ | exact Les.nil | with_reducible refine Les.cons ?_ ?_)))))); (case hh => ((conv => whnf); repeat' (first | exact trivial | exact ArgLe.rfl rfl | exact ArgLe.ptr rfl | exact ArgLe.sl rfl | ((with_reducible refine ArgLe.fn ?_); (conv => whnf)) | exact ArgLe.free SV.Le.nil rfl | exact ⟨rfl, rfl, rfl⟩ | exact fun i hi => rfl | exact (fun i hi => by (rcases i with _ | i) <;> first | rfl | (exfalso; omega)) | ((with_reducible refine And.intro ?_ ?_) <;> (conv => whnf))))); (case hs => (conv => whnf); repeat' (first | exact trivial | ((refine And.intro rfl ?_); (conv => whnf)))); (conv => whnf)) | ((refine DCall.new (book_With xs (posC xs (newC pol key)) (hasC xs (newC pol key)) (acqC (ps.getD pol.toNat default) (findC xs pol key) serial) (by omega) (by rw [acqC_key]; exact hkk (by omega)) hpos hposl) [1] [] rfl rfl rfl rfl rfl rfl ?ha ?hh ?hs ?_); (case ha => ((conv => whnf); repeat' (first | exact trivial | exact ArgLe.rfl rfl | exact ArgLe.ptr rfl | exact ArgLe.sl rfl | ((with_reducible refine ArgLe.fn ?_); (conv => whnf)) | exact ArgLe.free SV.Le.nil rfl | ((with_reducible refine And.intro ?_ ?_) <;> (conv => whnf)) | ((refine ArgLe.free ?_ rfl); (repeat' (first | exact SV.Le.rfl _ | exact SV.Le.nil | exact SV.Le.sl (fun i hi => by (rcases i with _ | _ | _ | _ | i) <;> first | rfl | (exfalso; omega)) | with_reducible refine SV.Le.agg ?_ | exact Les.nil | with_reducible refine Les.cons ?_ ?_)))))); (case hh => ((conv => whnf); repeat' (first | exact trivial | exact ArgLe.rfl rfl | exact ArgLe.ptr rfl | exact ArgLe.sl rfl | ((with_reducible refine ArgLe.fn ?_); (conv => whnf)) | exact ArgLe.free SV.Le.nil rfl | exact ⟨rfl, rfl, rfl⟩ | exact fun i hi => rfl | exact (fun i hi => by (rcases i with _ | i) <;> first | rfl | (exfalso; omega)) | ((with_reducible refine And.intro ?_ ?_) <;> (conv => whnf))))); (case hs => (conv => whnf); repeat' (first | exact trivial | ((refine And.intro rfl ?_); (conv => whnf)))); (conv => whnf))
    | ((refine CallStop.fn (book_With xs (posC xs (newC pol key)) (hasC xs (newC pol key)) (relC (ps.getD pol.toNat default) (findC xs pol key) n) (by omega) (by rw [relC_key]; exact hkk (by omega)) hpos hposl) [1] rfl rfl rfl rfl rfl ?ha ?hh ?_); (case ha => ((conv => whnf); repeat' (first | exact trivial | exact ArgLe.rfl rfl | exact ArgLe.ptr rfl | exact ArgLe.sl rfl | ((with_reducible refine ArgLe.fn ?_); (conv => whnf)) | exact ArgLe.free SV.Le.nil rfl | ((with_reducible refine And.intro ?_ ?_) <;> (conv => whnf)) | ((refine ArgLe.free ?_ rfl); (repeat' (first | exact SV.Le.rfl _ | exact SV.Le.nil | exact SV.Le.sl (fun i hi => by (rcases i with _ | _ | _ | _ | i) <;> first | rfl | (exfalso; omega)) | with_reducible refine SV.Le.agg ?_ | exact Les.nil | with_reducible refine Les.cons ?_ ?_)))))); (case hh => ((conv => whnf); repeat' (first | exact trivial | exact ArgLe.rfl rfl | exact ArgLe.ptr rfl | exact ArgLe.sl rfl | ((with_reducible refine ArgLe.fn ?_); (conv => whnf)) | exact ArgLe.free SV.Le.nil rfl | exact ⟨rfl, rfl, rfl⟩ | exact fun i hi => rfl | exact (fun i hi => by (rcases i with _ | i) <;> first | rfl | (exfalso; omega)) | ((with_reducible refine And.intro ?_ ?_) <;> (conv => whnf))))); (conv => whnf))
    | ((refine DCall.fn (book_With xs (posC xs (newC pol key)) (hasC xs (newC pol key)) (relC (ps.getD pol.toNat default) (findC xs pol key) n) (by omega) (by rw [relC_key]; exact hkk (by omega)) hpos hposl) [1] [1] rfl rfl rfl rfl rfl ?ha ?hh ?hs ?_); (case ha => ((conv => whnf); repeat' (first | exact trivial | exact ArgLe.rfl rfl | exact ArgLe.ptr rfl | exact ArgLe.sl rfl | ((with_reducible refine ArgLe.fn ?_); (conv => whnf)) | exact ArgLe.free SV.Le.nil rfl | ((with_reducible refine And.intro ?_ ?_) <;> (conv => whnf)) | ((refine ArgLe.free ?_ rfl); (repeat' (first | exact SV.Le.rfl _ | exact SV.Le.nil | exact SV.Le.sl (fun i hi => by (rcases i with _ | _ | _ | _ | i) <;> first | rfl | (exfalso; omega)) | with_reducible refine SV.Le.agg ?_ | exact Les.nil | with_reducible refine Les.cons ?_ ?_)))))); (case hh => ((conv => whnf); repeat' (first | exact trivial | exact ArgLe.rfl rfl | exact ArgLe.ptr rfl | exact ArgLe.sl rfl | ((with_reducible refine ArgLe.fn ?_); (conv => whnf)) | exact ArgLe.free SV.Le.nil rfl | exact ⟨rfl, rfl, rfl⟩ | exact fun i hi => rfl | exact (fun i hi => by (rcases i with _ | i) <;> first | rfl | (exfalso; omega)) | ((with_reducible refine And.intro ?_ ?_) <;> (conv => whnf))))); (case hs => (conv => whnf); repeat' (first | exact trivial | ((refine And.intro rfl ?_); (conv => whnf)))); (conv => whnf)) | ((refine DCall.new (book_With xs (posC xs (newC pol key)) (hasC xs (newC pol key)) (relC (ps.getD pol.toNat default) (findC xs pol key) n) (by omega) (by rw [relC_key]; exact hkk (by omega)) hpos hposl) [1] [1] rfl rfl rfl rfl rfl rfl ?ha ?hh ?hs ?_); (case ha => ((conv => whnf); repeat' (first | exact trivial | exact ArgLe.rfl rfl | exact ArgLe.ptr rfl | exact ArgLe.sl rfl | ((with_reducible refine ArgLe.fn ?_); (conv => whnf)) | exact ArgLe.free SV.Le.nil rfl | ((with_reducible refine And.intro ?_ ?_) <;> (conv => whnf)) | ((refine ArgLe.free ?_ rfl); (repeat' (first | exact SV.Le.rfl _ | exact SV.Le.nil | exact SV.Le.sl (fun i hi => by (rcases i with _ | _ | _ | _ | i) <;> first | rfl | (exfalso; omega)) | with_reducible refine SV.Le.agg ?_ | exact Les.nil | with_reducible refine Les.cons ?_ ?_)))))); (case hh => ((conv => whnf); repeat' (first | exact trivial | exact ArgLe.rfl rfl | exact ArgLe.ptr rfl | exact ArgLe.sl rfl | ((with_reducible refine ArgLe.fn ?_); (conv => whnf)) | exact ArgLe.free SV.Le.nil rfl | exact ⟨rfl, rfl, rfl⟩ | exact fun i hi => rfl | exact (fun i hi => by (rcases i with _ | i) <;> first | rfl | (exfalso; omega)) | ((with_reducible refine And.intro ?_ ?_) <;> (conv => whnf))))); (case hs => (conv => whnf); repeat' (first | exact trivial | ((refine And.intro rfl ?_); (conv => whnf)))); (conv => whnf))
    | ((refine DCall.fn (book_With xs (posC xs (newC pol key)) (hasC xs (newC pol key)) (relC (ps.getD pol.toNat default) (findC xs pol key) n) (by omega) (by rw [relC_key]; exact hkk (by omega)) hpos hposl) [1] [] rfl rfl rfl rfl rfl ?ha ?hh ?hs ?_); (case ha => ((conv => whnf); repeat' (first | exact trivial | exact ArgLe.rfl rfl | exact ArgLe.ptr rfl | exact ArgLe.sl rfl | ((with_reducible refine ArgLe.fn ?_); (conv => whnf)) | exact ArgLe.free SV.Le.nil rfl | ((with_reducible refine And.intro ?_ ?_) <;> (conv => whnf)) | ((refine ArgLe.free ?_ rfl); (repeat' (first | exact SV.Le.rfl _ | exact SV.Le.nil | exact SV.Le.sl (fun i hi => by (rcases i with _ | _ | _ | _ | i) <;> first | rfl | (exfalso; omega)) | with_reducible refine SV.Le.agg ?_ | exact Les.nil | with_reducible refine Les.cons ?_ ?_)))))); (case hh => ((conv => whnf); repeat' (first | exact trivial | exact ArgLe.rfl rfl | exact ArgLe.ptr rfl | exact ArgLe.sl rfl | ((with_reducible refine ArgLe.fn ?_); (conv => whnf)) | exact ArgLe.free SV.Le.nil rfl | exact ⟨rfl, rfl, rfl⟩ | exact fun i hi => rfl | exact (fun i hi => by (rcases i with _ | i) <;> first | rfl | (exfalso; omega)) | ((with_reducible refine And.intro ?_ ?_) <;> (conv => whnf))))); (case hs => (conv => whnf); repeat' (first | exact trivial | ((refine And.intro rfl ?_); (conv => whnf)))); (conv => whnf)) | ((refine DCall.new (book_With xs (posC xs (newC pol key)) (hasC xs (newC pol key)) (relC (ps.getD pol.toNat default) (findC xs pol key) n) (by omega) (by rw [relC_key]; exact hkk (by omega)) hpos hposl) [1] [] rfl rfl rfl rfl rfl rfl ?ha ?hh ?hs ?_); (case ha => ((conv => whnf); repeat' (first | exact trivial | exact ArgLe.rfl rfl | exact ArgLe.ptr rfl | exact ArgLe.sl rfl | ((with_reducible refine ArgLe.fn ?_); (conv => whnf)) | exact ArgLe.free SV.Le.nil rfl | ((with_reducible refine And.intro ?_ ?_) <;> (conv => whnf)) | ((refine ArgLe.free ?_ rfl); (repeat' (first | exact SV.Le.rfl _ | exact SV.Le.nil | exact SV.Le.sl (fun i hi => by (rcases i with _ | _ | _ | _ | i) <;> first | rfl | (exfalso; omega)) | with_reducible refine SV.Le.agg ?_ | exact Les.nil | with_reducible refine Les.cons ?_ ?_)))))); (case hh => ((conv => whnf); repeat' (first | exact trivial | exact ArgLe.rfl rfl | exact ArgLe.ptr rfl | exact ArgLe.sl rfl | ((with_reducible refine ArgLe.fn ?_); (conv => whnf)) | exact ArgLe.free SV.Le.nil rfl | exact ⟨rfl, rfl, rfl⟩ | exact fun i hi => rfl | exact (fun i hi => by (rcases i with _ | i) <;> first | rfl | (exfalso; omega)) | ((with_reducible refine And.intro ?_ ?_) <;> (conv => whnf))))); (case hs => (conv => whnf); repeat' (first | exact trivial | ((refine And.intro rfl ?_); (conv => whnf)))); (conv => whnf))
    | ((refine ways (fun hc => ?_) (fun hc => ?_)) <;> (try simp only [decide_eq_true_eq, decide_eq_false_iff_not, Bool.and_eq_true, Bool.or_eq_true, Bool.and_eq_false_iff, Bool.or_eq_false_iff, Bool.not_eq_true', Bool.not_eq_false', beq_iff_eq, bne_iff_ne, ne_eq, beq_eq_false_iff_ne, bne_eq_false_iff_eq, Bool.not_eq_true, Bool.not_eq_false] at hc) <;> (try (exfalso; omega)) <;> (conv => whnf))))
    · rw [if_pos (by assumption)]
      refine FinLe.mv2 rfl rfl ?_ ?_
      · conv => whnf
        exact .rfl _
      · ((conv => whnf); repeat' (first | exact trivial | exact SV.Le.rfl _ | exact ⟨rfl, rfl, rfl⟩ | exact fun i hi => rfl | ((with_reducible refine And.intro ?_ ?_) <;> (conv => whnf))))
    · rw [if_neg (by omega), if_pos (by assumption)]
      refine FinLe.mv2 rfl rfl ?_ ?_
      · conv => whnf
        exact .rfl _
      · ((conv => whnf); repeat' (first | exact trivial | exact SV.Le.rfl _ | exact ⟨rfl, rfl, rfl⟩ | exact fun i hi => rfl | ((with_reducible refine And.intro ?_ ?_) <;> (conv => whnf))))
    · rw [if_neg (by omega), if_neg (by omega), if_pos (by assumption)]
      refine FinLe.mv2 rfl rfl ?_ ?_
      · conv => whnf
        exact .rfl _
      · ((conv => whnf); repeat' (first | exact trivial | exact SV.Le.rfl _ | exact ⟨rfl, rfl, rfl⟩ | exact fun i hi => rfl | ((with_reducible refine And.intro ?_ ?_) <;> (conv => whnf))))
    · rw [if_neg (by omega), if_neg (by omega), if_neg (by omega), oneR_1 (by assumption), putS_no (Or.inl (by assumption))]
      refine FinLe.mv2 rfl rfl ?_ ?_
      · conv => whnf
        exact .rfl _
      · ((conv => whnf); repeat' (first | exact trivial | exact SV.Le.rfl _ | exact ⟨rfl, rfl, rfl⟩ | exact fun i hi => rfl | ((with_reducible refine And.intro ?_ ?_) <;> (conv => whnf))))
    · rw [if_neg (by omega), if_neg (by omega), if_neg (by omega), oneR_1 (by assumption), putS_no (Or.inr (decide_eq_true ⟨by assumption, by assumption⟩))]
      refine FinLe.mv2 rfl rfl ?_ ?_
      · conv => whnf
        exact .rfl _
      · ((conv => whnf); repeat' (first | exact trivial | exact SV.Le.rfl _ | exact ⟨rfl, rfl, rfl⟩ | exact fun i hi => rfl | ((with_reducible refine And.intro ?_ ?_) <;> (conv => whnf))))
    · rw [if_neg (by omega), if_neg (by omega), if_neg (by omega), oneR_1 (by assumption), putS_full (by assumption) (decide_eq_false (by omega)) (by assumption) (by assumption)]
      refine FinLe.mv2 rfl rfl ?_ ?_
      · conv => whnf
        exact .rfl _
      · ((conv => whnf); repeat' (first | exact trivial | exact SV.Le.rfl _ | exact ⟨rfl, rfl, rfl⟩ | exact fun i hi => rfl | ((with_reducible refine And.intro ?_ ?_) <;> (conv => whnf))))
    · rw [if_neg (by omega), if_neg (by omega), if_neg (by omega), oneR_1 (by assumption), putS_ok (by assumption) (decide_eq_false (by omega)) (fun h => absurd h.2 (by assumption))]
      refine FinLe.of [0, 1, 56] rfl (fun i hi => by have : i = 0 ∨ i = 1 := (by omega); rcases this with h | h <;> subst h <;> rfl) rfl ?_ ?_
      · conv => whnf
        exact .rfl _
      · ((conv => whnf); repeat' (first | exact trivial | exact SV.Le.rfl _ | exact ⟨rfl, rfl, rfl⟩ | exact fun i hi => rfl | ((with_reducible refine And.intro ?_ ?_) <;> (conv => whnf))))
    · rw [if_neg (by omega), if_neg (by omega), if_neg (by omega), oneR_1 (by assumption), putS_ok (by assumption) (decide_eq_false (by omega)) (fun h => by rw [hc] at h; cases h.1)]
      refine FinLe.of [0, 1, 56] rfl (fun i hi => by have : i = 0 ∨ i = 1 := (by omega); rcases this with h | h <;> subst h <;> rfl) rfl ?_ ?_
      · conv => whnf
        exact .rfl _
      · ((conv => whnf); repeat' (first | exact trivial | exact SV.Le.rfl _ | exact ⟨rfl, rfl, rfl⟩ | exact fun i hi => rfl | ((with_reducible refine And.intro ?_ ?_) <;> (conv => whnf))))
    · rw [if_neg (by omega), if_neg (by omega), if_neg (by omega), oneR_2 (by assumption), putS_no (Or.inl (by assumption))]
      refine FinLe.mv2 rfl rfl ?_ ?_
      · conv => whnf
        exact .rfl _
      · ((conv => whnf); repeat' (first | exact trivial | exact SV.Le.rfl _ | exact ⟨rfl, rfl, rfl⟩ | exact fun i hi => rfl | ((with_reducible refine And.intro ?_ ?_) <;> (conv => whnf))))
    · rw [if_neg (by omega), if_neg (by omega), if_neg (by omega), oneR_2 (by assumption), putS_full (by assumption) (decide_eq_false (by omega)) (by assumption) (by assumption)]
      refine FinLe.mv2 rfl rfl ?_ ?_
      · conv => whnf
        exact .rfl _
      · ((conv => whnf); repeat' (first | exact trivial | exact SV.Le.rfl _ | exact ⟨rfl, rfl, rfl⟩ | exact fun i hi => rfl | ((with_reducible refine And.intro ?_ ?_) <;> (conv => whnf))))
    · rw [if_neg (by omega), if_neg (by omega), if_neg (by omega), oneR_2 (by assumption), putS_ok (by assumption) (decide_eq_false (by omega)) (fun h => absurd h.2 (by assumption))]
      refine FinLe.of [0, 1, 56] rfl (fun i hi => by have : i = 0 ∨ i = 1 := (by omega); rcases this with h | h <;> subst h <;> rfl) rfl ?_ ?_
      · conv => whnf
        exact .rfl _
      · ((conv => whnf); repeat' (first | exact trivial | exact SV.Le.rfl _ | exact ⟨rfl, rfl, rfl⟩ | exact fun i hi => rfl | ((with_reducible refine And.intro ?_ ?_) <;> (conv => whnf))))
    · rw [if_neg (by omega), if_neg (by omega), if_neg (by omega), oneR_2 (by assumption), putS_ok (by assumption) (decide_eq_false (by omega)) (fun h => by rw [hc] at h; cases h.1)]
      refine FinLe.of [0, 1, 56] rfl (fun i hi => by have : i = 0 ∨ i = 1 := (by omega); rcases this with h | h <;> subst h <;> rfl) rfl ?_ ?_
      · conv => whnf
        exact .rfl _
      · ((conv => whnf); repeat' (first | exact trivial | exact SV.Le.rfl _ | exact ⟨rfl, rfl, rfl⟩ | exact fun i hi => rfl | ((with_reducible refine And.intro ?_ ?_) <;> (conv => whnf))))
    · rw [if_neg (by omega), if_neg (by omega), if_neg (by omega), oneR_3 (by assumption), putS_no (Or.inl (by assumption))]
      refine FinLe.mv2 rfl rfl ?_ ?_
      · conv => whnf
        exact .rfl _
      · ((conv => whnf); repeat' (first | exact trivial | exact SV.Le.rfl _ | exact ⟨rfl, rfl, rfl⟩ | exact fun i hi => rfl | ((with_reducible refine And.intro ?_ ?_) <;> (conv => whnf))))
    · rw [if_neg (by omega), if_neg (by omega), if_neg (by omega), oneR_3 (by assumption), putS_full (by assumption) (decide_eq_false (by omega)) (by assumption) (by assumption)]
      refine FinLe.mv2 rfl rfl ?_ ?_
      · conv => whnf
        exact .rfl _
      · ((conv => whnf); repeat' (first | exact trivial | exact SV.Le.rfl _ | exact ⟨rfl, rfl, rfl⟩ | exact fun i hi => rfl | ((with_reducible refine And.intro ?_ ?_) <;> (conv => whnf))))
    · rw [if_neg (by omega), if_neg (by omega), if_neg (by omega), oneR_3 (by assumption), putS_ok (by assumption) (decide_eq_false (by omega)) (fun h => absurd h.2 (by assumption))]
      refine FinLe.of [0, 1, 56] rfl (fun i hi => by have : i = 0 ∨ i = 1 := (by omega); rcases this with h | h <;> subst h <;> rfl) rfl ?_ ?_
      · conv => whnf
        exact .rfl _
      · ((conv => whnf); repeat' (first | exact trivial | exact SV.Le.rfl _ | exact ⟨rfl, rfl, rfl⟩ | exact fun i hi => rfl | ((with_reducible refine And.intro ?_ ?_) <;> (conv => whnf))))
    · rw [if_neg (by omega), if_neg (by omega), if_neg (by omega), oneR_3 (by assumption), putS_ok (by assumption) (decide_eq_false (by omega)) (fun h => by rw [hc] at h; cases h.1)]
      refine FinLe.of [0, 1, 56] rfl (fun i hi => by have : i = 0 ∨ i = 1 := (by omega); rcases this with h | h <;> subst h <;> rfl) rfl ?_ ?_
      · conv => whnf
        exact .rfl _
      · ((conv => whnf); repeat' (first | exact trivial | exact SV.Le.rfl _ | exact ⟨rfl, rfl, rfl⟩ | exact fun i hi => rfl | ((with_reducible refine And.intro ?_ ?_) <;> (conv => whnf))))
  · have hD : doS ps room xs op pol key n now serial = (errR (bchkE ps op pol key n now serial), xs) := by unfold doS; rw [if_pos hE]
    rw [hD]
    refine Fun.mk' Try.func18 rfl rfl (Nat.le_of_ble_eq_true rfl) (by decide) ?_
    (repeat' (first
    | with_reducible refine Wp.seq ?_
    | with_reducible refine Wp.block ?_
    | ((with_reducible refine Wp.region ?_); conv => whnf)
    | ((with_reducible refine Wp.drawL TC_mixed ?_); conv => whnf)
    | ((with_reducible refine Wp.cond ?_); conv => whnf)
    | ((with_reducible refine Wp.ret ?_); conv => whnf)
    | ((with_reducible refine Wp.skip ?_); conv => whnf)
    | ((with_reducible refine Wp.exit ?_); conv => whnf)
    | ((with_reducible refine Go.mk ?_); conv => whnf)
    | ((with_reducible apply Eff1.of); conv => whnf)
    | with_reducible exact rfl
    | ((with_reducible refine Ov.ok (by first | exact IntWalk.i64_in _ (by omega) | exact IntWalk.u64_in _ (by omega) | exact IntWalk.u8_in _ (by omega) | exact IntWalk.u32_in _ (by omega) | exact IntWalk.i32_in _ (by omega) | exact IntWalk.u16_in _ (by omega)) ?_); conv => whnf)
    | (with_reducible refine Ov.sh1 (by with_unfolding_all exact rfl) ?_)
    | ((with_reducible refine Ov.quo (by omega) (by omega) (by omega) (fun _ _ => ?_)); conv => whnf)
    | ((with_reducible refine And.intro (show drawOK _ _ _ _ = true by kernel_rfl) ?_); conv => whnf)
    | ((with_reducible refine And.intro (by first | omega | exact Nat.le_of_ble_eq_true rfl) ?_); conv => whnf)
    | ((with_reducible refine And.intro ?hb ?_); (case hb => exact bytes_bd (Nat.le_of_ble_eq_true rfl) (by omega)); (conv => whnf))
    | ((refine DApp.a rfl rfl rfl rfl rfl rfl ?hb ?_); (case hb => first | exact bytes_bd (Nat.le_of_ble_eq_true rfl) (by omega) | omega); (conv => whnf))
    | ((refine DApp.b rfl rfl rfl rfl rfl rfl rfl rfl ?hb ?ho ?_); (case hb => first | exact bytes_bd (Nat.le_of_ble_eq_true rfl) (by omega) | omega); (case ho => omega); (conv => whnf))
    | ((refine DApp.c rfl rfl rfl rfl rfl ?hb ?_); (case hb => first | exact bytes_bd (Nat.le_of_ble_eq_true rfl) (by omega) | omega); (conv => whnf))
    | ((refine DApp.d rfl rfl rfl rfl rfl rfl ?hb ?ho ?_); (case hb => first | exact bytes_bd (Nat.le_of_ble_eq_true rfl) (by omega) | omega); (case ho => omega); (conv => whnf))
    | ((with_reducible refine nil_no (by omega) ?_); (conv => whnf))
    | ((with_reducible refine nil_any ?_ (fun hn0 => ?_)) <;> (conv => whnf))
    | ((refine CallStop.fn (book_check ps room xs op pol key n now serial) [0,1] rfl rfl rfl rfl rfl ?ha ?hh ?_); (case ha => ((conv => whnf); repeat' (first | exact trivial | exact ArgLe.rfl rfl | exact ArgLe.ptr rfl | exact ArgLe.sl rfl | ((with_reducible refine ArgLe.fn ?_); (conv => whnf)) | exact ArgLe.free SV.Le.nil rfl | ((with_reducible refine And.intro ?_ ?_) <;> (conv => whnf)) | ((refine ArgLe.free ?_ rfl); (repeat' (first | exact SV.Le.rfl _ | exact SV.Le.nil | exact SV.Le.sl (fun i hi => by (rcases i with _ | _ | _ | _ | i) <;> first | rfl | (exfalso; omega)) | with_reducible refine SV.Le.agg ?_ | exact Les.nil | with_reducible refine Les.cons ?_ ?_)))))); (case hh => ((conv => whnf); repeat' (first | exact trivial | exact ArgLe.rfl rfl | exact ArgLe.ptr rfl | exact ArgLe.sl rfl | ((with_reducible refine ArgLe.fn ?_); (conv => whnf)) | exact ArgLe.free SV.Le.nil rfl | exact ⟨rfl, rfl, rfl⟩ | exact fun i hi => rfl | exact (fun i hi => by (rcases i with _ | i) <;> first | rfl | (exfalso; omega)) | ((with_reducible refine And.intro ?_ ?_) <;> (conv => whnf))))); (conv => whnf))
    | ((refine DCall.fn (book_check ps room xs op pol key n now serial) [0,1] [0,1] rfl rfl rfl rfl rfl ?ha ?hh ?hs ?_); (case ha => ((conv => whnf); repeat' (first | exact trivial | exact ArgLe.rfl rfl | exact ArgLe.ptr rfl | exact ArgLe.sl rfl | ((with_reducible refine ArgLe.fn ?_); (conv => whnf)) | exact ArgLe.free SV.Le.nil rfl | ((with_reducible refine And.intro ?_ ?_) <;> (conv => whnf)) | ((refine ArgLe.free ?_ rfl); (repeat' (first | exact SV.Le.rfl _ | exact SV.Le.nil | exact SV.Le.sl (fun i hi => by (rcases i with _ | _ | _ | _ | i) <;> first | rfl | (exfalso; omega)) | with_reducible refine SV.Le.agg ?_ | exact Les.nil | with_reducible refine Les.cons ?_ ?_)))))); (case hh => ((conv => whnf); repeat' (first | exact trivial | exact ArgLe.rfl rfl | exact ArgLe.ptr rfl | exact ArgLe.sl rfl | ((with_reducible refine ArgLe.fn ?_); (conv => whnf)) | exact ArgLe.free SV.Le.nil rfl | exact ⟨rfl, rfl, rfl⟩ | exact fun i hi => rfl | exact (fun i hi => by (rcases i with _ | i) <;> first | rfl | (exfalso; omega)) | ((with_reducible refine And.intro ?_ ?_) <;> (conv => whnf))))); (case hs => (conv => whnf); repeat' (first | exact trivial | ((refine And.intro rfl ?_); (conv => whnf)))); (conv => whnf)) | ((refine DCall.new (book_check ps room xs op pol key n now serial) [0,1] [0,1] rfl rfl rfl rfl rfl rfl ?ha ?hh ?hs ?_); (case ha => ((conv => whnf); repeat' (first | exact trivial | exact ArgLe.rfl rfl | exact ArgLe.ptr rfl | exact ArgLe.sl rfl | ((with_reducible refine ArgLe.fn ?_); (conv => whnf)) | exact ArgLe.free SV.Le.nil rfl | ((with_reducible refine And.intro ?_ ?_) <;> (conv => whnf)) | ((refine ArgLe.free ?_ rfl); (repeat' (first | exact SV.Le.rfl _ | exact SV.Le.nil | exact SV.Le.sl (fun i hi => by (rcases i with _ | _ | _ | _ | i) <;> first | rfl | (exfalso; omega)) | with_reducible refine SV.Le.agg ?_ | exact Les.nil | with_reducible refine Les.cons ?_ ?_)))))); (case hh => ((conv => whnf); repeat' (first | exact trivial | exact ArgLe.rfl rfl | exact ArgLe.ptr rfl | exact ArgLe.sl rfl | ((with_reducible refine ArgLe.fn ?_); (conv => whnf)) | exact ArgLe.free SV.Le.nil rfl | exact ⟨rfl, rfl, rfl⟩ | exact fun i hi => rfl | exact (fun i hi => by (rcases i with _ | i) <;> first | rfl | (exfalso; omega)) | ((with_reducible refine And.intro ?_ ?_) <;> (conv => whnf))))); (case hs => (conv => whnf); repeat' (first | exact trivial | ((refine And.intro rfl ?_); (conv => whnf)))); (conv => whnf))
    | ((refine DCall.fn (book_check ps room xs op pol key n now serial) [0,1] [] rfl rfl rfl rfl rfl ?ha ?hh ?hs ?_); (case ha => ((conv => whnf); repeat' (first | exact trivial | exact ArgLe.rfl rfl | exact ArgLe.ptr rfl | exact ArgLe.sl rfl | ((with_reducible refine ArgLe.fn ?_); (conv => whnf)) | exact ArgLe.free SV.Le.nil rfl | ((with_reducible refine And.intro ?_ ?_) <;> (conv => whnf)) | ((refine ArgLe.free ?_ rfl); (repeat' (first | exact SV.Le.rfl _ | exact SV.Le.nil | exact SV.Le.sl (fun i hi => by (rcases i with _ | _ | _ | _ | i) <;> first | rfl | (exfalso; omega)) | with_reducible refine SV.Le.agg ?_ | exact Les.nil | with_reducible refine Les.cons ?_ ?_)))))); (case hh => ((conv => whnf); repeat' (first | exact trivial | exact ArgLe.rfl rfl | exact ArgLe.ptr rfl | exact ArgLe.sl rfl | ((with_reducible refine ArgLe.fn ?_); (conv => whnf)) | exact ArgLe.free SV.Le.nil rfl | exact ⟨rfl, rfl, rfl⟩ | exact fun i hi => rfl | exact (fun i hi => by (rcases i with _ | i) <;> first | rfl | (exfalso; omega)) | ((with_reducible refine And.intro ?_ ?_) <;> (conv => whnf))))); (case hs => (conv => whnf); repeat' (first | exact trivial | ((refine And.intro rfl ?_); (conv => whnf)))); (conv => whnf)) | ((refine DCall.new (book_check ps room xs op pol key n now serial) [0,1] [] rfl rfl rfl rfl rfl rfl ?ha ?hh ?hs ?_); (case ha => ((conv => whnf); repeat' (first | exact trivial | exact ArgLe.rfl rfl | exact ArgLe.ptr rfl | exact ArgLe.sl rfl | ((with_reducible refine ArgLe.fn ?_); (conv => whnf)) | exact ArgLe.free SV.Le.nil rfl | ((with_reducible refine And.intro ?_ ?_) <;> (conv => whnf)) | ((refine ArgLe.free ?_ rfl); (repeat' (first | exact SV.Le.rfl _ | exact SV.Le.nil | exact SV.Le.sl (fun i hi => by (rcases i with _ | _ | _ | _ | i) <;> first | rfl | (exfalso; omega)) | with_reducible refine SV.Le.agg ?_ | exact Les.nil | with_reducible refine Les.cons ?_ ?_)))))); (case hh => ((conv => whnf); repeat' (first | exact trivial | exact ArgLe.rfl rfl | exact ArgLe.ptr rfl | exact ArgLe.sl rfl | ((with_reducible refine ArgLe.fn ?_); (conv => whnf)) | exact ArgLe.free SV.Le.nil rfl | exact ⟨rfl, rfl, rfl⟩ | exact fun i hi => rfl | exact (fun i hi => by (rcases i with _ | i) <;> first | rfl | (exfalso; omega)) | ((with_reducible refine And.intro ?_ ?_) <;> (conv => whnf))))); (case hs => (conv => whnf); repeat' (first | exact trivial | ((refine And.intro rfl ?_); (conv => whnf)))); (conv => whnf))
    | exact absurd (by assumption) hE
    | ((refine ways (fun hc => ?_) (fun hc => ?_)) <;> (try simp only [decide_eq_true_eq, decide_eq_false_iff_not, Bool.and_eq_true, Bool.or_eq_true, Bool.and_eq_false_iff, Bool.or_eq_false_iff, Bool.not_eq_true', Bool.not_eq_false', beq_iff_eq, bne_iff_ne, ne_eq, beq_eq_false_iff_ne, bne_eq_false_iff_eq, Bool.not_eq_true, Bool.not_eq_false] at hc) <;> (try (exfalso; omega)) <;> (conv => whnf))))
    refine FinLe.mv2 rfl rfl ?_ ?_
    · conv => whnf
      exact .rfl _
    · ((conv => whnf); repeat' (first | exact trivial | exact SV.Le.rfl _ | exact ⟨rfl, rfl, rfl⟩ | exact fun i hi => rfl | ((with_reducible refine And.intro ?_ ?_) <;> (conv => whnf))))
end Go.Proofs.Ytkdolemhhihidaa

namespace Go.Proofs.Ytkdolemhhihidaa
open Go.RowKit
set_option maxRecDepth 100000

def tab : List Pol := [⟨1, 10, 20, 0⟩, ⟨2, 0, 0, 2⟩]
theorem law_table : Pure TC 16 [] (.d (slOf 4 Pol.D tab)) := by
  refine Pure.mk' Try.func16 rfl rfl (Nat.le_of_ble_eq_true rfl) ?_
  (repeat' (first
    | with_reducible refine Wp.seq ?_
    | with_reducible refine Wp.block ?_
    | ((with_reducible refine Wp.region ?_); conv => whnf)
    | ((with_reducible refine Wp.drawL TC_mixed ?_); conv => whnf)
    | ((with_reducible refine Wp.cond ?_); conv => whnf)
    | ((with_reducible refine Wp.ret ?_); conv => whnf)
    | ((with_reducible refine Wp.skip ?_); conv => whnf)
    | ((with_reducible refine Wp.exit ?_); conv => whnf)
    | ((with_reducible refine Go.mk ?_); conv => whnf)
    | ((with_reducible apply Eff1.of); conv => whnf)
    | with_reducible exact rfl
    | ((with_reducible refine Ov.ok (by first | exact IntWalk.i64_in _ (by omega) | exact IntWalk.u64_in _ (by omega) | exact IntWalk.u8_in _ (by omega) | exact IntWalk.u32_in _ (by omega) | exact IntWalk.i32_in _ (by omega) | exact IntWalk.u16_in _ (by omega)) ?_); conv => whnf)
    | (with_reducible refine Ov.sh1 (by with_unfolding_all exact rfl) ?_)
    | ((with_reducible refine Ov.quo (by omega) (by omega) (by omega) (fun _ _ => ?_)); conv => whnf)
    | ((with_reducible refine And.intro (show drawOK _ _ _ _ = true by kernel_rfl) ?_); conv => whnf)
    | ((with_reducible refine And.intro (by first | omega | exact Nat.le_of_ble_eq_true rfl) ?_); conv => whnf)
    | ((with_reducible refine And.intro ?hb ?_); (case hb => exact bytes_bd (Nat.le_of_ble_eq_true rfl) (by omega)); (conv => whnf))
    | ((refine DApp.a rfl rfl rfl rfl rfl rfl ?hb ?_); (case hb => first | exact bytes_bd (Nat.le_of_ble_eq_true rfl) (by omega) | omega); (conv => whnf))
    | ((refine DApp.b rfl rfl rfl rfl rfl rfl rfl rfl ?hb ?ho ?_); (case hb => first | exact bytes_bd (Nat.le_of_ble_eq_true rfl) (by omega) | omega); (case ho => omega); (conv => whnf))
    | ((refine DApp.c rfl rfl rfl rfl rfl ?hb ?_); (case hb => first | exact bytes_bd (Nat.le_of_ble_eq_true rfl) (by omega) | omega); (conv => whnf))
    | ((refine DApp.d rfl rfl rfl rfl rfl rfl ?hb ?ho ?_); (case hb => first | exact bytes_bd (Nat.le_of_ble_eq_true rfl) (by omega) | omega); (case ho => omega); (conv => whnf))
    | ((with_reducible refine nil_no (by omega) ?_); (conv => whnf))
    | ((with_reducible refine nil_any ?_ (fun hn0 => ?_)) <;> (conv => whnf))
    
    | ((refine ways (fun hc => ?_) (fun hc => ?_)) <;> (try simp only [decide_eq_true_eq, decide_eq_false_iff_not, Bool.and_eq_true, Bool.or_eq_true, Bool.and_eq_false_iff, Bool.or_eq_false_iff, Bool.not_eq_true', Bool.not_eq_false', beq_iff_eq, bne_iff_ne, ne_eq, beq_eq_false_iff_ne, bne_eq_false_iff_eq, Bool.not_eq_true, Bool.not_eq_false] at hc) <;> (try (exfalso; omega)) <;> (conv => whnf))))
  exact SV.Le.sl fun i hi => by (rcases i with _ | _ | i) <;> first | rfl | (exfalso; have hi : i + 1 + 1 < 2 := hi; omega)
def cs0 : List Cel := []
def cs1 : List Cel := [⟨0, [97], 110, []⟩]
def cs2 : List Cel := [⟨0, [97], 110, []⟩, ⟨1, [107], 0, [5]⟩]
theorem aw1 : doS tab 2 cs0 1 0 [97] 1 100 0 = (⟨0, true, 2, 0, 0, 100⟩, cs1) := by rfl
theorem aw2 : doS tab 2 cs1 2 1 [107] 0 0 5 = (⟨0, true, 1, 0, 5, 0⟩, cs2) := by rfl
theorem aw3 : doS tab 2 cs2 3 1 [107] 6 0 0 = (⟨11, false, 0, 0, 0, 0⟩, cs2) := by rfl
theorem ok_of {ps : List Pol} {xs : List Cel} (h : xs.length ≤ 1000000 ∧ ∀ c ∈ xs, (∀ b ∈ c.key, 0 ≤ b ∧ b ≤ 255) ∧ c.key.length ≤ 255 ∧ c.held.length ≤ 64 ∧ 0 ≤ c.pol ∧ c.pol < ps.length) : BookOK ps xs := by
  have key : ∀ k, k < xs.length → xs.getD k default ∈ xs := fun k hk => by
    rw [List.getD_eq_getElem?_getD, List.getElem?_eq_getElem hk]; exact List.getElem_mem hk
  have dflt : ∀ k, ¬ k < xs.length → xs.getD k default = default := fun k hk => by
    rw [List.getD_eq_getElem?_getD, List.getElem?_eq_none (by omega)]; rfl
  refine ⟨h.1, fun k => ?_, fun k => ?_, fun k => ?_, fun k hk => ⟨(h.2 _ (key k hk)).2.2.2.1, (h.2 _ (key k hk)).2.2.2.2⟩⟩
  · by_cases hk : k < xs.length
    · exact (h.2 _ (key k hk)).1
    · rw [dflt k hk]; intro x hx; cases hx
  · by_cases hk : k < xs.length
    · exact (h.2 _ (key k hk)).2.1
    · rw [dflt k hk]; exact Nat.zero_le _
  · by_cases hk : k < xs.length
    · exact (h.2 _ (key k hk)).2.2.1
    · rw [dflt k hk]; exact Nat.zero_le _
theorem ok0 : BookOK tab cs0 := ok_of (by decide)
theorem ok1 : BookOK tab cs1 := ok_of (by decide)
theorem ok2 : BookOK tab cs2 := ok_of (by decide)
set_option maxHeartbeats 4000000 in
theorem awake : Pure TC 10 [] (.b true) := by
  have D1 := book_Do tab 2 cs0 1 0 [97] 1 100 0 ok0 (by intro x hx; simp at hx; omega)
  rw [aw1] at D1
  have D2 := book_Do tab 2 cs1 2 1 [107] 0 0 5 ok1 (by intro x hx; simp at hx; omega)
  rw [aw2] at D2
  have D3 := book_Do tab 2 cs2 3 1 [107] 6 0 0 ok2 (by intro x hx; simp at hx; omega)
  rw [aw3] at D3
  refine Pure.mk' Try.func10 rfl rfl (Nat.le_of_ble_eq_true rfl) ?_
  (repeat' (first
    | with_reducible refine Wp.seq ?_
    | with_reducible refine Wp.block ?_
    | ((with_reducible refine Wp.region ?_); conv => whnf)
    | ((with_reducible refine Wp.drawL TC_mixed ?_); conv => whnf)
    | ((with_reducible refine Wp.cond ?_); conv => whnf)
    | ((with_reducible refine Wp.ret ?_); conv => whnf)
    | ((with_reducible refine Wp.skip ?_); conv => whnf)
    | ((with_reducible refine Wp.exit ?_); conv => whnf)
    | ((with_reducible refine Go.mk ?_); conv => whnf)
    | ((with_reducible apply Eff1.of); conv => whnf)
    | with_reducible exact rfl
    | ((with_reducible refine Ov.ok (by first | exact IntWalk.i64_in _ (by omega) | exact IntWalk.u64_in _ (by omega) | exact IntWalk.u8_in _ (by omega) | exact IntWalk.u32_in _ (by omega) | exact IntWalk.i32_in _ (by omega) | exact IntWalk.u16_in _ (by omega)) ?_); conv => whnf)
    | (with_reducible refine Ov.sh1 (by with_unfolding_all exact rfl) ?_)
    | ((with_reducible refine Ov.quo (by omega) (by omega) (by omega) (fun _ _ => ?_)); conv => whnf)
    | ((with_reducible refine And.intro (show drawOK _ _ _ _ = true by kernel_rfl) ?_); conv => whnf)
    | ((with_reducible refine And.intro (by first | omega | exact Nat.le_of_ble_eq_true rfl) ?_); conv => whnf)
    | ((with_reducible refine And.intro ?hb ?_); (case hb => exact bytes_bd (Nat.le_of_ble_eq_true rfl) (by omega)); (conv => whnf))
    | ((refine DApp.a rfl rfl rfl rfl rfl rfl ?hb ?_); (case hb => first | exact bytes_bd (Nat.le_of_ble_eq_true rfl) (by omega) | omega); (conv => whnf))
    | ((refine DApp.b rfl rfl rfl rfl rfl rfl rfl rfl ?hb ?ho ?_); (case hb => first | exact bytes_bd (Nat.le_of_ble_eq_true rfl) (by omega) | omega); (case ho => omega); (conv => whnf))
    | ((refine DApp.c rfl rfl rfl rfl rfl ?hb ?_); (case hb => first | exact bytes_bd (Nat.le_of_ble_eq_true rfl) (by omega) | omega); (conv => whnf))
    | ((refine DApp.d rfl rfl rfl rfl rfl rfl ?hb ?ho ?_); (case hb => first | exact bytes_bd (Nat.le_of_ble_eq_true rfl) (by omega) | omega); (case ho => omega); (conv => whnf))
    | ((with_reducible refine nil_no (by omega) ?_); (conv => whnf))
    | ((with_reducible refine nil_any ?_ (fun hn0 => ?_)) <;> (conv => whnf))
    | ((with_reducible refine CallStop.pure (law_table) rfl rfl ?_); conv => whnf) | ((with_reducible refine DCall.pure (law_table) rfl rfl ?_); conv => whnf)
    | ((refine CallStop.fn (book_New tab 2 rfl) [] rfl rfl rfl rfl rfl ?ha ?hh ?_); (case ha => ((conv => whnf); repeat' (first | exact trivial | exact ArgLe.rfl rfl | exact ArgLe.ptr rfl | exact ArgLe.sl rfl | ((with_reducible refine ArgLe.fn ?_); (conv => whnf)) | exact ArgLe.free SV.Le.nil rfl | ((with_reducible refine And.intro ?_ ?_) <;> (conv => whnf)) | ((refine ArgLe.free ?_ rfl); (repeat' (first | exact SV.Le.rfl _ | exact SV.Le.nil | exact SV.Le.sl (fun i hi => by (rcases i with _ | _ | _ | _ | i) <;> first | rfl | (exfalso; omega)) | with_reducible refine SV.Le.agg ?_ | exact Les.nil | with_reducible refine Les.cons ?_ ?_)))))); (case hh => ((conv => whnf); repeat' (first | exact trivial | exact ArgLe.rfl rfl | exact ArgLe.ptr rfl | exact ArgLe.sl rfl | ((with_reducible refine ArgLe.fn ?_); (conv => whnf)) | exact ArgLe.free SV.Le.nil rfl | exact ⟨rfl, rfl, rfl⟩ | exact fun i hi => rfl | exact (fun i hi => by (rcases i with _ | i) <;> first | rfl | (exfalso; omega)) | ((with_reducible refine And.intro ?_ ?_) <;> (conv => whnf))))); (conv => whnf))
    | ((refine DCall.fn (book_New tab 2 rfl) [] [] rfl rfl rfl rfl rfl ?ha ?hh ?hs ?_); (case ha => ((conv => whnf); repeat' (first | exact trivial | exact ArgLe.rfl rfl | exact ArgLe.ptr rfl | exact ArgLe.sl rfl | ((with_reducible refine ArgLe.fn ?_); (conv => whnf)) | exact ArgLe.free SV.Le.nil rfl | ((with_reducible refine And.intro ?_ ?_) <;> (conv => whnf)) | ((refine ArgLe.free ?_ rfl); (repeat' (first | exact SV.Le.rfl _ | exact SV.Le.nil | exact SV.Le.sl (fun i hi => by (rcases i with _ | _ | _ | _ | i) <;> first | rfl | (exfalso; omega)) | with_reducible refine SV.Le.agg ?_ | exact Les.nil | with_reducible refine Les.cons ?_ ?_)))))); (case hh => ((conv => whnf); repeat' (first | exact trivial | exact ArgLe.rfl rfl | exact ArgLe.ptr rfl | exact ArgLe.sl rfl | ((with_reducible refine ArgLe.fn ?_); (conv => whnf)) | exact ArgLe.free SV.Le.nil rfl | exact ⟨rfl, rfl, rfl⟩ | exact fun i hi => rfl | exact (fun i hi => by (rcases i with _ | i) <;> first | rfl | (exfalso; omega)) | ((with_reducible refine And.intro ?_ ?_) <;> (conv => whnf))))); (case hs => (conv => whnf); repeat' (first | exact trivial | ((refine And.intro rfl ?_); (conv => whnf)))); (conv => whnf)) | ((refine DCall.new (book_New tab 2 rfl) [] [] rfl rfl rfl rfl rfl rfl ?ha ?hh ?hs ?_); (case ha => ((conv => whnf); repeat' (first | exact trivial | exact ArgLe.rfl rfl | exact ArgLe.ptr rfl | exact ArgLe.sl rfl | ((with_reducible refine ArgLe.fn ?_); (conv => whnf)) | exact ArgLe.free SV.Le.nil rfl | ((with_reducible refine And.intro ?_ ?_) <;> (conv => whnf)) | ((refine ArgLe.free ?_ rfl); (repeat' (first | exact SV.Le.rfl _ | exact SV.Le.nil | exact SV.Le.sl (fun i hi => by (rcases i with _ | _ | _ | _ | i) <;> first | rfl | (exfalso; omega)) | with_reducible refine SV.Le.agg ?_ | exact Les.nil | with_reducible refine Les.cons ?_ ?_)))))); (case hh => ((conv => whnf); repeat' (first | exact trivial | exact ArgLe.rfl rfl | exact ArgLe.ptr rfl | exact ArgLe.sl rfl | ((with_reducible refine ArgLe.fn ?_); (conv => whnf)) | exact ArgLe.free SV.Le.nil rfl | exact ⟨rfl, rfl, rfl⟩ | exact fun i hi => rfl | exact (fun i hi => by (rcases i with _ | i) <;> first | rfl | (exfalso; omega)) | ((with_reducible refine And.intro ?_ ?_) <;> (conv => whnf))))); (case hs => (conv => whnf); repeat' (first | exact trivial | ((refine And.intro rfl ?_); (conv => whnf)))); (conv => whnf))
    | ((refine CallStop.fn (D1) [0,1] rfl rfl rfl rfl rfl ?ha ?hh ?_); (case ha => ((conv => whnf); repeat' (first | exact trivial | exact ArgLe.rfl rfl | exact ArgLe.ptr rfl | exact ArgLe.sl rfl | ((with_reducible refine ArgLe.fn ?_); (conv => whnf)) | exact ArgLe.free SV.Le.nil rfl | ((with_reducible refine And.intro ?_ ?_) <;> (conv => whnf)) | ((refine ArgLe.free ?_ rfl); (repeat' (first | exact SV.Le.rfl _ | exact SV.Le.nil | exact SV.Le.sl (fun i hi => by (rcases i with _ | _ | _ | _ | i) <;> first | rfl | (exfalso; omega)) | with_reducible refine SV.Le.agg ?_ | exact Les.nil | with_reducible refine Les.cons ?_ ?_)))))); (case hh => ((conv => whnf); repeat' (first | exact trivial | exact ArgLe.rfl rfl | exact ArgLe.ptr rfl | exact ArgLe.sl rfl | ((with_reducible refine ArgLe.fn ?_); (conv => whnf)) | exact ArgLe.free SV.Le.nil rfl | exact ⟨rfl, rfl, rfl⟩ | exact fun i hi => rfl | exact (fun i hi => by (rcases i with _ | i) <;> first | rfl | (exfalso; omega)) | ((with_reducible refine And.intro ?_ ?_) <;> (conv => whnf))))); (conv => whnf))
    | ((refine DCall.fn (D1) [0,1] [0,1] rfl rfl rfl rfl rfl ?ha ?hh ?hs ?_); (case ha => ((conv => whnf); repeat' (first | exact trivial | exact ArgLe.rfl rfl | exact ArgLe.ptr rfl | exact ArgLe.sl rfl | ((with_reducible refine ArgLe.fn ?_); (conv => whnf)) | exact ArgLe.free SV.Le.nil rfl | ((with_reducible refine And.intro ?_ ?_) <;> (conv => whnf)) | ((refine ArgLe.free ?_ rfl); (repeat' (first | exact SV.Le.rfl _ | exact SV.Le.nil | exact SV.Le.sl (fun i hi => by (rcases i with _ | _ | _ | _ | i) <;> first | rfl | (exfalso; omega)) | with_reducible refine SV.Le.agg ?_ | exact Les.nil | with_reducible refine Les.cons ?_ ?_)))))); (case hh => ((conv => whnf); repeat' (first | exact trivial | exact ArgLe.rfl rfl | exact ArgLe.ptr rfl | exact ArgLe.sl rfl | ((with_reducible refine ArgLe.fn ?_); (conv => whnf)) | exact ArgLe.free SV.Le.nil rfl | exact ⟨rfl, rfl, rfl⟩ | exact fun i hi => rfl | exact (fun i hi => by (rcases i with _ | i) <;> first | rfl | (exfalso; omega)) | ((with_reducible refine And.intro ?_ ?_) <;> (conv => whnf))))); (case hs => (conv => whnf); repeat' (first | exact trivial | ((refine And.intro rfl ?_); (conv => whnf)))); (conv => whnf)) | ((refine DCall.new (D1) [0,1] [0,1] rfl rfl rfl rfl rfl rfl ?ha ?hh ?hs ?_); (case ha => ((conv => whnf); repeat' (first | exact trivial | exact ArgLe.rfl rfl | exact ArgLe.ptr rfl | exact ArgLe.sl rfl | ((with_reducible refine ArgLe.fn ?_); (conv => whnf)) | exact ArgLe.free SV.Le.nil rfl | ((with_reducible refine And.intro ?_ ?_) <;> (conv => whnf)) | ((refine ArgLe.free ?_ rfl); (repeat' (first | exact SV.Le.rfl _ | exact SV.Le.nil | exact SV.Le.sl (fun i hi => by (rcases i with _ | _ | _ | _ | i) <;> first | rfl | (exfalso; omega)) | with_reducible refine SV.Le.agg ?_ | exact Les.nil | with_reducible refine Les.cons ?_ ?_)))))); (case hh => ((conv => whnf); repeat' (first | exact trivial | exact ArgLe.rfl rfl | exact ArgLe.ptr rfl | exact ArgLe.sl rfl | ((with_reducible refine ArgLe.fn ?_); (conv => whnf)) | exact ArgLe.free SV.Le.nil rfl | exact ⟨rfl, rfl, rfl⟩ | exact fun i hi => rfl | exact (fun i hi => by (rcases i with _ | i) <;> first | rfl | (exfalso; omega)) | ((with_reducible refine And.intro ?_ ?_) <;> (conv => whnf))))); (case hs => (conv => whnf); repeat' (first | exact trivial | ((refine And.intro rfl ?_); (conv => whnf)))); (conv => whnf))
    | ((refine DCall.fn (D1) [0,1] [] rfl rfl rfl rfl rfl ?ha ?hh ?hs ?_); (case ha => ((conv => whnf); repeat' (first | exact trivial | exact ArgLe.rfl rfl | exact ArgLe.ptr rfl | exact ArgLe.sl rfl | ((with_reducible refine ArgLe.fn ?_); (conv => whnf)) | exact ArgLe.free SV.Le.nil rfl | ((with_reducible refine And.intro ?_ ?_) <;> (conv => whnf)) | ((refine ArgLe.free ?_ rfl); (repeat' (first | exact SV.Le.rfl _ | exact SV.Le.nil | exact SV.Le.sl (fun i hi => by (rcases i with _ | _ | _ | _ | i) <;> first | rfl | (exfalso; omega)) | with_reducible refine SV.Le.agg ?_ | exact Les.nil | with_reducible refine Les.cons ?_ ?_)))))); (case hh => ((conv => whnf); repeat' (first | exact trivial | exact ArgLe.rfl rfl | exact ArgLe.ptr rfl | exact ArgLe.sl rfl | ((with_reducible refine ArgLe.fn ?_); (conv => whnf)) | exact ArgLe.free SV.Le.nil rfl | exact ⟨rfl, rfl, rfl⟩ | exact fun i hi => rfl | exact (fun i hi => by (rcases i with _ | i) <;> first | rfl | (exfalso; omega)) | ((with_reducible refine And.intro ?_ ?_) <;> (conv => whnf))))); (case hs => (conv => whnf); repeat' (first | exact trivial | ((refine And.intro rfl ?_); (conv => whnf)))); (conv => whnf)) | ((refine DCall.new (D1) [0,1] [] rfl rfl rfl rfl rfl rfl ?ha ?hh ?hs ?_); (case ha => ((conv => whnf); repeat' (first | exact trivial | exact ArgLe.rfl rfl | exact ArgLe.ptr rfl | exact ArgLe.sl rfl | ((with_reducible refine ArgLe.fn ?_); (conv => whnf)) | exact ArgLe.free SV.Le.nil rfl | ((with_reducible refine And.intro ?_ ?_) <;> (conv => whnf)) | ((refine ArgLe.free ?_ rfl); (repeat' (first | exact SV.Le.rfl _ | exact SV.Le.nil | exact SV.Le.sl (fun i hi => by (rcases i with _ | _ | _ | _ | i) <;> first | rfl | (exfalso; omega)) | with_reducible refine SV.Le.agg ?_ | exact Les.nil | with_reducible refine Les.cons ?_ ?_)))))); (case hh => ((conv => whnf); repeat' (first | exact trivial | exact ArgLe.rfl rfl | exact ArgLe.ptr rfl | exact ArgLe.sl rfl | ((with_reducible refine ArgLe.fn ?_); (conv => whnf)) | exact ArgLe.free SV.Le.nil rfl | exact ⟨rfl, rfl, rfl⟩ | exact fun i hi => rfl | exact (fun i hi => by (rcases i with _ | i) <;> first | rfl | (exfalso; omega)) | ((with_reducible refine And.intro ?_ ?_) <;> (conv => whnf))))); (case hs => (conv => whnf); repeat' (first | exact trivial | ((refine And.intro rfl ?_); (conv => whnf)))); (conv => whnf))
    | ((refine CallStop.fn (D2) [0,3] rfl rfl rfl rfl rfl ?ha ?hh ?_); (case ha => ((conv => whnf); repeat' (first | exact trivial | exact ArgLe.rfl rfl | exact ArgLe.ptr rfl | exact ArgLe.sl rfl | ((with_reducible refine ArgLe.fn ?_); (conv => whnf)) | exact ArgLe.free SV.Le.nil rfl | ((with_reducible refine And.intro ?_ ?_) <;> (conv => whnf)) | ((refine ArgLe.free ?_ rfl); (repeat' (first | exact SV.Le.rfl _ | exact SV.Le.nil | exact SV.Le.sl (fun i hi => by (rcases i with _ | _ | _ | _ | i) <;> first | rfl | (exfalso; omega)) | with_reducible refine SV.Le.agg ?_ | exact Les.nil | with_reducible refine Les.cons ?_ ?_)))))); (case hh => ((conv => whnf); repeat' (first | exact trivial | exact ArgLe.rfl rfl | exact ArgLe.ptr rfl | exact ArgLe.sl rfl | ((with_reducible refine ArgLe.fn ?_); (conv => whnf)) | exact ArgLe.free SV.Le.nil rfl | exact ⟨rfl, rfl, rfl⟩ | exact fun i hi => rfl | exact (fun i hi => by (rcases i with _ | i) <;> first | rfl | (exfalso; omega)) | ((with_reducible refine And.intro ?_ ?_) <;> (conv => whnf))))); (conv => whnf))
    | ((refine DCall.fn (D2) [0,3] [0,3] rfl rfl rfl rfl rfl ?ha ?hh ?hs ?_); (case ha => ((conv => whnf); repeat' (first | exact trivial | exact ArgLe.rfl rfl | exact ArgLe.ptr rfl | exact ArgLe.sl rfl | ((with_reducible refine ArgLe.fn ?_); (conv => whnf)) | exact ArgLe.free SV.Le.nil rfl | ((with_reducible refine And.intro ?_ ?_) <;> (conv => whnf)) | ((refine ArgLe.free ?_ rfl); (repeat' (first | exact SV.Le.rfl _ | exact SV.Le.nil | exact SV.Le.sl (fun i hi => by (rcases i with _ | _ | _ | _ | i) <;> first | rfl | (exfalso; omega)) | with_reducible refine SV.Le.agg ?_ | exact Les.nil | with_reducible refine Les.cons ?_ ?_)))))); (case hh => ((conv => whnf); repeat' (first | exact trivial | exact ArgLe.rfl rfl | exact ArgLe.ptr rfl | exact ArgLe.sl rfl | ((with_reducible refine ArgLe.fn ?_); (conv => whnf)) | exact ArgLe.free SV.Le.nil rfl | exact ⟨rfl, rfl, rfl⟩ | exact fun i hi => rfl | exact (fun i hi => by (rcases i with _ | i) <;> first | rfl | (exfalso; omega)) | ((with_reducible refine And.intro ?_ ?_) <;> (conv => whnf))))); (case hs => (conv => whnf); repeat' (first | exact trivial | ((refine And.intro rfl ?_); (conv => whnf)))); (conv => whnf)) | ((refine DCall.new (D2) [0,3] [0,3] rfl rfl rfl rfl rfl rfl ?ha ?hh ?hs ?_); (case ha => ((conv => whnf); repeat' (first | exact trivial | exact ArgLe.rfl rfl | exact ArgLe.ptr rfl | exact ArgLe.sl rfl | ((with_reducible refine ArgLe.fn ?_); (conv => whnf)) | exact ArgLe.free SV.Le.nil rfl | ((with_reducible refine And.intro ?_ ?_) <;> (conv => whnf)) | ((refine ArgLe.free ?_ rfl); (repeat' (first | exact SV.Le.rfl _ | exact SV.Le.nil | exact SV.Le.sl (fun i hi => by (rcases i with _ | _ | _ | _ | i) <;> first | rfl | (exfalso; omega)) | with_reducible refine SV.Le.agg ?_ | exact Les.nil | with_reducible refine Les.cons ?_ ?_)))))); (case hh => ((conv => whnf); repeat' (first | exact trivial | exact ArgLe.rfl rfl | exact ArgLe.ptr rfl | exact ArgLe.sl rfl | ((with_reducible refine ArgLe.fn ?_); (conv => whnf)) | exact ArgLe.free SV.Le.nil rfl | exact ⟨rfl, rfl, rfl⟩ | exact fun i hi => rfl | exact (fun i hi => by (rcases i with _ | i) <;> first | rfl | (exfalso; omega)) | ((with_reducible refine And.intro ?_ ?_) <;> (conv => whnf))))); (case hs => (conv => whnf); repeat' (first | exact trivial | ((refine And.intro rfl ?_); (conv => whnf)))); (conv => whnf))
    | ((refine DCall.fn (D2) [0,3] [] rfl rfl rfl rfl rfl ?ha ?hh ?hs ?_); (case ha => ((conv => whnf); repeat' (first | exact trivial | exact ArgLe.rfl rfl | exact ArgLe.ptr rfl | exact ArgLe.sl rfl | ((with_reducible refine ArgLe.fn ?_); (conv => whnf)) | exact ArgLe.free SV.Le.nil rfl | ((with_reducible refine And.intro ?_ ?_) <;> (conv => whnf)) | ((refine ArgLe.free ?_ rfl); (repeat' (first | exact SV.Le.rfl _ | exact SV.Le.nil | exact SV.Le.sl (fun i hi => by (rcases i with _ | _ | _ | _ | i) <;> first | rfl | (exfalso; omega)) | with_reducible refine SV.Le.agg ?_ | exact Les.nil | with_reducible refine Les.cons ?_ ?_)))))); (case hh => ((conv => whnf); repeat' (first | exact trivial | exact ArgLe.rfl rfl | exact ArgLe.ptr rfl | exact ArgLe.sl rfl | ((with_reducible refine ArgLe.fn ?_); (conv => whnf)) | exact ArgLe.free SV.Le.nil rfl | exact ⟨rfl, rfl, rfl⟩ | exact fun i hi => rfl | exact (fun i hi => by (rcases i with _ | i) <;> first | rfl | (exfalso; omega)) | ((with_reducible refine And.intro ?_ ?_) <;> (conv => whnf))))); (case hs => (conv => whnf); repeat' (first | exact trivial | ((refine And.intro rfl ?_); (conv => whnf)))); (conv => whnf)) | ((refine DCall.new (D2) [0,3] [] rfl rfl rfl rfl rfl rfl ?ha ?hh ?hs ?_); (case ha => ((conv => whnf); repeat' (first | exact trivial | exact ArgLe.rfl rfl | exact ArgLe.ptr rfl | exact ArgLe.sl rfl | ((with_reducible refine ArgLe.fn ?_); (conv => whnf)) | exact ArgLe.free SV.Le.nil rfl | ((with_reducible refine And.intro ?_ ?_) <;> (conv => whnf)) | ((refine ArgLe.free ?_ rfl); (repeat' (first | exact SV.Le.rfl _ | exact SV.Le.nil | exact SV.Le.sl (fun i hi => by (rcases i with _ | _ | _ | _ | i) <;> first | rfl | (exfalso; omega)) | with_reducible refine SV.Le.agg ?_ | exact Les.nil | with_reducible refine Les.cons ?_ ?_)))))); (case hh => ((conv => whnf); repeat' (first | exact trivial | exact ArgLe.rfl rfl | exact ArgLe.ptr rfl | exact ArgLe.sl rfl | ((with_reducible refine ArgLe.fn ?_); (conv => whnf)) | exact ArgLe.free SV.Le.nil rfl | exact ⟨rfl, rfl, rfl⟩ | exact fun i hi => rfl | exact (fun i hi => by (rcases i with _ | i) <;> first | rfl | (exfalso; omega)) | ((with_reducible refine And.intro ?_ ?_) <;> (conv => whnf))))); (case hs => (conv => whnf); repeat' (first | exact trivial | ((refine And.intro rfl ?_); (conv => whnf)))); (conv => whnf))
    | ((refine CallStop.fn (D3) [0,6] rfl rfl rfl rfl rfl ?ha ?hh ?_); (case ha => ((conv => whnf); repeat' (first | exact trivial | exact ArgLe.rfl rfl | exact ArgLe.ptr rfl | exact ArgLe.sl rfl | ((with_reducible refine ArgLe.fn ?_); (conv => whnf)) | exact ArgLe.free SV.Le.nil rfl | ((with_reducible refine And.intro ?_ ?_) <;> (conv => whnf)) | ((refine ArgLe.free ?_ rfl); (repeat' (first | exact SV.Le.rfl _ | exact SV.Le.nil | exact SV.Le.sl (fun i hi => by (rcases i with _ | _ | _ | _ | i) <;> first | rfl | (exfalso; omega)) | with_reducible refine SV.Le.agg ?_ | exact Les.nil | with_reducible refine Les.cons ?_ ?_)))))); (case hh => ((conv => whnf); repeat' (first | exact trivial | exact ArgLe.rfl rfl | exact ArgLe.ptr rfl | exact ArgLe.sl rfl | ((with_reducible refine ArgLe.fn ?_); (conv => whnf)) | exact ArgLe.free SV.Le.nil rfl | exact ⟨rfl, rfl, rfl⟩ | exact fun i hi => rfl | exact (fun i hi => by (rcases i with _ | i) <;> first | rfl | (exfalso; omega)) | ((with_reducible refine And.intro ?_ ?_) <;> (conv => whnf))))); (conv => whnf))
    | ((refine DCall.fn (D3) [0,6] [0,6] rfl rfl rfl rfl rfl ?ha ?hh ?hs ?_); (case ha => ((conv => whnf); repeat' (first | exact trivial | exact ArgLe.rfl rfl | exact ArgLe.ptr rfl | exact ArgLe.sl rfl | ((with_reducible refine ArgLe.fn ?_); (conv => whnf)) | exact ArgLe.free SV.Le.nil rfl | ((with_reducible refine And.intro ?_ ?_) <;> (conv => whnf)) | ((refine ArgLe.free ?_ rfl); (repeat' (first | exact SV.Le.rfl _ | exact SV.Le.nil | exact SV.Le.sl (fun i hi => by (rcases i with _ | _ | _ | _ | i) <;> first | rfl | (exfalso; omega)) | with_reducible refine SV.Le.agg ?_ | exact Les.nil | with_reducible refine Les.cons ?_ ?_)))))); (case hh => ((conv => whnf); repeat' (first | exact trivial | exact ArgLe.rfl rfl | exact ArgLe.ptr rfl | exact ArgLe.sl rfl | ((with_reducible refine ArgLe.fn ?_); (conv => whnf)) | exact ArgLe.free SV.Le.nil rfl | exact ⟨rfl, rfl, rfl⟩ | exact fun i hi => rfl | exact (fun i hi => by (rcases i with _ | i) <;> first | rfl | (exfalso; omega)) | ((with_reducible refine And.intro ?_ ?_) <;> (conv => whnf))))); (case hs => (conv => whnf); repeat' (first | exact trivial | ((refine And.intro rfl ?_); (conv => whnf)))); (conv => whnf)) | ((refine DCall.new (D3) [0,6] [0,6] rfl rfl rfl rfl rfl rfl ?ha ?hh ?hs ?_); (case ha => ((conv => whnf); repeat' (first | exact trivial | exact ArgLe.rfl rfl | exact ArgLe.ptr rfl | exact ArgLe.sl rfl | ((with_reducible refine ArgLe.fn ?_); (conv => whnf)) | exact ArgLe.free SV.Le.nil rfl | ((with_reducible refine And.intro ?_ ?_) <;> (conv => whnf)) | ((refine ArgLe.free ?_ rfl); (repeat' (first | exact SV.Le.rfl _ | exact SV.Le.nil | exact SV.Le.sl (fun i hi => by (rcases i with _ | _ | _ | _ | i) <;> first | rfl | (exfalso; omega)) | with_reducible refine SV.Le.agg ?_ | exact Les.nil | with_reducible refine Les.cons ?_ ?_)))))); (case hh => ((conv => whnf); repeat' (first | exact trivial | exact ArgLe.rfl rfl | exact ArgLe.ptr rfl | exact ArgLe.sl rfl | ((with_reducible refine ArgLe.fn ?_); (conv => whnf)) | exact ArgLe.free SV.Le.nil rfl | exact ⟨rfl, rfl, rfl⟩ | exact fun i hi => rfl | exact (fun i hi => by (rcases i with _ | i) <;> first | rfl | (exfalso; omega)) | ((with_reducible refine And.intro ?_ ?_) <;> (conv => whnf))))); (case hs => (conv => whnf); repeat' (first | exact trivial | ((refine And.intro rfl ?_); (conv => whnf)))); (conv => whnf))
    | ((refine DCall.fn (D3) [0,6] [] rfl rfl rfl rfl rfl ?ha ?hh ?hs ?_); (case ha => ((conv => whnf); repeat' (first | exact trivial | exact ArgLe.rfl rfl | exact ArgLe.ptr rfl | exact ArgLe.sl rfl | ((with_reducible refine ArgLe.fn ?_); (conv => whnf)) | exact ArgLe.free SV.Le.nil rfl | ((with_reducible refine And.intro ?_ ?_) <;> (conv => whnf)) | ((refine ArgLe.free ?_ rfl); (repeat' (first | exact SV.Le.rfl _ | exact SV.Le.nil | exact SV.Le.sl (fun i hi => by (rcases i with _ | _ | _ | _ | i) <;> first | rfl | (exfalso; omega)) | with_reducible refine SV.Le.agg ?_ | exact Les.nil | with_reducible refine Les.cons ?_ ?_)))))); (case hh => ((conv => whnf); repeat' (first | exact trivial | exact ArgLe.rfl rfl | exact ArgLe.ptr rfl | exact ArgLe.sl rfl | ((with_reducible refine ArgLe.fn ?_); (conv => whnf)) | exact ArgLe.free SV.Le.nil rfl | exact ⟨rfl, rfl, rfl⟩ | exact fun i hi => rfl | exact (fun i hi => by (rcases i with _ | i) <;> first | rfl | (exfalso; omega)) | ((with_reducible refine And.intro ?_ ?_) <;> (conv => whnf))))); (case hs => (conv => whnf); repeat' (first | exact trivial | ((refine And.intro rfl ?_); (conv => whnf)))); (conv => whnf)) | ((refine DCall.new (D3) [0,6] [] rfl rfl rfl rfl rfl rfl ?ha ?hh ?hs ?_); (case ha => ((conv => whnf); repeat' (first | exact trivial | exact ArgLe.rfl rfl | exact ArgLe.ptr rfl | exact ArgLe.sl rfl | ((with_reducible refine ArgLe.fn ?_); (conv => whnf)) | exact ArgLe.free SV.Le.nil rfl | ((with_reducible refine And.intro ?_ ?_) <;> (conv => whnf)) | ((refine ArgLe.free ?_ rfl); (repeat' (first | exact SV.Le.rfl _ | exact SV.Le.nil | exact SV.Le.sl (fun i hi => by (rcases i with _ | _ | _ | _ | i) <;> first | rfl | (exfalso; omega)) | with_reducible refine SV.Le.agg ?_ | exact Les.nil | with_reducible refine Les.cons ?_ ?_)))))); (case hh => ((conv => whnf); repeat' (first | exact trivial | exact ArgLe.rfl rfl | exact ArgLe.ptr rfl | exact ArgLe.sl rfl | ((with_reducible refine ArgLe.fn ?_); (conv => whnf)) | exact ArgLe.free SV.Le.nil rfl | exact ⟨rfl, rfl, rfl⟩ | exact fun i hi => rfl | exact (fun i hi => by (rcases i with _ | i) <;> first | rfl | (exfalso; omega)) | ((with_reducible refine And.intro ?_ ?_) <;> (conv => whnf))))); (case hs => (conv => whnf); repeat' (first | exact trivial | ((refine And.intro rfl ?_); (conv => whnf)))); (conv => whnf))
    | ((refine CallStop.fn (book_Len tab 2 cs2) [0,9] rfl rfl rfl rfl rfl ?ha ?hh ?_); (case ha => ((conv => whnf); repeat' (first | exact trivial | exact ArgLe.rfl rfl | exact ArgLe.ptr rfl | exact ArgLe.sl rfl | ((with_reducible refine ArgLe.fn ?_); (conv => whnf)) | exact ArgLe.free SV.Le.nil rfl | ((with_reducible refine And.intro ?_ ?_) <;> (conv => whnf)) | ((refine ArgLe.free ?_ rfl); (repeat' (first | exact SV.Le.rfl _ | exact SV.Le.nil | exact SV.Le.sl (fun i hi => by (rcases i with _ | _ | _ | _ | i) <;> first | rfl | (exfalso; omega)) | with_reducible refine SV.Le.agg ?_ | exact Les.nil | with_reducible refine Les.cons ?_ ?_)))))); (case hh => ((conv => whnf); repeat' (first | exact trivial | exact ArgLe.rfl rfl | exact ArgLe.ptr rfl | exact ArgLe.sl rfl | ((with_reducible refine ArgLe.fn ?_); (conv => whnf)) | exact ArgLe.free SV.Le.nil rfl | exact ⟨rfl, rfl, rfl⟩ | exact fun i hi => rfl | exact (fun i hi => by (rcases i with _ | i) <;> first | rfl | (exfalso; omega)) | ((with_reducible refine And.intro ?_ ?_) <;> (conv => whnf))))); (conv => whnf))
    | ((refine DCall.fn (book_Len tab 2 cs2) [0,9] [0,9] rfl rfl rfl rfl rfl ?ha ?hh ?hs ?_); (case ha => ((conv => whnf); repeat' (first | exact trivial | exact ArgLe.rfl rfl | exact ArgLe.ptr rfl | exact ArgLe.sl rfl | ((with_reducible refine ArgLe.fn ?_); (conv => whnf)) | exact ArgLe.free SV.Le.nil rfl | ((with_reducible refine And.intro ?_ ?_) <;> (conv => whnf)) | ((refine ArgLe.free ?_ rfl); (repeat' (first | exact SV.Le.rfl _ | exact SV.Le.nil | exact SV.Le.sl (fun i hi => by (rcases i with _ | _ | _ | _ | i) <;> first | rfl | (exfalso; omega)) | with_reducible refine SV.Le.agg ?_ | exact Les.nil | with_reducible refine Les.cons ?_ ?_)))))); (case hh => ((conv => whnf); repeat' (first | exact trivial | exact ArgLe.rfl rfl | exact ArgLe.ptr rfl | exact ArgLe.sl rfl | ((with_reducible refine ArgLe.fn ?_); (conv => whnf)) | exact ArgLe.free SV.Le.nil rfl | exact ⟨rfl, rfl, rfl⟩ | exact fun i hi => rfl | exact (fun i hi => by (rcases i with _ | i) <;> first | rfl | (exfalso; omega)) | ((with_reducible refine And.intro ?_ ?_) <;> (conv => whnf))))); (case hs => (conv => whnf); repeat' (first | exact trivial | ((refine And.intro rfl ?_); (conv => whnf)))); (conv => whnf)) | ((refine DCall.new (book_Len tab 2 cs2) [0,9] [0,9] rfl rfl rfl rfl rfl rfl ?ha ?hh ?hs ?_); (case ha => ((conv => whnf); repeat' (first | exact trivial | exact ArgLe.rfl rfl | exact ArgLe.ptr rfl | exact ArgLe.sl rfl | ((with_reducible refine ArgLe.fn ?_); (conv => whnf)) | exact ArgLe.free SV.Le.nil rfl | ((with_reducible refine And.intro ?_ ?_) <;> (conv => whnf)) | ((refine ArgLe.free ?_ rfl); (repeat' (first | exact SV.Le.rfl _ | exact SV.Le.nil | exact SV.Le.sl (fun i hi => by (rcases i with _ | _ | _ | _ | i) <;> first | rfl | (exfalso; omega)) | with_reducible refine SV.Le.agg ?_ | exact Les.nil | with_reducible refine Les.cons ?_ ?_)))))); (case hh => ((conv => whnf); repeat' (first | exact trivial | exact ArgLe.rfl rfl | exact ArgLe.ptr rfl | exact ArgLe.sl rfl | ((with_reducible refine ArgLe.fn ?_); (conv => whnf)) | exact ArgLe.free SV.Le.nil rfl | exact ⟨rfl, rfl, rfl⟩ | exact fun i hi => rfl | exact (fun i hi => by (rcases i with _ | i) <;> first | rfl | (exfalso; omega)) | ((with_reducible refine And.intro ?_ ?_) <;> (conv => whnf))))); (case hs => (conv => whnf); repeat' (first | exact trivial | ((refine And.intro rfl ?_); (conv => whnf)))); (conv => whnf))
    | ((refine DCall.fn (book_Len tab 2 cs2) [0,9] [] rfl rfl rfl rfl rfl ?ha ?hh ?hs ?_); (case ha => ((conv => whnf); repeat' (first | exact trivial | exact ArgLe.rfl rfl | exact ArgLe.ptr rfl | exact ArgLe.sl rfl | ((with_reducible refine ArgLe.fn ?_); (conv => whnf)) | exact ArgLe.free SV.Le.nil rfl | ((with_reducible refine And.intro ?_ ?_) <;> (conv => whnf)) | ((refine ArgLe.free ?_ rfl); (repeat' (first | exact SV.Le.rfl _ | exact SV.Le.nil | exact SV.Le.sl (fun i hi => by (rcases i with _ | _ | _ | _ | i) <;> first | rfl | (exfalso; omega)) | with_reducible refine SV.Le.agg ?_ | exact Les.nil | with_reducible refine Les.cons ?_ ?_)))))); (case hh => ((conv => whnf); repeat' (first | exact trivial | exact ArgLe.rfl rfl | exact ArgLe.ptr rfl | exact ArgLe.sl rfl | ((with_reducible refine ArgLe.fn ?_); (conv => whnf)) | exact ArgLe.free SV.Le.nil rfl | exact ⟨rfl, rfl, rfl⟩ | exact fun i hi => rfl | exact (fun i hi => by (rcases i with _ | i) <;> first | rfl | (exfalso; omega)) | ((with_reducible refine And.intro ?_ ?_) <;> (conv => whnf))))); (case hs => (conv => whnf); repeat' (first | exact trivial | ((refine And.intro rfl ?_); (conv => whnf)))); (conv => whnf)) | ((refine DCall.new (book_Len tab 2 cs2) [0,9] [] rfl rfl rfl rfl rfl rfl ?ha ?hh ?hs ?_); (case ha => ((conv => whnf); repeat' (first | exact trivial | exact ArgLe.rfl rfl | exact ArgLe.ptr rfl | exact ArgLe.sl rfl | ((with_reducible refine ArgLe.fn ?_); (conv => whnf)) | exact ArgLe.free SV.Le.nil rfl | ((with_reducible refine And.intro ?_ ?_) <;> (conv => whnf)) | ((refine ArgLe.free ?_ rfl); (repeat' (first | exact SV.Le.rfl _ | exact SV.Le.nil | exact SV.Le.sl (fun i hi => by (rcases i with _ | _ | _ | _ | i) <;> first | rfl | (exfalso; omega)) | with_reducible refine SV.Le.agg ?_ | exact Les.nil | with_reducible refine Les.cons ?_ ?_)))))); (case hh => ((conv => whnf); repeat' (first | exact trivial | exact ArgLe.rfl rfl | exact ArgLe.ptr rfl | exact ArgLe.sl rfl | ((with_reducible refine ArgLe.fn ?_); (conv => whnf)) | exact ArgLe.free SV.Le.nil rfl | exact ⟨rfl, rfl, rfl⟩ | exact fun i hi => rfl | exact (fun i hi => by (rcases i with _ | i) <;> first | rfl | (exfalso; omega)) | ((with_reducible refine And.intro ?_ ?_) <;> (conv => whnf))))); (case hs => (conv => whnf); repeat' (first | exact trivial | ((refine And.intro rfl ?_); (conv => whnf)))); (conv => whnf))
    | ((refine ways (fun hc => ?_) (fun hc => ?_)) <;> (try simp only [decide_eq_true_eq, decide_eq_false_iff_not, Bool.and_eq_true, Bool.or_eq_true, Bool.and_eq_false_iff, Bool.or_eq_false_iff, Bool.not_eq_true', Bool.not_eq_false', beq_iff_eq, bne_iff_ne, ne_eq, beq_eq_false_iff_ne, bne_eq_false_iff_eq, Bool.not_eq_true, Bool.not_eq_false] at hc) <;> (try (exfalso; omega)) <;> (conv => whnf))))
  exact .b rfl
end Go.Proofs.Ytkdolemhhihidaa

namespace Go.Proofs.Ytkdolemhhihidaa
open Go.RowKit

/-- the shape of a cell -/
inductive Sh where
  | int (k : IntKind)
  | bool
  | str
  | sl (z : Nat) (es : List Sh)
mutual
inductive FitD : Sh → D → Prop
  | int {k : IntKind} {n : Int} (h : (Lit.int k n).wf = true) : FitD (.int k) (.val (.int k n))
  | bool (b : Bool) : FitD .bool (.val (.bool b))
  | str (s : ByteArray) (h : s.size ≤ maxLen) : FitD .str (.val (.string s))
  | sl {z : Nat} {es : List Sh} {n : Nat} {f : Nat → List D} (hn : n ≤ maxLen) (h : ∀ i, i < n → FitL es (f i)) : FitD (.sl z es) (.sl z n f)
inductive FitL : List Sh → List D → Prop
  | nil : FitL [] []
  | cons {s : Sh} {d : D} {ss : List Sh} {ds : List D} (h : FitD s d) (t : FitL ss ds) : FitL (s :: ss) (d :: ds)
end
theorem FitL.len : ∀ {ss : List Sh} {ds : List D}, FitL ss ds → ds.length = ss.length
  | _, _, .nil => rfl
  | _, _, .cons _ t => by simp [FitL.len t]
theorem FitL.append : ∀ {ss ss' : List Sh} {ds ds' : List D}, FitL ss ds → FitL ss' ds' → FitL (ss ++ ss') (ds ++ ds')
  | _, _, _, _, .nil, h => h
  | _, _, _, _, .cons h t, h' => .cons h (t.append h')

def shF (r : TypeId → Option (List Sh)) (c : TypeId → Nat) : List Field → Nat → Option (List Sh)
  | [], _ => some []
  | f :: fs, o => if f.offset = o then (r f.type).bind fun a => if a.length = c f.type then (shF r c fs (o + a.length)).map (a ++ ·) else none else none
def shT (P : Program) : Nat → TypeId → Option (List Sh)
  | 0, _ => none
  | n + 1, t => match P.underlying t with
    | some .bool => some [.bool]
    | some (.int k) => some [.int k]
    | some .string => some [.str]
    | some (.slice e) => (shT P n e).bind fun es => if es.length = P.cellsOf e then some [.sl (P.cellsOf e) es] else none
    | some (.struct fs) => (shF (shT P n) P.cellsOf fs.toList 0).bind fun a => if a.length = P.cellsOf t then some a else none
    | _ => none

/-- cells, told -/
structure RLs (w : World) (ds : List D) (cs : List Value) : Prop where
  len : ds.length = cs.length
  out : ∀ (j : Nat) (d : D) (c : Value), ds[j]? = some d → cs[j]? = some c → RD w (fun b => b < w.heap.size) d c
theorem RLs.nil (w : World) : RLs w [] [] := ⟨rfl, fun j d c h => by simp at h⟩
theorem RLs.one {w : World} {d : D} {c : Value} (h : RD w (fun b => b < w.heap.size) d c) : RLs w [d] [c] := ⟨rfl, fun j d' c' hd hc => by
  cases j with
  | zero => simp at hd hc; subst hd hc; exact h
  | succ j => simp at hd⟩
theorem RLs.append {w : World} {ds ds' : List D} {cs cs' : List Value} (h : RLs w ds cs) (h' : RLs w ds' cs') : RLs w (ds ++ ds') (cs ++ cs') := by
  have hl := h.len
  refine ⟨by simp [h.len, h'.len], fun j d c hd hc => ?_⟩
  by_cases hj : j < ds.length
  · rw [List.getElem?_append_left hj] at hd
    rw [List.getElem?_append_left (by omega)] at hc
    exact h.out j d c hd hc
  · rw [List.getElem?_append_right (by omega)] at hd
    rw [List.getElem?_append_right (by omega)] at hc
    rw [← hl] at hc
    exact h'.out _ d c hd hc

section
variable {H : Type} {enc : TypeId × Value → H} {P : Program} {w : World} {spare : Nat → Bool}
theorem fit_fields {r : TypeId → Option (List Sh)} {c : TypeId → Nat} {cs : List Value} : ∀ (fs : List Field) (o : Nat) (a : List Sh), shF r c fs o = some a → o + a.length ≤ cs.length →
    (∀ f ∈ fs, ∀ b, r f.type = some b → ∃ ds, FitL b ds ∧ RLs w ds ((cs.drop f.offset).take (c f.type))) → ∃ ds, FitL a ds ∧ RLs w ds ((cs.drop o).take a.length)
  | [], o, a, h, hl, hr => by
    simp only [shF, Option.some.injEq] at h; subst h
    exact ⟨[], .nil, by simpa using RLs.nil w⟩
  | f :: fs, o, a, h, hl, hr => by
    unfold shF at h
    split at h
    · rename_i ho
      obtain ⟨b, hb, h⟩ := Option.bind_eq_some_iff.1 h
      split at h
      · rename_i hc
        obtain ⟨a', ha', rfl⟩ := Option.map_eq_some_iff.1 h
        rw [List.length_append] at hl
        obtain ⟨ds, h1, h2⟩ := hr f (by simp) b hb
        obtain ⟨ds', h3, h4⟩ := fit_fields fs _ a' ha' (by omega) (fun g hg => hr g (by simp [hg]))
        refine ⟨ds ++ ds', h1.append h3, ?_⟩
        rw [ho, ← hc] at h2
        have := h2.append h4
        rw [show (cs.drop o).take (b ++ a').length = (cs.drop o).take b.length ++ (cs.drop (o + b.length)).take a'.length by
          rw [List.length_append, List.take_add, List.drop_drop]]
        exact this
      · cases h
    · cases h
theorem spot_none {a : Addr} {v : Value} (h : w.cell? (a.add 0) = some v) : a.spot = none := by
  have := World.cell?_spot h
  unfold Addr.add at this
  simpa using this
theorem opened : ∀ (m fuel : Nat) (t : TypeId) (cs : List Value) (x : DataW H × List MemPlace) (shs : List Sh), DataW.trod enc P w 0 spare true fuel t cs = some x → shT P m t = some shs → ∃ ds, FitL shs ds ∧ RLs w ds cs
  | 0, fuel, t, cs, x, shs, h, hs => by simp [shT] at hs
  | m + 1, 0, t, cs, x, shs, h, hs => by simp [DataW.trod] at h
  | m + 1, fuel + 1, t, cs, x, shs, h, hs => by
    have ih := fun fuel t cs x shs h hs => opened m fuel t cs x shs h hs
    unfold shT at hs
    split at hs
    · rename_i hu
      cases hs
      unfold DataW.trod at h
      rw [hu] at h
      split at h <;> simp_all
      exact ⟨_, .cons (.bool _) .nil, .one (.val _ rfl)⟩
    · rename_i k hu
      cases hs
      unfold DataW.trod at h
      rw [hu] at h
      split at h <;> simp_all
      rename_i n _ _
      obtain ⟨⟨rfl, hw⟩, _⟩ := h
      exact ⟨_, .cons (.int hw) .nil, .one (.val _ rfl)⟩
    · rename_i hu
      cases hs
      unfold DataW.trod at h
      rw [hu] at h
      split at h <;> simp_all
      exact ⟨_, .cons (.str _ h.1) .nil, .one (.val _ rfl)⟩
    · rename_i e hu
      obtain ⟨es, he, hs⟩ := Option.bind_eq_some_iff.1 hs
      split at hs
      case isFalse => cases hs
      rename_i hz
      cases hs
      rcases Go.Deep.open_slice hu h with ⟨rfl, _⟩ | ⟨a, len, cap, mm, n, Dd, Pl, rfl, _, hl, hm, hmm, _, hel⟩
      · refine ⟨[.sl (P.cellsOf e) 0 fun _ => []], .cons (.sl (by unfold maxLen; omega) fun i hi => by omega) .nil, .one (.sl _ 0 _ none 0 (fun _ _ => undef) (Nat.le_refl _) (by unfold maxLen; omega) (fun i hi => by omega) (fun h => by omega) (fun i j hi => by omega))⟩
      · have hle : len ≤ mm := by rw [hmm]; split <;> omega
        have hx : ∀ i, ∃ p : List Value × List D, i < len → w.cells? 0 (a.add (i * P.cellsOf e)) (P.cellsOf e) = some p.1 ∧ FitL es p.2 ∧ RLs w p.2 p.1 := fun i => by
          by_cases hi : i < len
          · obtain ⟨cs', h1, h2⟩ := hel i (by omega)
            obtain ⟨ds, h3, h4⟩ := ih _ _ _ _ _ h2 he
            exact ⟨(cs', ds), fun _ => ⟨h1, h3, h4⟩⟩
          · exact ⟨([], []), fun h => absurd h hi⟩
        obtain ⟨F, hF⟩ := Classical.axiomOfChoice hx
        refine ⟨[.sl (P.cellsOf e) len fun i => (F i).2], .cons (.sl (by omega) fun i hi => (hF i hi).2.1) .nil, .one (.sl _ len _ (some a) cap (fun i j => ((F i).1[j]?).getD undef) hl hm (fun i hi => by rw [(hF i hi).2.1.len, hz]) (fun h0 => ?_) (fun i j hi hj => ?_))⟩
        · have h0' : 0 < len ∧ 0 < P.cellsOf e := ⟨Nat.pos_of_ne_zero fun h => by subst h; simp at h0, Nat.pos_of_ne_zero fun h => by rw [h] at h0; simp at h0⟩
          have hcell : ∀ i j, i < len → j < P.cellsOf e → ∃ v, (F i).1[j]? = some v ∧ w.cell? ((a.add (i * P.cellsOf e)).add j) = some v := fun i j hi hj => by
            obtain ⟨_, k2, k3⟩ := World.cells?_some (hF i hi).1
            have hj' : j < (F i).1.length := by omega
            refine ⟨_, List.getElem?_eq_getElem hj', ?_⟩
            rw [k3 j hj, List.getElem?_eq_getElem hj']
          obtain ⟨v0, _, c0⟩ := hcell 0 0 h0'.1 h0'.2
          rw [Nat.zero_mul] at c0
          have hsp : a.spot = none := spot_none (by
            have := World.cell?_spot c0
            have e1 : (a.add 0) = a := by unfold Addr.add; simp
            rw [e1] at c0; exact c0)
          obtain ⟨b, o, sp⟩ := a
          simp only at hsp
          subst hsp
          refine ⟨b, o, rfl, ?_, fun i j hi hj => ?_⟩
          · rw [Addr.add_mid, Addr.add_mid] at c0
            exact World.block_lt_of_cell? w _ c0
          · obtain ⟨v, k1, k2⟩ := hcell i j hi hj
            rw [Addr.add_mid, Addr.add_mid] at k2
            rw [k2, k1]; rfl
        · have h9 := (hF i hi).2.2
          have hl9 := h9.len
          have hj' : j < (F i).1.length := by rw [← hl9]; exact hj
          exact h9.out j _ _ (List.getElem?_eq_getElem hj) (by rw [List.getElem?_eq_getElem hj']; rfl)
    · rename_i fs hu
      obtain ⟨a, ha, hs⟩ := Option.bind_eq_some_iff.1 hs
      split at hs
      case isFalse => cases hs
      rename_i hz
      cases hs
      obtain ⟨xs, n, _, _, hl, _, hf⟩ := DataW.trod_struct hu h
      obtain ⟨ds, h1, h2⟩ := fit_fields (w := w) (cs := cs) fs.toList 0 shs ha (by omega) (fun f hf' b hb => by
        obtain ⟨i, hi, e⟩ := List.getElem_of_mem hf'
        have hi' : i < fs.size := by simpa using hi
        have hfi : fs[i]? = some f := by rw [Array.getElem?_eq_getElem hi']; rw [← e]; simp
        have hq := hf i f hfi
        rename_i hxl _
        have hxi : ∃ y, xs[i]? = some y := ⟨xs[i]'(by omega), List.getElem?_eq_getElem _⟩
        obtain ⟨y, hy⟩ := hxi
        rw [hy] at hq
        exact ih _ _ _ _ _ hq hb)
      refine ⟨ds, h1, ?_⟩
      rw [List.drop_zero, hz, ← hl, List.take_length] at h2
      exact h2
    · cases hs
end
end Go.Proofs.Ytkdolemhhihidaa
