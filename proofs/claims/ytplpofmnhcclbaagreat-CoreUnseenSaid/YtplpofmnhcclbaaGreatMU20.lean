/- Parts of the proof, one behind the other: Cd6c, Cd6d, Ce3. Lemmas and contracts of functions; no condition of its own. -/
import Derived.Test.YtplpofmnhcclbaaGreatMU19
set_option linter.unusedVariables false
set_option linter.unusedSimpArgs false
set_option maxHeartbeats 1000000
namespace Go.Proofs.YtplpofmnhcclbaaGreat
open Go.RowKit
set_option maxRecDepth 100000
set_option maxHeartbeats 4000000
theorem core_S4 {ps : List Pol} {room : Int} {S : Nat → Core.Wk} {M : Core.Mc} {xs : Nat → XB} {nl : Nat} {f : Nat → List D} {cnt : Int} (w : Nat) (hw : w < 64) (hM : COK ps room w (gOf (coreOps ps room) 4 S) M xs nl cnt) (hn : (S w).s = .none) (hne : ∀ j, (S j).s ≠ .none → j ≠ w → slot j ≠ 4) (hsl : slot w = 4)
  (op pol : Int) (key : List Int) (n : Int) (hE : chkE ps op pol key n = 0) (hkl : key.length ≤ 16777216) (hk : op ≠ 5 → op ≠ 6 → Core.Kx ps (newX op pol key n)) :
  Fun TC 19 14 [.ptr 0 0, .i .i64 w, callS op pol key n] (coreH ps room (gOf (coreOps ps room) 4 S) M xs nl f cnt)
   24 (.i .i64 0) (coreS ps room (Dir.upd S w ⟨newX op pol key n, Core.first (newX op pol key n)⟩) M (xsU xs 4 ⟨9, xF w (newX op pol key n)⟩) nl f cnt) := by
 have q5 := hM.g; have qo := hM.o
 have hC := book_Check ps op pol key n
 rw [hE] at hC
 have hg2 : coreF ps room (gOf (coreOps ps room) 4 S) (w + 3) = nilF := by
  show SV.ren _ (cl _ _ _ (S w).s) = nilF
  rw [hn]; rfl
 have hF := first_c (nl := nl) (f := f) (cnt := cnt) (x := newX op pol key n) (hM.g1 4 (by decide) S w) hk
 obtain ⟨n2, caps2, e2, lt2⟩ := first_fn (coreOps ps room) w (newX op pol key n)
 rw [e2] at hF
 have hB := bytes_CloneP key hkl
 refine Fun.mk' Tryz.func19 rfl rfl zN (by decide) ?_
 (repeat' (first | ((with_reducible refine And.intro (drawZ_ok (e := 26) (show drawZ _ _ _ _ _ = true by kernel_rfl) ?hE ?hF ?hH) ?_); (case hE => exact zz12); (case hF => exact zz7); (case hH => exact zz7); (conv => whnf)) | ((first | refine Wp.any TC_mixed rfl ?_ | (with_reducible first | refine Go.mk ?_ | apply Eff1.of | refine And.intro zC ?_ | refine CallStop.pure (board_Is _) rfl rfl ?_ | refine CallStop.pure (hC) rfl rfl ?_ | refine DCall.pure (core_sum _ _) rfl rfl ?_ | refine CallStop.pure (hB) rfl rfl ?_)); conv => whnf) | ((refine DCall.fn (hF) [0,1,2,3,26,5,6,7,4,9,10,11,12,13] [] rfl rfl rfl rfl rfl ?ha ?hh ?hs ?_); (case ha => exact zz13); (case hh => exact zz14); (case hs => exact trivial); (conv => whnf)) | ((refine At.mk' (w + 3) (by show 3 + ((w : Nat) : Int).toNat * 1 = w + 3; omega) ?_); (refine And.intro (by omega) ?_); (rw [hg2]); (conv => whnf)) | ((refine And.intro (by exact lt_renN lt2 (fun l hl => by rcases l with _ | _ | _ | _ | _ | l <;> first | exact zN | omega) rfl) ?_); conv => whnf) | ((refine At.mk' (w + 3) (by show 3 + ((w : Nat) : Int).toNat * 1 = w + 3; omega) ?_); (refine And.intro (by omega) ?_); conv => whnf) | ((with_reducible refine At.mk' _ rfl ?_); (refine And.intro zN ?_); conv => whnf) | ((refine ways (fun hc => ?_) (fun hc => ?_)) <;> (try simp only [wz9] at hc) <;> (try (exfalso; omega)) <;> (conv => whnf))))
 refine FinLe.sealC [0, 1, 2, 3, 4, 5, 6, 7, 8, 9, 10, 11, 12, 13, 4, 5, 6, 7, 26, 9, 10, 11, 12, 13] [] rfl rfl rfl ?_ ?_
 ·conv => whnf
  (repeat' (first | exact Seal.d))
 ·conv => whnf
  refine And.intro ?c0 ?_
  case c0 =>
   conv => whnf
   exact ⟨⟨rfl, Nat.le_of_ble_eq_true rfl⟩, g1_seal hsl hn hne (by rw [e2]; exact renF_eq lt2 (fun l hl => by rcases l with _ | _ | _ | _ | _ | l <;> first | rfl | omega)) (fun l hl => by rcases l with _ | _ | _ | _ | l <;> first | exact ⟨Nat.le_of_ble_eq_true rfl, rfl, rfl⟩ | exact ⟨Nat.le_of_ble_eq_true rfl, rfl⟩ | omega) ⟨Nat.le_of_ble_eq_true rfl, rfl⟩ (fun k hk hne' => by rcases k with _ | _ | _ | _ | _ | _ | _ | _ | _ | k <;> first | exact ⟨Nat.le_of_ble_eq_true rfl, rfl⟩ | exact absurd rfl hne' | omega)⟩
  conv => whnf
  (repeat' (first | exact zL9 | exact x_sealR (qo _) rfl | ((refine And.intro ?_ ?_) <;> (conv => whnf))))
theorem core_S5 {ps : List Pol} {room : Int} {S : Nat → Core.Wk} {M : Core.Mc} {xs : Nat → XB} {nl : Nat} {f : Nat → List D} {cnt : Int} (w : Nat) (hw : w < 64) (hM : COK ps room w (gOf (coreOps ps room) 4 S) M xs nl cnt) (hn : (S w).s = .none) (hne : ∀ j, (S j).s ≠ .none → j ≠ w → slot j ≠ 5) (hsl : slot w = 5)
  (op pol : Int) (key : List Int) (n : Int) (hE : chkE ps op pol key n = 0) (hkl : key.length ≤ 16777216) (hk : op ≠ 5 → op ≠ 6 → Core.Kx ps (newX op pol key n)) :
  Fun TC 19 14 [.ptr 0 0, .i .i64 w, callS op pol key n] (coreH ps room (gOf (coreOps ps room) 4 S) M xs nl f cnt)
   24 (.i .i64 0) (coreS ps room (Dir.upd S w ⟨newX op pol key n, Core.first (newX op pol key n)⟩) M (xsU xs 5 ⟨9, xF w (newX op pol key n)⟩) nl f cnt) := by
 have q5 := hM.g; have qo := hM.o
 have hC := book_Check ps op pol key n
 rw [hE] at hC
 have hg2 : coreF ps room (gOf (coreOps ps room) 4 S) (w + 3) = nilF := by
  show SV.ren _ (cl _ _ _ (S w).s) = nilF
  rw [hn]; rfl
 have hF := first_c (nl := nl) (f := f) (cnt := cnt) (x := newX op pol key n) (hM.g1 5 (by decide) S w) hk
 obtain ⟨n2, caps2, e2, lt2⟩ := first_fn (coreOps ps room) w (newX op pol key n)
 rw [e2] at hF
 have hB := bytes_CloneP key hkl
 refine Fun.mk' Tryz.func19 rfl rfl zN (by decide) ?_
 (repeat' (first | ((with_reducible refine And.intro (drawZ_ok (e := 26) (show drawZ _ _ _ _ _ = true by kernel_rfl) ?hE ?hF ?hH) ?_); (case hE => exact zz12); (case hF => exact zz7); (case hH => exact zz7); (conv => whnf)) | ((first | refine Wp.any TC_mixed rfl ?_ | (with_reducible first | refine Go.mk ?_ | apply Eff1.of | refine And.intro zC ?_ | refine CallStop.pure (board_Is _) rfl rfl ?_ | refine CallStop.pure (hC) rfl rfl ?_ | refine DCall.pure (core_sum _ _) rfl rfl ?_ | refine CallStop.pure (hB) rfl rfl ?_)); conv => whnf) | ((refine DCall.fn (hF) [0,1,2,3,26,5,6,7,8,4,10,11,12,13] [] rfl rfl rfl rfl rfl ?ha ?hh ?hs ?_); (case ha => exact zz13); (case hh => exact zz14); (case hs => exact trivial); (conv => whnf)) | ((refine At.mk' (w + 3) (by show 3 + ((w : Nat) : Int).toNat * 1 = w + 3; omega) ?_); (refine And.intro (by omega) ?_); (rw [hg2]); (conv => whnf)) | ((refine And.intro (by exact lt_renN lt2 (fun l hl => by rcases l with _ | _ | _ | _ | _ | l <;> first | exact zN | omega) rfl) ?_); conv => whnf) | ((refine At.mk' (w + 3) (by show 3 + ((w : Nat) : Int).toNat * 1 = w + 3; omega) ?_); (refine And.intro (by omega) ?_); conv => whnf) | ((with_reducible refine At.mk' _ rfl ?_); (refine And.intro zN ?_); conv => whnf) | ((refine ways (fun hc => ?_) (fun hc => ?_)) <;> (try simp only [wz9] at hc) <;> (try (exfalso; omega)) <;> (conv => whnf))))
 refine FinLe.sealC [0, 1, 2, 3, 4, 5, 6, 7, 8, 9, 10, 11, 12, 13, 4, 5, 6, 7, 8, 26, 10, 11, 12, 13] [] rfl rfl rfl ?_ ?_
 ·conv => whnf
  (repeat' (first | exact Seal.d))
 ·conv => whnf
  refine And.intro ?c0 ?_
  case c0 =>
   conv => whnf
   exact ⟨⟨rfl, Nat.le_of_ble_eq_true rfl⟩, g1_seal hsl hn hne (by rw [e2]; exact renF_eq lt2 (fun l hl => by rcases l with _ | _ | _ | _ | _ | l <;> first | rfl | omega)) (fun l hl => by rcases l with _ | _ | _ | _ | l <;> first | exact ⟨Nat.le_of_ble_eq_true rfl, rfl, rfl⟩ | exact ⟨Nat.le_of_ble_eq_true rfl, rfl⟩ | omega) ⟨Nat.le_of_ble_eq_true rfl, rfl⟩ (fun k hk hne' => by rcases k with _ | _ | _ | _ | _ | _ | _ | _ | _ | k <;> first | exact ⟨Nat.le_of_ble_eq_true rfl, rfl⟩ | exact absurd rfl hne' | omega)⟩
  conv => whnf
  (repeat' (first | exact zL9 | exact x_sealR (qo _) rfl | ((refine And.intro ?_ ?_) <;> (conv => whnf))))
theorem core_S6 {ps : List Pol} {room : Int} {S : Nat → Core.Wk} {M : Core.Mc} {xs : Nat → XB} {nl : Nat} {f : Nat → List D} {cnt : Int} (w : Nat) (hw : w < 64) (hM : COK ps room w (gOf (coreOps ps room) 4 S) M xs nl cnt) (hn : (S w).s = .none) (hne : ∀ j, (S j).s ≠ .none → j ≠ w → slot j ≠ 6) (hsl : slot w = 6)
  (op pol : Int) (key : List Int) (n : Int) (hE : chkE ps op pol key n = 0) (hkl : key.length ≤ 16777216) (hk : op ≠ 5 → op ≠ 6 → Core.Kx ps (newX op pol key n)) :
  Fun TC 19 14 [.ptr 0 0, .i .i64 w, callS op pol key n] (coreH ps room (gOf (coreOps ps room) 4 S) M xs nl f cnt)
   24 (.i .i64 0) (coreS ps room (Dir.upd S w ⟨newX op pol key n, Core.first (newX op pol key n)⟩) M (xsU xs 6 ⟨9, xF w (newX op pol key n)⟩) nl f cnt) := by
 have q5 := hM.g; have qo := hM.o
 have hC := book_Check ps op pol key n
 rw [hE] at hC
 have hg2 : coreF ps room (gOf (coreOps ps room) 4 S) (w + 3) = nilF := by
  show SV.ren _ (cl _ _ _ (S w).s) = nilF
  rw [hn]; rfl
 have hF := first_c (nl := nl) (f := f) (cnt := cnt) (x := newX op pol key n) (hM.g1 6 (by decide) S w) hk
 obtain ⟨n2, caps2, e2, lt2⟩ := first_fn (coreOps ps room) w (newX op pol key n)
 rw [e2] at hF
 have hB := bytes_CloneP key hkl
 refine Fun.mk' Tryz.func19 rfl rfl zN (by decide) ?_
 (repeat' (first | ((with_reducible refine And.intro (drawZ_ok (e := 26) (show drawZ _ _ _ _ _ = true by kernel_rfl) ?hE ?hF ?hH) ?_); (case hE => exact zz12); (case hF => exact zz7); (case hH => exact zz7); (conv => whnf)) | ((first | refine Wp.any TC_mixed rfl ?_ | (with_reducible first | refine Go.mk ?_ | apply Eff1.of | refine And.intro zC ?_ | refine CallStop.pure (board_Is _) rfl rfl ?_ | refine CallStop.pure (hC) rfl rfl ?_ | refine DCall.pure (core_sum _ _) rfl rfl ?_ | refine CallStop.pure (hB) rfl rfl ?_)); conv => whnf) | ((refine DCall.fn (hF) [0,1,2,3,26,5,6,7,8,9,4,11,12,13] [] rfl rfl rfl rfl rfl ?ha ?hh ?hs ?_); (case ha => exact zz13); (case hh => exact zz14); (case hs => exact trivial); (conv => whnf)) | ((refine At.mk' (w + 3) (by show 3 + ((w : Nat) : Int).toNat * 1 = w + 3; omega) ?_); (refine And.intro (by omega) ?_); (rw [hg2]); (conv => whnf)) | ((refine And.intro (by exact lt_renN lt2 (fun l hl => by rcases l with _ | _ | _ | _ | _ | l <;> first | exact zN | omega) rfl) ?_); conv => whnf) | ((refine At.mk' (w + 3) (by show 3 + ((w : Nat) : Int).toNat * 1 = w + 3; omega) ?_); (refine And.intro (by omega) ?_); conv => whnf) | ((with_reducible refine At.mk' _ rfl ?_); (refine And.intro zN ?_); conv => whnf) | ((refine ways (fun hc => ?_) (fun hc => ?_)) <;> (try simp only [wz9] at hc) <;> (try (exfalso; omega)) <;> (conv => whnf))))
 refine FinLe.sealC [0, 1, 2, 3, 4, 5, 6, 7, 8, 9, 10, 11, 12, 13, 4, 5, 6, 7, 8, 9, 26, 11, 12, 13] [] rfl rfl rfl ?_ ?_
 ·conv => whnf
  (repeat' (first | exact Seal.d))
 ·conv => whnf
  refine And.intro ?c0 ?_
  case c0 =>
   conv => whnf
   exact ⟨⟨rfl, Nat.le_of_ble_eq_true rfl⟩, g1_seal hsl hn hne (by rw [e2]; exact renF_eq lt2 (fun l hl => by rcases l with _ | _ | _ | _ | _ | l <;> first | rfl | omega)) (fun l hl => by rcases l with _ | _ | _ | _ | l <;> first | exact ⟨Nat.le_of_ble_eq_true rfl, rfl, rfl⟩ | exact ⟨Nat.le_of_ble_eq_true rfl, rfl⟩ | omega) ⟨Nat.le_of_ble_eq_true rfl, rfl⟩ (fun k hk hne' => by rcases k with _ | _ | _ | _ | _ | _ | _ | _ | _ | k <;> first | exact ⟨Nat.le_of_ble_eq_true rfl, rfl⟩ | exact absurd rfl hne' | omega)⟩
  conv => whnf
  (repeat' (first | exact zL9 | exact x_sealR (qo _) rfl | ((refine And.intro ?_ ?_) <;> (conv => whnf))))
theorem core_S7 {ps : List Pol} {room : Int} {S : Nat → Core.Wk} {M : Core.Mc} {xs : Nat → XB} {nl : Nat} {f : Nat → List D} {cnt : Int} (w : Nat) (hw : w < 64) (hM : COK ps room w (gOf (coreOps ps room) 4 S) M xs nl cnt) (hn : (S w).s = .none) (hne : ∀ j, (S j).s ≠ .none → j ≠ w → slot j ≠ 7) (hsl : slot w = 7)
  (op pol : Int) (key : List Int) (n : Int) (hE : chkE ps op pol key n = 0) (hkl : key.length ≤ 16777216) (hk : op ≠ 5 → op ≠ 6 → Core.Kx ps (newX op pol key n)) :
  Fun TC 19 14 [.ptr 0 0, .i .i64 w, callS op pol key n] (coreH ps room (gOf (coreOps ps room) 4 S) M xs nl f cnt)
   24 (.i .i64 0) (coreS ps room (Dir.upd S w ⟨newX op pol key n, Core.first (newX op pol key n)⟩) M (xsU xs 7 ⟨9, xF w (newX op pol key n)⟩) nl f cnt) := by
 have q5 := hM.g; have qo := hM.o
 have hC := book_Check ps op pol key n
 rw [hE] at hC
 have hg2 : coreF ps room (gOf (coreOps ps room) 4 S) (w + 3) = nilF := by
  show SV.ren _ (cl _ _ _ (S w).s) = nilF
  rw [hn]; rfl
 have hF := first_c (nl := nl) (f := f) (cnt := cnt) (x := newX op pol key n) (hM.g1 7 (by decide) S w) hk
 obtain ⟨n2, caps2, e2, lt2⟩ := first_fn (coreOps ps room) w (newX op pol key n)
 rw [e2] at hF
 have hB := bytes_CloneP key hkl
 refine Fun.mk' Tryz.func19 rfl rfl zN (by decide) ?_
 (repeat' (first | ((with_reducible refine And.intro (drawZ_ok (e := 26) (show drawZ _ _ _ _ _ = true by kernel_rfl) ?hE ?hF ?hH) ?_); (case hE => exact zz12); (case hF => exact zz7); (case hH => exact zz7); (conv => whnf)) | ((first | refine Wp.any TC_mixed rfl ?_ | (with_reducible first | refine Go.mk ?_ | apply Eff1.of | refine And.intro zC ?_ | refine CallStop.pure (board_Is _) rfl rfl ?_ | refine CallStop.pure (hC) rfl rfl ?_ | refine DCall.pure (core_sum _ _) rfl rfl ?_ | refine CallStop.pure (hB) rfl rfl ?_)); conv => whnf) | ((refine DCall.fn (hF) [0,1,2,3,26,5,6,7,8,9,10,4,12,13] [] rfl rfl rfl rfl rfl ?ha ?hh ?hs ?_); (case ha => exact zz13); (case hh => exact zz14); (case hs => exact trivial); (conv => whnf)) | ((refine At.mk' (w + 3) (by show 3 + ((w : Nat) : Int).toNat * 1 = w + 3; omega) ?_); (refine And.intro (by omega) ?_); (rw [hg2]); (conv => whnf)) | ((refine And.intro (by exact lt_renN lt2 (fun l hl => by rcases l with _ | _ | _ | _ | _ | l <;> first | exact zN | omega) rfl) ?_); conv => whnf) | ((refine At.mk' (w + 3) (by show 3 + ((w : Nat) : Int).toNat * 1 = w + 3; omega) ?_); (refine And.intro (by omega) ?_); conv => whnf) | ((with_reducible refine At.mk' _ rfl ?_); (refine And.intro zN ?_); conv => whnf) | ((refine ways (fun hc => ?_) (fun hc => ?_)) <;> (try simp only [wz9] at hc) <;> (try (exfalso; omega)) <;> (conv => whnf))))
 refine FinLe.sealC [0, 1, 2, 3, 4, 5, 6, 7, 8, 9, 10, 11, 12, 13, 4, 5, 6, 7, 8, 9, 10, 26, 12, 13] [] rfl rfl rfl ?_ ?_
 ·conv => whnf
  (repeat' (first | exact Seal.d))
 ·conv => whnf
  refine And.intro ?c0 ?_
  case c0 =>
   conv => whnf
   exact ⟨⟨rfl, Nat.le_of_ble_eq_true rfl⟩, g1_seal hsl hn hne (by rw [e2]; exact renF_eq lt2 (fun l hl => by rcases l with _ | _ | _ | _ | _ | l <;> first | rfl | omega)) (fun l hl => by rcases l with _ | _ | _ | _ | l <;> first | exact ⟨Nat.le_of_ble_eq_true rfl, rfl, rfl⟩ | exact ⟨Nat.le_of_ble_eq_true rfl, rfl⟩ | omega) ⟨Nat.le_of_ble_eq_true rfl, rfl⟩ (fun k hk hne' => by rcases k with _ | _ | _ | _ | _ | _ | _ | _ | _ | k <;> first | exact ⟨Nat.le_of_ble_eq_true rfl, rfl⟩ | exact absurd rfl hne' | omega)⟩
  conv => whnf
  (repeat' (first | exact zL9 | exact x_sealR (qo _) rfl | ((refine And.intro ?_ ?_) <;> (conv => whnf))))
theorem core_S8 {ps : List Pol} {room : Int} {S : Nat → Core.Wk} {M : Core.Mc} {xs : Nat → XB} {nl : Nat} {f : Nat → List D} {cnt : Int} (w : Nat) (hw : w < 64) (hM : COK ps room w (gOf (coreOps ps room) 4 S) M xs nl cnt) (hn : (S w).s = .none) (hne : ∀ j, (S j).s ≠ .none → j ≠ w → slot j ≠ 8) (hsl : slot w = 8)
  (op pol : Int) (key : List Int) (n : Int) (hE : chkE ps op pol key n = 0) (hkl : key.length ≤ 16777216) (hk : op ≠ 5 → op ≠ 6 → Core.Kx ps (newX op pol key n)) :
  Fun TC 19 14 [.ptr 0 0, .i .i64 w, callS op pol key n] (coreH ps room (gOf (coreOps ps room) 4 S) M xs nl f cnt)
   24 (.i .i64 0) (coreS ps room (Dir.upd S w ⟨newX op pol key n, Core.first (newX op pol key n)⟩) M (xsU xs 8 ⟨9, xF w (newX op pol key n)⟩) nl f cnt) := by
 have q5 := hM.g; have qo := hM.o
 have hC := book_Check ps op pol key n
 rw [hE] at hC
 have hg2 : coreF ps room (gOf (coreOps ps room) 4 S) (w + 3) = nilF := by
  show SV.ren _ (cl _ _ _ (S w).s) = nilF
  rw [hn]; rfl
 have hF := first_c (nl := nl) (f := f) (cnt := cnt) (x := newX op pol key n) (hM.g1 8 (by decide) S w) hk
 obtain ⟨n2, caps2, e2, lt2⟩ := first_fn (coreOps ps room) w (newX op pol key n)
 rw [e2] at hF
 have hB := bytes_CloneP key hkl
 refine Fun.mk' Tryz.func19 rfl rfl zN (by decide) ?_
 (repeat' (first | ((with_reducible refine And.intro (drawZ_ok (e := 26) (show drawZ _ _ _ _ _ = true by kernel_rfl) ?hE ?hF ?hH) ?_); (case hE => exact zz12); (case hF => exact zz7); (case hH => exact zz7); (conv => whnf)) | ((first | refine Wp.any TC_mixed rfl ?_ | (with_reducible first | refine Go.mk ?_ | apply Eff1.of | refine And.intro zC ?_ | refine CallStop.pure (board_Is _) rfl rfl ?_ | refine CallStop.pure (hC) rfl rfl ?_ | refine DCall.pure (core_sum _ _) rfl rfl ?_ | refine CallStop.pure (hB) rfl rfl ?_)); conv => whnf) | ((refine DCall.fn (hF) [0,1,2,3,26,5,6,7,8,9,10,11,4,13] [] rfl rfl rfl rfl rfl ?ha ?hh ?hs ?_); (case ha => exact zz13); (case hh => exact zz14); (case hs => exact trivial); (conv => whnf)) | ((refine At.mk' (w + 3) (by show 3 + ((w : Nat) : Int).toNat * 1 = w + 3; omega) ?_); (refine And.intro (by omega) ?_); (rw [hg2]); (conv => whnf)) | ((refine And.intro (by exact lt_renN lt2 (fun l hl => by rcases l with _ | _ | _ | _ | _ | l <;> first | exact zN | omega) rfl) ?_); conv => whnf) | ((refine At.mk' (w + 3) (by show 3 + ((w : Nat) : Int).toNat * 1 = w + 3; omega) ?_); (refine And.intro (by omega) ?_); conv => whnf) | ((with_reducible refine At.mk' _ rfl ?_); (refine And.intro zN ?_); conv => whnf) | ((refine ways (fun hc => ?_) (fun hc => ?_)) <;> (try simp only [wz9] at hc) <;> (try (exfalso; omega)) <;> (conv => whnf))))
 refine FinLe.sealC [0, 1, 2, 3, 4, 5, 6, 7, 8, 9, 10, 11, 12, 13, 4, 5, 6, 7, 8, 9, 10, 11, 26, 13] [] rfl rfl rfl ?_ ?_
 ·conv => whnf
  (repeat' (first | exact Seal.d))
 ·conv => whnf
  refine And.intro ?c0 ?_
  case c0 =>
   conv => whnf
   exact ⟨⟨rfl, Nat.le_of_ble_eq_true rfl⟩, g1_seal hsl hn hne (by rw [e2]; exact renF_eq lt2 (fun l hl => by rcases l with _ | _ | _ | _ | _ | l <;> first | rfl | omega)) (fun l hl => by rcases l with _ | _ | _ | _ | l <;> first | exact ⟨Nat.le_of_ble_eq_true rfl, rfl, rfl⟩ | exact ⟨Nat.le_of_ble_eq_true rfl, rfl⟩ | omega) ⟨Nat.le_of_ble_eq_true rfl, rfl⟩ (fun k hk hne' => by rcases k with _ | _ | _ | _ | _ | _ | _ | _ | _ | k <;> first | exact ⟨Nat.le_of_ble_eq_true rfl, rfl⟩ | exact absurd rfl hne' | omega)⟩
  conv => whnf
  (repeat' (first | exact zL9 | exact x_sealR (qo _) rfl | ((refine And.intro ?_ ?_) <;> (conv => whnf))))
set_option maxRecDepth 100000
theorem core_Start {ps : List Pol} {room : Int} {S : Nat → Core.Wk} {M : Core.Mc} {xs : Nat → XB} {nl : Nat} {f : Nat → List D} {cnt : Int} (w : Nat) (hw : w < 64) (hM : COK ps room w (gOf (coreOps ps room) 4 S) M xs nl cnt) (hn : (S w).s = .none) (hne : ∀ j, (S j).s ≠ .none → j ≠ w → slot j ≠ slot w)
  (op pol : Int) (key : List Int) (n : Int) (hE : chkE ps op pol key n = 0) (hkl : key.length ≤ 16777216) (hk : op ≠ 5 → op ≠ 6 → Core.Kx ps (newX op pol key n)) :
  Fun TC 19 14 [.ptr 0 0, .i .i64 w, callS op pol key n] (coreH ps room (gOf (coreOps ps room) 4 S) M xs nl f cnt)
   24 (.i .i64 0) (coreS ps room (Dir.upd S w ⟨newX op pol key n, Core.first (newX op pol key n)⟩) M (xsU xs (slot w) ⟨9, xF w (newX op pol key n)⟩) nl f cnt) := by
 obtain ⟨q, hq⟩ : ∃ q, q = slot w := ⟨_, rfl⟩
 have hq9 : q < 9 := by rw [hq]; exact slot_lt w
 rw [← hq] at hne ⊢
 rcases q with _ | _ | _ | _ | _ | _ | _ | _ | _ | q
 ·exact core_S0 w hw hM hn hne hq.symm op pol key n hE hkl hk
 ·exact core_S1 w hw hM hn hne hq.symm op pol key n hE hkl hk
 ·exact core_S2 w hw hM hn hne hq.symm op pol key n hE hkl hk
 ·exact core_S3 w hw hM hn hne hq.symm op pol key n hE hkl hk
 ·exact core_S4 w hw hM hn hne hq.symm op pol key n hE hkl hk
 ·exact core_S5 w hw hM hn hne hq.symm op pol key n hE hkl hk
 ·exact core_S6 w hw hM hn hne hq.symm op pol key n hE hkl hk
 ·exact core_S7 w hw hM hn hne hq.symm op pol key n hE hkl hk
 ·exact core_S8 w hw hM hn hne hq.symm op pol key n hE hkl hk
 ·omega
end Go.Proofs.YtplpofmnhcclbaaGreat

namespace Go.Proofs.YtplpofmnhcclbaaGreat
open Go.RowKit
set_option maxRecDepth 100000
set_option maxHeartbeats 4000000
theorem law_argR {ps : List Pol} {room : Int} {S : Nat → Core.Wk} {b b' : Nat} {L : List Nat} {π : Nat → Nat} (hb : 4 ≤ b') (h4 : ∀ l, l < 4 → l < L.length ∧ L.getD l 0 = π l) (hq : ∀ q, q < 9 → b' + q < L.length ∧ L.getD (b' + q) 0 = π (b + q)) :
  ∀ j, j < 67 → ArgLe L (SV.ren π (coreF ps room (gOf (coreOps ps room) b S) j)) (coreF ps room (gOf (coreOps ps room) b' S) j) ∧ SV.Lt (b' + 9) (coreF ps room (gOf (coreOps ps room) b' S) j) := fun j _ => by
 have hl : ∀ x, SV.Lt 4 x → ArgLe L (SV.ren π x) x := fun x hx => by
  have := ArgLe.renX (π1 := π) (π2 := fun l => l) (L := L) hx h4
  rwa [SV.ren_same (π := fun l => l) (m := 4) (fun _ _ => rfl) hx] at this
 rcases j with _ | _ | _ | j
 ·exact ⟨hl _ (.of rfl), .of rfl⟩
 ·exact ⟨hl _ (.of rfl), .of rfl⟩
 ·exact ⟨hl _ (.of rfl), (show SV.Lt 4 lanesS from .of rfl).mono (by omega)⟩
 ·refine ⟨?_, gOf_lt hb S j⟩
  show ArgLe L (SV.ren π (SV.ren (at4 (b + slot j)) (cl (coreOps ps room) j (S j).x (S j).s))) (SV.ren (at4 (b' + slot j)) (cl (coreOps ps room) j (S j).x (S j).s))
  rw [SV.ren_ren]
  refine ArgLe.renX (cl_lt _ _ _ _) fun l hl => ?_
  by_cases e : l = 4
  ·subst e; exact hq _ (slot_lt j)
  ·rw [at4_lo (by omega), at4_lo (by omega)]; exact h4 l (by omega)
theorem law_argI {ps : List Pol} {room : Int} {S : Nat → Core.Wk} {b b' : Nat} {L : List Nat} (hB : 4 ≤ b) (hb : 4 ≤ b') (h4 : ∀ l, l < 4 → l < L.length ∧ L.getD l 0 = l) (hq : ∀ q, q < 9 → b' + q < L.length ∧ L.getD (b' + q) 0 = b + q) :
  ∀ j, j < 67 → ArgLe L (coreF ps room (gOf (coreOps ps room) b S) j) (coreF ps room (gOf (coreOps ps room) b' S) j) ∧ SV.Lt (b' + 9) (coreF ps room (gOf (coreOps ps room) b' S) j) := fun j hj => by
 have := law_argR (ps := ps) (room := room) (S := S) (b := b) (π := fun l => l) hb h4 hq j hj
 have hlt : SV.Lt (b + 9) (coreF ps room (gOf (coreOps ps room) b S) j) := by
  rcases j with _ | _ | _ | j
  ·exact .of rfl
  ·exact .of rfl
  ·exact (show SV.Lt 4 lanesS from .of rfl).mono (by omega)
  ·exact gOf_lt hB S j
 rwa [SV.ren_same (π := fun l => l) (fun _ _ => rfl) hlt] at this
theorem x_argA {xs : Nat → XB} {i n : Nat} (H : ∀ i j, SV.Lt 1 ((xs i).f j)) {L : List Nat} : ∀ j, j < n → ArgLe (0 :: L) ((xs i).f j) ((xs i).f j) ∧ SV.Lt 1 ((xs i).f j) := x_arg (H i)
theorem x_argRA {xs : Nat → XB} {i n : Nat} {π : Nat → Nat} (H : ∀ i j, SV.Lt 1 ((xs i).f j)) (hπ : π 0 = 0) {L : List Nat} : ∀ j, j < n → ArgLe (0 :: L) (SV.ren π ((xs i).f j)) ((xs i).f j) ∧ SV.Lt 1 ((xs i).f j) := x_argR (H i) hπ
theorem x_sealRA {St' : St} {xs : Nat → XB} {i n : Nat} {π : Nat → Nat} (H : ∀ i j, SV.Lt 1 ((xs i).f j)) (hπ : π 0 = 0) {L : List Nat} : ∀ j, j < n → Seal St' (0 :: L) (SV.ren π ((xs i).f j)) ((xs i).f j) ∧ SV.Lt 1 ((xs i).f j) := x_sealR (H i) hπ
@[reducible] def lawH (B : Nat) (ps : List Pol) (room : Int) (S : Nat → Core.Wk) (M : Core.Mc) (o : Nat → XB) (nl : Nat) (f : Nat → List D) (cnt : Int) : List (Nat × Option Blk) :=
  [(0, some (.cf (B + 9) 67 (coreF ps room (gOf (coreOps ps room) B S)))), (1, some (machB 2 (B + 9) 34 nl M.clk cnt)), (2, some (wordB 34 M.W)), (3, some (holdB M.Hd)),
   (B, some (xB (o 0))), (B + 1, some (xB (o 1))), (B + 2, some (xB (o 2))), (B + 3, some (xB (o 3))), (B + 4, some (xB (o 4))), (B + 5, some (xB (o 5))), (B + 6, some (xB (o 6))), (B + 7, some (xB (o 7))), (B + 8, some (xB (o 8))), (B + 9, some (lastB nl f))]
variable {ps : List Pol} {room : Int} {k : Nat} {M : Core.Mc} {S : Nat → Core.Wk} {xs : Nat → XB} {nl : Nat} {f : Nat → List D} {cnt : Int}
theorem law_Step (h : LawC ps room k M S xs nl cnt) (hk : k ≤ 1000000) {w : Nat} (hw : w < 8 ∨ w = 9) (hn : isC (S w).s = true) :
  ∃ xs' f', LawC ps room (k + 1) (Core.mx (coreOps ps room) M S w) (Core.nx (coreOps ps room) M S w) xs' (noteN nl) (cnt + 1) ∧
  Fun TC 20 14 [.ptr 0 0, .i .i64 w] (coreH ps room (gOf (coreOps ps room) 4 S) M xs nl f cnt)
   24 (.tup [rsS (Core.step (coreOps ps room) M (S w).x (S w).s).r, .i .i64 0]) (coreS ps room (Core.nx (coreOps ps room) M S w) (Core.mx (coreOps ps room) M S w) xs' (noteN nl) f' (cnt + 1)) := by
 obtain ⟨a, hF⟩ := core_Step (f := f) w (by omega) (h.cok hk w (by omega)) hn (h.okC hk (by omega)) (h.xe w (isC_ne hn))
 exact ⟨_, _, h.step hk hw hn, hF⟩
theorem law_Start (h : LawC ps room k M S xs nl cnt) (hk : k ≤ 1000000) {w : Nat} (hw : w < 8 ∨ w = 9) (hn : (S w).s = .none) (op pol : Int) (key : List Int) (n : Int) (hE : chkE ps op pol key n = 0) (hkl : key.length ≤ 16777216) (hkx : op ≠ 5 → op ≠ 6 → Core.Kx ps (newX op pol key n)) :
  ∃ xs', LawC ps room k M (Dir.upd S w ⟨newX op pol key n, Core.first (newX op pol key n)⟩) xs' nl cnt ∧
  Fun TC 19 14 [.ptr 0 0, .i .i64 w, callS op pol key n] (coreH ps room (gOf (coreOps ps room) 4 S) M xs nl f cnt)
   24 (.i .i64 0) (coreS ps room (Dir.upd S w ⟨newX op pol key n, Core.first (newX op pol key n)⟩) M xs' nl f cnt) :=
 ⟨_, h.start hw hn hkx, core_Start w (by omega) (h.cok hk w (by omega)) hn (fun j hs hne => slot_ne h.busy hw hs hne) op pol key n hE hkl hkx⟩
end Go.Proofs.YtplpofmnhcclbaaGreat
