/- Parts of the proof, one behind the other: Ce2, Ct5, Ct5p. Lemmas and contracts of functions; no condition of its own. -/
import Derived.Test.YtpdhdnhkhidmpaaGreatMP18
set_option linter.unusedVariables false
set_option linter.unusedSimpArgs false
set_option maxHeartbeats 1000000
namespace Go.Proofs.YtpdhdnhkhidmpaaGreat
open Go.RowKit
set_option maxRecDepth 100000
set_option maxHeartbeats 4000000
theorem qS : Fun TC 91 0 [.i .i64 34] [] 3 (.tup [.ptr 0 0, .i .i64 0]) [(0, some (cm 1 2 34 0 0 0)), (1, some (ce 34 fun _ => 0)), (2, some (bw 0 fun _ => []))] := by
 refine Fun.mk' Tryz.func91 rfl rfl zN (by decide) ?_
 (repeat' (first | ((first | refine Wp.any ac rfl ?_ | (with_reducible first | refine Go.mk ?_ | apply aj.of | refine And.intro zC ?_)); conv => whnf)))
 refine af.virtC 1 3 223 6 (fun _ => []) (by decide) rfl rfl (by decide) ?_
 (refine af.sealB [1,0,2] rfl rfl rfl ?_ ?_); (focus ((conv => whnf); (repeat' (first | exact zE | ((refine ai.tup ?_); (conv => whnf)) | ((refine And.intro ?_ ?_) <;> (conv => whnf)))))); (focus ((conv => whnf); (repeat' (first | exact zE | ((refine And.intro ?_ ?_) <;> (conv => whnf))))))
theorem pE : Fun TC 62 0 [.i .i64 34] [] 4 (iL 0 2) [(0, some (cm 1 3 34 0 0 0)), (1, some (ce 34 fun _ => 0)), (2, some (gi fun _ => [])), (3, some (bw 0 fun _ => []))] := by
 refine Fun.mk' Tryz.func62 rfl rfl zN (by decide) ?_
 (repeat' (first | ((first | refine Wp.any ac rfl ?_ | (with_reducible first | refine Go.mk ?_ | apply aj.of | refine And.intro zC ?_)); conv => whnf) | ((refine ab.fn (qS) [] rfl rfl rfl rfl rfl ?ha ?hh ?_); (case ha => exact zA); (case hh => exact zH); (conv => whnf))))
 (refine af.sealB [0,1,3,2] rfl rfl rfl ?_ ?_); (focus ((conv => whnf); (repeat' (first | exact zE | ((refine ai.ptr rfl rfl ?_); (conv => whnf)) | ((refine And.intro ?_ ?_) <;> (conv => whnf)))))); (focus ((conv => whnf); (repeat' (first | exact zE | ((refine And.intro ?_ ?_) <;> (conv => whnf))))))
 exact fun i hi => (show DLe (.val (.slice none 0 0)) (.sl 4 0 _) ∧ True from ⟨.nil, trivial⟩)
theorem rb : Fun TC 32 0 [.i .i64 2, .d (.val (.slice none 0 0)), .d (.fn (.func 33) [])] [] 4 (.iref [iL 0 2, .d (.fn (.func 33) [])] 0)
  [(0, some (cm 1 3 34 (au 0) 0 1)), (1, some (ce 34 Dir.M0.W)), (2, some (gi fun _ => [])), (3, some (bw (au 0) (bA 0 (fun _ => []) (bN 0 2 1 0 1 true))))] := by
 refine Fun.mk' Tryz.func32 rfl rfl zN (by decide) ?_
 (repeat' (first | ((first | refine Wp.any ac rfl ?_ | (with_reducible first | refine Go.mk ?_ | apply aj.of | refine Ov.ok zO ?_) | refine zV ?_); conv => whnf) | ((refine ab.fn (pE) [] rfl rfl rfl rfl rfl ?ha ?hh ?_); (case ha => exact zA); (case hh => exact zH); (conv => whnf)) | ((with_reducible refine ag.pure (b7 0 (by omega) 0) rfl rfl ?_); conv => whnf) | ((refine ag.new (aB 0 (fun _ => 0) (fun _ => []) (fun _ => []) 0 0 0 0 1 1 [] (by decide) (by decide) (by decide) (by decide) (by decide) (by decide)) [0,1,2,3] [] rfl rfl rfl rfl rfl rfl ?ha ?hh ?hs ?_); (case ha => exact zA); (case hh => exact zH); (case hs => exact zK); (conv => whnf))))
 (refine af.sealB [0,1,2,11] rfl rfl rfl ?_ ?_); (focus ((conv => whnf); (repeat' (first | exact zE | ((refine ai.ptr rfl rfl ?_); (conv => whnf)) | ((refine ai.iref ?_); (conv => whnf)) | ((refine And.intro ?_ ?_) <;> (conv => whnf)))))); (focus ((conv => whnf); (repeat' (first | exact zE | ((refine And.intro ?_ ?_) <;> (conv => whnf))))))
 refine fun i hi => gO.of ?_
 dsimp only
 rw [if_pos rfl]
 unfold Dir.upd
 split <;> rfl
def S0 : Nat → Core.Wk := fun _ => ⟨default, .none⟩
def xs0 : Nat → XB := fun _ => ⟨0, fun _ => .any⟩
def f0' : Nat → List D := bA 0 (fun _ => []) (bN 0 2 1 0 1 true)
theorem oA {ps : List Pol} {room : Int} (h : uK ps room = 0) : Fun TC 10 0 [.d (ax 4 Pol.D ps), .i .i64 room] [] 14 (.tup [.ptr 0 0, .i .i64 0])
  (ah ps room (gOf (aa ps room) 4 S0) Core.M0 xs0 (au 0) f0' 1) := by
 have hc1 : 1 ≤ room ∧ room ≤ 4096 := by
  unfold uK at h
  split at h
  ·omega
  ·omega
 have hp : dq ps = 0 := by
  unfold uK at h
  split at h
  ·omega
  ·exact h
 have hl := eL hp
 have hBk := ut ps room h
 refine Fun.mk' Tryz.func10 rfl rfl zN (by decide) ?_
 (repeat' (first | ((first | refine Wp.any ac rfl ?_ | (with_reducible first | refine Go.mk ?_ | apply aj.of | refine Ov.ok zO ?_)); conv => whnf) | ((refine ab.fn (hBk) [] rfl rfl rfl rfl rfl ?ha ?hh ?_); (case ha => exact zA); (case hh => exact zH); (conv => whnf)) | ((with_reducible refine ab.pure (ji ps (by omega)) rfl rfl ?_); conv => whnf) | ((refine ab.fn (rb) [] rfl rfl rfl rfl rfl ?ha ?hh ?_); (case ha => exact zA); (case hh => exact zH); (conv => whnf))))
 refine af.sealC [6, 2, 3, 4, 0, 0, 0, 0, 0, 0, 0, 0, 0, 5] [4, 5, 6, 7, 8, 9, 10, 11, 12] rfl rfl rfl ?_ ?_
 ·refine ai.tup ?_
  conv => whnf
  refine And.intro (ai.ptrL rfl) ?_
  exact ⟨ai.d, trivial⟩
 ·conv => whnf
  (repeat' (first | exact trivial | exact ai.d | exact ai.slX zN rfl | exact ai.ptrL rfl | exact ⟨rfl, rfl, rfl⟩ | exact (show (13 : Nat) ≤ 14 by decide) | exact ⟨(show (_ : Nat) ≤ _ from zzb rfl), rfl⟩ | exact fun i hi => gO.refl _ | exact fun j _ => aF (fM _ _) j | ((refine ai.iref ?_); conv => whnf) | ((refine And.intro ?_ ?_) <;> (conv => whnf))))
variable {ps : List Pol} {room : Int} {S : Nat → Core.Wk} {M : Core.Mc} {xs : Nat → XB} {nl nl0 : Nat} {f : Nat → List D} {cnt cnt0 who : Int}
theorem mb (hM : COK ps room who (gOf (aa ps room) 4 S) M xs nl0 cnt0) (h0 : 0 ≤ M.clk) (h1 : M.clk ≤ 4611686018427387903) (n : Int) (hn : 0 ≤ n) (hn1 : n ≤ 4611686018427387903) :
  Fun TC 27 14 [.ptr 0 0, .i .i64 n] (ah ps room (gOf (aa ps room) 4 S) M xs nl f cnt) 14 (.tup [.i .i64 (min (M.clk + n) 4611686018427387903), .i .i64 0]) (ah ps room (gOf (aa ps room) 4 S) ⟨M.W, M.Hd, min (M.clk + n) 4611686018427387903⟩ xs nl f cnt) := by
 have q5 := hM.g; have qo := hM.o
 refine Fun.mk' Tryz.func27 rfl rfl zN (by decide) ?_
 (repeat' (first | ((first | refine Wp.any ac rfl ?_ | (with_reducible first | refine Go.mk ?_ | apply aj.of)); conv => whnf) | ((with_reducible refine At.mk' _ rfl ?_); (refine And.intro zN ?_); conv => whnf) | ((refine ab.fn (qQ 34 nl M.W f M.clk cnt n h0 h1 hn hn1) [1,2,13] rfl rfl rfl rfl rfl ?ha ?hh ?_); (case ha => exact zA); (case hh => exact zH); (conv => whnf))))
 ((refine af.sealB [0, 1, 2, 3, 4, 5, 6, 7, 8, 9, 10, 11, 12, 13] rfl rfl rfl ?_ ?_); (focus ((conv => whnf); (repeat' (first | exact zC9)))); (focus ((conv => whnf); (repeat' (first | exact zC9 | exact aL (qo _) | ((refine And.intro ?_ ?_) <;> (conv => whnf)))))))
theorem pq (hM : COK ps room who (gOf (aa ps room) 4 S) M xs nl0 cnt0) :
  Fun TC 29 14 [.ptr 0 0] (ah ps room (gOf (aa ps room) 4 S) M xs nl f cnt) 14 (.i .i64 (M.W 32)) (ah ps room (gOf (aa ps room) 4 S) M xs nl f cnt) := by
 have q5 := hM.g; have qo := hM.o; have q8 := hM.c32
 refine Fun.mk' Tryz.func29 rfl rfl zN (by decide) ?_
 (repeat' (first | ((first | refine Wp.any ac rfl ?_ | (with_reducible first | refine Go.mk ?_ | apply aj.of | refine Ov.ok zO ?_)); conv => whnf) | ((with_reducible refine At.mk' _ rfl ?_); (refine And.intro zN ?_); conv => whnf) | ((refine ab.fn (b9 nl M.W M.Hd f M.clk cnt 32 (by decide)) [1,2,3,13] rfl rfl rfl rfl rfl ?ha ?hh ?_); (case ha => exact zA); (case hh => exact zH); (conv => whnf))))
 ((refine af.sealB [0, 1, 2, 3, 4, 5, 6, 7, 8, 9, 10, 11, 12, 13] rfl rfl rfl ?_ ?_); (focus ((conv => whnf); (repeat' (first | exact ai.d)))); (focus ((conv => whnf); (repeat' (first | exact zC9 | exact aL (qo _) | ((refine And.intro ?_ ?_) <;> (conv => whnf)))))))
theorem pl (hM : COK ps room who (gOf (aa ps room) 4 S) M xs nl0 cnt0) (h0 : 0 ≤ cnt) (h8 : cnt ≤ 4611686018427387904) :
  Fun TC 30 14 [.ptr 0 0] (ah ps room (gOf (aa ps room) 4 S) M xs nl f cnt) 14 (.i .i64 (cnt - 1)) (ah ps room (gOf (aa ps room) 4 S) M xs nl f cnt) := by
 have q5 := hM.g; have qo := hM.o
 refine Fun.mk' Tryz.func30 rfl rfl zN (by decide) ?_
 (repeat' (first | ((first | refine Wp.any ac rfl ?_ | (with_reducible first | refine Go.mk ?_ | apply aj.of | refine Ov.ok zO ?_)); conv => whnf) | (with_reducible refine ab.inline Tryz.func61 rfl rfl rfl (zzb rfl) ?_) | ((with_reducible refine At.mk' _ rfl ?_); (refine And.intro zN ?_); conv => whnf)))
 ((refine af.sealB [0, 1, 2, 3, 4, 5, 6, 7, 8, 9, 10, 11, 12, 13] rfl rfl rfl ?_ ?_); (focus ((conv => whnf); (repeat' (first | exact ai.d)))); (focus ((conv => whnf); (repeat' (first | exact zC9 | exact aL (qo _) | ((refine And.intro ?_ ?_) <;> (conv => whnf)))))))
end Go.Proofs.YtpdhdnhkhidmpaaGreat

namespace Go.Proofs.YtpdhdnhkhidmpaaGreat
open Go.RowKit
set_option maxRecDepth 100000
def jo : SV := .iref [iL 0 2, .d (.fn (.func 33) [])] 0
def iV (M : Core.Mc) (nl : Nat) (f : Nat → List D) (clk cnt : Int) : List (Nat × Option Blk) := [(0, some (cm 1 3 34 nl clk cnt)), (1, some (ce 34 M.W)), (2, some (gi M.Hd)), (3, some (bw nl f))]
variable {ps : List Pol} {room : Int}
def mP (h : List Cel) : List D := [ax 4 Cel.D h]
theorem ld (zs : List (List Cel)) (c : List Cel) : ∀ k, k < zs.length + 1 → b6 zs.length (fun i => mP (zs.getD i default)) (fun i => dK (mP c) 1 (0 + i)) k = mP ((zs ++ [c]).getD k default) := fun k hk => by
 simp only [b6]
 by_cases e : k < zs.length
 ·rw [if_pos e, List.getD_eq_getElem?_getD, List.getD_eq_getElem?_getD, List.getElem?_append_left e]
 ·rw [if_neg e]
  obtain rfl : k = zs.length := by omega
  have : (zs ++ [c]).getD zs.length default = c := by simp
  rw [Nat.sub_self, this]; rfl
theorem ip (M : Core.Mc) (nl : Nat) (f : Nat → List D) (clk cnt : Int) (h0 : 0 ≤ M.W 0) (h8 : M.W 0 ≤ 8) :
  Fun TC 104 4 [jo] (iV M nl f clk cnt) 4 (.tup [.i .i64 (Core.lvl M), .b (decide (M.W 0 % 2 = 1))]) (iV M nl f clk cnt) := by
 have qr : (M.W 0).tmod 2 = M.W 0 % 2 := Int.tmod_eq_emod_of_nonneg h0
 have ql : M.W 0 / 2 = (Core.lvl M : Int) := by unfold Core.lvl; omega
 refine Fun.mk' Tryz.func104 rfl rfl zN (by decide) ?_
 (repeat' (first | ((first | refine Wp.any ac rfl ?_ | (with_reducible first | refine Go.mk ?_ | apply aj.of | refine Ov.ok zO ?_ | refine And.intro zC ?_)); conv => whnf) | ((refine ab.fn (b9 nl M.W M.Hd f clk cnt 0 (by decide)) [0,1,2,3] rfl rfl rfl rfl rfl ?ha ?hh ?_); (case ha => exact zA); (case hh => exact zH); (conv => whnf)) | (with_reducible refine Ov.tdivC (by omega) ?_)))
 rw [qr, ql]
 (refine af.sealB [0,1,2,3] rfl rfl rfl ?_ ?_); (focus ((conv => whnf); (repeat' (first | exact zE)))); (focus ((conv => whnf); (repeat' (first | exact zE | ((refine And.intro ?_ ?_) <;> (conv => whnf))))))
theorem fC (ps : List Pol) (room : Int) (M : Core.Mc) (i : Nat) : (List.range (i + 1)).flatMap (Core.partL (aa ps room) M) = (List.range i).flatMap (Core.partL (aa ps room) M) ++ Core.partL (aa ps room) M i := by
 rw [List.range_succ, List.flatMap_append]; simp
theorem eM (ps : List Pol) (room : Int) (M : Core.Mc) : ∀ i, ((List.range i).flatMap (Core.partL (aa ps room) M)).length ≤ 2 * i
 | 0 => by simp
 | i + 1 => by
  rw [fC ps room, List.length_append]
  have := eM ps room M i
  have : (Core.partL (aa ps room) M i).length ≤ 2 := by unfold Core.partL; split <;> simp
  omega
theorem rf (ps : List Pol) (room : Int) (M : Core.Mc) (nl : Nat) (f : Nat → List D) (clk cnt : Int) (h0 : 0 ≤ M.W 0) (h8 : M.W 0 ≤ 8) (he : M.W 0 % 2 = 0) :
  Fun TC 74 4 [jo] (iV M nl f clk cnt) 4 (.d (ax 1 mP (Core.allL (aa ps room) M))) (iV M nl f clk cnt) := by
 have hL := ip M nl f clk cnt h0 h8
 rw [decide_eq_false (by omega)] at hL
 have hlv : Core.lvl M ≤ 4 := by unfold Core.lvl; omega
 have hp4 : 2 ^ Core.lvl M ≤ 2 ^ 4 := Nat.pow_le_pow_right (by omega) hlv
 have hsh := gS hlv
 have e2 : ((2 ^ Core.lvl M : Nat) : Int) = 2 ^ Core.lvl M := by simp
 refine Fun.mk' Tryz.func74 rfl rfl zN (by decide) ?_
 (repeat' (first | ((first | refine Wp.any ac rfl ?_ | (with_reducible first | refine Go.mk ?_ | apply aj.of | refine And.intro zC ?_)); conv => whnf) | ((refine ab.fn (hL) [0,1,2,3] rfl rfl rfl rfl rfl ?ha ?hh ?_); (case ha => exact zA); (case hh => exact zH); (conv => whnf))))
 refine Wp.le (Le.virt 3 59 1 (fun i => mP (([] : List (List Cel)).getD i default)) (by decide) rfl) ?_
 refine Wp.loopP (ι := Nat) (fun i => i ≤ 2 ^ Core.lvl M) (fun i => ⟨⟨Tryz.f74.ntmps, 4⟩, 5, [(0, jo), (3, .sl 4 1 0 ((List.range i).flatMap (Core.partL (aa ps room) M)).length), (4, .i .i64 (Core.lvl M)), (5, .b false), (19, .i .i64 (2 ^ Core.lvl M)), (20, .i .i64 i)],
  iV M nl f clk cnt ++ [(4, some (aG 59 1 mP ((List.range i).flatMap (Core.partL (aa ps room) M))))]⟩) (fun i => 2 ^ Core.lvl M - i) 0 (Nat.zero_le _) ?_ ?_
 ·(refine Le.by [0,1,2,3,4] rfl rfl rfl rfl ?_ ?_ <;> (conv => whnf) <;> (repeat' (first | exact trivial | exact ae.rfl rfl | exact ae.ptr rfl | exact ae.sl rfl | ((refine ae.iref ?_); (conv => whnf)) | exact ⟨rfl, rfl, rfl⟩ | exact fun i hi => rfl | ((with_reducible refine And.intro ?_ ?_) <;> (conv => whnf)))))
  rw [hsh]; exact ae.rfl rfl
 ·rintro i h1
  have hpl := Core.plc_32 hlv (i : Int)
  have hfl := eM ps room M i
  (repeat' (first | ((first | refine Wp.any ac rfl ?_ | (with_reducible first | refine Go.mk ?_ | apply aj.of | refine Ov.ok zO ?_) | refine zV ?_ | with_reducible refine And.intro zC ?_); conv => whnf) | ((with_reducible refine And.intro ?hb ?_); (case hb => exact zz9); (conv => whnf)) | ((with_reducible refine ag.pure (b7 _ hlv _) rfl rfl ?_); conv => whnf) | ((refine ag.fn (b9 nl M.W M.Hd f clk cnt (Dir.plc (Core.lvl M) (i : Int)) (Nat.lt_trans hpl.2 (by decide))) [0,1,2,3] [0,1,2,3] rfl rfl rfl rfl rfl ?ha ?hh ?hs ?_); (case ha => exact zA); (case hh => exact zH); (case hs => exact zK); (conv => whnf)) | ((refine ap (fun hc => ?_) (fun hc => ?_)) <;> (try simp only [wz9] at hc) <;> (try (exfalso; omega)) <;> (conv => whnf))))
  ·have hi : i < 2 ^ Core.lvl M := by omega
   have hw : Dir.plc (Core.lvl M) (i : Int) = 2 ^ Core.lvl M + i := by rw [cj (by omega) (by omega)]; rfl
   have hpt : Core.partL (aa ps room) M i = [M.Hd (Dir.plc (Core.lvl M) (i : Int))] := by unfold Core.partL; rw [if_pos (.inl he), hw]
   refine ⟨i + 1, by dsimp only; omega, by dsimp only; omega, ?_⟩
   dsimp only
   rw [fC ps room, hpt]
   (refine Le.by [0,1,2,3,20] rfl rfl rfl rfl ?_ ?_ <;> (conv => whnf) <;> (repeat' (first | exact trivial | exact ae.rfl rfl | exact ae.ptr rfl | exact ae.sl rfl | ((refine ae.iref ?_); (conv => whnf)) | exact ⟨rfl, rfl, rfl⟩ | exact fun i hi => rfl | ((with_reducible refine And.intro ?_ ?_) <;> (conv => whnf)))))
   ·rw [List.length_append]; exact ae.sl rfl
   all_goals first | exact ld _ _ | rfl | (simp; done)
  ·obtain rfl : i = 2 ^ Core.lvl M := by omega
   rw [show Core.allL (aa ps room) M = (List.range (2 ^ Core.lvl M)).flatMap (Core.partL (aa ps room) M) from rfl]
   (refine af.sealB [0,1,2,3] rfl rfl rfl ?_ ?_); (focus ((conv => whnf); (repeat' (first | exact zE)))); (focus ((conv => whnf); (repeat' (first | exact zE | ((refine And.intro ?_ ?_) <;> (conv => whnf))))))
theorem sq (zs : List (List Cel)) (a b : List Cel) : ∀ k, k < zs.length + 1 + 1 → b6 (zs.length + 1) (b6 zs.length (fun i => mP (zs.getD i default)) (fun i => dK (mP a) 1 (0 + i))) (fun i => dK (mP b) 1 (0 + i)) k = mP ((zs ++ [a, b]).getD k default) := fun k hk => by
 by_cases e : k < zs.length + 1
 ·rw [b6, if_pos e, ld _ _ _ e]
  congr 1
  rw [show zs ++ [a, b] = (zs ++ [a]) ++ [b] by simp, List.getD_eq_getElem?_getD, List.getD_eq_getElem?_getD, List.getElem?_append_left (l₁ := zs ++ [a]) (by simpa using e)]
 ·rw [b6, if_neg e]
  obtain rfl : k = zs.length + 1 := by omega
  have : (zs ++ [a, b]).getD (zs.length + 1) default = b := by simp [List.getD]
  rw [Nat.sub_self, this]; rfl
set_option maxHeartbeats 1600000 in
theorem rc (ps : List Pol) (room : Int) (M : Core.Mc) (nl : Nat) (f : Nat → List D) (clk cnt : Int) (h0 : 0 ≤ M.W 0) (h8 : M.W 0 ≤ 8) (hH : ∀ w, (M.Hd w).length ≤ 16777216) (he : M.W 0 % 2 = 1) :
  Fun TC 74 4 [jo] (iV M nl f clk cnt) 4 (.d (ax 1 mP (Core.allL (aa ps room) M))) (iV M nl f clk cnt) := by
 have hL := ip M nl f clk cnt h0 h8
 rw [decide_eq_true he] at hL
 have hlv : Core.lvl M ≤ 3 := by unfold Core.lvl; omega
 have hp4 : 2 ^ Core.lvl M ≤ 2 ^ 3 := Nat.pow_le_pow_right (by omega) hlv
 have hsh := gS (lv := Core.lvl M) (by omega)
 have e2 : ((2 ^ Core.lvl M : Nat) : Int) = 2 ^ Core.lvl M := by simp
 refine Fun.mk' Tryz.func74 rfl rfl zN (by decide) ?_
 (repeat' (first | ((first | refine Wp.any ac rfl ?_ | (with_reducible first | refine Go.mk ?_ | apply aj.of | refine And.intro zC ?_)); conv => whnf) | ((refine ab.fn (hL) [0,1,2,3] rfl rfl rfl rfl rfl ?ha ?hh ?_); (case ha => exact zA); (case hh => exact zH); (conv => whnf))))
 refine Wp.le (Le.virt 3 59 1 (fun i => mP (([] : List (List Cel)).getD i default)) (by decide) rfl) ?_
 refine Wp.loopP (ι := Nat) (fun i => i ≤ 2 ^ Core.lvl M) (fun i => ⟨⟨Tryz.f74.ntmps, 4⟩, 5, [(0, jo), (3, .sl 4 1 0 ((List.range i).flatMap (Core.partL (aa ps room) M)).length), (4, .i .i64 (Core.lvl M)), (5, .b true), (19, .i .i64 (2 ^ Core.lvl M)), (20, .i .i64 i)],
  iV M nl f clk cnt ++ [(4, some (aG 59 1 mP ((List.range i).flatMap (Core.partL (aa ps room) M))))]⟩) (fun i => 2 ^ Core.lvl M - i) 0 (Nat.zero_le _) ?_ ?_
 ·(refine Le.by [0,1,2,3,4] rfl rfl rfl rfl ?_ ?_ <;> (conv => whnf) <;> (repeat' (first | exact trivial | exact ae.rfl rfl | exact ae.ptr rfl | exact ae.sl rfl | ((refine ae.iref ?_); (conv => whnf)) | exact ⟨rfl, rfl, rfl⟩ | exact fun i hi => rfl | ((with_reducible refine And.intro ?_ ?_) <;> (conv => whnf)))))
  rw [hsh]; exact ae.rfl rfl
 ·rintro i h1
  have hpl := Core.plc_32 (by omega : Core.lvl M ≤ 4) (i : Int)
  have hq1 := Core.plc_32 (by omega : Core.lvl M + 1 ≤ 4) (i : Int)
  have hq2 := Core.plc_32 (by omega : Core.lvl M + 1 ≤ 4) ((i : Int) + IntKind.i64.wrap (1 * 2 ^ min ((Core.lvl M : Nat) : Int).toNat IntKind.i64.bits))
  have hfl := eM ps room M i
  have hHp := hH (Dir.plc (Core.lvl M) (i : Int))
  have hcut : Pure TC 33 [.d (ax 4 Cel.D (M.Hd (Dir.plc (Core.lvl M) (i : Int)))), .i .i64 ((Core.lvl M : Int) + 1), .i .i64 (i : Int)] (.d (ax 4 Cel.D (gm (M.Hd (Dir.plc (Core.lvl M) (i : Int))) (Core.lvl M + 1) i))) := gM _ (Core.lvl M + 1) i (by omega) hHp
  have hcut2 : Pure TC 33 [.d (ax 4 Cel.D (M.Hd (Dir.plc (Core.lvl M) (i : Int)))), .i .i64 ((Core.lvl M : Int) + 1), .i .i64 ((i : Int) + IntKind.i64.wrap (1 * 2 ^ min ((Core.lvl M : Nat) : Int).toNat IntKind.i64.bits))] (.d (ax 4 Cel.D (gm (M.Hd (Dir.plc (Core.lvl M) (i : Int))) (Core.lvl M + 1) (i + 2 ^ Core.lvl M)))) := by
   have := gM (M.Hd (Dir.plc (Core.lvl M) (i : Int))) (Core.lvl M + 1) (i + 2 ^ Core.lvl M) (by omega) hHp
   rw [hsh]
   rwa [show (((i + 2 ^ Core.lvl M : Nat) : Nat) : Int) = (i : Int) + 2 ^ Core.lvl M by rw [Int.natCast_add, e2]] at this
  (repeat' (first | ((first | refine Wp.any ac rfl ?_ | (with_reducible first | refine Go.mk ?_ | apply aj.of | refine Ov.ok zO ?_) | refine zV ?_ | with_reducible refine And.intro zC ?_); conv => whnf) | ((with_reducible refine And.intro ?hb ?_); (case hb => exact zz9); (conv => whnf)) | ((with_reducible first | refine ag.pure (b7 _ (by omega : Core.lvl M ≤ 4) _) rfl rfl ?_ | refine ag.pure (io _ hlv _) rfl rfl ?_ | refine ab.pure (hcut) rfl rfl ?_ | refine ab.pure (hcut2) rfl rfl ?_); conv => whnf) | ((refine ag.fn (b9 nl M.W M.Hd f clk cnt (Dir.plc (Core.lvl M) (i : Int)) (Nat.lt_trans hpl.2 (by decide))) [0,1,2,3] [0,1,2,3] rfl rfl rfl rfl rfl ?ha ?hh ?hs ?_); (case ha => exact zA); (case hh => exact zH); (case hs => exact zK); (conv => whnf)) | ((refine ag.fn (b9 nl M.W M.Hd f clk cnt (Dir.plc (Core.lvl M + 1) (i : Int)) (Nat.lt_trans hq1.2 (by decide))) [0,1,2,3] [0,1,2,3] rfl rfl rfl rfl rfl ?ha ?hh ?hs ?_); (case ha => exact zA); (case hh => exact zH); (case hs => exact zK); (conv => whnf)) | ((refine ag.fn (b9 nl M.W M.Hd f clk cnt (Dir.plc (Core.lvl M + 1) ((i : Int) + IntKind.i64.wrap (1 * 2 ^ min ((Core.lvl M : Nat) : Int).toNat IntKind.i64.bits))) (Nat.lt_trans hq2.2 (by decide))) [0,1,2,3] [0,1,2,3] rfl rfl rfl rfl rfl ?ha ?hh ?hs ?_); (case ha => exact zA); (case hh => exact zH); (case hs => exact zK); (conv => whnf)) | ((with_reducible refine Wp.loopN 4 ?_); conv => whnf) | ((refine ap (fun hc => ?_) (fun hc => ?_)) <;> (try simp only [wz9] at hc) <;> (try (exfalso; omega)) <;> (conv => whnf))))
  rotate_right
  ·obtain rfl : i = 2 ^ Core.lvl M := by omega
   rw [show Core.allL (aa ps room) M = (List.range (2 ^ Core.lvl M)).flatMap (Core.partL (aa ps room) M) from rfl]
   (refine af.sealB [0,1,2,3] rfl rfl rfl ?_ ?_); (focus ((conv => whnf); (repeat' (first | exact zE)))); (focus ((conv => whnf); (repeat' (first | exact zE | ((refine And.intro ?_ ?_) <;> (conv => whnf))))))
  all_goals
   have hi : i < 2 ^ Core.lvl M := by omega
   have hpp : 2 ^ (Core.lvl M + 1) = 2 ^ Core.lvl M * 2 := Nat.pow_succ 2 _
   have hpi : (2 : Int) ^ (Core.lvl M + 1) = 2 ^ Core.lvl M * 2 := Int.pow_succ 2 _
   have hw : Dir.plc (Core.lvl M) (i : Int) = 2 ^ Core.lvl M + i := by rw [cj (by omega) (by omega)]; rfl
   have hw1 : Dir.plc (Core.lvl M + 1) (i : Int) = 2 ^ (Core.lvl M + 1) + i := by rw [cj (by omega) (by omega)]; rfl
   have hw2 : Dir.plc (Core.lvl M + 1) ((i : Int) + IntKind.i64.wrap (1 * 2 ^ min ((Core.lvl M : Nat) : Int).toNat IntKind.i64.bits)) = 2 ^ (Core.lvl M + 1) + (i + 2 ^ Core.lvl M) := by rw [hsh, cj (by omega) (by omega)]; omega
   have hpt : Core.partL (aa ps room) M i = if M.W (Dir.plc (Core.lvl M) (i : Int)) < 4611686018427387904 then [M.Hd (Dir.plc (Core.lvl M) (i : Int))] else [if M.W (Dir.plc (Core.lvl M + 1) (i : Int)) = 0 then gm (M.Hd (Dir.plc (Core.lvl M) (i : Int))) (Core.lvl M + 1) i else M.Hd (Dir.plc (Core.lvl M + 1) (i : Int)),
    if M.W (Dir.plc (Core.lvl M + 1) ((i : Int) + IntKind.i64.wrap (1 * 2 ^ min ((Core.lvl M : Nat) : Int).toNat IntKind.i64.bits))) = 0 then gm (M.Hd (Dir.plc (Core.lvl M) (i : Int))) (Core.lvl M + 1) (i + 2 ^ Core.lvl M) else M.Hd (Dir.plc (Core.lvl M + 1) ((i : Int) + IntKind.i64.wrap (1 * 2 ^ min ((Core.lvl M : Nat) : Int).toNat IntKind.i64.bits)))] := by
    unfold Core.partL Core.nxt
    rw [hw, hw1, hw2]
    by_cases hq : M.W (2 ^ Core.lvl M + i) < 4611686018427387904
    ·rw [if_pos hq, if_pos (.inr hq)]
    ·rw [if_neg hq, if_neg (by intro h; rcases h with h | h; omega; exact hq h)]; rfl
   refine ⟨i + 1, by dsimp only; omega, by dsimp only; omega, ?_⟩
   dsimp only
   rw [fC ps room, hpt]
  ·rw [if_pos (by assumption)]
   (refine Le.by [0,1,2,3,20] rfl rfl rfl rfl ?_ ?_ <;> (conv => whnf) <;> (repeat' (first | exact trivial | exact ae.rfl rfl | exact ae.ptr rfl | exact ae.sl rfl | ((refine ae.iref ?_); (conv => whnf)) | exact ⟨rfl, rfl, rfl⟩ | exact fun i hi => rfl | ((with_reducible refine And.intro ?_ ?_) <;> (conv => whnf)))))
   ·rw [List.length_append]; exact ae.sl rfl
   all_goals first | exact ld _ _ | rfl | (simp; done)
  all_goals
   rw [if_neg (by assumption)]
   first
    | rw [if_pos (by assumption), if_pos (by assumption)]
    | rw [if_pos (by assumption), if_neg (by assumption)]
    | rw [if_neg (by assumption), if_pos (by assumption)]
    | rw [if_neg (by assumption), if_neg (by assumption)]
   (refine Le.by [0,1,2,3,53] rfl rfl rfl rfl ?_ ?_ <;> (conv => whnf) <;> (repeat' (first | exact trivial | exact ae.rfl rfl | exact ae.ptr rfl | exact ae.sl rfl | ((refine ae.iref ?_); (conv => whnf)) | exact ⟨rfl, rfl, rfl⟩ | exact fun i hi => rfl | ((with_reducible refine And.intro ?_ ?_) <;> (conv => whnf)))))
   ·rw [List.length_append]; exact ae.sl rfl
   all_goals first | exact sq _ _ _ | rfl | (simp; done)
end Go.Proofs.YtpdhdnhkhidmpaaGreat

namespace Go.Proofs.YtpdhdnhkhidmpaaGreat
namespace Core
def lts (a b : Cel) : Prop := bm (idn a) (idn b) < 0
def insC (e : Cel) : List Cel → List Cel
 | [] => [e]
 | x :: r => if bm (idn e) (idn x) < 0 then e :: x :: r else x :: insC e r
def sortC (l : List Cel) : List Cel := l.foldr insC []
theorem iq (e : Cel) : ∀ l, (insC e l).Perm (e :: l)
 | [] => .refl _
 | x :: r => by
  unfold insC; split
  ·exact .refl _
  ·exact ((iq e r).cons x).trans (.swap e x r)
theorem sortC_perm : ∀ l, (sortC l).Perm l
 | [] => .refl _
 | x :: r => (iq x _).trans ((sortC_perm r).cons x)
theorem cmp_eq : ∀ {a b : List Int}, bm a b = 0 → a = b
 | [], [], _ => rfl
 | [], _ :: _, h => by simp [bm] at h
 | _ :: _, [], h => by simp [bm] at h
 | x :: a, y :: b, h => by
  simp only [bm] at h
  split at h
  ·cases h
  ·split at h
   ·cases h
   ·have : x = y := by omega
    rw [this, cmp_eq h]
theorem uZ : ∀ a b : List Int, bm b a = - bm a b
 | [], [] => rfl
 | [], _ :: _ => rfl
 | _ :: _, [] => rfl
 | x :: a, y :: b => by
  simp only [bm]
  by_cases h1 : x < y
  ·rw [if_pos h1, if_neg (by omega), if_pos h1]; rfl
  ·by_cases h2 : y < x
   ·rw [if_pos h2, if_neg h1, if_pos h2]
   ·rw [if_neg h1, if_neg h2, if_neg h2, if_neg h1]; exact uZ a b
theorem oC : ∀ {a b c : List Int}, bm a b < 0 → bm b c < 0 → bm a c < 0
 | [], [], _, h, _ => by simp [bm] at h
 | [], _ :: _, [], _, h => by simp [bm] at h
 | [], _ :: _, _ :: _, _, _ => by simp [bm]
 | _ :: _, [], _, h, _ => by simp [bm] at h
 | _ :: _, _ :: _, [], _, h => by simp [bm] at h
 | x :: a, y :: b, z :: c, h1, h2 => by
  simp only [bm] at h1 h2 ⊢
  by_cases e1 : x < y
  ·by_cases e2 : y < z
   ·rw [if_pos (by omega)]; omega
   ·by_cases e3 : z < y
    ·rw [if_neg e2, if_pos e3] at h2; omega
    ·rw [if_pos (by omega)]; omega
  ·by_cases e4 : y < x
   ·rw [if_neg e1, if_pos e4] at h1; omega
   ·rw [if_neg e1, if_neg e4] at h1
    by_cases e2 : y < z
    ·rw [if_pos (by omega)]; omega
    ·by_cases e3 : z < y
     ·rw [if_neg e2, if_pos e3] at h2; omega
     ·rw [if_neg e2, if_neg e3] at h2
      rw [if_neg (by omega), if_neg (by omega)]; exact oC h1 h2
theorem lts_tr {a b c : Cel} (h1 : lts a b) (h2 : lts b c) : lts a c := oC h1 h2
theorem uO {a b : Cel} (h : idn a ≠ idn b) (hn : ¬ lts a b) : lts b a := by
 unfold lts at *
 have := uZ (idn a) (idn b)
 have h0 : bm (idn a) (idn b) ≠ 0 := fun e => h (cmp_eq e)
 omega
theorem n9 {e : Cel} : ∀ {l : List Cel}, l.Pairwise lts → (∀ x ∈ l, idn x ≠ idn e) → (insC e l).Pairwise lts
 | [], _, _ => List.pairwise_singleton _ _
 | x :: r, h, hk => by
  obtain ⟨h1, h2⟩ := List.pairwise_cons.1 h
  unfold insC; split
  ·rename_i hlt
   refine List.pairwise_cons.2 ⟨fun y hy => ?_, h⟩
   rcases List.mem_cons.1 hy with rfl | hy
   ·exact hlt
   ·exact oC hlt (h1 y hy)
  ·rename_i hlt
   refine List.pairwise_cons.2 ⟨fun y hy => ?_, n9 h2 fun z hz => hk z (by simp [hz])⟩
   rcases List.mem_cons.1 ((iq e r).mem_iff.1 hy) with rfl | hy
   ·exact uO (hk x (by simp)).symm hlt
   ·exact h1 y hy
theorem lz : ∀ {l : List Cel}, l.Pairwise (fun a b => idn a ≠ idn b) → (sortC l).Pairwise lts
 | [], _ => .nil
 | x :: r, h => by
  obtain ⟨h1, h2⟩ := List.pairwise_cons.1 h
  exact n9 (lz h2) fun y hy => (h1 y ((sortC_perm r).mem_iff.1 hy)).symm
theorem nu : ∀ {xs ys : List Cel}, xs.Pairwise lts → ys.Pairwise lts → xs.Perm ys → xs = ys
 | [], ys, _, _, hp => by rw [List.nil_perm.1 hp]
 | x :: xs, [], _, _, hp => by have := hp.length_eq; simp at this
 | x :: xs, y :: ys, h1, h2, hp => by
  obtain ⟨a1, a2⟩ := List.pairwise_cons.1 h1
  obtain ⟨b1, b2⟩ := List.pairwise_cons.1 h2
  have e : x = y := by
   rcases List.mem_cons.1 (hp.mem_iff.1 (List.mem_cons_self ..)) with e | hx
   ·exact e
   ·rcases List.mem_cons.1 (hp.mem_iff.2 (List.mem_cons_self ..)) with e | hy
    ·exact e.symm
    ·have g1 := a1 y hy
     have g2 := b1 x hx
     have g3 : bm (idn x) (idn x) < 0 := oC g1 g2
     rw [bf] at g3; omega
  subst e
  rw [nu a2 b2 (List.perm_cons _ |>.1 hp)]
structure Sink (xs zs : List Cel) (i j : Nat) : Prop where
 p : zs.Perm xs
 s : ∃ A x B C, zs = A ++ x :: (B ++ C) ∧ A.length = j ∧ A.length + B.length = i ∧ (A ++ B).Pairwise lts ∧ ∀ b ∈ B, lts x b
theorem Sink.start {xs zs : List Cel} {i : Nat} (hp : zs.Perm xs) (hs : (zs.take i).Pairwise lts) (hi : i < zs.length) : Sink xs zs i i := by
 refine ⟨hp, zs.take i, zs[i], [], zs.drop (i + 1), ?_, by simp; omega, by simp; omega, by simpa using hs, by simp⟩
 rw [List.nil_append, ← List.drop_eq_getElem_cons hi, List.take_append_drop]
theorem set_mid (A : List Cel) (x y : Cel) (T : List Cel) : ((A ++ y :: x :: T).set (A.length + 1) y).set A.length x = A ++ x :: y :: T := by
 induction A with
 | nil => rfl
 | cons a A ih => simp [ih]
theorem Sink.swap {xs zs : List Cel} {i j : Nat} (h : Sink xs zs i (j + 1)) (hlt : lts (zs.getD (j + 1) default) (zs.getD j default)) : Sink xs ((zs.set (j + 1) (zs.getD j default)).set j (zs.getD (j + 1) default)) i j := by
 obtain ⟨hp, A, x, B, C, rfl, h2, h3, h4, h5⟩ := h
 obtain ⟨A', y, rfl⟩ : ∃ A' y, A = A' ++ [y] := by
  rcases List.eq_nil_or_concat A with rfl | ⟨A', y, rfl⟩
  ·simp at h2
  ·exact ⟨A', y, by simp⟩
 have hl : A'.length = j := by simpa using h2
 have e0 : A' ++ [y] ++ x :: (B ++ C) = A' ++ y :: x :: (B ++ C) := by simp
 rw [e0] at hlt hp ⊢
 have g1 : (A' ++ y :: x :: (B ++ C)).getD j default = y := by rw [← hl]; simp [List.getD]
 have g2 : (A' ++ y :: x :: (B ++ C)).getD (j + 1) default = x := by rw [← hl]; simp [List.getD]
 rw [g1, g2] at hlt ⊢
 rw [← hl, set_mid]
 refine ⟨?_, A', x, y :: B, C, by simp, rfl, by simp at h3 ⊢; omega, by simpa using h4, fun b hb => ?_⟩
 ·refine List.Perm.trans ?_ hp
  exact List.Perm.append_left _ (.swap y x _)
 ·rcases List.mem_cons.1 hb with rfl | hb
  ·exact hlt
  ·exact h5 b hb
theorem Sink.stop {xs zs : List Cel} {i j : Nat} (hd : xs.Pairwise (fun a b => idn a ≠ idn b)) (h : Sink xs zs i j) (hn : 0 < j → ¬ lts (zs.getD j default) (zs.getD (j - 1) default)) : zs.Perm xs ∧ (zs.take (i + 1)).Pairwise lts := by
 obtain ⟨hp, A, x, B, C, rfl, h2, h3, h4, h5⟩ := h
 refine ⟨hp, ?_⟩
 have hd' : (A ++ x :: (B ++ C)).Pairwise (fun a b => idn a ≠ idn b) := hp.symm.pairwise hd fun {a b} hab e => hab e.symm
 have e : (A ++ x :: (B ++ C)).take (i + 1) = A ++ x :: B := by
  rw [List.take_append, List.take_of_length_le (by omega), show i + 1 - A.length = B.length + 1 by omega, List.take_succ_cons, List.take_append, List.take_of_length_le (Nat.le_refl _)]
  simp
 rw [e]
 obtain ⟨q1, q2, q3⟩ := List.pairwise_append.1 h4
 have hax : ∀ a ∈ A, lts a x := by
  rcases List.eq_nil_or_concat A with rfl | ⟨A', y, rfl⟩
  ·simp
  ·have hl : A'.length + 1 = j := by simpa using h2
   have g1 : (A' ++ [y] ++ x :: (B ++ C)).getD (j - 1) default = y := by rw [← hl]; simp [List.getD]
   have g2 : (A' ++ [y] ++ x :: (B ++ C)).getD j default = x := by rw [← hl]; simp [List.getD]
   rw [List.concat_eq_append] at *
   have hn := hn (by omega)
   rw [g1, g2] at hn
   have hyx : lts y x := by
    refine uO ?_ hn
    rw [List.append_assoc] at hd'
    have h9 : (y :: x :: (B ++ C)).Pairwise (fun a b => idn a ≠ idn b) := (List.pairwise_append.1 hd').2.1
    exact ((List.pairwise_cons.1 h9).1 x (by simp)).symm
   intro a ha
   rcases List.mem_append.1 ha with ha | ha
   ·exact lts_tr ((List.pairwise_append.1 q1).2.2 a ha y (by simp)) hyx
   ·obtain rfl : a = y := by simpa using ha
    exact hyx
 refine List.pairwise_append.2 ⟨q1, List.pairwise_cons.2 ⟨h5, q2⟩, fun a ha b hb => ?_⟩
 rcases List.mem_cons.1 hb with rfl | hb
 ·exact hax a ha
 ·exact q3 a ha b hb
theorem sort_done {xs zs : List Cel} (hd : xs.Pairwise (fun a b => idn a ≠ idn b)) (hp : zs.Perm xs) (hs : zs.Pairwise lts) : zs = sortC xs :=
 nu hs (lz hd) (hp.trans (sortC_perm xs).symm)
end Core
end Go.Proofs.YtpdhdnhkhidmpaaGreat
