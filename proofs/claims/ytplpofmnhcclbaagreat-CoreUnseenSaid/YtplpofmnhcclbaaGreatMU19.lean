/- Parts of the proof, one behind the other: Ce2, Sx25b, Cd6b. Lemmas and contracts of functions; no condition of its own. -/
import Derived.Test.YtplpofmnhcclbaaGreatMU18
set_option linter.unusedVariables false
set_option linter.unusedSimpArgs false
set_option maxHeartbeats 1000000
namespace Go.Proofs.YtplpofmnhcclbaaGreat
open Go.RowKit
set_option maxRecDepth 100000
set_option maxHeartbeats 4000000
theorem mach_NewC : Fun TC 127 0 [.i .i64 34] [] 3 (.tup [.ptr 0 0, .i .i64 0]) [(0, some (machB 1 2 34 0 0 0)), (1, some (wordB 34 fun _ => 0)), (2, some (lastB 0 fun _ => []))] := by
 refine Fun.mk' Tryz.func127 rfl rfl zN (by decide) ?_
 (repeat' (first | ((first | refine Wp.any TC_mixed rfl ?_ | (with_reducible first | refine Go.mk ?_ | apply Eff1.of | refine And.intro zC ?_)); conv => whnf)))
 refine FinLe.virtC 1 3 272 6 (fun _ => []) (by decide) rfl rfl (by decide) ?_
 (refine FinLe.sealB [1,0,2] rfl rfl rfl ?_ ?_); (focus ((conv => whnf); (repeat' (first | exact zE | ((refine Seal.tup ?_); (conv => whnf)) | ((refine And.intro ?_ ?_) <;> (conv => whnf)))))); (focus ((conv => whnf); (repeat' (first | exact zE | ((refine And.intro ?_ ?_) <;> (conv => whnf))))))
theorem board_NewC : Fun TC 85 0 [.i .i64 34] [] 4 (boardS 0 2) [(0, some (machB 1 3 34 0 0 0)), (1, some (wordB 34 fun _ => 0)), (2, some (holdB fun _ => [])), (3, some (lastB 0 fun _ => []))] := by
 refine Fun.mk' Tryz.func85 rfl rfl zN (by decide) ?_
 (repeat' (first | ((first | refine Wp.any TC_mixed rfl ?_ | (with_reducible first | refine Go.mk ?_ | apply Eff1.of | refine And.intro zC ?_)); conv => whnf) | ((refine CallStop.fn (mach_NewC) [] rfl rfl rfl rfl rfl ?ha ?hh ?_); (case ha => exact zA); (case hh => exact zH); (conv => whnf))))
 (refine FinLe.sealB [0,1,3,2] rfl rfl rfl ?_ ?_); (focus ((conv => whnf); (repeat' (first | exact zE | ((refine Seal.ptr rfl rfl ?_); (conv => whnf)) | ((refine And.intro ?_ ?_) <;> (conv => whnf)))))); (focus ((conv => whnf); (repeat' (first | exact zE | ((refine And.intro ?_ ?_) <;> (conv => whnf))))))
 exact fun i hi => (show DLe (.val (.slice none 0 0)) (.sl 4 0 _) ∧ True from ⟨.nil, trivial⟩)
theorem lane_NewC : Fun TC 45 0 [.i .i64 2, .d (.val (.slice none 0 0)), .d (.fn (.func 46) [])] [] 4 (.iref [boardS 0 2, .d (.fn (.func 46) [])] 0)
  [(0, some (machB 1 3 34 (noteN 0) 0 1)), (1, some (wordB 34 Dir.M0.W)), (2, some (holdB fun _ => [])), (3, some (lastB (noteN 0) (noteF 0 (fun _ => []) (accD 0 2 1 0 1 true))))] := by
 refine Fun.mk' Tryz.func45 rfl rfl zN (by decide) ?_
 (repeat' (first | ((first | refine Wp.any TC_mixed rfl ?_ | (with_reducible first | refine Go.mk ?_ | apply Eff1.of | refine Ov.ok zO ?_) | refine zV ?_); conv => whnf) | ((refine CallStop.fn (board_NewC) [] rfl rfl rfl rfl rfl ?ha ?hh ?_); (case ha => exact zA); (case hh => exact zH); (conv => whnf)) | ((with_reducible refine DCall.pure (lane_place 0 (by omega) 0) rfl rfl ?_); conv => whnf) | ((refine DCall.new (board_Swap 0 (fun _ => 0) (fun _ => []) (fun _ => []) 0 0 0 0 1 1 [] (by decide) (by decide) (by decide) (by decide) (by decide) (by decide)) [0,1,2,3] [] rfl rfl rfl rfl rfl rfl ?ha ?hh ?hs ?_); (case ha => exact zA); (case hh => exact zH); (case hs => exact zK); (conv => whnf))))
 (refine FinLe.sealB [0,1,2,11] rfl rfl rfl ?_ ?_); (focus ((conv => whnf); (repeat' (first | exact zE | ((refine Seal.ptr rfl rfl ?_); (conv => whnf)) | ((refine Seal.iref ?_); (conv => whnf)) | ((refine And.intro ?_ ?_) <;> (conv => whnf)))))); (focus ((conv => whnf); (repeat' (first | exact zE | ((refine And.intro ?_ ?_) <;> (conv => whnf))))))
 refine fun i hi => DLes.of ?_
 dsimp only
 rw [if_pos rfl]
 unfold Dir.upd
 split <;> rfl
def S0 : Nat → Core.Wk := fun _ => ⟨default, .none⟩
def xs0 : Nat → XB := fun _ => ⟨0, fun _ => .any⟩
def f0' : Nat → List D := noteF 0 (fun _ => []) (accD 0 2 1 0 1 true)
theorem core_New {ps : List Pol} {room : Int} (h : newE ps room = 0) : Fun TC 15 0 [.d (slOf 4 Pol.D ps), .i .i64 room] [] 14 (.tup [.ptr 0 0, .i .i64 0])
  (coreH ps room (gOf (coreOps ps room) 4 S0) Core.M0 xs0 (noteN 0) f0' 1) := by
 have hc1 : 1 ≤ room ∧ room ≤ 4096 := by
  unfold newE at h
  split at h
  ·omega
  ·omega
 have hp : polsE ps = 0 := by
  unfold newE at h
  split at h
  ·omega
  ·exact h
 have hl := polsE_len hp
 have hBk := book_New ps room h
 refine Fun.mk' Tryz.func15 rfl rfl zN (by decide) ?_
 (repeat' (first | ((first | refine Wp.any TC_mixed rfl ?_ | (with_reducible first | refine Go.mk ?_ | apply Eff1.of | refine Ov.ok zO ?_)); conv => whnf) | ((refine CallStop.fn (hBk) [] rfl rfl rfl rfl rfl ?ha ?hh ?_); (case ha => exact zA); (case hh => exact zH); (conv => whnf)) | ((with_reducible refine CallStop.pure (pol_CloneP ps (by omega)) rfl rfl ?_); conv => whnf) | ((refine CallStop.fn (lane_NewC) [] rfl rfl rfl rfl rfl ?ha ?hh ?_); (case ha => exact zA); (case hh => exact zH); (conv => whnf))))
 refine FinLe.sealC [6, 2, 3, 4, 0, 0, 0, 0, 0, 0, 0, 0, 0, 5] [4, 5, 6, 7, 8, 9, 10, 11, 12] rfl rfl rfl ?_ ?_
 ·refine Seal.tup ?_
  conv => whnf
  refine And.intro (Seal.ptrL rfl) ?_
  exact ⟨Seal.d, trivial⟩
 ·conv => whnf
  (repeat' (first | exact trivial | exact Seal.d | exact Seal.slX zN rfl | exact Seal.ptrL rfl | exact ⟨rfl, rfl, rfl⟩ | exact (show (13 : Nat) ≤ 14 by decide) | exact ⟨(show (_ : Nat) ≤ _ from Nat.le_of_ble_eq_true rfl), rfl⟩ | exact fun i hi => DLes.refl _ | exact fun j _ => coreF_lt (gOf_lt4 _ _) j | ((refine Seal.iref ?_); conv => whnf) | ((refine And.intro ?_ ?_) <;> (conv => whnf))))
variable {ps : List Pol} {room : Int} {S : Nat → Core.Wk} {M : Core.Mc} {xs : Nat → XB} {nl nl0 : Nat} {f : Nat → List D} {cnt cnt0 who : Int}
theorem core_Tick (hM : COK ps room who (gOf (coreOps ps room) 4 S) M xs nl0 cnt0) (h0 : 0 ≤ M.clk) (h1 : M.clk ≤ 4611686018427387903) (n : Int) (hn : 0 ≤ n) (hn1 : n ≤ 4611686018427387903) :
  Fun TC 26 14 [.ptr 0 0, .i .i64 n] (coreH ps room (gOf (coreOps ps room) 4 S) M xs nl f cnt) 14 (.tup [.i .i64 (min (M.clk + n) 4611686018427387903), .i .i64 0]) (coreH ps room (gOf (coreOps ps room) 4 S) ⟨M.W, M.Hd, min (M.clk + n) 4611686018427387903⟩ xs nl f cnt) := by
 have q5 := hM.g; have qo := hM.o
 refine Fun.mk' Tryz.func26 rfl rfl zN (by decide) ?_
 (repeat' (first | ((first | refine Wp.any TC_mixed rfl ?_ | (with_reducible first | refine Go.mk ?_ | apply Eff1.of)); conv => whnf) | ((with_reducible refine At.mk' _ rfl ?_); (refine And.intro zN ?_); conv => whnf) | ((refine CallStop.fn (mach_Tick 34 nl M.W f M.clk cnt n h0 h1 hn hn1) [1,2,13] rfl rfl rfl rfl rfl ?ha ?hh ?_); (case ha => exact zA); (case hh => exact zH); (conv => whnf))))
 ((refine FinLe.sealB [0, 1, 2, 3, 4, 5, 6, 7, 8, 9, 10, 11, 12, 13] rfl rfl rfl ?_ ?_); (focus ((conv => whnf); (repeat' (first | exact zC9)))); (focus ((conv => whnf); (repeat' (first | exact zC9 | exact x_seal (qo _) | ((refine And.intro ?_ ?_) <;> (conv => whnf)))))))
theorem core_Count (hM : COK ps room who (gOf (coreOps ps room) 4 S) M xs nl0 cnt0) :
  Fun TC 27 14 [.ptr 0 0] (coreH ps room (gOf (coreOps ps room) 4 S) M xs nl f cnt) 14 (.i .i64 (M.W 32)) (coreH ps room (gOf (coreOps ps room) 4 S) M xs nl f cnt) := by
 have q5 := hM.g; have qo := hM.o; have q8 := hM.c32
 refine Fun.mk' Tryz.func27 rfl rfl zN (by decide) ?_
 (repeat' (first | ((first | refine Wp.any TC_mixed rfl ?_ | (with_reducible first | refine Go.mk ?_ | apply Eff1.of | refine Ov.ok zO ?_)); conv => whnf) | ((with_reducible refine At.mk' _ rfl ?_); (refine And.intro zN ?_); conv => whnf) | ((refine CallStop.fn (board_Look nl M.W M.Hd f M.clk cnt 32 (by decide)) [1,2,3,13] rfl rfl rfl rfl rfl ?ha ?hh ?_); (case ha => exact zA); (case hh => exact zH); (conv => whnf))))
 ((refine FinLe.sealB [0, 1, 2, 3, 4, 5, 6, 7, 8, 9, 10, 11, 12, 13] rfl rfl rfl ?_ ?_); (focus ((conv => whnf); (repeat' (first | exact Seal.d)))); (focus ((conv => whnf); (repeat' (first | exact zC9 | exact x_seal (qo _) | ((refine And.intro ?_ ?_) <;> (conv => whnf)))))))
theorem core_Steps (hM : COK ps room who (gOf (coreOps ps room) 4 S) M xs nl0 cnt0) (h0 : 0 ≤ cnt) (h8 : cnt ≤ 4611686018427387904) :
  Fun TC 43 14 [.ptr 0 0] (coreH ps room (gOf (coreOps ps room) 4 S) M xs nl f cnt) 14 (.i .i64 (cnt - 1)) (coreH ps room (gOf (coreOps ps room) 4 S) M xs nl f cnt) := by
 have q5 := hM.g; have qo := hM.o
 refine Fun.mk' Tryz.func43 rfl rfl zN (by decide) ?_
 (repeat' (first | ((first | refine Wp.any TC_mixed rfl ?_ | (with_reducible first | refine Go.mk ?_ | apply Eff1.of | refine Ov.ok zO ?_)); conv => whnf) | (with_reducible refine CallStop.inline Tryz.func84 rfl rfl rfl (Nat.le_of_ble_eq_true rfl) ?_) | ((with_reducible refine At.mk' _ rfl ?_); (refine And.intro zN ?_); conv => whnf)))
 ((refine FinLe.sealB [0, 1, 2, 3, 4, 5, 6, 7, 8, 9, 10, 11, 12, 13] rfl rfl rfl ?_ ?_); (focus ((conv => whnf); (repeat' (first | exact Seal.d)))); (focus ((conv => whnf); (repeat' (first | exact zC9 | exact x_seal (qo _) | ((refine And.intro ?_ ?_) <;> (conv => whnf)))))))
end Go.Proofs.YtplpofmnhcclbaaGreat

namespace Go.Proofs.YtplpofmnhcclbaaGreat
open Go.RowKit
mutual
def fnOKz (n e : Nat) : SV → Prop
 | .fn f vs => ∀ l, n ≤ l → l ≠ e → memB l (.fn f vs) = false
 | .agg vs => fnOKLz n e vs
 | .tup vs => fnOKLz n e vs
 | .iref vs _ => fnOKLz n e vs
 | _ => True
def fnOKLz (n e : Nat) : List SV → Prop
 | [] => True
 | x :: r => fnOKz n e x ∧ fnOKLz n e r
end
mutual
theorem memX_okz {n e l : Nat} (hl : n ≤ l) (he : l ≠ e) : ∀ {x : SV}, fnOKz n e x → memX l x = false → memB l x = false
 | .any, _, h => by unfold memB; rfl
 | .d _, _, h => by unfold memB; rfl
 | .ptr _ _, _, h => by unfold memX at h; unfold memB; exact h
 | .rp _ _ _ _, _, h => by unfold memX at h; unfold memB; exact h
 | .sl _ _ _ _, _, h => by unfold memX at h; unfold memB; exact h
 | .agg vs, hf, h => by unfold memX at h; unfold fnOKz at hf; unfold memB; exact memXL_okz hl he hf h
 | .tup vs, hf, h => by unfold memX at h; unfold fnOKz at hf; unfold memB; exact memXL_okz hl he hf h
 | .fn _ vs, hf, h => by unfold fnOKz at hf; exact hf l hl he
 | .iref vs _, hf, h => by unfold memX at h; unfold fnOKz at hf; unfold memB; exact memXL_okz hl he hf h
theorem memXL_okz {n e l : Nat} (hl : n ≤ l) (he : l ≠ e) : ∀ {xs : List SV}, fnOKLz n e xs → memXL l xs = false → memBL l xs = false
 | [], _, _ => by unfold memBL; rfl
 | x :: r, hf, h => by
  unfold fnOKLz at hf; unfold memXL at h
  rw [Bool.or_eq_false_iff] at h
  have h1 : memB l x = false := memX_okz hl he hf.1 h.1
  have h2 : memBL l r = false := memXL_okz hl he hf.2 h.2
  unfold memBL; rw [h1, h2]; rfl
end
mutual
theorem memB_ren {π : Nat → Nat} {b l : Nat} (hπ : ∀ i, i < b → π i ≠ l) : ∀ {x : SV}, SV.Lt b x → memB l (SV.ren π x) = false
 | .any, _ => by unfold SV.ren memB; rfl
 | .d _, _ => by unfold SV.ren memB; rfl
 | .ptr _ _, h => by cases h with | ptr _ _ h => unfold SV.ren memB; cases e : Nat.beq _ l with | false => rfl | true => exact absurd (Nat.eq_of_beq_eq_true e) (hπ _ h)
 | .rp _ _ _ _, h => by cases h with | rp _ _ _ _ h => unfold SV.ren memB; cases e : Nat.beq _ l with | false => rfl | true => exact absurd (Nat.eq_of_beq_eq_true e) (hπ _ h)
 | .sl _ _ _ _, h => by cases h with | sl _ _ _ _ h => unfold SV.ren memB; cases e : Nat.beq _ l with | false => rfl | true => exact absurd (Nat.eq_of_beq_eq_true e) (hπ _ h)
 | .agg vs, h => by cases h with | agg _ h => unfold SV.ren memB; exact memBL_ren hπ h
 | .tup vs, h => by cases h with | tup _ h => unfold SV.ren memB; exact memBL_ren hπ h
 | .fn _ vs, h => by cases h with | fn _ _ h => unfold SV.ren memB; exact memBL_ren hπ h
 | .iref vs _, h => by cases h with | iref _ _ h => unfold SV.ren memB; exact memBL_ren hπ h
theorem memBL_ren {π : Nat → Nat} {b l : Nat} (hπ : ∀ i, i < b → π i ≠ l) : ∀ {xs : List SV}, (∀ x ∈ xs, SV.Lt b x) → memBL l (SV.renL π xs) = false
 | [], _ => by unfold SV.renL memBL; rfl
 | x :: r, h => by
  have h1 : memB l (SV.ren π x) = false := memB_ren hπ (h x (by simp))
  have h2 : memBL l (SV.renL π r) = false := memBL_ren hπ (fun y hy => h y (by simp [hy]))
  unfold SV.renL memBL; rw [h1, h2]; rfl
end
theorem renL_z {π : Nat → Nat} {F : Fn} {cs : List SV} {b n e : Nat} (h : SV.Lt b (.fn F cs)) (hπ : ∀ i, i < b → π i < n ∨ π i = e) : fnOKz n e (.fn F (SV.renL π cs)) := by
 unfold fnOKz
 intro l h1 h2
 have := memB_ren (π := π) (l := l) (fun i hi he => by rcases hπ i hi with h | h <;> omega) h
 unfold SV.ren at this
 exact this
def fnOKBz (n e : Nat) : Option Blk → Prop
 | some (.cells cs) => fnOKLz n e cs
 | _ => True
theorem memOX_okz {n e l : Nat} (hl : n ≤ l) (he : l ≠ e) {b : Option Blk} (hf : fnOKBz n e b) (h : memOX l b = false) : memO l b = false := by
 cases b with
 | none => rfl
 | some b =>
  cases b with
  | cells cs => show cs.any (mem1 l) = false; rw [memBL_any]; exact memXL_okz hl he hf h
  | row _ _ _ _ => rfl
  | cf m _ _ => exact h
def memY (e l : Nat) (x : SV) : Bool := bif Nat.beq l e then memB l x else memX l x
def memOY (e l : Nat) (b : Option Blk) : Bool := bif Nat.beq l e then memO l b else memOX l b
theorem memY_ok {n e l : Nat} (hl : n ≤ l) {x : SV} (hf : fnOKz n e x) (h : memY e l x = false) : memB l x = false := by
 unfold memY at h
 cases he : Nat.beq l e with
 | true => rw [he] at h; exact h
 | false => rw [he] at h; exact memX_okz hl (fun q => by rw [q, Nat.beq_refl] at he; cases he) hf h
theorem memOY_ok {n e l : Nat} (hl : n ≤ l) {b : Option Blk} (hf : fnOKBz n e b) (h : memOY e l b = false) : memO l b = false := by
 unfold memOY at h
 cases he : Nat.beq l e with
 | true => rw [he] at h; exact h
 | false => rw [he] at h; exact memOX_okz hl (fun q => by rw [q, Nat.beq_refl] at he; cases he) hf h
def chkPairZ (e : Nat) (pre : List Nat) (ops : List Oper) (n0 i j : Nat) (labs : List Nat) (p q : Pt) : Bool :=
 (match p.1.dst, q.1.dst with | some a, some b => !Nat.beq a b | _, _ => true) &&
 (p.2.ed.all (fun x => q.2.ed.all fun y => !Nat.beq x.1 y.1) || ordB pre i j) &&
 ((match q.1.dst with | some d => (looks ops p.1).all fun t => !Nat.beq d t | none => true) || ordB pre i j) &&
 ((labs.all (fun l => q.2.ed.all fun y => !Nat.beq y.1 l) && p.2.rd.all (fun l => q.2.ed.all fun y => !Nat.beq y.1 l)) || ordB pre i j) &&
 (!isAlloc p.1.op || (Nat.blt i j && ordB pre i j) || (!memY e (n0 + i) q.2.val && q.2.ed.all (fun y => !Nat.beq y.1 (n0 + i) && !memOY e (n0 + i) y.2)))
def chkRowZ (e : Nat) (pre : List Nat) (ops : List Oper) (n0 i : Nat) (labs : List Nat) (p : Pt) : List Pt → Nat → Bool
 | [], _ => true
 | q :: r, j => (Nat.beq i j || chkPairZ e pre ops n0 i j labs p q) && chkRowZ e pre ops n0 i labs p r (j + 1)
def chkAllZ (e : Nat) (pre : List Nat) (ops : List Oper) (n0 : Nat) (all : List Pt) (S0 : St) : List Pt → Nat → St → Bool
 | [], _, _ => true
 | p :: r, i, S => chkRowZ e pre ops n0 i (labsOf S p.1.op) p all 0 && (!isAlloc p.1.op || (S0.fr.all (fun x => !memX (n0 + i) x.2) && S0.hp.all (fun x => !Nat.beq x.1 (n0 + i) && !memOX (n0 + i) x.2))) &&
   (p.1.after.toList.all fun e => !Region.binds .any e || Nat.blt e.on i) && (match p.1.dst with | some n => Nat.blt n S0.nt.n | none => true) && chkAllZ e pre ops n0 all S0 r (i + 1) (S.step p.1.dst p.2)
def drawZ (e : Nat) (ops : List Oper) (efs : List Ef) (n0 : Nat) (S0 : St) : Bool := chkAllZ e (predsG ops []) ops n0 (ops.zip efs) S0 (ops.zip efs) 0 S0
def fnOKHz (n e : Nat) : List (Nat × Option Blk) → Prop
 | [] => True
 | x :: r => fnOKBz n e x.2 ∧ fnOKHz n e r
def fnOKEz (n e : Nat) : List Ef → Prop
 | [] => True
 | x :: r => fnOKz n e x.val ∧ fnOKHz n e x.ed ∧ fnOKEz n e r
theorem fnOKHz_at {n e : Nat} : ∀ {l : List (Nat × Option Blk)}, fnOKHz n e l → ∀ x ∈ l, fnOKBz n e x.2
 | [], _, x, hx => by simp at hx
 | y :: r, h, x, hx => by
  unfold fnOKHz at h
  rcases List.mem_cons.1 hx with rfl | hx
  ·exact h.1
  ·exact fnOKHz_at h.2 x hx
theorem fnOKEz_at {n e : Nat} : ∀ {l : List Ef}, fnOKEz n e l → ∀ x ∈ l, fnOKz n e x.val ∧ fnOKHz n e x.ed
 | [], _, x, hx => by simp at hx
 | y :: r, h, x, hx => by
  unfold fnOKEz at h
  rcases List.mem_cons.1 hx with rfl | hx
  ·exact ⟨h.1, h.2.1⟩
  ·exact fnOKEz_at h.2.2 x hx
theorem edZ_ok {n e l : Nat} (hl : n ≤ l) {ed : List (Nat × Option Blk)} (hf : fnOKHz n e ed) (h : ed.all (fun y => !Nat.beq y.1 l && !memOY e l y.2) = true) : ed.all (fun y => !Nat.beq y.1 l && !memO l y.2) = true := by
 rw [List.all_eq_true] at h ⊢
 intro y hy
 have := h y hy
 rw [Bool.and_eq_true] at this ⊢
 refine ⟨this.1, ?_⟩
 have h2 := this.2
 rw [Bool.not_eq_true'] at h2 ⊢
 exact memOY_ok hl (fnOKHz_at hf y hy) h2
theorem chkPairZ_ok {e : Nat} {pre : List Nat} {ops : List Oper} {n0 i j : Nat} {labs : List Nat} {p q : Pt} (hv : fnOKz n0 e q.2.val) (he : fnOKHz n0 e q.2.ed) (h : chkPairZ e pre ops n0 i j labs p q = true) : chkPair pre ops n0 i j labs p q = true := by
 unfold chkPairZ at h; unfold chkPair
 rw [Bool.and_eq_true] at h ⊢
 refine ⟨h.1, ?_⟩
 have h := h.2
 rw [Bool.or_eq_true, Bool.or_eq_true] at h ⊢
 rcases h with (h | h) | h
 ·exact .inl (.inl h)
 ·exact .inr h
 ·rw [Bool.and_eq_true] at h
  refine .inl (.inr ?_)
  rw [Bool.and_eq_true]
  refine ⟨?_, edZ_ok (by omega) he h.2⟩
  have h1 := h.1
  rw [Bool.not_eq_true'] at h1 ⊢
  exact memY_ok (by omega) hv h1
theorem chkRowZ_ok {e : Nat} {pre : List Nat} {ops : List Oper} {n0 i : Nat} {labs : List Nat} {p : Pt} : ∀ (l : List Pt) (k : Nat), (∀ q ∈ l, fnOKz n0 e q.2.val ∧ fnOKHz n0 e q.2.ed) → chkRowZ e pre ops n0 i labs p l k = true → chkRow pre ops n0 i labs p l k = true
 | [], _, _, _ => by unfold chkRow; rfl
 | q :: r, k, hf, h => by
  unfold chkRowZ at h; unfold chkRow
  rw [Bool.and_eq_true, Bool.or_eq_true] at h ⊢
  refine ⟨?_, chkRowZ_ok r (k + 1) (fun q hq => hf q (List.mem_cons_of_mem _ hq)) h.2⟩
  rcases h.1 with h1 | h1
  ·exact .inl h1
  ·exact .inr (chkPairZ_ok (hf q (List.mem_cons_self ..)).1 (hf q (List.mem_cons_self ..)).2 h1)
theorem chkAllZ_ok {e : Nat} {pre : List Nat} {ops : List Oper} {n0 : Nat} {all : List Pt} {S0 : St} (ha : ∀ q ∈ all, fnOKz n0 e q.2.val ∧ fnOKHz n0 e q.2.ed) (hF : fnOKF n0 S0.fr) (hH : fnOKH n0 S0.hp) :
  ∀ (l : List Pt) (i : Nat) (S : St), chkAllZ e pre ops n0 all S0 l i S = true → chkAll pre ops n0 all S0 l i S = true
 | [], _, _, _ => by unfold chkAll; rfl
 | p :: r, i, S, h => by
  unfold chkAllZ at h; unfold chkAll
  rw [Bool.and_eq_true, Bool.and_eq_true, Bool.and_eq_true, Bool.and_eq_true] at h ⊢
  obtain ⟨⟨⟨⟨h1, h2⟩, h3⟩, h4⟩, h5⟩ := h
  refine ⟨⟨⟨⟨chkRowZ_ok all 0 ha h1, ?_⟩, h3⟩, h4⟩, chkAllZ_ok ha hF hH r (i + 1) _ h5⟩
  rw [Bool.or_eq_true, Bool.and_eq_true] at h2 ⊢
  rcases h2 with h2 | h2
  ·exact .inl h2
  ·refine .inr ⟨?_, edN_ok (by omega) hH h2.2⟩
   have h6 := h2.1
   rw [List.all_eq_true] at h6 ⊢
   intro x hx
   have h7 := h6 x hx
   rw [Bool.not_eq_true'] at h7 ⊢
   exact memX_ok (by omega) (fnOKF_at hF x hx) h7
theorem drawZ_ok {e : Nat} {ops : List Oper} {efs : List Ef} {n0 : Nat} {S0 : St} (h : drawZ e ops efs n0 S0 = true) (hE : fnOKEz n0 e efs) (hF : fnOKF n0 S0.fr) (hH : fnOKH n0 S0.hp) : drawOK ops efs n0 S0 = true := by
 refine chkAllZ_ok (fun q hq => ?_) hF hH _ 0 S0 h
 exact fnOKEz_at hE q.2 (List.of_mem_zip hq).2
set_option maxRecDepth 100000
set_option maxHeartbeats 4000000
theorem core_S0 {ps : List Pol} {room : Int} {S : Nat → Core.Wk} {M : Core.Mc} {xs : Nat → XB} {nl : Nat} {f : Nat → List D} {cnt : Int} (w : Nat) (hw : w < 64) (hM : COK ps room w (gOf (coreOps ps room) 4 S) M xs nl cnt) (hn : (S w).s = .none) (hne : ∀ j, (S j).s ≠ .none → j ≠ w → slot j ≠ 0) (hsl : slot w = 0)
  (op pol : Int) (key : List Int) (n : Int) (hE : chkE ps op pol key n = 0) (hkl : key.length ≤ 16777216) (hk : op ≠ 5 → op ≠ 6 → Core.Kx ps (newX op pol key n)) :
  Fun TC 19 14 [.ptr 0 0, .i .i64 w, callS op pol key n] (coreH ps room (gOf (coreOps ps room) 4 S) M xs nl f cnt)
   24 (.i .i64 0) (coreS ps room (Dir.upd S w ⟨newX op pol key n, Core.first (newX op pol key n)⟩) M (xsU xs 0 ⟨9, xF w (newX op pol key n)⟩) nl f cnt) := by
 have q5 := hM.g; have qo := hM.o
 have hC := book_Check ps op pol key n
 rw [hE] at hC
 have hg2 : coreF ps room (gOf (coreOps ps room) 4 S) (w + 3) = nilF := by
  show SV.ren _ (cl _ _ _ (S w).s) = nilF
  rw [hn]; rfl
 have hF := first_c (nl := nl) (f := f) (cnt := cnt) (x := newX op pol key n) (hM.g1 0 (by decide) S w) hk
 obtain ⟨n2, caps2, e2, lt2⟩ := first_fn (coreOps ps room) w (newX op pol key n)
 rw [e2] at hF
 have hB := bytes_CloneP key hkl
 refine Fun.mk' Tryz.func19 rfl rfl zN (by decide) ?_
 (repeat' (first | ((with_reducible refine And.intro (drawZ_ok (e := 26) (show drawZ _ _ _ _ _ = true by kernel_rfl) ?hE ?hF ?hH) ?_); (case hE => exact zz12); (case hF => exact zz7); (case hH => exact zz7); (conv => whnf)) | ((first | refine Wp.any TC_mixed rfl ?_ | (with_reducible first | refine Go.mk ?_ | apply Eff1.of | refine And.intro zC ?_ | refine CallStop.pure (board_Is _) rfl rfl ?_ | refine CallStop.pure (hC) rfl rfl ?_ | refine DCall.pure (core_sum _ _) rfl rfl ?_ | refine CallStop.pure (hB) rfl rfl ?_)); conv => whnf) | ((refine DCall.fn (hF) [0,1,2,3,26,5,6,7,8,9,10,11,12,13] [] rfl rfl rfl rfl rfl ?ha ?hh ?hs ?_); (case ha => exact zz13); (case hh => exact zz14); (case hs => exact trivial); (conv => whnf)) | ((refine At.mk' (w + 3) (by show 3 + ((w : Nat) : Int).toNat * 1 = w + 3; omega) ?_); (refine And.intro (by omega) ?_); (rw [hg2]); (conv => whnf)) | ((refine And.intro (by exact lt_renN lt2 (fun l hl => by rcases l with _ | _ | _ | _ | _ | l <;> first | exact zN | omega) rfl) ?_); conv => whnf) | ((refine At.mk' (w + 3) (by show 3 + ((w : Nat) : Int).toNat * 1 = w + 3; omega) ?_); (refine And.intro (by omega) ?_); conv => whnf) | ((with_reducible refine At.mk' _ rfl ?_); (refine And.intro zN ?_); conv => whnf) | ((refine ways (fun hc => ?_) (fun hc => ?_)) <;> (try simp only [wz9] at hc) <;> (try (exfalso; omega)) <;> (conv => whnf))))
 refine FinLe.sealC [0, 1, 2, 3, 4, 5, 6, 7, 8, 9, 10, 11, 12, 13, 26, 5, 6, 7, 8, 9, 10, 11, 12, 13] [] rfl rfl rfl ?_ ?_
 ·conv => whnf
  (repeat' (first | exact Seal.d))
 ·conv => whnf
  refine And.intro ?c0 ?_
  case c0 =>
   conv => whnf
   exact ⟨⟨rfl, Nat.le_of_ble_eq_true rfl⟩, g1_seal hsl hn hne (by rw [e2]; exact renF_eq lt2 (fun l hl => by rcases l with _ | _ | _ | _ | _ | l <;> first | rfl | omega)) (fun l hl => by rcases l with _ | _ | _ | _ | l <;> first | exact ⟨Nat.le_of_ble_eq_true rfl, rfl, rfl⟩ | exact ⟨Nat.le_of_ble_eq_true rfl, rfl⟩ | omega) ⟨Nat.le_of_ble_eq_true rfl, rfl⟩ (fun k hk hne' => by rcases k with _ | _ | _ | _ | _ | _ | _ | _ | _ | k <;> first | exact ⟨Nat.le_of_ble_eq_true rfl, rfl⟩ | exact absurd rfl hne' | omega)⟩
  conv => whnf
  (repeat' (first | exact zL9 | exact x_sealR (qo _) rfl | ((refine And.intro ?_ ?_) <;> (conv => whnf))))
theorem core_S1 {ps : List Pol} {room : Int} {S : Nat → Core.Wk} {M : Core.Mc} {xs : Nat → XB} {nl : Nat} {f : Nat → List D} {cnt : Int} (w : Nat) (hw : w < 64) (hM : COK ps room w (gOf (coreOps ps room) 4 S) M xs nl cnt) (hn : (S w).s = .none) (hne : ∀ j, (S j).s ≠ .none → j ≠ w → slot j ≠ 1) (hsl : slot w = 1)
  (op pol : Int) (key : List Int) (n : Int) (hE : chkE ps op pol key n = 0) (hkl : key.length ≤ 16777216) (hk : op ≠ 5 → op ≠ 6 → Core.Kx ps (newX op pol key n)) :
  Fun TC 19 14 [.ptr 0 0, .i .i64 w, callS op pol key n] (coreH ps room (gOf (coreOps ps room) 4 S) M xs nl f cnt)
   24 (.i .i64 0) (coreS ps room (Dir.upd S w ⟨newX op pol key n, Core.first (newX op pol key n)⟩) M (xsU xs 1 ⟨9, xF w (newX op pol key n)⟩) nl f cnt) := by
 have q5 := hM.g; have qo := hM.o
 have hC := book_Check ps op pol key n
 rw [hE] at hC
 have hg2 : coreF ps room (gOf (coreOps ps room) 4 S) (w + 3) = nilF := by
  show SV.ren _ (cl _ _ _ (S w).s) = nilF
  rw [hn]; rfl
 have hF := first_c (nl := nl) (f := f) (cnt := cnt) (x := newX op pol key n) (hM.g1 1 (by decide) S w) hk
 obtain ⟨n2, caps2, e2, lt2⟩ := first_fn (coreOps ps room) w (newX op pol key n)
 rw [e2] at hF
 have hB := bytes_CloneP key hkl
 refine Fun.mk' Tryz.func19 rfl rfl zN (by decide) ?_
 (repeat' (first | ((with_reducible refine And.intro (drawZ_ok (e := 26) (show drawZ _ _ _ _ _ = true by kernel_rfl) ?hE ?hF ?hH) ?_); (case hE => exact zz12); (case hF => exact zz7); (case hH => exact zz7); (conv => whnf)) | ((first | refine Wp.any TC_mixed rfl ?_ | (with_reducible first | refine Go.mk ?_ | apply Eff1.of | refine And.intro zC ?_ | refine CallStop.pure (board_Is _) rfl rfl ?_ | refine CallStop.pure (hC) rfl rfl ?_ | refine DCall.pure (core_sum _ _) rfl rfl ?_ | refine CallStop.pure (hB) rfl rfl ?_)); conv => whnf) | ((refine DCall.fn (hF) [0,1,2,3,26,4,6,7,8,9,10,11,12,13] [] rfl rfl rfl rfl rfl ?ha ?hh ?hs ?_); (case ha => exact zz13); (case hh => exact zz14); (case hs => exact trivial); (conv => whnf)) | ((refine At.mk' (w + 3) (by show 3 + ((w : Nat) : Int).toNat * 1 = w + 3; omega) ?_); (refine And.intro (by omega) ?_); (rw [hg2]); (conv => whnf)) | ((refine And.intro (by exact lt_renN lt2 (fun l hl => by rcases l with _ | _ | _ | _ | _ | l <;> first | exact zN | omega) rfl) ?_); conv => whnf) | ((refine At.mk' (w + 3) (by show 3 + ((w : Nat) : Int).toNat * 1 = w + 3; omega) ?_); (refine And.intro (by omega) ?_); conv => whnf) | ((with_reducible refine At.mk' _ rfl ?_); (refine And.intro zN ?_); conv => whnf) | ((refine ways (fun hc => ?_) (fun hc => ?_)) <;> (try simp only [wz9] at hc) <;> (try (exfalso; omega)) <;> (conv => whnf))))
 refine FinLe.sealC [0, 1, 2, 3, 4, 5, 6, 7, 8, 9, 10, 11, 12, 13, 4, 26, 6, 7, 8, 9, 10, 11, 12, 13] [] rfl rfl rfl ?_ ?_
 ·conv => whnf
  (repeat' (first | exact Seal.d))
 ·conv => whnf
  refine And.intro ?c0 ?_
  case c0 =>
   conv => whnf
   exact ⟨⟨rfl, Nat.le_of_ble_eq_true rfl⟩, g1_seal hsl hn hne (by rw [e2]; exact renF_eq lt2 (fun l hl => by rcases l with _ | _ | _ | _ | _ | l <;> first | rfl | omega)) (fun l hl => by rcases l with _ | _ | _ | _ | l <;> first | exact ⟨Nat.le_of_ble_eq_true rfl, rfl, rfl⟩ | exact ⟨Nat.le_of_ble_eq_true rfl, rfl⟩ | omega) ⟨Nat.le_of_ble_eq_true rfl, rfl⟩ (fun k hk hne' => by rcases k with _ | _ | _ | _ | _ | _ | _ | _ | _ | k <;> first | exact ⟨Nat.le_of_ble_eq_true rfl, rfl⟩ | exact absurd rfl hne' | omega)⟩
  conv => whnf
  (repeat' (first | exact zL9 | exact x_sealR (qo _) rfl | ((refine And.intro ?_ ?_) <;> (conv => whnf))))
theorem core_S2 {ps : List Pol} {room : Int} {S : Nat → Core.Wk} {M : Core.Mc} {xs : Nat → XB} {nl : Nat} {f : Nat → List D} {cnt : Int} (w : Nat) (hw : w < 64) (hM : COK ps room w (gOf (coreOps ps room) 4 S) M xs nl cnt) (hn : (S w).s = .none) (hne : ∀ j, (S j).s ≠ .none → j ≠ w → slot j ≠ 2) (hsl : slot w = 2)
  (op pol : Int) (key : List Int) (n : Int) (hE : chkE ps op pol key n = 0) (hkl : key.length ≤ 16777216) (hk : op ≠ 5 → op ≠ 6 → Core.Kx ps (newX op pol key n)) :
  Fun TC 19 14 [.ptr 0 0, .i .i64 w, callS op pol key n] (coreH ps room (gOf (coreOps ps room) 4 S) M xs nl f cnt)
   24 (.i .i64 0) (coreS ps room (Dir.upd S w ⟨newX op pol key n, Core.first (newX op pol key n)⟩) M (xsU xs 2 ⟨9, xF w (newX op pol key n)⟩) nl f cnt) := by
 have q5 := hM.g; have qo := hM.o
 have hC := book_Check ps op pol key n
 rw [hE] at hC
 have hg2 : coreF ps room (gOf (coreOps ps room) 4 S) (w + 3) = nilF := by
  show SV.ren _ (cl _ _ _ (S w).s) = nilF
  rw [hn]; rfl
 have hF := first_c (nl := nl) (f := f) (cnt := cnt) (x := newX op pol key n) (hM.g1 2 (by decide) S w) hk
 obtain ⟨n2, caps2, e2, lt2⟩ := first_fn (coreOps ps room) w (newX op pol key n)
 rw [e2] at hF
 have hB := bytes_CloneP key hkl
 refine Fun.mk' Tryz.func19 rfl rfl zN (by decide) ?_
 (repeat' (first | ((with_reducible refine And.intro (drawZ_ok (e := 26) (show drawZ _ _ _ _ _ = true by kernel_rfl) ?hE ?hF ?hH) ?_); (case hE => exact zz12); (case hF => exact zz7); (case hH => exact zz7); (conv => whnf)) | ((first | refine Wp.any TC_mixed rfl ?_ | (with_reducible first | refine Go.mk ?_ | apply Eff1.of | refine And.intro zC ?_ | refine CallStop.pure (board_Is _) rfl rfl ?_ | refine CallStop.pure (hC) rfl rfl ?_ | refine DCall.pure (core_sum _ _) rfl rfl ?_ | refine CallStop.pure (hB) rfl rfl ?_)); conv => whnf) | ((refine DCall.fn (hF) [0,1,2,3,26,5,4,7,8,9,10,11,12,13] [] rfl rfl rfl rfl rfl ?ha ?hh ?hs ?_); (case ha => exact zz13); (case hh => exact zz14); (case hs => exact trivial); (conv => whnf)) | ((refine At.mk' (w + 3) (by show 3 + ((w : Nat) : Int).toNat * 1 = w + 3; omega) ?_); (refine And.intro (by omega) ?_); (rw [hg2]); (conv => whnf)) | ((refine And.intro (by exact lt_renN lt2 (fun l hl => by rcases l with _ | _ | _ | _ | _ | l <;> first | exact zN | omega) rfl) ?_); conv => whnf) | ((refine At.mk' (w + 3) (by show 3 + ((w : Nat) : Int).toNat * 1 = w + 3; omega) ?_); (refine And.intro (by omega) ?_); conv => whnf) | ((with_reducible refine At.mk' _ rfl ?_); (refine And.intro zN ?_); conv => whnf) | ((refine ways (fun hc => ?_) (fun hc => ?_)) <;> (try simp only [wz9] at hc) <;> (try (exfalso; omega)) <;> (conv => whnf))))
 refine FinLe.sealC [0, 1, 2, 3, 4, 5, 6, 7, 8, 9, 10, 11, 12, 13, 4, 5, 26, 7, 8, 9, 10, 11, 12, 13] [] rfl rfl rfl ?_ ?_
 ·conv => whnf
  (repeat' (first | exact Seal.d))
 ·conv => whnf
  refine And.intro ?c0 ?_
  case c0 =>
   conv => whnf
   exact ⟨⟨rfl, Nat.le_of_ble_eq_true rfl⟩, g1_seal hsl hn hne (by rw [e2]; exact renF_eq lt2 (fun l hl => by rcases l with _ | _ | _ | _ | _ | l <;> first | rfl | omega)) (fun l hl => by rcases l with _ | _ | _ | _ | l <;> first | exact ⟨Nat.le_of_ble_eq_true rfl, rfl, rfl⟩ | exact ⟨Nat.le_of_ble_eq_true rfl, rfl⟩ | omega) ⟨Nat.le_of_ble_eq_true rfl, rfl⟩ (fun k hk hne' => by rcases k with _ | _ | _ | _ | _ | _ | _ | _ | _ | k <;> first | exact ⟨Nat.le_of_ble_eq_true rfl, rfl⟩ | exact absurd rfl hne' | omega)⟩
  conv => whnf
  (repeat' (first | exact zL9 | exact x_sealR (qo _) rfl | ((refine And.intro ?_ ?_) <;> (conv => whnf))))
theorem core_S3 {ps : List Pol} {room : Int} {S : Nat → Core.Wk} {M : Core.Mc} {xs : Nat → XB} {nl : Nat} {f : Nat → List D} {cnt : Int} (w : Nat) (hw : w < 64) (hM : COK ps room w (gOf (coreOps ps room) 4 S) M xs nl cnt) (hn : (S w).s = .none) (hne : ∀ j, (S j).s ≠ .none → j ≠ w → slot j ≠ 3) (hsl : slot w = 3)
  (op pol : Int) (key : List Int) (n : Int) (hE : chkE ps op pol key n = 0) (hkl : key.length ≤ 16777216) (hk : op ≠ 5 → op ≠ 6 → Core.Kx ps (newX op pol key n)) :
  Fun TC 19 14 [.ptr 0 0, .i .i64 w, callS op pol key n] (coreH ps room (gOf (coreOps ps room) 4 S) M xs nl f cnt)
   24 (.i .i64 0) (coreS ps room (Dir.upd S w ⟨newX op pol key n, Core.first (newX op pol key n)⟩) M (xsU xs 3 ⟨9, xF w (newX op pol key n)⟩) nl f cnt) := by
 have q5 := hM.g; have qo := hM.o
 have hC := book_Check ps op pol key n
 rw [hE] at hC
 have hg2 : coreF ps room (gOf (coreOps ps room) 4 S) (w + 3) = nilF := by
  show SV.ren _ (cl _ _ _ (S w).s) = nilF
  rw [hn]; rfl
 have hF := first_c (nl := nl) (f := f) (cnt := cnt) (x := newX op pol key n) (hM.g1 3 (by decide) S w) hk
 obtain ⟨n2, caps2, e2, lt2⟩ := first_fn (coreOps ps room) w (newX op pol key n)
 rw [e2] at hF
 have hB := bytes_CloneP key hkl
 refine Fun.mk' Tryz.func19 rfl rfl zN (by decide) ?_
 (repeat' (first | ((with_reducible refine And.intro (drawZ_ok (e := 26) (show drawZ _ _ _ _ _ = true by kernel_rfl) ?hE ?hF ?hH) ?_); (case hE => exact zz12); (case hF => exact zz7); (case hH => exact zz7); (conv => whnf)) | ((first | refine Wp.any TC_mixed rfl ?_ | (with_reducible first | refine Go.mk ?_ | apply Eff1.of | refine And.intro zC ?_ | refine CallStop.pure (board_Is _) rfl rfl ?_ | refine CallStop.pure (hC) rfl rfl ?_ | refine DCall.pure (core_sum _ _) rfl rfl ?_ | refine CallStop.pure (hB) rfl rfl ?_)); conv => whnf) | ((refine DCall.fn (hF) [0,1,2,3,26,5,6,4,8,9,10,11,12,13] [] rfl rfl rfl rfl rfl ?ha ?hh ?hs ?_); (case ha => exact zz13); (case hh => exact zz14); (case hs => exact trivial); (conv => whnf)) | ((refine At.mk' (w + 3) (by show 3 + ((w : Nat) : Int).toNat * 1 = w + 3; omega) ?_); (refine And.intro (by omega) ?_); (rw [hg2]); (conv => whnf)) | ((refine And.intro (by exact lt_renN lt2 (fun l hl => by rcases l with _ | _ | _ | _ | _ | l <;> first | exact zN | omega) rfl) ?_); conv => whnf) | ((refine At.mk' (w + 3) (by show 3 + ((w : Nat) : Int).toNat * 1 = w + 3; omega) ?_); (refine And.intro (by omega) ?_); conv => whnf) | ((with_reducible refine At.mk' _ rfl ?_); (refine And.intro zN ?_); conv => whnf) | ((refine ways (fun hc => ?_) (fun hc => ?_)) <;> (try simp only [wz9] at hc) <;> (try (exfalso; omega)) <;> (conv => whnf))))
 refine FinLe.sealC [0, 1, 2, 3, 4, 5, 6, 7, 8, 9, 10, 11, 12, 13, 4, 5, 6, 26, 8, 9, 10, 11, 12, 13] [] rfl rfl rfl ?_ ?_
 ·conv => whnf
  (repeat' (first | exact Seal.d))
 ·conv => whnf
  refine And.intro ?c0 ?_
  case c0 =>
   conv => whnf
   exact ⟨⟨rfl, Nat.le_of_ble_eq_true rfl⟩, g1_seal hsl hn hne (by rw [e2]; exact renF_eq lt2 (fun l hl => by rcases l with _ | _ | _ | _ | _ | l <;> first | rfl | omega)) (fun l hl => by rcases l with _ | _ | _ | _ | l <;> first | exact ⟨Nat.le_of_ble_eq_true rfl, rfl, rfl⟩ | exact ⟨Nat.le_of_ble_eq_true rfl, rfl⟩ | omega) ⟨Nat.le_of_ble_eq_true rfl, rfl⟩ (fun k hk hne' => by rcases k with _ | _ | _ | _ | _ | _ | _ | _ | _ | k <;> first | exact ⟨Nat.le_of_ble_eq_true rfl, rfl⟩ | exact absurd rfl hne' | omega)⟩
  conv => whnf
  (repeat' (first | exact zL9 | exact x_sealR (qo _) rfl | ((refine And.intro ?_ ?_) <;> (conv => whnf))))
end Go.Proofs.YtplpofmnhcclbaaGreat
