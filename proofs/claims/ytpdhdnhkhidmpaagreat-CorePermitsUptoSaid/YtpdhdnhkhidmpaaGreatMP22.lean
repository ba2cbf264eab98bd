/- Parts of the proof, one behind the other: Ce3, Ce5, Ce6, Ce6b, Ce7, Ce8. Lemmas and contracts of functions; no condition of its own. -/
import Derived.Test.YtpdhdnhkhidmpaaGreatMP21
set_option linter.unusedVariables false
set_option linter.unusedSimpArgs false
set_option maxHeartbeats 1000000
namespace Go.Proofs.YtpdhdnhkhidmpaaGreat
open Go.RowKit
set_option maxRecDepth 100000
set_option maxHeartbeats 4000000
theorem az {ps : List Pol} {room : Int} {S : Nat → Core.Wk} {b b' : Nat} {L : List Nat} {π : Nat → Nat} (hb : 4 ≤ b') (h4 : ∀ l, l < 4 → l < L.length ∧ L.getD l 0 = π l) (hq : ∀ q, q < 9 → b' + q < L.length ∧ L.getD (b' + q) 0 = π (b + q)) :
  ∀ j, j < 67 → ae L (SV.ren π (aq ps room (gOf (aa ps room) b S) j)) (aq ps room (gOf (aa ps room) b' S) j) ∧ SV.Lt (b' + 9) (aq ps room (gOf (aa ps room) b' S) j) := fun j _ => by
 have hl : ∀ x, SV.Lt 4 x → ae L (SV.ren π x) x := fun x hx => by
  have := ae.renX (π1 := π) (π2 := fun l => l) (L := L) hx h4
  rwa [SV.ren_same (π := fun l => l) (m := 4) (fun _ _ => rfl) hx] at this
 rcases j with _ | _ | _ | j
 ·exact ⟨hl _ (.of rfl), .of rfl⟩
 ·exact ⟨hl _ (.of rfl), .of rfl⟩
 ·exact ⟨hl _ (.of rfl), (show SV.Lt 4 av from .of rfl).mono (by omega)⟩
 ·refine ⟨?_, lU hb S j⟩
  show ae L (SV.ren π (SV.ren (at4 (b + aK j)) (cl (aa ps room) j (S j).x (S j).s))) (SV.ren (at4 (b' + aK j)) (cl (aa ps room) j (S j).x (S j).s))
  rw [SV.ren_ren]
  refine ae.renX (eb _ _ _ _) fun l hl => ?_
  by_cases e : l = 4
  ·subst e; exact hq _ (em j)
  ·rw [ej (by omega), ej (by omega)]; exact h4 l (by omega)
theorem aH {ps : List Pol} {room : Int} {S : Nat → Core.Wk} {b b' : Nat} {L : List Nat} (hB : 4 ≤ b) (hb : 4 ≤ b') (h4 : ∀ l, l < 4 → l < L.length ∧ L.getD l 0 = l) (hq : ∀ q, q < 9 → b' + q < L.length ∧ L.getD (b' + q) 0 = b + q) :
  ∀ j, j < 67 → ae L (aq ps room (gOf (aa ps room) b S) j) (aq ps room (gOf (aa ps room) b' S) j) ∧ SV.Lt (b' + 9) (aq ps room (gOf (aa ps room) b' S) j) := fun j hj => by
 have := az (ps := ps) (room := room) (S := S) (b := b) (π := fun l => l) hb h4 hq j hj
 have hlt : SV.Lt (b + 9) (aq ps room (gOf (aa ps room) b S) j) := by
  rcases j with _ | _ | _ | j
  ·exact .of rfl
  ·exact .of rfl
  ·exact (show SV.Lt 4 av from .of rfl).mono (by omega)
  ·exact lU hB S j
 rwa [SV.ren_same (π := fun l => l) (fun _ _ => rfl) hlt] at this
theorem bF {xs : Nat → XB} {i n : Nat} (H : ∀ i j, SV.Lt 1 ((xs i).f j)) {L : List Nat} : ∀ j, j < n → ae (0 :: L) ((xs i).f j) ((xs i).f j) ∧ SV.Lt 1 ((xs i).f j) := eG (H i)
theorem aM {xs : Nat → XB} {i n : Nat} {π : Nat → Nat} (H : ∀ i j, SV.Lt 1 ((xs i).f j)) (hπ : π 0 = 0) {L : List Nat} : ∀ j, j < n → ae (0 :: L) (SV.ren π ((xs i).f j)) ((xs i).f j) ∧ SV.Lt 1 ((xs i).f j) := cd (H i) hπ
theorem nm {St' : St} {xs : Nat → XB} {i n : Nat} {π : Nat → Nat} (H : ∀ i j, SV.Lt 1 ((xs i).f j)) (hπ : π 0 = 0) {L : List Nat} : ∀ j, j < n → ai St' (0 :: L) (SV.ren π ((xs i).f j)) ((xs i).f j) ∧ SV.Lt 1 ((xs i).f j) := ar (H i) hπ
theorem x_sealA {St' : St} {xs : Nat → XB} {i n : Nat} (H : ∀ i j, SV.Lt 1 ((xs i).f j)) {L : List Nat} : ∀ j, j < n → ai St' (0 :: L) ((xs i).f j) ((xs i).f j) ∧ SV.Lt 1 ((xs i).f j) := aL (H i)
@[reducible] def lawH (B : Nat) (ps : List Pol) (room : Int) (S : Nat → Core.Wk) (M : Core.Mc) (o : Nat → XB) (nl : Nat) (f : Nat → List D) (cnt : Int) : List (Nat × Option Blk) :=
  [(0, some (.cf (B + 9) 67 (aq ps room (gOf (aa ps room) B S)))), (1, some (cm 2 (B + 9) 34 nl M.clk cnt)), (2, some (ce 34 M.W)), (3, some (gi M.Hd)),
   (B, some (xB (o 0))), (B + 1, some (xB (o 1))), (B + 2, some (xB (o 2))), (B + 3, some (xB (o 3))), (B + 4, some (xB (o 4))), (B + 5, some (xB (o 5))), (B + 6, some (xB (o 6))), (B + 7, some (xB (o 7))), (B + 8, some (xB (o 8))), (B + 9, some (bw nl f))]
variable {ps : List Pol} {room : Int} {k : Nat} {M : Core.Mc} {S : Nat → Core.Wk} {xs : Nat → XB} {nl : Nat} {f : Nat → List D} {cnt : Int}
theorem gH (h : ca ps room k M S xs nl cnt) (hk : k ≤ 1000000) {w : Nat} (hw : w < 8 ∨ w = 9) (hn : isC (S w).s = true) :
  ∃ xs' f', ca ps room (k + 1) (Core.mx (aa ps room) M S w) (Core.nx (aa ps room) M S w) xs' (au nl) (cnt + 1) ∧
  Fun TC 36 14 [.ptr 0 0, .i .i64 w] (ah ps room (gOf (aa ps room) 4 S) M xs nl f cnt)
   24 (.tup [rsS (Core.step (aa ps room) M (S w).x (S w).s).r, .i .i64 0]) (bz ps room (Core.nx (aa ps room) M S w) (Core.mx (aa ps room) M S w) xs' (au nl) f' (cnt + 1)) := by
 obtain ⟨a, hF⟩ := rU (f := f) w (by omega) (h.cok hk w (by omega)) hn (h.okC hk (by omega)) (h.xe w (f5 hn))
 exact ⟨_, _, h.step hk hw hn, hF⟩
theorem il (h : ca ps room k M S xs nl cnt) (hk : k ≤ 1000000) {w : Nat} (hw : w < 8 ∨ w = 9) (hn : (S w).s = .none) (op pol : Int) (key : List Int) (n : Int) (hE : jH ps op pol key n = 0) (hkl : key.length ≤ 16777216) (hkx : op ≠ 5 → op ≠ 6 → Core.Kx ps (aI op pol key n)) :
  ∃ xs', ca ps room k M (Dir.upd S w ⟨aI op pol key n, Core.first (aI op pol key n)⟩) xs' nl cnt ∧
  Fun TC 38 14 [.ptr 0 0, .i .i64 w, dv op pol key n] (ah ps room (gOf (aa ps room) 4 S) M xs nl f cnt)
   24 (.i .i64 0) (bz ps room (Dir.upd S w ⟨aI op pol key n, Core.first (aI op pol key n)⟩) M xs' nl f cnt) :=
 ⟨_, h.start hw hn hkx, pm w (by omega) (h.cok hk w (by omega)) hn (fun j hs hne => mw h.busy hw hs hne) op pol key n hE hkl hkx⟩
theorem cZ (h : ca ps room k M S xs nl cnt) (hk : k ≤ 1000000) {w : Nat} (hw : w < 64) :
  Fun TC 13 14 [.ptr 0 0, .i .i64 w] (ah ps room (gOf (aa ps room) 4 S) M xs nl f cnt) 14 (.b (isC (S w).s)) (ah ps room (gOf (aa ps room) 4 S) M xs nl f cnt) :=
 dJ w hw (h.cok hk w hw) rfl
end Go.Proofs.YtpdhdnhkhidmpaaGreat

namespace Go.Proofs.YtpdhdnhkhidmpaaGreat
open Go.RowKit
set_option maxRecDepth 100000
set_option maxHeartbeats 4000000
namespace Core
theorem T_pos {x : X} {W : Nat → Int} {s : CS} (hs : Cw x W s) (hn : s ≠ .none) : 0 < T x W s := by
 cases s with
 | none => exact absurd rfl hn
 | k0 f => have := sS x f; simp only [T]; split <;> omega
 | kE f w => have := sS x f; simp only [T, TE]; split <;> omega
 | kF f lv w => have := sS x f; simp only [T, TF]; split <;> omega
 | kG f lv w v l => simp only [T]; split <;> omega
 | kH f lv w l => have := sS x f; simp only [T, TH]; (repeat' split) <;> omega
 | kL f lv w l => simp only [T]; omega
 | al f => simp only [T]; omega
 | pk c => simp only [T]; omega
 | a0 f => simp only [T]; omega
 | a1 f u => simp only [T]; split <;> omega
 | p0 f c r => simp only [T]; omega
 | p1 f c r u => simp only [T]; split <;> omega
 | pS f c r => simp only [T]; split <;> omega
 | b0 k b => simp only [T]; omega
 | b1 k b u => simp only [T]; split <;> omega
 | e0 => simp only [T]; omega
 | eC j sh g w v l => simp only [T]; omega
 | eS j sh g w v m k => simp only [T]; omega
 | s0 => simp only [T]; omega
 | sM lv => simp only [T]; split <;> omega
 | sF lv i => have := fq hs.2.1; simp only [T]; omega
 | sG lv i v l => have := fq hs.2.1; simp only [T]; split <;> omega
 | sH lv i up l => have := fq hs.2.1; simp only [T]; split <;> omega
 | sL lv i up l => have := fq hs.2.1; simp only [T]; split <;> omega
 | sV lv => simp only [T]; omega
end Core
structure Cst where
 M : Core.Mc
 S : Nat → Core.Wk
 xs : Nat → XB
 nl : Nat
 f : Nat → List D
structure gf (ps : List Pol) (room : Int) (w k : Nat) (c0 : Cst) (n : Nat) (tr : Nat → Cst) (rs : Nat → Core.Rs) : Prop where
 z : tr 0 = c0
 pos : 0 < n
 law : ∀ i, i ≤ n → ca ps room (k + i) (tr i).M (tr i).S (tr i).xs (tr i).nl ((k : Int) + i + 1)
 on : ∀ i, i < n → isC ((tr i).S w).s = true
 mx : ∀ i, i < n → (tr (i + 1)).M = Core.mx (aa ps room) (tr i).M (tr i).S w ∧ (tr (i + 1)).S = Core.nx (aa ps room) (tr i).M (tr i).S w ∧ rs i = (Core.step (aa ps room) (tr i).M ((tr i).S w).x ((tr i).S w).s).r
 stp : ∀ i, i < n → Fun TC 36 14 [.ptr 0 0, .i .i64 w] (ah ps room (gOf (aa ps room) 4 (tr i).S) (tr i).M (tr i).xs (tr i).nl (tr i).f ((k : Int) + i + 1))
   24 (.tup [rsS (rs i), .i .i64 0]) (bz ps room (tr (i + 1)).S (tr (i + 1)).M (tr (i + 1)).xs (tr (i + 1)).nl (tr (i + 1)).f ((k : Int) + ((i + 1 : Nat) : Int) + 1))
 no : ∀ i, i + 1 < n → (rs i).done = false
 yes : (rs (n - 1)).done = true
theorem oI {ps : List Pol} {room : Int} {w : Nat} (hw : w < 8 ∨ w = 9) : ∀ (t k : Nat) (c : Cst), k + t ≤ 900000 → ca ps room k c.M c.S c.xs c.nl ((k : Int) + 1) → isC (c.S w).s = true → Core.T (c.S w).x c.M.W (c.S w).s ≤ t → ∃ n tr rs, n ≤ t ∧ gf ps room w k c n tr rs := by
  intro t
  induction t with
  | zero =>
    intro k c hk h hc ht
    exfalso
    have := Core.T_pos (h.all.inv.cw w) (f5 hc)
    omega
  | succ t ih =>
    intro k c hk h hc ht
    obtain ⟨xs', f', h1, hF⟩ := gH (f := c.f) h (by omega) hw hc
    generalize hr : Core.step (aa ps room) c.M (c.S w).x (c.S w).s = Q at hF
    obtain ⟨c1, hc1⟩ : ∃ c1 : Cst, c1 = ⟨Core.mx (aa ps room) c.M c.S w, Core.nx (aa ps room) c.M c.S w, xs', au c.nl, f'⟩ := ⟨_, rfl⟩
    have h1' : ca ps room (k + 1) c1.M c1.S c1.xs c1.nl ((k : Int) + 1 + 1) := by rw [hc1]; exact h1
    have hF' : Fun TC 36 14 [.ptr 0 0, .i .i64 w] (ah ps room (gOf (aa ps room) 4 c.S) c.M c.xs c.nl c.f ((k : Int) + 1)) 24 (.tup [rsS Q.r, .i .i64 0]) (bz ps room c1.S c1.M c1.xs c1.nl c1.f ((k : Int) + 1 + 1)) := by rw [hc1]; exact hF
    have e1 : c1.M = Core.mx (aa ps room) c.M c.S w ∧ c1.S = Core.nx (aa ps room) c.M c.S w := by rw [hc1]; exact ⟨rfl, rfl⟩
    cases hd : Q.r.done with
    | true =>
      refine ⟨1, fun i => match i with | 0 => c | _ + 1 => c1, fun _ => Q.r, by omega, rfl, by omega, fun i hi => ?_, fun i hi => ?_, fun i hi => ?_, fun i hi => ?_, fun i hi => by omega, hd⟩
      · have : i = 0 ∨ i = 1 := by omega
        rcases this with rfl | rfl
        · rw [show (k : Int) + ((0 : Nat) : Int) + 1 = (k : Int) + 1 by omega]; exact h
        · exact h1'
      · obtain rfl : i = 0 := by omega
        exact hc
      · obtain rfl : i = 0 := by omega
        exact ⟨e1.1, e1.2, by show Q.r = _; rw [← hr]⟩
      · obtain rfl : i = 0 := by omega
        rw [show (k : Int) + ((0 : Nat) : Int) + 1 = (k : Int) + 1 by omega]
        exact hF'
    | false =>
      have hd' : (Core.step (aa ps room) c.M (c.S w).x (c.S w).s).r.done = false := by rw [hr]; exact hd
      obtain ⟨g1, g2⟩ := Core.alone_T (P := aa ps room) h.all.inv (f5 hc) hd'
      rw [← e1.1, ← e1.2] at g2
      rw [← e1.2] at g1
      have hc1' : isC (c1.S w).s = true := by
        cases e : isC (c1.S w).s with
        | true => rfl
        | false => exact absurd (lO e) g1
      obtain ⟨n, tr, rs, hn, A⟩ := ih (k + 1) c1 (by omega) (by rw [show ((k + 1 : Nat) : Int) + 1 = (k : Int) + 1 + 1 by omega]; exact h1') hc1' (by omega)
      refine ⟨n + 1, fun i => match i with | 0 => c | i + 1 => tr i, fun i => match i with | 0 => Q.r | i + 1 => rs i, by omega, rfl, by omega, fun i hi => ?_, fun i hi => ?_, fun i hi => ?_, fun i hi => ?_, fun i hi => ?_, ?_⟩
      · cases i with
        | zero => rw [show (k : Int) + ((0 : Nat) : Int) + 1 = (k : Int) + 1 by omega]; exact h
        | succ i =>
          have := A.law i (by omega)
          rw [show k + (i + 1) = k + 1 + i by omega, show (k : Int) + ((i + 1 : Nat) : Int) + 1 = ((k + 1 : Nat) : Int) + i + 1 by omega]; exact this
      · cases i with
        | zero => exact hc
        | succ i => exact A.on i (by omega)
      · cases i with
        | zero => refine ⟨?_, ?_, by show Q.r = _; rw [← hr]⟩
                  · show (tr 0).M = _; rw [A.z]; exact e1.1
                  · show (tr 0).S = _; rw [A.z]; exact e1.2
        | succ i => exact A.mx i (by omega)
      · cases i with
        | zero =>
          rw [show (k : Int) + ((0 : Nat) : Int) + 1 = (k : Int) + 1 by omega]
          show Fun TC _ _ _ _ _ _ (bz ps room (tr 0).S (tr 0).M (tr 0).xs (tr 0).nl (tr 0).f _)
          rw [A.z]; exact hF'
        | succ i =>
          have := A.stp i (by omega)
          rw [show (k : Int) + ((i + 1 : Nat) : Int) + 1 = ((k + 1 : Nat) : Int) + i + 1 by omega, show (k : Int) + ((i + 1 + 1 : Nat) : Int) + 1 = ((k + 1 : Nat) : Int) + ((i + 1 : Nat) : Int) + 1 by omega]
          exact this
      · cases i with
        | zero => exact hd
        | succ i => exact A.no i (by omega)
      · have := A.pos
        show ((match n + 1 - 1 with | 0 => Q.r | i + 1 => rs i) : Core.Rs).done = true
        rw [show n + 1 - 1 = (n - 1) + 1 by omega]
        exact A.yes
def z6 : List SV := [.i .i64 0, .b false, .i .i64 0, .i .i64 0, .i .i64 0, .i .i64 0]
theorem qZ {ps : List Pol} {room : Int} {w k : Nat} {c c0 : Cst} {cnt : Int} (op pol : Int) (key : List Int) (m : Int) (most : Int) (hm2 : most ≤ 1000)
  (hS : Fun TC 38 14 [.ptr 0 0, .i .i64 w, dv op pol key m] (ah ps room (gOf (aa ps room) 4 c.S) c.M c.xs c.nl c.f ((k : Int) + 1)) 24 (.i .i64 0) (bz ps room c0.S c0.M c0.xs c0.nl c0.f ((k : Int) + 1)))
  (xl : ∀ i j, SV.Lt 1 ((c.xs i).f j)) {n : Nat} {tr : Nat → Cst} {rs : Nat → Core.Rs} (A : gf ps room w k c0 n tr rs) (hn : (n : Int) ≤ most) :
  Fun TC 28 14 [.ptr 0 0, .i .i64 w, dv op pol key m, .i .i64 most] (ah ps room (gOf (aa ps room) 4 c.S) c.M c.xs c.nl c.f ((k : Int) + 1))
   24 (.tup [(rs (n - 1)).r.S, .i .i64 n, .b true]) (bz ps room (tr n).S (tr n).M (tr n).xs (tr n).nl (tr n).f ((k : Int) + n + 1)) := by
 have hz := A.z
 have xl0 := (A.law 0 (by omega)).xl
 refine Fun.mk' Tryz.func28 rfl rfl zN (by decide) ?_
 (repeat' (first | ((first | refine Wp.any ac rfl ?_ | (with_reducible first | refine Go.mk ?_ | apply aj.of)); conv => whnf) | ((refine ab.fn (hS) [0,1,2,3,4,5,6,7,8,9,10,11,12,13] rfl rfl rfl rfl rfl ?ha ?hh ?_); (case ha => exact zA); (case hh => exact oM); (conv => whnf))))
 refine Wp.loopP (ι := Nat) (fun i => i < n) (fun i => ⟨⟨Tryz.f28.ntmps, 14⟩, 26, [(0, .ptr 0 0), (1, .i .i64 w), (3, .i .i64 most), (8, .ptr 15 0), (11, .i .i64 ((i : Int) + 1))],
   lawH 16 ps room (tr i).S (tr i).M (tr i).xs (tr i).nl (tr i).f ((k : Int) + i + 1) ++ [(15, some (.cells z6))]⟩) (fun i => n - i) 0 A.pos ?_ ?_
 ·(try dsimp only)
  rw [hz, show ((k : Int) + ((0 : Nat) : Int) + 1) = (k : Int) + 1 by omega]
  rw [hz] at xl0
  (refine Le.by [0,1,2,3,4,5,6,7,8,9,10,11,12,13,14,15,16,17,18,19,20,21,22,23,24,25] rfl rfl rfl rfl ?_ ?_ <;> ((conv => whnf); repeat' (first | exact trivial | exact az (by decide) (fun l hl => by rcases l with _ | _ | _ | _ | l <;> first | exact ⟨zzb rfl, rfl⟩ | exact ⟨zzb rfl, rfl, rfl⟩ | omega) (fun q hq => by rcases q with _ | _ | _ | _ | _ | _ | _ | _ | _ | q <;> first | exact ⟨zzb rfl, rfl⟩ | omega) | exact ae.rfl rfl | exact ae.ptr rfl | exact ae.sl rfl | exact ⟨rfl, rfl, rfl⟩ | exact ⟨rfl, zzb rfl⟩ | exact aM (by assumption) rfl | exact fun i hi => rfl | ((with_reducible refine And.intro ?_ ?_) <;> (conv => whnf)))))
 ·rintro i h1
  (try dsimp only at h1 ⊢)
  have hT := A.stp i h1
  have xi := (A.law i (by omega)).xl
  have xi1 := (A.law (i + 1) (by omega)).xl
  have hNo := A.no i
  have hL : (rs i).done = true → i = n - 1 := fun e => by
   by_cases h9 : i + 1 < n
   ·rw [hNo h9] at e; cases e
   ·omega
  have hY : (rs i).done = false → i + 1 < n := fun e => by
   by_cases h9 : i + 1 < n
   ·exact h9
   ·have : i = n - 1 := by omega
    subst this; rw [A.yes] at e; cases e
  generalize hr : rs i = r at hT hL hY
  obtain ⟨dn, re⟩ := r
  cases dn with
  | true =>
   have hi := hL rfl
   have hi1 : i + 1 = n := by have := A.pos; omega
   rw [← hi, hr]
   have hcn : (k : Int) + ((i + 1 : Nat) : Int) + 1 = (k : Int) + n + 1 := by omega
   rw [hcn] at hT
   rw [hi1] at hT xi1
   (repeat' (first | ((first | refine Wp.any ac rfl ?_ | (with_reducible first | refine Go.mk ?_ | apply aj.of)); conv => whnf) | ((refine ab.fn (hT) [0,1,2,3,16,17,18,19,20,21,22,23,24,25] rfl rfl rfl rfl rfl ?ha ?hh ?_); (case ha => exact zA); (case hh => exact oM); (conv => whnf)) | ((refine ap (fun hc => ?_) (fun hc => ?_)) <;> (try simp only [wz9] at hc) <;> (try (exfalso; omega)) <;> (conv => whnf))))
   refine af.sealB [0,1,2,3,4,5,6,7,8,9,10,11,12,13,26,27,28,29,30,31,32,33,34,35] rfl rfl rfl ?_ ?_
   ·conv => whnf
    (repeat' (first | exact zN9 | ((refine ai.agg ?_); (conv => whnf)) | ((refine ai.tup ?_); (conv => whnf)) | ((refine And.intro ?_ ?_) <;> (conv => whnf))))
    exact ai.le ai.d (SV.Le.i (by omega))
   ·conv => whnf
    (repeat' (first | exact zN9 | ((refine And.intro ?_ ?_) <;> (conv => whnf))))
  | false =>
   have hi := hY rfl
   (repeat' (first | ((first | refine Wp.any ac rfl ?_ | (with_reducible first | refine Go.mk ?_ | apply aj.of | refine Ov.ok zO ?_)); conv => whnf) | ((refine ab.fn (hT) [0,1,2,3,16,17,18,19,20,21,22,23,24,25] rfl rfl rfl rfl rfl ?ha ?hh ?_); (case ha => exact zA); (case hh => exact oM); (conv => whnf)) | ((refine ap (fun hc => ?_) (fun hc => ?_)) <;> (try simp only [wz9] at hc) <;> (try (exfalso; omega)) <;> (conv => whnf))))
   refine ⟨i + 1, hi, by dsimp only; omega, ?_⟩
   dsimp only
   (refine Le.by [0,1,2,3,4,5,6,7,8,9,10,11,12,13,14,15,26,27,28,29,30,31,32,33,34,35] rfl rfl rfl rfl ?_ ?_ <;> ((conv => whnf); repeat' (first | exact trivial | exact az (by decide) (fun l hl => by rcases l with _ | _ | _ | _ | l <;> first | exact ⟨zzb rfl, rfl⟩ | exact ⟨zzb rfl, rfl, rfl⟩ | omega) (fun q hq => by rcases q with _ | _ | _ | _ | _ | _ | _ | _ | _ | q <;> first | exact ⟨zzb rfl, rfl⟩ | omega) | exact ae.rfl rfl | exact ae.ptr rfl | exact ae.sl rfl | exact ⟨rfl, rfl, rfl⟩ | exact ⟨rfl, zzb rfl⟩ | exact aM (by assumption) rfl | exact fun i hi => rfl | ((with_reducible refine And.intro ?_ ?_) <;> (conv => whnf)))))
end Go.Proofs.YtpdhdnhkhidmpaaGreat

namespace Go.Proofs.YtpdhdnhkhidmpaaGreat
open Go.RowKit
set_option maxRecDepth 100000
set_option maxHeartbeats 4000000
theorem jD {ps : List Pol} {room : Int} {S : Nat → Core.Wk} {M : Core.Mc} {xs : Nat → XB} {nl : Nat} {f : Nat → List D} {cnt : Int} (w : Nat) (hw : w < 64) (hM : COK ps room w (gOf (aa ps room) 4 S) M xs nl cnt) (hn : isC (S w).s = false) :
  Fun TC 36 14 [.ptr 0 0, .i .i64 w] (ah ps room (gOf (aa ps room) 4 S) M xs nl f cnt)
   14 (.tup [rsS Core.r0, .i .i64 7]) (ah ps room (gOf (aa ps room) 4 S) M xs nl f cnt) := by
 have hP := dJ (nl := nl) (f := f) (cnt := cnt) w hw hM rfl
 rw [hn] at hP
 have q5 := hM.g; have qo := hM.o
 refine Fun.mk' Tryz.func36 rfl rfl zN (by decide) ?_
 (repeat' (first | ((first | refine Wp.any ac rfl ?_ | (with_reducible first | refine Go.mk ?_ | apply aj.of | refine ab.pure (a8 _) rfl rfl ?_)); conv => whnf) | ((apply ab.fn14 (h := hP)); (case hh => exact zz1); (case ha => exact zA); (case hd => exact rfl); (case hlive => exact rfl); (case hkeys => exact rfl); (case hlt => exact rfl); (conv => whnf)) | ((refine ap (fun hc => ?_) (fun hc => ?_)) <;> (try simp only [wz9] at hc) <;> (try (exfalso; omega)) <;> (conv => whnf))))
 ((refine af.sealB [0, 1, 2, 3, 4, 5, 6, 7, 8, 9, 10, 11, 12, 13] rfl rfl rfl ?_ ?_); (focus ((conv => whnf); (repeat' (first | exact zC9)))); (focus ((conv => whnf); (repeat' (first | exact zC9 | exact ar (qo _) rfl | ((refine And.intro ?_ ?_) <;> (conv => whnf)))))))
theorem ng {ps : List Pol} {room : Int} {S : Nat → Core.Wk} {M : Core.Mc} {xs : Nat → XB} {nl : Nat} {f : Nat → List D} {cnt : Int} (w : Nat) (hw : w < 64) (hM : COK ps room w (gOf (aa ps room) 4 S) M xs nl cnt) (hn : isC (S w).s = true)
  (op pol : Int) (key : List Int) (n : Int) (hE : jH ps op pol key n = 0) :
  Fun TC 38 14 [.ptr 0 0, .i .i64 w, dv op pol key n] (ah ps room (gOf (aa ps room) 4 S) M xs nl f cnt)
   14 (.i .i64 9) (ah ps room (gOf (aa ps room) 4 S) M xs nl f cnt) := by
 have q5 := hM.g; have qo := hM.o
 have hC := aW ps op pol key n
 rw [hE] at hC
 have hg2 : aq ps room (gOf (aa ps room) 4 S) (w + 3) = SV.ren (at4 (4 + aK w)) (cl (aa ps room) w (S w).x (S w).s) := rfl
 rcases r7 (aa ps room) w (S w).x (4 + aK w) (S w).s with ⟨e, e2⟩ | ⟨n2, caps, e, e2⟩
 ·rw [hn] at e2; cases e2
 ·rw [e] at hg2
  refine Fun.mk' Tryz.func38 rfl rfl zN (by decide) ?_
  (repeat' (first | ((first | refine Wp.any ac rfl ?_ | (with_reducible first | refine Go.mk ?_ | apply aj.of | refine And.intro zC ?_ | refine ab.pure (a8 _) rfl rfl ?_ | refine ab.pure (hC) rfl rfl ?_)); conv => whnf) | ((refine At.mk' (w + 3) (by show 3 + ((w : Nat) : Int).toNat * 1 = w + 3; omega) ?_); (refine And.intro (by omega) ?_); (rw [hg2]); (conv => whnf)) | ((with_reducible refine At.mk' _ rfl ?_); (refine And.intro zN ?_); conv => whnf) | ((refine ap (fun hc => ?_) (fun hc => ?_)) <;> (try simp only [wz9] at hc) <;> (try (exfalso; omega)) <;> (conv => whnf))))
  ((refine af.sealB [0, 1, 2, 3, 4, 5, 6, 7, 8, 9, 10, 11, 12, 13] rfl rfl rfl ?_ ?_); (focus ((conv => whnf); (repeat' (first | exact ai.d)))); (focus ((conv => whnf); (repeat' (first | exact zC9 | exact aL (qo _) | ((refine And.intro ?_ ?_) <;> (conv => whnf)))))))
set_option maxRecDepth 100000
set_option maxHeartbeats 4000000
theorem play_0 {ps : List Pol} {room : Int} {w : Nat} {c c' : Cst} {cnt cnt' : Int} {r : Core.Rs} (kind op pol : Int) (key : List Int) (n t : Int) (hk : kind = 0) (xl : ∀ i j, SV.Lt 1 ((c.xs i).f j)) (xl' : ∀ i j, SV.Lt 1 ((c'.xs i).f j))
  (hS : Fun TC 36 14 [.ptr 0 0, .i .i64 w] (ah ps room (gOf (aa ps room) 4 c.S) c.M c.xs c.nl c.f cnt) 24 (.tup [rsS r, .i .i64 0]) (bz ps room c'.S c'.M c'.xs c'.nl c'.f cnt')) :
  Fun TC 15 14 [.ptr 0 0, Pick.S ⟨kind, w, op, pol, key, n, t⟩] (ah ps room (gOf (aa ps room) 4 c.S) c.M c.xs c.nl c.f cnt) 24 (.tup [rsS r, .i .i64 0]) (bz ps room c'.S c'.M c'.xs c'.nl c'.f cnt') := by
 subst hk
 obtain ⟨dn, re⟩ := r
 refine Fun.mk' Tryz.func15 rfl rfl zN (by decide) ?_
 (repeat' (first | ((first | refine Wp.any ac rfl ?_ | (with_reducible first | refine Go.mk ?_ | apply aj.of)); conv => whnf) | ((refine ab.fn (hS) [0,1,2,3,4,5,6,7,8,9,10,11,12,13] rfl rfl rfl rfl rfl ?ha ?hh ?_); (case ha => exact zA); (case hh => exact oM); (conv => whnf))))
 refine af.sealB [0,1,2,3,4,5,6,7,8,9,10,11,12,13,16,17,18,19,20,21,22,23,24,25] rfl rfl rfl ?_ ?_
 ·conv => whnf
  (repeat' (first | exact zN9 | ((refine ai.agg ?_); (conv => whnf)) | ((refine ai.tup ?_); (conv => whnf)) | ((refine And.intro ?_ ?_) <;> (conv => whnf))))
 ·conv => whnf
  (repeat' (first | exact zN9 | ((refine And.intro ?_ ?_) <;> (conv => whnf))))
theorem play_0i {ps : List Pol} {room : Int} {w : Nat} {c : Cst} {cnt : Int} (kind op pol : Int) (key : List Int) (n t : Int) (hk : kind = 0) (xl : ∀ i j, SV.Lt 1 ((c.xs i).f j))
  (hS : Fun TC 36 14 [.ptr 0 0, .i .i64 w] (ah ps room (gOf (aa ps room) 4 c.S) c.M c.xs c.nl c.f cnt) 14 (.tup [rsS Core.r0, .i .i64 7]) (ah ps room (gOf (aa ps room) 4 c.S) c.M c.xs c.nl c.f cnt)) :
  Fun TC 15 14 [.ptr 0 0, Pick.S ⟨kind, w, op, pol, key, n, t⟩] (ah ps room (gOf (aa ps room) 4 c.S) c.M c.xs c.nl c.f cnt) 24 (.tup [rsS Core.r0, .i .i64 7]) (bz ps room c.S c.M c.xs c.nl c.f cnt) := by
 subst hk
 refine Fun.mk' Tryz.func15 rfl rfl zN (by decide) ?_
 (repeat' (first | ((first | refine Wp.any ac rfl ?_ | (with_reducible first | refine Go.mk ?_ | apply aj.of)); conv => whnf) | ((refine ab.fn (hS) [0,1,2,3,4,5,6,7,8,9,10,11,12,13] rfl rfl rfl rfl rfl ?ha ?hh ?_); (case ha => exact zA); (case hh => exact oM); (conv => whnf))))
 refine af.sealC [0,1,2,3,4,5,6,7,8,9,10,11,12,13,4,5,6,7,8,9,10,11,12,13] [] rfl rfl rfl ?_ ?_
 ·conv => whnf
  (repeat' (first | exact zO9 | ((refine ai.agg ?_); (conv => whnf)) | ((refine ai.tup ?_); (conv => whnf)) | ((refine And.intro ?_ ?_) <;> (conv => whnf))))
 ·conv => whnf
  (repeat' (first | exact zO9 | ((refine And.intro ?_ ?_) <;> (conv => whnf))))
theorem play_1 {ps : List Pol} {room : Int} {w : Nat} {c c' : Cst} {cnt : Int} (kind op pol : Int) (key : List Int) (n t : Int) (hk : kind = 1) (xl : ∀ i j, SV.Lt 1 ((c.xs i).f j)) (xl' : ∀ i j, SV.Lt 1 ((c'.xs i).f j))
  (hS : Fun TC 38 14 [.ptr 0 0, .i .i64 w, dv op pol key n] (ah ps room (gOf (aa ps room) 4 c.S) c.M c.xs c.nl c.f cnt) 24 (.i .i64 0) (bz ps room c'.S c'.M c'.xs c'.nl c'.f cnt)) :
  Fun TC 15 14 [.ptr 0 0, Pick.S ⟨kind, w, op, pol, key, n, t⟩] (ah ps room (gOf (aa ps room) 4 c.S) c.M c.xs c.nl c.f cnt) 24 (.tup [rsS Core.r0, .i .i64 0]) (bz ps room c'.S c'.M c'.xs c'.nl c'.f cnt) := by
 subst hk
 refine Fun.mk' Tryz.func15 rfl rfl zN (by decide) ?_
 (repeat' (first | ((first | refine Wp.any ac rfl ?_ | (with_reducible first | refine Go.mk ?_ | apply aj.of)); conv => whnf) | ((refine ab.fn (hS) [0,1,2,3,4,5,6,7,8,9,10,11,12,13] rfl rfl rfl rfl rfl ?ha ?hh ?_); (case ha => exact zA); (case hh => exact oM); (conv => whnf))))
 refine af.sealB [0,1,2,3,4,5,6,7,8,9,10,11,12,13,16,17,18,19,20,21,22,23,24,25] rfl rfl rfl ?_ ?_
 ·conv => whnf
  (repeat' (first | exact zN9 | ((refine ai.agg ?_); (conv => whnf)) | ((refine ai.tup ?_); (conv => whnf)) | ((refine And.intro ?_ ?_) <;> (conv => whnf))))
 ·conv => whnf
  (repeat' (first | exact zN9 | ((refine And.intro ?_ ?_) <;> (conv => whnf))))
theorem play_1b {ps : List Pol} {room : Int} {w : Nat} {c : Cst} {cnt : Int} (kind op pol : Int) (key : List Int) (n t : Int) (hk : kind = 1) (xl : ∀ i j, SV.Lt 1 ((c.xs i).f j))
  (hS : Fun TC 38 14 [.ptr 0 0, .i .i64 w, dv op pol key n] (ah ps room (gOf (aa ps room) 4 c.S) c.M c.xs c.nl c.f cnt) 14 (.i .i64 9) (ah ps room (gOf (aa ps room) 4 c.S) c.M c.xs c.nl c.f cnt)) :
  Fun TC 15 14 [.ptr 0 0, Pick.S ⟨kind, w, op, pol, key, n, t⟩] (ah ps room (gOf (aa ps room) 4 c.S) c.M c.xs c.nl c.f cnt) 24 (.tup [rsS Core.r0, .i .i64 9]) (bz ps room c.S c.M c.xs c.nl c.f cnt) := by
 subst hk
 refine Fun.mk' Tryz.func15 rfl rfl zN (by decide) ?_
 (repeat' (first | ((first | refine Wp.any ac rfl ?_ | (with_reducible first | refine Go.mk ?_ | apply aj.of)); conv => whnf) | ((refine ab.fn (hS) [0,1,2,3,4,5,6,7,8,9,10,11,12,13] rfl rfl rfl rfl rfl ?ha ?hh ?_); (case ha => exact zA); (case hh => exact oM); (conv => whnf))))
 refine af.sealC [0,1,2,3,4,5,6,7,8,9,10,11,12,13,4,5,6,7,8,9,10,11,12,13] [] rfl rfl rfl ?_ ?_
 ·conv => whnf
  (repeat' (first | exact zO9 | ((refine ai.agg ?_); (conv => whnf)) | ((refine ai.tup ?_); (conv => whnf)) | ((refine And.intro ?_ ?_) <;> (conv => whnf))))
 ·conv => whnf
  (repeat' (first | exact zO9 | ((refine And.intro ?_ ?_) <;> (conv => whnf))))
theorem play_2 {ps : List Pol} {room : Int} {w : Nat} {c : Cst} {cnt T : Int} {M' : Core.Mc} (kind op pol : Int) (key : List Int) (n t : Int) (hk0 : kind ≠ 0) (hk1 : kind ≠ 1) (xl : ∀ i j, SV.Lt 1 ((c.xs i).f j))
  (hS : Fun TC 27 14 [.ptr 0 0, .i .i64 t] (ah ps room (gOf (aa ps room) 4 c.S) c.M c.xs c.nl c.f cnt) 14 (.tup [.i .i64 T, .i .i64 0]) (ah ps room (gOf (aa ps room) 4 c.S) M' c.xs c.nl c.f cnt)) :
  Fun TC 15 14 [.ptr 0 0, Pick.S ⟨kind, w, op, pol, key, n, t⟩] (ah ps room (gOf (aa ps room) 4 c.S) c.M c.xs c.nl c.f cnt) 24 (.tup [rsS Core.r0, .i .i64 0]) (bz ps room c.S M' c.xs c.nl c.f cnt) := by
 refine Fun.mk' Tryz.func15 rfl rfl zN (by decide) ?_
 (repeat' (first | ((first | refine Wp.any ac rfl ?_ | (with_reducible first | refine Go.mk ?_ | apply aj.of)); conv => whnf) | ((refine ab.fn (hS) [0,1,2,3,4,5,6,7,8,9,10,11,12,13] rfl rfl rfl rfl rfl ?ha ?hh ?_); (case ha => exact zA); (case hh => exact oM); (conv => whnf)) | ((refine ap (fun hc => ?_) (fun hc => ?_)) <;> (try simp only [wz9] at hc) <;> (try (exfalso; omega)) <;> (conv => whnf))))
 refine af.sealC [0,1,2,3,4,5,6,7,8,9,10,11,12,13,4,5,6,7,8,9,10,11,12,13] [] rfl rfl rfl ?_ ?_
 ·conv => whnf
  (repeat' (first | exact zO9 | ((refine ai.agg ?_); (conv => whnf)) | ((refine ai.tup ?_); (conv => whnf)) | ((refine And.intro ?_ ?_) <;> (conv => whnf))))
 ·conv => whnf
  (repeat' (first | exact zO9 | ((refine And.intro ?_ ?_) <;> (conv => whnf))))
set_option maxRecDepth 100000
set_option maxHeartbeats 4000000
structure Pick.Fit (p : Pick) : Prop where
 kind : 0 ≤ p.kind ∧ p.kind ≤ 2
 who : 0 ≤ p.who ∧ p.who < 5
 op : 1 ≤ p.op ∧ p.op ≤ 6
 chk : jH am p.op p.pol p.key p.n = 0
 len : p.key.length ≤ 2
 kx : p.op ≠ 5 → p.op ≠ 6 → Core.Kx am (aI p.op p.pol p.key p.n)
 t : 0 ≤ p.t ∧ p.t < 40
theorem oo {p : Pick} (h : p.ok) : (eF p).Fit :=
 have ⟨a, b, c, d, e, f, g⟩ := fit_ok h
 ⟨f, e, d, a, b, c, g⟩
@[reducible] def nQ (p : Pick) : Core.Wk := ⟨aI p.op p.pol p.key p.n, Core.first (aI p.op p.pol p.key p.n)⟩
structure Pl where
 M : Core.Mc
 S : Nat → Core.Wk
 r : Core.Rs
 e : Int
def ck (P : Core.Ops) (M : Core.Mc) (S : Nat → Core.Wk) (p : Pick) : Pl :=
 if p.kind = 0 then
  (if isC (S p.who.toNat).s = true then ⟨Core.mx P M S p.who.toNat, Core.nx P M S p.who.toNat, (Core.step P M (S p.who.toNat).x (S p.who.toNat).s).r, 0⟩ else ⟨M, S, Core.r0, 7⟩)
 else if p.kind = 1 then
  (if isC (S p.who.toNat).s = true then ⟨M, S, Core.r0, 9⟩ else ⟨M, Dir.upd S p.who.toNat (nQ p), Core.r0, 0⟩)
 else ⟨⟨M.W, M.Hd, min (M.clk + p.t) 4611686018427387903⟩, S, Core.r0, 0⟩
theorem tM {room : Int} {k : Nat} {c : Cst} (h : ca am room k c.M c.S c.xs c.nl ((k : Int) + 1)) (hk : k ≤ 900000) (p : Pick) (hp : p.Fit) : ∃ (k' : Nat) (c' : Cst), (k ≤ k' ∧ k' ≤ k + 1) ∧ c'.M = (ck (aa am room) c.M c.S p).M ∧ c'.S = (ck (aa am room) c.M c.S p).S ∧
  ca am room k' c'.M c'.S c'.xs c'.nl ((k' : Int) + 1) ∧
  Fun TC 15 14 [.ptr 0 0, p.S] (ah am room (gOf (aa am room) 4 c.S) c.M c.xs c.nl c.f ((k : Int) + 1))
   24 (.tup [rsS (ck (aa am room) c.M c.S p).r, .i .i64 (ck (aa am room) c.M c.S p).e]) (bz am room c'.S c'.M c'.xs c'.nl c'.f ((k' : Int) + 1)) := by
 obtain ⟨kind, who, op, pol, key, n, t⟩ := p
 obtain ⟨⟨k0, k1⟩, ⟨w0, w1⟩, ho, hE, hl, hx, ht⟩ := hp
 dsimp only at k0 k1 w0 w1 ho hE hl hx ht
 obtain ⟨w, rfl⟩ : ∃ w : Nat, (w : Int) = who := ⟨who.toNat, by omega⟩
 have hw8 : w < 8 := by omega
 have xl := h.xl
 have hcok := h.cok (by omega) w (by omega)
 unfold ck
 simp only [Int.toNat_natCast]
 by_cases e0 : kind = 0
 ·rw [if_pos e0]
  cases hc : isC (c.S w).s with
  | true =>
   rw [if_pos rfl]
   obtain ⟨xs', f', hL, hS⟩ := gH (f := c.f) h (by omega) (.inl hw8) hc
   have ek : (k : Int) + 1 + 1 = ((k + 1 : Nat) : Int) + 1 := by omega
   rw [ek] at hL hS
   exact ⟨k + 1, ⟨_, _, xs', _, f'⟩, ⟨by omega, by omega⟩, rfl, rfl, hL, play_0 (c := c) (c' := ⟨_, _, xs', _, f'⟩) kind op pol key n t e0 xl hL.xl hS⟩
  | false =>
   rw [if_neg (by decide)]
   exact ⟨k, c, ⟨by omega, by omega⟩, rfl, rfl, h, play_0i kind op pol key n t e0 xl (jD w (by omega) hcok hc)⟩
 ·rw [if_neg e0]
  by_cases e1 : kind = 1
  ·rw [if_pos e1]
   cases hc : isC (c.S w).s with
   | true =>
    rw [if_pos rfl]
    exact ⟨k, c, ⟨by omega, by omega⟩, rfl, rfl, h, play_1b kind op pol key n t e1 xl (ng w (by omega) hcok hc op pol key n hE)⟩
   | false =>
    rw [if_neg (by decide)]
    obtain ⟨xs', hL, hS⟩ := il (f := c.f) h (by omega) (.inl hw8) (lO hc) op pol key n hE (by omega) hx
    exact ⟨k, ⟨_, _, xs', c.nl, c.f⟩, ⟨by omega, by omega⟩, rfl, rfl, hL, play_1 (c := c) (c' := ⟨_, _, xs', c.nl, c.f⟩) kind op pol key n t e1 xl hL.xl hS⟩
  ·rw [if_neg e1]
   have hb := h.clk
   exact ⟨k, ⟨⟨c.M.W, c.M.Hd, min (c.M.clk + t) 4611686018427387903⟩, c.S, c.xs, c.nl, c.f⟩, ⟨by omega, by omega⟩, rfl, rfl, h.tick ⟨by omega, by omega⟩, play_2 kind op pol key n t e0 e1 xl (mb hcok hb.1 hb.2 t ht.1 (by omega))⟩
end Go.Proofs.YtpdhdnhkhidmpaaGreat

namespace Go.Proofs.YtpdhdnhkhidmpaaGreat
open Go.RowKit
set_option maxRecDepth 100000
set_option maxHeartbeats 4000000
def itC (P : Core.Ops) : Nat → Core.Mc × Core.Wk → Core.Mc × Core.Wk
 | 0, z => z
 | n + 1, z => itC P n ((Core.step P z.1 z.2.x z.2.s).M, ⟨(Core.step P z.1 z.2.x z.2.s).x, (Core.step P z.1 z.2.x z.2.s).s⟩)
def itN (P : Core.Ops) (z : Core.Mc × Core.Wk) : Core.Mc × Core.Wk := ((Core.step P z.1 z.2.x z.2.s).M, ⟨(Core.step P z.1 z.2.x z.2.s).x, (Core.step P z.1 z.2.x z.2.s).s⟩)
theorem n7 (P : Core.Ops) : ∀ (n : Nat) (z : Core.Mc × Core.Wk), itC P (n + 1) z = itN P (itC P n z)
 | 0, _ => rfl
 | n + 1, z => by
  rw [itC, n7 P n]; rfl
variable {ps : List Pol} {room : Int} {w k : Nat} {c0 : Cst} {n : Nat} {tr : Nat → Cst} {rs : Nat → Core.Rs}
theorem gf.it (A : gf ps room w k c0 n tr rs) : ∀ i, i ≤ n → (tr i).M = (itC (aa ps room) i (c0.M, c0.S w)).1 ∧ (tr i).S w = (itC (aa ps room) i (c0.M, c0.S w)).2 ∧ ∀ j, j ≠ w → (tr i).S j = c0.S j
 | 0, _ => by rw [A.z]; exact ⟨rfl, rfl, fun _ _ => rfl⟩
 | i + 1, hi => by
  obtain ⟨a, b, c⟩ := A.it i (by omega)
  obtain ⟨d, e, _⟩ := A.mx i (by omega)
  rw [n7]
  refine ⟨?_, ?_, fun j hj => ?_⟩
  ·rw [d, itN, Core.mx, a, b]
  ·rw [e, itN, Core.nx, Dir.upd_same, a, b]
  ·rw [e, Core.nx, Dir.upd_ne _ _ hj]; exact c j hj
def iY (P : Core.Ops) (z : Core.Mc × Core.Wk) : Core.Rs := (Core.step P z.1 z.2.x z.2.s).r
theorem gf.rs_it (A : gf ps room w k c0 n tr rs) (i : Nat) (hi : i < n) : rs i = iY (aa ps room) (itC (aa ps room) i (c0.M, c0.S w)) := by
 obtain ⟨_, _, e⟩ := A.mx i hi
 obtain ⟨a, b, _⟩ := A.it i (by omega)
 rw [e, iY, a, b]
theorem gf.count (A : gf ps room w k c0 n tr rs) (t : Nat) (hf : ∀ i, i < t → (iY (aa ps room) (itC (aa ps room) i (c0.M, c0.S w))).done = false) (ht : (iY (aa ps room) (itC (aa ps room) t (c0.M, c0.S w))).done = true) : n = t + 1 := by
 have hp := A.pos
 by_cases h1 : n ≤ t
 ·exfalso
  have := A.yes
  rw [A.rs_it (n - 1) (by omega), hf (n - 1) (by omega)] at this
  cases this
 ·by_cases h2 : t + 1 < n
  ·exfalso
   have := A.no t h2
   rw [A.rs_it t (by omega), ht] at this
   cases this
  ·omega
def aw1 : Core.Mc × Core.Wk := (⟨Core.M0.W, Core.M0.Hd, min (0 + 100) 4611686018427387903⟩, nQ ⟨0, 0, 1, 0, [97], 1, 0⟩)
def aw2 : Core.Mc × Core.Wk := ((itC (aa am 2) 6 aw1).1, nQ ⟨0, 1, 2, 1, [107], 0, 0⟩)
theorem aw1_no : ∀ i, i < 5 → (iY (aa am 2) (itC (aa am 2) i aw1)).done = false := by
 intro i hi
 rcases i with _ | _ | _ | _ | _ | i <;> first | decide +kernel | omega
theorem aw1_yes : (iY (aa am 2) (itC (aa am 2) 5 aw1)).done = true := by decide +kernel
theorem aw2_no : ∀ i, i < 6 → (iY (aa am 2) (itC (aa am 2) i aw2)).done = false := by
 intro i hi
 rcases i with _ | _ | _ | _ | _ | _ | i <;> first | decide +kernel | omega
theorem aw2_yes : (iY (aa am 2) (itC (aa am 2) 6 aw2)).done = true := by decide +kernel
end Go.Proofs.YtpdhdnhkhidmpaaGreat
