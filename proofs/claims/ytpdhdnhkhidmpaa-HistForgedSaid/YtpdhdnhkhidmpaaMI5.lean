/- Lemmas of Sx22, Sx24, Ty, Sx20, Bk1, Bk2, Bk3. No condition. -/
import Derived.Test.YtpdhdnhkhidmpaaMI4
import Derived.IntWalk
import Derived.Test.YtpdhdnhkhidmpaaRows
import Derived.Shelf.Bits.Mul64
set_option linter.unusedVariables false
set_option linter.unusedSimpArgs false
set_option maxHeartbeats 80000000
set_option maxRecDepth 100000
namespace Go.Proofs.Ytpdhdnhkhidmpaa
open Go.RowKit
theorem Sat.rehp {O : Org} {E : Env} {nt : NT} {nx : Nat} {fr : List (Nat × SV)} {hp hp' : List (Nat × Option Blk)} {a : Act} {w : World} (h : Sat O E ⟨nt, nx, fr, hp⟩ a w)
    (hx : ∀ k b', lkh hp' k = some b' → ∃ b, lkh hp k = some b ∧ (∀ κ, b'.real κ → b.real κ) ∧ (BS E nx w k b → BS E nx w k b')) : Sat O E ⟨nt, nx, fr, hp'⟩ a w := by
  refine ⟨h.fr, h.nt, h.df, fun l b hb => ?_, fun l b hb => ?_, fun l l' b b' hb hb' hr hr' hne => ?_, fun b hb => ⟨(h.im b hb).1, (h.im b hb).2.1, fun l x hl hr => ?_⟩, fun l b hb hr => ?_, h.kq, h.lab, h.nl, h.imo⟩
  · obtain ⟨b0, h1, _, h3⟩ := hx l b hb; exact h3 (h.hp l b0 h1)
  · obtain ⟨b0, h1, _, _⟩ := hx l b hb; exact h.nx l b0 h1
  · obtain ⟨b0, h1, h2, _⟩ := hx l b hb
    obtain ⟨b1, h3, h4, _⟩ := hx l' b' hb'
    exact h.inj l l' b0 b1 h1 h3 (h2 _ hr) (h4 _ hr') hne
  · obtain ⟨b0, h1, h2, _⟩ := hx l x hl; exact (h.im b hb).2.2 l b0 h1 (h2 _ hr)
  · obtain ⟨b0, h1, h2, _⟩ := hx l b hb; exact h.own l b0 h1 (h2 _ hr)
def pm (l nx k : Nat) : Nat := bif Nat.beq k l then nx else k
def mvH (l nx : Nat) : List (Nat × Option Blk) → List (Nat × Option Blk)
  | [] => []
  | (k, none) :: r => (k, none) :: mvH l nx r
  | (k, some b) :: r => (k, some (mM (pm l nx) b)) :: mvH l nx r
theorem eR {l nx : Nat} : ∀ (hp : List (Nat × Option Blk)) (k : Nat), lkh (mvH l nx hp) k = (lkh hp k).map (mM (pm l nx))
  | [], k => rfl
  | (j, none) :: r, k => by
    simp only [mvH, ah, eR r k]; split <;> rfl
  | (j, some b) :: r, k => by
    simp only [mvH, ah, eR r k]; split <;> rfl
theorem Sat.mv {O : Org} {E : Env} {nt : NT} {nx : Nat} {fr : List (Nat × SV)} {hp : List (Nat × Option Blk)} {a : Act} {w : World} (h : Sat O E ⟨nt, nx, fr, hp⟩ a w) {l e z n : Nat} {f : Nat → List D} (hl : lkh hp l = some (.row e z n f)) :
    Sat O (E.newrow nx (E.ρ l) (E.κ l)) ⟨nt, nx + 1, fr, (nx, some (.row e z n f)) :: (l, none) :: mvH l nx hp⟩ a w := by
  have hlx : l < nx := h.nx l _ hl
  have h0 := h.hp l _ hl
  have h1 := h.rename (w' := w) (b' := .row e z n f) hl (fun h => h) (fun _ _ _ => rfl) rfl ⟨rfl, rfl, rfl⟩ (by
    have := gY (E := E) (E' := E.newrow nx (E.ρ l) (E.κ l)) (nx := nx) (nx' := nx + 1) (w := w) (π := pm l nx) (fun j hj => ?_) (fun j hj => ?_) (fun _ h => h) (l := l) (b := .row e z n f) hlx h0
    · have e1 : pm l nx l = nx := by simp [pm]
      rw [e1] at this; exact this
    · unfold pm
      cases hb : Nat.beq j l with
      | true => obtain rfl := Q2 hb; simp [Env.newrow]
      | false => simp only [cond_false, Env.newrow]; rw [if_neg (by omega), if_neg (by omega)]; exact ⟨rfl, rfl⟩
    · unfold pm
      cases hb : Nat.beq j l with
      | true => simp
      | false => simp only [cond_false]; omega)
  refine h1.rehp fun k b' hb' => ?_
  rw [ah] at hb'
  by_cases e1 : nx = k
  · rw [if_pos e1] at hb'; cases hb'
    exact ⟨_, by rw [ah, if_pos e1], fun _ h => h, fun h => h⟩
  · rw [if_neg e1, ah] at hb'
    by_cases e2 : l = k
    · rw [if_pos e2] at hb'; cases hb'
    · rw [if_neg e2, eR] at hb'
      cases hq : lkh hp k with
      | none => rw [hq] at hb'; cases hb'
      | some b =>
        rw [hq] at hb'; cases hb'
        have hkx : k < nx := h.nx k b hq
        refine ⟨b, by rw [ah, if_neg e1, ah, if_neg e2]; exact hq, fun κ hr => (aX _ _ _).1 hr, fun hb => ?_⟩
        have := gY (E := E.newrow nx (E.ρ l) (E.κ l)) (E' := E.newrow nx (E.ρ l) (E.κ l)) (nx := nx + 1) (nx' := nx + 1) (w := w) (π := pm l nx) (fun j hj => ?_) (fun j hj => ?_) (fun _ h => h) (l := k) (b := b) (by omega) hb
        · have e3 : pm l nx k = k := by
            unfold pm
            cases hb : Nat.beq k l with
            | true => exact absurd (Q2 hb).symm e2
            | false => rfl
          rw [e3] at this; exact this
        · unfold pm
          cases hb : Nat.beq j l with
          | true =>
            obtain rfl := Q2 hb
            have e4 : ¬ j = nx := by omega
            simp [Env.newrow, e4]
          | false => exact ⟨rfl, rfl⟩
        · unfold pm
          cases hb : Nat.beq j l with
          | true => simp
          | false => simp only [cond_false]; omega
theorem HB.sub {E E1 : Env} {hp hp1 : List (Nat × Option Blk)} (h : ∀ k b, lkh hp1 k = some b → b.real (E1.κ k) → ∃ l b', lkh hp l = some b' ∧ b'.real (E.κ l) ∧ E.ρ l = E1.ρ k) : ∀ b, HB E1 hp1 b → HB E hp b := by
  rintro b ⟨k, x, hk, hr, rfl⟩
  obtain ⟨l, b', h1, h2, h3⟩ := h k x hk hr
  exact ⟨l, b', h1, h2, h3⟩
theorem ao.via {m m' nx nx1 : Nat} {nt : NT} {fr fr1 : List (Nat × SV)} {hp hp1 : List (Nat × Option Blk)} {x r : SV} {H' : List (Nat × Option Blk)} (hm : m ≤ nx) (hn : nx ≤ nx1)
    (hs : ∀ O E a w, Sat O E ⟨nt, nx, fr, hp⟩ a w → ∃ E1, Sat O E1 ⟨nt, nx1, fr1, hp1⟩ a w ∧ (∀ l, l < nx → E1.ρ l = E.ρ l ∧ E1.κ l = E.κ l) ∧ E1.Im = E.Im ∧ ∀ b, HB E1 hp1 b → HB E hp b)
    (h : ao m ⟨nt, nx1, fr1, hp1⟩ x m' r H') : ao m ⟨nt, nx, fr, hp⟩ x m' r H' := by
  refine ⟨fun O E a w v hO hs0 hv => ?_⟩
  obtain ⟨E1, h1, h2, h3, h4⟩ := hs O E a w hs0
  obtain ⟨E', k1, k2, k3, k4, k5, k6⟩ := h.out O E1 a w v hO h1 (RS.mono (E := E) h2 hn (fun b hb => by rw [h3]; exact hb) (fun _ _ => rfl) hv)
  refine ⟨E', k1, fun l hl => ?_, fun b hb => h4 b (k3 b hb), fun b hb => ?_, fun b hb => k5 b (by rw [h3]; exact hb), k6⟩
  · obtain ⟨p1, p2⟩ := k2 l hl
    obtain ⟨p3, p4⟩ := h2 l (by omega)
    exact ⟨p1.trans p3, p2.trans p4⟩
  · rcases k4 b hb with hb | hb
    · exact Or.inl (by rw [← h3]; exact hb)
    · exact Or.inr (h4 b hb)
theorem cF {E : Env} {nx b c : Nat} : ∀ l, l < nx → (E.newrow nx b c).ρ l = E.ρ l ∧ (E.newrow nx b c).κ l = E.κ l := fun l hl => ⟨by simp only [Env.newrow]; rw [if_neg (by omega)], by simp only [Env.newrow]; rw [if_neg (by omega)]⟩
theorem ao.mv {m m' nx : Nat} {nt : NT} {fr : List (Nat × SV)} {hp : List (Nat × Option Blk)} {x r : SV} {H' : List (Nat × Option Blk)} (l : Nat) {e z n : Nat} {f : Nat → List D} (hl : lkh hp l = some (.row e z n f)) (hm : m ≤ nx)
    (h : ao m ⟨nt, nx + 1, fr, (nx, some (.row e z n f)) :: (l, none) :: mvH l nx hp⟩ x m' r H') : ao m ⟨nt, nx, fr, hp⟩ x m' r H' := by
  refine ao.via hm (by omega) (fun O E a w hs => ⟨_, hs.mv hl, cF, rfl, HB.sub fun k b hk hr => ?_⟩) h
  rw [ah] at hk
  by_cases e1 : nx = k
  · subst e1; rw [if_pos rfl] at hk; cases hk
    exact ⟨l, _, hl, by simpa [Env.newrow] using hr, by simp [Env.newrow]⟩
  · rw [if_neg e1, ah] at hk
    by_cases e2 : l = k
    · rw [if_pos e2] at hk; cases hk
    · rw [if_neg e2, eR] at hk
      cases hq : lkh hp k with
      | none => rw [hq] at hk; cases hk
      | some b0 =>
        rw [hq] at hk; cases hk
        have hkx := hs.nx k b0 hq
        obtain ⟨p1, p2⟩ := cF (E := E) (nx := nx) (b := E.ρ l) (c := E.κ l) k hkx
        rw [p2] at hr
        exact ⟨k, b0, hq, (aX _ _ _).1 hr, p1.symm⟩
theorem Sat.virtC {O : Org} {E : Env} {nt : NT} {nx : Nat} {fr : List (Nat × SV)} {hp : List (Nat × Option Blk)} {a : Act} {w : World} (h : Sat O E ⟨nt, nx, fr, hp⟩ a w) (k j : Nat) {cs : List SV} (e z : Nat) (f : Nat → List D) (hz : 0 < z) (hk : lkh hp k = some (.cells cs)) (hj : cs[j]? = some (.d (.val (.slice none 0 0)))) :
    Sat O (E.newrow nx 0 0) ⟨nt, nx + 1, fr, (k, some (.cells (cs.set j (.sl nx z 0 0)))) :: (nx, some (.row e z 0 f)) :: hp⟩ a w := by
  have hkx : k < nx := h.nx k _ hk
  have h1 := h.virt (e := e) (f := f) hz
  refine h1.rehp fun q b' hb' => ?_
  rw [ah] at hb'
  by_cases e1 : k = q
  · subst e1
    rw [if_pos rfl] at hb'; cases hb'
    refine ⟨.cells cs, by rw [ah, if_neg (show ¬ nx = k by omega)]; exact hk, fun _ h => h, fun hb => ?_⟩
    obtain ⟨vs, T, g1, g2, g3⟩ := hb
    refine ⟨vs, T, g1, by simpa using g2, fun i hi => ?_⟩
    have hi' : i < cs.length := by simpa using hi
    by_cases e2 : j = i
    · subst e2
      have := (g3 j hi').1
      have e3 : cs[j] = .d (.val (.slice none 0 0)) := by rw [Q0 hi'] at hj; exact Option.some.inj hj
      rw [e3] at this
      have hv := this.val_inv
      refine ⟨?_, (g3 j hi').2⟩
      rw [List.getElem_set_self, hv]
      exact .sl _ _ _ _ _ _ (by show nx < nx + 1; omega) (Q4 _) (by unfold maxLen; omega) (fun h => by omega) (fun _ => ⟨by simp [Env.newrow], fun h => by omega⟩)
    · rw [List.getElem_set_ne e2]; exact g3 i hi'
  · rw [if_neg e1] at hb'
    exact ⟨b', hb', fun _ h => h, fun h => h⟩
theorem ao.virtC {m m' nx : Nat} {nt : NT} {fr : List (Nat × SV)} {hp : List (Nat × Option Blk)} {x r : SV} {H' : List (Nat × Option Blk)} (k j e z : Nat) (f : Nat → List D) {cs : List SV} (hz : 0 < z) (hk : lkh hp k = some (.cells cs)) (hj : cs[j]? = some (.d (.val (.slice none 0 0)))) (hm : m ≤ nx)
    (h : ao m ⟨nt, nx + 1, fr, (k, some (.cells (cs.set j (.sl nx z 0 0)))) :: (nx, some (.row e z 0 f)) :: hp⟩ x m' r H') : ao m ⟨nt, nx, fr, hp⟩ x m' r H' := by
  refine ao.via hm (by omega) (fun O E a w hs => ⟨_, hs.virtC k j e z f hz hk hj, cF, rfl, HB.sub fun q b hq hr => ?_⟩) h
  have hkx : k < nx := hs.nx k _ hk
  rw [ah] at hq
  by_cases e1 : k = q
  · subst e1; rw [if_pos rfl] at hq; cases hq
    exact ⟨k, _, hk, trivial, (cF (E := E) k hkx).1.symm⟩
  · rw [if_neg e1, ah] at hq
    by_cases e2 : nx = q
    · subst e2; rw [if_pos rfl] at hq; cases hq
      simp [Blk.real, Env.newrow] at hr
    · rw [if_neg e2] at hq
      have hqx := hs.nx q b hq
      obtain ⟨p1, p2⟩ := cF (E := E) (nx := nx) (b := 0) (c := 0) q hqx
      rw [p2] at hr
      exact ⟨q, b, hq, hr, p1.symm⟩
theorem ab.fn {L : List Nat} {f : Fn} {cs cs0 : List SV} (h : br L cs cs0) : ab L (.fn f cs) (.fn f cs0) := by
  obtain ⟨h1, h2⟩ := h.out
  refine ⟨fun E nx w v hv => ?_⟩
  cases hv with
  | fn _ _ us hs hh =>
    refine .fn _ _ _ (by omega) fun j hj => ?_
    obtain ⟨x, g1, g2⟩ := h2 j _ (Q0 hj)
    obtain ⟨q1, q2⟩ := Q3 g1
    have := hh j q1
    rw [q2] at this
    exact g2.out _ _ _ _ this
theorem ao.mv2 {nx : Nat} {nt : NT} {fr : List (Nat × SV)} {hp : List (Nat × Option Blk)} {x r : SV} {H' : List (Nat × Option Blk)} {e z n : Nat} {f : Nat → List D} (hl : lkh hp 1 = some (.row e z n f)) (hm : Nat.ble 2 nx = true)
    (hx : rs2 ⟨nt, nx + 1, fr, (nx, some (.row e z n f)) :: (1, none) :: mvH 1 nx hp⟩ [0, 1, nx] x fun y => SV.Le y r) (hH : lU ⟨nt, nx + 1, fr, (nx, some (.row e z n f)) :: (1, none) :: mvH 1 nx hp⟩ [0, 1, nx] H') : ao 2 ⟨nt, nx, fr, hp⟩ x 3 r H' := by
  have h2 : 2 ≤ nx := zzb hm
  refine ao.mv 1 hl h2 (ao.of [0, 1, nx] rfl (fun i hi => by have : i = 0 ∨ i = 1 := (by omega); rcases this with h | h <;> subst h <;> rfl) ?_ hx hH)
  have e1 : Nat.beq 0 nx = false := by cases h : Nat.beq 0 nx with | true => have := Q2 h; omega | false => rfl
  have e2 : Nat.beq 1 nx = false := by cases h : Nat.beq 1 nx with | true => have := Q2 h; omega | false => rfl
  have e3 : Nat.beq 0 1 = false := rfl
  simp [ct, e1, e2, e3]
section
structure cD (S : St) (L : List Nat) (x y : SV) : Prop where
  out : ∀ O E a w v, Sat O E S a w → RS E S.nx w x v → RS (E.end S L) L.length w y v
def kl (S : St) (L : List Nat) : List SV → List SV → Prop
  | [], [] => True
  | x :: xs, y :: ys => cD S L x y ∧ kl S L xs ys
  | _, _ => False
theorem kl.out {S : St} {L : List Nat} : ∀ {xs ys : List SV}, kl S L xs ys → xs.length = ys.length ∧ ∀ (j : Nat) (y : SV), ys[j]? = some y → ∃ x, xs[j]? = some x ∧ cD S L x y
  | [], [], _ => ⟨rfl, fun j y h => by simp at h⟩
  | x :: xs, y :: ys, ⟨h1, h2⟩ => by
    obtain ⟨g1, g2⟩ := kl.out h2
    refine ⟨by simp [g1], fun j z hz => ?_⟩
    cases j with
    | zero => simp at hz; subst hz; exact ⟨x, rfl, h1⟩
    | succ j => simp at hz; exact g2 j z hz
  | [], _ :: _, h => h.elim
  | _ :: _, [], h => h.elim
theorem kl.at {S : St} {L : List Nat} {xs ys : List SV} (h : kl S L xs ys) {j : Nat} (hj : j < ys.length) : ∃ hj' : j < xs.length, cD S L xs[j] ys[j] := by
  obtain ⟨h1, h2⟩ := h.out
  obtain ⟨x, g1, g2⟩ := h2 j _ (Q0 hj)
  obtain ⟨q1, q2⟩ := Q3 g1
  exact ⟨q1, by rw [q2]; exact g2⟩
variable {S : St} {L : List Nat}
theorem cD.d {x : D} : cD S L (.d x) (.d x) := ⟨fun O E a w v hs hv => by cases hv with | d _ _ hv => exact .d _ _ (hv.mono (fun _ hb => Or.inl hb) fun _ _ => rfl)⟩
theorem cD.pre {x y z : SV} (hl : SV.Le x y) (h : cD S L y z) : cD S L x z := ⟨fun O E a w v hs hv => h.out O E a w v hs (hl.out _ _ _ _ hv)⟩
theorem cD.sl {l e z o n m : Nat} {f : Nat → List D} (hi : lS L l = none) (hl : lkh S.hp l = some (.row e z m f)) (hn : o + n ≤ m) : cD S L (.sl l z o n) (.d (.sl z n fun i => f (o + i))) := by
  refine ⟨fun O E a w v hs hv => ?_⟩
  have hI : ∀ b, E.Im b → (E.end S L).Im b := fun b hb => Or.inl hb
  obtain ⟨y, h1, h2⟩ := gl (ρ' := (E.end S L).ρ) (κ' := (E.end S L).κ) (m' := L.length) (k := fun y => y = .d (.sl z n fun i => f (o + i))) hs hI hv (fun l' b hl' hb hr => by
      have : SV.lab (.sl l z o n) = some l := rfl
      rw [this] at hl'; cases hl'; exact Or.inr ⟨l, b, hb, hr, rfl, jf hi⟩) (by simp only [fh, hl]; simp [hn])
  rw [h1] at h2; exact h2
theorem cD.tup {cs ds : List SV} (h : kl S L cs ds) : cD S L (.tup cs) (.tup ds) := by
  refine ⟨fun O E a w v hs hv => ?_⟩
  cases hv with
  | tup _ us hsz hh => exact .tup _ us (by have := h.out.1; omega) fun j hj => by obtain ⟨q1, q2⟩ := h.at hj; exact q2.out O E a w _ hs (hh j q1)
structure DLe (x y : D) : Prop where
  out : ∀ w Im v, RD w Im x v → RD w Im y v
theorem DLe.refl (x : D) : DLe x x := ⟨fun _ _ _ h => h⟩
theorem DLe.nil {z : Nat} {f : Nat → List D} : DLe (.val (.slice none 0 0)) (.sl z 0 f) := ⟨fun w Im v h => by
  cases h with | val _ _ => exact .sl z 0 f none 0 (fun _ _ => undef) (Q4 _) (by unfold maxLen; omega) (fun i hi => by omega) (fun h => by omega) (fun i j hi => by omega)⟩
def oa : List D → List D → Prop
  | [], [] => True
  | x :: xs, y :: ys => DLe x y ∧ oa xs ys
  | _, _ => False
theorem oa.refl : ∀ xs : List D, oa xs xs
  | [] => trivial
  | x :: xs => ⟨.refl x, oa.refl xs⟩
theorem oa.of {xs ys : List D} (h : xs = ys) : oa xs ys := by subst h; exact .refl _
theorem oa.out : ∀ {xs ys : List D}, oa xs ys → xs.length = ys.length ∧ ∀ (j : Nat) (hx : j < xs.length) (hy : j < ys.length), DLe xs[j] ys[j]
  | [], [], _ => ⟨rfl, fun j hx => by simp at hx⟩
  | x :: xs, y :: ys, ⟨h1, h2⟩ => by
    obtain ⟨g1, g2⟩ := oa.out h2
    refine ⟨by simp [g1], fun j hx hy => ?_⟩
    cases j with
    | zero => exact h1
    | succ j => exact g2 j (by simpa using hx) (by simpa using hy)
  | [], _ :: _, h => h.elim
  | _ :: _, [], h => h.elim
theorem zA {p : Prop} (h : p := by first | ((((conv => whnf); repeat' (first | exact trivial | exact ab.rfl rfl | exact ab.ptr rfl | exact ab.sl rfl | ((with_reducible refine ab.fn ?_); (conv => whnf)) | ((refine ab.iref ?_); (conv => whnf)) | exact ab.free SV.Le.nil rfl | ((with_reducible refine And.intro ?_ ?_) <;> (conv => whnf)) | ((refine ab.free ?_ rfl); (repeat' (first | exact SV.Le.rfl _ | exact SV.Le.nil | exact SV.Le.sl (fun i hi => by (rcases i with _ | _ | _ | _ | i) <;> first | rfl | (exfalso; omega)) | with_reducible refine SV.Le.agg ?_ | exact Les.nil | with_reducible refine Les.cons ?_ ?_)))))); done) | fail "no") : p := h
theorem zH {p : Prop} (h : p := by first | ((((conv => whnf); repeat' (first | exact trivial | exact ab.rfl rfl | exact ab.ptr rfl | exact ab.sl rfl | ((with_reducible refine ab.fn ?_); (conv => whnf)) | ((refine ab.iref ?_); (conv => whnf)) | exact ab.free SV.Le.nil rfl | exact ⟨rfl, rfl, rfl⟩ | exact fun i hi => rfl | exact (fun i hi => by (rcases i with _ | i) <;> first | rfl | (exfalso; omega)) | ((with_reducible refine And.intro ?_ ?_) <;> (conv => whnf))))); done) | fail "no") : p := h
theorem zD {p : Prop} (h : p := by first | ((((conv => whnf); repeat' (first | exact trivial | exact ab.rfl rfl | exact ab.ptr rfl | exact ab.sl rfl | exact ⟨rfl, rfl, rfl⟩ | exact ⟨rfl, zzb rfl⟩ | exact dir_arg (by assumption) | exact dir_argR (by assumption) (fun l hl => by rcases l with _ | _ | _ | _ | _ | l <;> first | rfl | omega) | exact fun i hi => rfl | ((with_reducible refine And.intro ?_ ?_) <;> (conv => whnf))))); done) | fail "no") : p := h
theorem zG {p : Prop} (h : p := by first | ((((conv => whnf); repeat' (first | exact trivial | exact ab.rfl rfl | exact ab.ptr rfl | exact ab.sl5 | exact ab.sl rfl | exact ⟨rfl, rfl, rfl⟩ | exact ⟨rfl, zzb rfl⟩ | exact dir_arg4 | exact dir_argR4 (fun l hl => by rcases l with _ | _ | _ | _ | l <;> first | rfl | omega) | exact fun i hi => rfl | ((with_reducible refine And.intro ?_ ?_) <;> (conv => whnf))))); done) | fail "no") : p := h
theorem zK {p : Prop} (h : p := by first | (((conv => whnf); repeat' (first | exact trivial | ((refine And.intro rfl ?_); (conv => whnf)))); done) | fail "no") : p := h
theorem zB {p : Prop} (h : p := by first | ((first | exact ae (zzb rfl) (by omega) | omega); done) | fail "no") : p := h
theorem zO {p : Prop} (h : p := by first | ((first | exact IntWalk.i64_in _ (by omega) | exact IntWalk.u64_in _ (by omega) | exact IntWalk.u8_in _ (by omega) | exact IntWalk.u32_in _ (by omega) | exact IntWalk.i32_in _ (by omega) | exact IntWalk.u16_in _ (by omega)); done) | fail "no") : p := h
theorem zC {p : Prop} (h : p := by first | ((first | omega | exact zzb rfl); done) | fail "no") : p := h
theorem zF {p : Prop} (h : p := by first | ((first | exact trivial | exact cD.any | exact cD.d | exact cD.ptrL rfl | exact cD.slL rfl | exact cD.lt0 (SV.Lt.of rfl) | exact cD.same (by assumption) (zzb rfl) (fun i hi => id5 hi) | exact cD.le cD.d (SV.Le.i (by omega)) | exact ⟨rfl, rfl, rfl⟩ | exact ⟨rfl, zzb rfl⟩ | exact dir_seal (by assumption) | exact dir_sealR4 (fun l hl => by rcases l with _ | _ | _ | _ | l <;> first | rfl | omega) | exact dir_sealR (by assumption) (fun l hl => by rcases l with _ | _ | _ | _ | _ | l <;> first | rfl | omega) | exact fun i hi => oa.refl _ | exact cD.le cD.d SV.Le.nil | exact cD.le (cD.sl rfl rfl (by omega)) (SV.Le.sl fun i hi => by simp only [Q19])); done) | fail "no") : p := h
theorem zE {p : Prop} (h : p := by first | ((first | exact trivial | exact cD.any | exact cD.d | exact cD.ptrL rfl | exact cD.slL rfl | exact cD.lt0 (SV.Lt.of rfl) | exact cD.same (by assumption) (zzb rfl) (fun i hi => id5 hi) | exact cD.le cD.d (SV.Le.i (by omega)) | exact ⟨rfl, rfl, rfl⟩ | exact ⟨rfl, zzb rfl⟩ | exact dir_seal (by assumption) | exact dir_sealR (by assumption) (fun l hl => by rcases l with _ | _ | _ | _ | _ | l <;> first | rfl | omega) | exact fun i hi => oa.refl _ | exact cD.le cD.d SV.Le.nil | exact cD.le (cD.sl rfl rfl (by omega)) (SV.Le.sl fun i hi => by simp only [Q19])); done) | fail "no") : p := h
end
abbrev zP := dp Try.prog
theorem zT {P : Program} {t : Nat} {i : TI} (h : dp P t i := by exact ⟨by kernel_rfl, by kernel_rfl, fun h => by cases h⟩) : dp P t i := h
def ti1 : TI := ⟨.func, 1, 8, [.nilFunc], false⟩
theorem ti1_ok : zP 1 ti1 := zT
def ti2 : TI := ⟨.int .i64, 1, 8, [.int .i64 0], false⟩
theorem ti2_ok : zP 2 ti2 := zT
def ti3 : TI := ⟨.int .i64, 1, 8, [.int .i64 0], false⟩
theorem ti3_ok : zP 3 ti3 := zT
def ti4 : TI := ⟨.bool, 1, 1, [.bool false], false⟩
theorem ti4_ok : zP 4 ti4 := zT
def ti5 : TI := ⟨.int .u8, 1, 1, [.int .u8 0], false⟩
theorem ti5_ok : zP 5 ti5 := zT
def ti6 : TI := ⟨.int .u8, 1, 1, [.int .u8 0], false⟩
theorem ti6_ok : zP 6 ti6 := zT
def ti7 : TI := ⟨.struct [(0, 2), (1, 3), (2, 4), (3, 6)], 4, 24, [.int .i64 0, .int .i64 0, .bool false, .int .u8 0], false⟩
theorem ti7_ok : zP 7 ti7 := zT
def ti8 : TI := ⟨.struct [(0, 2), (1, 3), (2, 4), (3, 6)], 4, 24, [.int .i64 0, .int .i64 0, .bool false, .int .u8 0], false⟩
theorem ti8_ok : zP 8 ti8 := zT
def ti9 : TI := ⟨.str, 1, 16, [.string ⟨#[]⟩], false⟩
theorem ti9_ok : zP 9 ti9 := zT
def ti10 : TI := ⟨.str, 1, 16, [.string ⟨#[]⟩], false⟩
theorem ti10_ok : zP 10 ti10 := zT
def ti11 : TI := ⟨.str, 1, 16, [.string ⟨#[]⟩], false⟩
theorem ti11_ok : zP 11 ti11 := zT
def ti12 : TI := ⟨.int .u64, 1, 8, [.int .u64 0], false⟩
theorem ti12_ok : zP 12 ti12 := zT
def ti13 : TI := ⟨.struct [(0, 9), (1, 12)], 2, 24, [.string ⟨#[]⟩, .int .u64 0], false⟩
theorem ti13_ok : zP 13 ti13 := zT
def ti14 : TI := ⟨.struct [(0, 9), (1, 12)], 2, 24, [.string ⟨#[]⟩, .int .u64 0], false⟩
theorem ti14_ok : zP 14 ti14 := zT
def ti15 : TI := ⟨.ptr 142, 1, 8, [.pointer none], false⟩
theorem ti15_ok : zP 15 ti15 := zT
def ti16 : TI := ⟨.ptr 145, 1, 8, [.pointer none], false⟩
theorem ti16_ok : zP 16 ti16 := zT
def ti17 : TI := ⟨.ptr 155, 1, 8, [.pointer none], false⟩
theorem ti17_ok : zP 17 ti17 := zT
def ti18 : TI := ⟨.struct [(0, 17)], 1, 8, [.pointer none], false⟩
theorem ti18_ok : zP 18 ti18 := zT
def ti19 : TI := ⟨.struct [(0, 17)], 1, 8, [.pointer none], false⟩
theorem ti19_ok : zP 19 ti19 := zT
def ti20 : TI := ⟨.other, 1, 16, [.nilIface], false⟩
theorem ti20_ok : zP 20 ti20 := zT
def ti21 : TI := ⟨.int .i32, 1, 4, [.int .i32 0], false⟩
theorem ti21_ok : zP 21 ti21 := zT
def ti22 : TI := ⟨.slice 50, 1, 24, [.slice none 0 0], false⟩
theorem ti22_ok : zP 22 ti22 := zT
def ti23 : TI := ⟨.func, 1, 8, [.nilFunc], false⟩
theorem ti23_ok : zP 23 ti23 := zT
def ti24 : TI := ⟨.slice 39, 1, 24, [.slice none 0 0], false⟩
theorem ti24_ok : zP 24 ti24 := zT
def ti26 : TI := ⟨.func, 1, 8, [.nilFunc], false⟩
theorem ti26_ok : zP 26 ti26 := zT
def ti27 : TI := ⟨.int .i64, 1, 8, [.int .i64 0], false⟩
theorem ti27_ok : zP 27 ti27 := zT
def ti29 : TI := ⟨.func, 1, 8, [.nilFunc], false⟩
theorem ti29_ok : zP 29 ti29 := zT
def ti30 : TI := ⟨.slice 63, 1, 24, [.slice none 0 0], false⟩
theorem ti30_ok : zP 30 ti30 := zT
def ti31 : TI := ⟨.func, 1, 8, [.nilFunc], false⟩
theorem ti31_ok : zP 31 ti31 := zT
def ti32 : TI := ⟨.int .u64, 1, 8, [.int .u64 0], false⟩
theorem ti32_ok : zP 32 ti32 := zT
def ti33 : TI := ⟨.slice 5, 1, 24, [.slice none 0 0], false⟩
theorem ti33_ok : zP 33 ti33 := zT
def ti34 : TI := ⟨.struct [(0, 5), (1, 3), (2, 33), (3, 2)], 4, 48, [.int .u8 0, .int .i64 0, .slice none 0 0, .int .i64 0], false⟩
theorem ti34_ok : zP 34 ti34 := zT
def ti35 : TI := ⟨.struct [(0, 5), (1, 3), (2, 33), (3, 2)], 4, 48, [.int .u8 0, .int .i64 0, .slice none 0 0, .int .i64 0], false⟩
theorem ti35_ok : zP 35 ti35 := zT
def ti36 : TI := ⟨.struct [(0, 27), (1, 4), (2, 2), (3, 2), (4, 2), (5, 2)], 6, 48, [.int .i64 0, .bool false, .int .i64 0, .int .i64 0, .int .i64 0, .int .i64 0], true⟩
theorem ti36_ok : zP 36 ti36 := ⟨by kernel_rfl, by kernel_rfl, fun _ => ⟨by kernel_rfl, by kernel_rfl, by kernel_rfl⟩⟩
def ti37 : TI := ⟨.struct [(0, 27), (1, 4), (2, 2), (3, 2), (4, 2), (5, 2)], 6, 48, [.int .i64 0, .bool false, .int .i64 0, .int .i64 0, .int .i64 0, .int .i64 0], true⟩
theorem ti37_ok : zP 37 ti37 := ⟨by kernel_rfl, by kernel_rfl, fun _ => ⟨by kernel_rfl, by kernel_rfl, by kernel_rfl⟩⟩
def ti38 : TI := ⟨.struct [(0, 3), (1, 35), (5, 3), (6, 3), (7, 37)], 13, 120, [.int .i64 0, .int .u8 0, .int .i64 0, .slice none 0 0, .int .i64 0, .int .i64 0, .int .i64 0, .int .i64 0, .bool false, .int .i64 0, .int .i64 0, .int .i64 0, .int .i64 0], false⟩
theorem ti38_ok : zP 38 ti38 := zT
def ti39 : TI := ⟨.struct [(0, 3), (1, 35), (5, 3), (6, 3), (7, 37)], 13, 120, [.int .i64 0, .int .u8 0, .int .i64 0, .slice none 0 0, .int .i64 0, .int .i64 0, .int .i64 0, .int .i64 0, .bool false, .int .i64 0, .int .i64 0, .int .i64 0, .int .i64 0], false⟩
theorem ti39_ok : zP 39 ti39 := zT
def ti40 : TI := ⟨.func, 1, 8, [.nilFunc], false⟩
theorem ti40_ok : zP 40 ti40 := zT
def ti41 : TI := ⟨.func, 1, 8, [.nilFunc], false⟩
theorem ti41_ok : zP 41 ti41 := zT
def ti42 : TI := ⟨.func, 1, 8, [.nilFunc], false⟩
theorem ti42_ok : zP 42 ti42 := zT
def ti43 : TI := ⟨.slice 64, 1, 24, [.slice none 0 0], false⟩
theorem ti43_ok : zP 43 ti43 := zT
def ti44 : TI := ⟨.func, 1, 8, [.nilFunc], false⟩
theorem ti44_ok : zP 44 ti44 := zT
def ti45 : TI := ⟨.func, 1, 8, [.nilFunc], false⟩
theorem ti45_ok : zP 45 ti45 := zT
def ti46 : TI := ⟨.ptr 69, 1, 8, [.pointer none], false⟩
theorem ti46_ok : zP 46 ti46 := zT
def ti48 : TI := ⟨.func, 1, 8, [.nilFunc], false⟩
theorem ti48_ok : zP 48 ti48 := zT
def ti49 : TI := ⟨.struct [(0, 35), (4, 2), (5, 2), (6, 5), (7, 5)], 8, 72, [.int .u8 0, .int .i64 0, .slice none 0 0, .int .i64 0, .int .i64 0, .int .i64 0, .int .u8 0, .int .u8 0], false⟩
theorem ti49_ok : zP 49 ti49 := zT
def ti50 : TI := ⟨.struct [(0, 35), (4, 2), (5, 2), (6, 5), (7, 5)], 8, 72, [.int .u8 0, .int .i64 0, .slice none 0 0, .int .i64 0, .int .i64 0, .int .i64 0, .int .u8 0, .int .u8 0], false⟩
theorem ti50_ok : zP 50 ti50 := zT
def ti51 : TI := ⟨.func, 1, 8, [.nilFunc], false⟩
theorem ti51_ok : zP 51 ti51 := zT
def ti52 : TI := ⟨.func, 1, 8, [.nilFunc], false⟩
theorem ti52_ok : zP 52 ti52 := zT
def ti53 : TI := ⟨.other, 1, 8, [.map none], false⟩
theorem ti53_ok : zP 53 ti53 := zT
def ti55 : TI := ⟨.func, 1, 8, [.nilFunc], false⟩
theorem ti55_ok : zP 55 ti55 := zT
def ti56 : TI := ⟨.func, 1, 8, [.nilFunc], false⟩
theorem ti56_ok : zP 56 ti56 := zT
def ti57 : TI := ⟨.struct [(0, 30), (1, 24), (2, 2)], 3, 56, [.slice none 0 0, .slice none 0 0, .int .i64 0], false⟩
theorem ti57_ok : zP 57 ti57 := zT
def ti58 : TI := ⟨.struct [(0, 30), (1, 24), (2, 2)], 3, 56, [.slice none 0 0, .slice none 0 0, .int .i64 0], false⟩
theorem ti58_ok : zP 58 ti58 := zT
def ti59 : TI := ⟨.func, 1, 8, [.nilFunc], false⟩
theorem ti59_ok : zP 59 ti59 := zT
def ti60 : TI := ⟨.struct [(0, 2), (1, 2)], 2, 16, [.int .i64 0, .int .i64 0], true⟩
theorem ti60_ok : zP 60 ti60 := ⟨by kernel_rfl, by kernel_rfl, fun _ => ⟨by kernel_rfl, by kernel_rfl, by kernel_rfl⟩⟩
def ti61 : TI := ⟨.struct [(0, 2), (1, 2)], 2, 16, [.int .i64 0, .int .i64 0], true⟩
theorem ti61_ok : zP 61 ti61 := ⟨by kernel_rfl, by kernel_rfl, fun _ => ⟨by kernel_rfl, by kernel_rfl, by kernel_rfl⟩⟩
def ti62 : TI := ⟨.struct [(0, 5), (1, 61), (3, 3)], 4, 32, [.int .u8 0, .int .i64 0, .int .i64 0, .int .i64 0], true⟩
theorem ti62_ok : zP 62 ti62 := ⟨by kernel_rfl, by kernel_rfl, fun _ => ⟨by kernel_rfl, by kernel_rfl, by kernel_rfl⟩⟩
def ti63 : TI := ⟨.struct [(0, 5), (1, 61), (3, 3)], 4, 32, [.int .u8 0, .int .i64 0, .int .i64 0, .int .i64 0], true⟩
theorem ti63_ok : zP 63 ti63 := ⟨by kernel_rfl, by kernel_rfl, fun _ => ⟨by kernel_rfl, by kernel_rfl, by kernel_rfl⟩⟩
def ti64 : TI := ⟨.struct [(0, 3), (1, 35), (5, 3), (6, 3), (7, 37)], 13, 120, [.int .i64 0, .int .u8 0, .int .i64 0, .slice none 0 0, .int .i64 0, .int .i64 0, .int .i64 0, .int .i64 0, .bool false, .int .i64 0, .int .i64 0, .int .i64 0, .int .i64 0], false⟩
theorem ti64_ok : zP 64 ti64 := zT
def ti65 : TI := ⟨.func, 1, 8, [.nilFunc], false⟩
theorem ti65_ok : zP 65 ti65 := zT
def ti66 : TI := ⟨.func, 1, 8, [.nilFunc], false⟩
theorem ti66_ok : zP 66 ti66 := zT
def ti67 : TI := ⟨.slice 78, 1, 24, [.slice none 0 0], false⟩
theorem ti67_ok : zP 67 ti67 := zT
def ti68 : TI := ⟨.struct [(0, 30), (1, 3), (2, 67)], 3, 56, [.slice none 0 0, .int .i64 0, .slice none 0 0], false⟩
theorem ti68_ok : zP 68 ti68 := zT
def ti69 : TI := ⟨.struct [(0, 30), (1, 3), (2, 67)], 3, 56, [.slice none 0 0, .int .i64 0, .slice none 0 0], false⟩
theorem ti69_ok : zP 69 ti69 := zT
def ti70 : TI := ⟨.func, 1, 8, [.nilFunc], false⟩
theorem ti70_ok : zP 70 ti70 := zT
def ti71 : TI := ⟨.slice 73, 1, 24, [.slice none 0 0], false⟩
theorem ti71_ok : zP 71 ti71 := zT
def ti72 : TI := ⟨.func, 1, 8, [.nilFunc], false⟩
theorem ti72_ok : zP 72 ti72 := zT
def ti73 : TI := ⟨.int .u64, 1, 8, [.int .u64 0], false⟩
theorem ti73_ok : zP 73 ti73 := zT
def ti74 : TI := ⟨.func, 1, 8, [.nilFunc], false⟩
theorem ti74_ok : zP 74 ti74 := zT
def ti75 : TI := ⟨.func, 1, 8, [.nilFunc], false⟩
theorem ti75_ok : zP 75 ti75 := zT
def ti76 : TI := ⟨.slice 2, 1, 24, [.slice none 0 0], false⟩
theorem ti76_ok : zP 76 ti76 := zT
def ti77 : TI := ⟨.struct [(0, 3), (1, 33), (2, 2), (3, 76)], 4, 64, [.int .i64 0, .slice none 0 0, .int .i64 0, .slice none 0 0], false⟩
theorem ti77_ok : zP 77 ti77 := zT
def ti78 : TI := ⟨.struct [(0, 3), (1, 33), (2, 2), (3, 76)], 4, 64, [.int .i64 0, .slice none 0 0, .int .i64 0, .slice none 0 0], false⟩
theorem ti78_ok : zP 78 ti78 := zT
def ti79 : TI := ⟨.func, 1, 8, [.nilFunc], false⟩
theorem ti79_ok : zP 79 ti79 := zT
def ti80 : TI := ⟨.func, 1, 8, [.nilFunc], false⟩
theorem ti80_ok : zP 80 ti80 := zT
def ti82 : TI := ⟨.func, 1, 8, [.nilFunc], false⟩
theorem ti82_ok : zP 82 ti82 := zT
def ti83 : TI := ⟨.func, 1, 8, [.nilFunc], false⟩
theorem ti83_ok : zP 83 ti83 := zT
def ti85 : TI := ⟨.func, 1, 8, [.nilFunc], false⟩
theorem ti85_ok : zP 85 ti85 := zT
def ti86 : TI := ⟨.func, 1, 8, [.nilFunc], false⟩
theorem ti86_ok : zP 86 ti86 := zT
def ti87 : TI := ⟨.func, 1, 8, [.nilFunc], false⟩
theorem ti87_ok : zP 87 ti87 := zT
def ti88 : TI := ⟨.func, 1, 8, [.nilFunc], false⟩
theorem ti88_ok : zP 88 ti88 := zT
def ti89 : TI := ⟨.func, 1, 8, [.nilFunc], false⟩
theorem ti89_ok : zP 89 ti89 := zT
def ti91 : TI := ⟨.func, 1, 8, [.nilFunc], false⟩
theorem ti91_ok : zP 91 ti91 := zT
def ti92 : TI := ⟨.func, 1, 8, [.nilFunc], false⟩
theorem ti92_ok : zP 92 ti92 := zT
def ti93 : TI := ⟨.func, 1, 8, [.nilFunc], false⟩
theorem ti93_ok : zP 93 ti93 := zT
def ti94 : TI := ⟨.func, 1, 8, [.nilFunc], false⟩
theorem ti94_ok : zP 94 ti94 := zT
def ti96 : TI := ⟨.func, 1, 8, [.nilFunc], false⟩
theorem ti96_ok : zP 96 ti96 := zT
def ti97 : TI := ⟨.func, 1, 8, [.nilFunc], false⟩
theorem ti97_ok : zP 97 ti97 := zT
def ti98 : TI := ⟨.func, 1, 8, [.nilFunc], false⟩
theorem ti98_ok : zP 98 ti98 := zT
def ti99 : TI := ⟨.func, 1, 8, [.nilFunc], false⟩
theorem ti99_ok : zP 99 ti99 := zT
def ti101 : TI := ⟨.func, 1, 8, [.nilFunc], false⟩
theorem po : zP 101 ti101 := zT
def ti102 : TI := ⟨.func, 1, 8, [.nilFunc], false⟩
theorem pk : zP 102 ti102 := zT
def ti104 : TI := ⟨.func, 1, 8, [.nilFunc], false⟩
theorem pj : zP 104 ti104 := zT
def ti105 : TI := ⟨.func, 1, 8, [.nilFunc], false⟩
theorem ph : zP 105 ti105 := zT
def ti106 : TI := ⟨.struct [(0, 4), (1, 2), (2, 2), (3, 2)], 4, 32, [.bool false, .int .i64 0, .int .i64 0, .int .i64 0], true⟩
theorem pg : zP 106 ti106 := ⟨by kernel_rfl, by kernel_rfl, fun _ => ⟨by kernel_rfl, by kernel_rfl, by kernel_rfl⟩⟩
def ti107 : TI := ⟨.struct [(0, 4), (1, 2), (2, 2), (3, 2)], 4, 32, [.bool false, .int .i64 0, .int .i64 0, .int .i64 0], true⟩
theorem pf : zP 107 ti107 := ⟨by kernel_rfl, by kernel_rfl, fun _ => ⟨by kernel_rfl, by kernel_rfl, by kernel_rfl⟩⟩
def ti109 : TI := ⟨.func, 1, 8, [.nilFunc], false⟩
theorem pe : zP 109 ti109 := zT
def ti110 : TI := ⟨.struct [(0, 3), (1, 76)], 2, 32, [.int .i64 0, .slice none 0 0], false⟩
theorem pd : zP 110 ti110 := zT
def ti111 : TI := ⟨.struct [(0, 3), (1, 76)], 2, 32, [.int .i64 0, .slice none 0 0], false⟩
theorem pc : zP 111 ti111 := zT
def ti113 : TI := ⟨.func, 1, 8, [.nilFunc], false⟩
theorem pb : zP 113 ti113 := zT
def ti114 : TI := ⟨.func, 1, 8, [.nilFunc], false⟩
theorem pa : zP 114 ti114 := zT
def ti115 : TI := ⟨.func, 1, 8, [.nilFunc], false⟩
theorem o9 : zP 115 ti115 := zT
def ti116 : TI := ⟨.func, 1, 8, [.nilFunc], false⟩
theorem o8 : zP 116 ti116 := zT
def ti117 : TI := ⟨.func, 1, 8, [.nilFunc], false⟩
theorem o7 : zP 117 ti117 := zT
def ti118 : TI := ⟨.func, 1, 8, [.nilFunc], false⟩
theorem o6 : zP 118 ti118 := zT
def ti119 : TI := ⟨.func, 1, 8, [.nilFunc], false⟩
theorem o5 : zP 119 ti119 := zT
def ti120 : TI := ⟨.func, 1, 8, [.nilFunc], false⟩
theorem o0 : zP 120 ti120 := zT
def ti121 : TI := ⟨.func, 1, 8, [.nilFunc], false⟩
theorem oZ : zP 121 ti121 := zT
def ti122 : TI := ⟨.func, 1, 8, [.nilFunc], false⟩
theorem oY : zP 122 ti122 := zT
def ti123 : TI := ⟨.func, 1, 8, [.nilFunc], false⟩
theorem oX : zP 123 ti123 := zT
def ti124 : TI := ⟨.func, 1, 8, [.nilFunc], false⟩
theorem oW : zP 124 ti124 := zT
def ti125 : TI := ⟨.func, 1, 8, [.nilFunc], false⟩
theorem oV : zP 125 ti125 := zT
def ti126 : TI := ⟨.func, 1, 8, [.nilFunc], false⟩
theorem oU : zP 126 ti126 := zT
def ti127 : TI := ⟨.func, 1, 8, [.nilFunc], false⟩
theorem oT : zP 127 ti127 := zT
def ti128 : TI := ⟨.func, 1, 8, [.nilFunc], false⟩
theorem oS : zP 128 ti128 := zT
def ti129 : TI := ⟨.func, 1, 8, [.nilFunc], false⟩
theorem oR : zP 129 ti129 := zT
def ti130 : TI := ⟨.func, 1, 8, [.nilFunc], false⟩
theorem oQ : zP 130 ti130 := zT
def ti131 : TI := ⟨.func, 1, 8, [.nilFunc], false⟩
theorem oP : zP 131 ti131 := zT
def ti132 : TI := ⟨.func, 1, 8, [.nilFunc], false⟩
theorem oO : zP 132 ti132 := zT
def ti133 : TI := ⟨.func, 1, 8, [.nilFunc], false⟩
theorem oN : zP 133 ti133 := zT
def ti135 : TI := ⟨.func, 1, 8, [.nilFunc], false⟩
theorem oM : zP 135 ti135 := zT
def ti136 : TI := ⟨.func, 1, 8, [.nilFunc], false⟩
theorem oL : zP 136 ti136 := zT
def ti138 : TI := ⟨.func, 1, 8, [.nilFunc], false⟩
theorem oK : zP 138 ti138 := zT
def ti139 : TI := ⟨.func, 1, 8, [.nilFunc], false⟩
theorem oJ : zP 139 ti139 := zT
def ti140 : TI := ⟨.func, 1, 8, [.nilFunc], false⟩
theorem oI : zP 140 ti140 := zT
def ti141 : TI := ⟨.struct [(0, 17), (1, 17), (2, 17), (3, 9)], 4, 40, [.pointer none, .pointer none, .pointer none, .string ⟨#[]⟩], false⟩
theorem oH : zP 141 ti141 := zT
def ti142 : TI := ⟨.struct [(0, 17), (1, 17), (2, 17), (3, 9)], 4, 40, [.pointer none, .pointer none, .pointer none, .string ⟨#[]⟩], false⟩
theorem oG : zP 142 ti142 := zT
def ti143 : TI := ⟨.array 0 16, 0, 0, [], false⟩
theorem oF : zP 143 ti143 := zT
def ti144 : TI := ⟨.struct [(0, 143)], 0, 0, [], false⟩
theorem oE : zP 144 ti144 := zT
def ti145 : TI := ⟨.struct [(0, 143)], 0, 0, [], false⟩
theorem oD : zP 145 ti145 := zT
def ti146 : TI := ⟨.func, 1, 8, [.nilFunc], false⟩
theorem oC : zP 146 ti146 := zT
def ti147 : TI := ⟨.int .u32, 1, 4, [.int .u32 0], false⟩
theorem oB : zP 147 ti147 := zT
def ti148 : TI := ⟨.int .u8, 1, 1, [.int .u8 0], false⟩
theorem oA : zP 148 ti148 := zT
def ti149 : TI := ⟨.int .u8, 1, 1, [.int .u8 0], false⟩
theorem oz : zP 149 ti149 := zT
def ti150 : TI := ⟨.func, 1, 8, [.nilFunc], false⟩
theorem oy : zP 150 ti150 := zT
def ti151 : TI := ⟨.ptr 5, 1, 8, [.pointer none], false⟩
theorem ox : zP 151 ti151 := zT
def ti152 : TI := ⟨.int .i32, 1, 4, [.int .i32 0], false⟩
theorem ow : zP 152 ti152 := zT
def ti153 : TI := ⟨.int .i32, 1, 4, [.int .i32 0], false⟩
theorem ov : zP 153 ti153 := zT
def ti154 : TI := ⟨.struct [(0, 12), (1, 12), (2, 147), (3, 148), (4, 5), (5, 5), (6, 149), (7, 150), (8, 151), (9, 152), (10, 153)], 11, 48, [.int .u64 0, .int .u64 0, .int .u32 0, .int .u8 0, .int .u8 0, .int .u8 0, .int .u8 0, .nilFunc, .pointer none, .int .i32 0, .int .i32 0], false⟩
theorem ou : zP 154 ti154 := zT
def ti155 : TI := ⟨.struct [(0, 12), (1, 12), (2, 147), (3, 148), (4, 5), (5, 5), (6, 149), (7, 150), (8, 151), (9, 152), (10, 153)], 11, 48, [.int .u64 0, .int .u64 0, .int .u32 0, .int .u8 0, .int .u8 0, .int .u8 0, .int .u8 0, .nilFunc, .pointer none, .int .i32 0, .int .i32 0], false⟩
theorem ot : zP 155 ti155 := zT
def ql : bS := .node (.node (.node (.node (.node (.node (.node (.node (.leaf) 1 ti1 (.leaf)) 2 ti2 (.leaf)) 3 ti3 (.node (.leaf) 4 ti4 (.leaf))) 5 ti5 (.node (.node (.leaf) 6 ti6 (.leaf)) 7 ti7 (.node (.leaf) 8 ti8 (.leaf)))) 9 ti9 (.node (.node (.node (.node (.leaf) 10 ti10 (.leaf)) 11 ti11 (.leaf)) 12 ti12 (.node (.leaf) 13 ti13 (.leaf))) 14 ti14 (.node (.node (.leaf) 15 ti15 (.leaf)) 16 ti16 (.node (.leaf) 17 ti17 (.leaf))))) 18 ti18 (.node (.node (.node (.node (.node (.leaf) 19 ti19 (.leaf)) 20 ti20 (.leaf)) 21 ti21 (.node (.leaf) 22 ti22 (.leaf))) 23 ti23 (.node (.node (.leaf) 24 ti24 (.leaf)) 26 ti26 (.node (.leaf) 27 ti27 (.leaf)))) 29 ti29 (.node (.node (.node (.node (.leaf) 30 ti30 (.leaf)) 31 ti31 (.leaf)) 32 ti32 (.node (.leaf) 33 ti33 (.leaf))) 34 ti34 (.node (.node (.leaf) 35 ti35 (.leaf)) 36 ti36 (.node (.leaf) 37 ti37 (.leaf)))))) 38 ti38 (.node (.node (.node (.node (.node (.node (.leaf) 39 ti39 (.leaf)) 40 ti40 (.leaf)) 41 ti41 (.node (.leaf) 42 ti42 (.leaf))) 43 ti43 (.node (.node (.leaf) 44 ti44 (.leaf)) 45 ti45 (.node (.leaf) 46 ti46 (.leaf)))) 48 ti48 (.node (.node (.node (.node (.leaf) 49 ti49 (.leaf)) 50 ti50 (.leaf)) 51 ti51 (.node (.leaf) 52 ti52 (.leaf))) 53 ti53 (.node (.node (.leaf) 55 ti55 (.leaf)) 56 ti56 (.node (.leaf) 57 ti57 (.leaf))))) 58 ti58 (.node (.node (.node (.node (.node (.leaf) 59 ti59 (.leaf)) 60 ti60 (.leaf)) 61 ti61 (.node (.leaf) 62 ti62 (.leaf))) 63 ti63 (.node (.node (.leaf) 64 ti64 (.leaf)) 65 ti65 (.node (.leaf) 66 ti66 (.leaf)))) 67 ti67 (.node (.node (.node (.leaf) 68 ti68 (.leaf)) 69 ti69 (.node (.leaf) 70 ti70 (.leaf))) 71 ti71 (.node (.node (.leaf) 72 ti72 (.leaf)) 73 ti73 (.node (.leaf) 74 ti74 (.leaf))))))) 75 ti75 (.node (.node (.node (.node (.node (.node (.node (.leaf) 76 ti76 (.leaf)) 77 ti77 (.leaf)) 78 ti78 (.node (.leaf) 79 ti79 (.leaf))) 80 ti80 (.node (.node (.leaf) 82 ti82 (.leaf)) 83 ti83 (.node (.leaf) 85 ti85 (.leaf)))) 86 ti86 (.node (.node (.node (.node (.leaf) 87 ti87 (.leaf)) 88 ti88 (.leaf)) 89 ti89 (.node (.leaf) 91 ti91 (.leaf))) 92 ti92 (.node (.node (.leaf) 93 ti93 (.leaf)) 94 ti94 (.node (.leaf) 96 ti96 (.leaf))))) 97 ti97 (.node (.node (.node (.node (.node (.leaf) 98 ti98 (.leaf)) 99 ti99 (.leaf)) 101 ti101 (.node (.leaf) 102 ti102 (.leaf))) 104 ti104 (.node (.node (.leaf) 105 ti105 (.leaf)) 106 ti106 (.node (.leaf) 107 ti107 (.leaf)))) 109 ti109 (.node (.node (.node (.node (.leaf) 110 ti110 (.leaf)) 111 ti111 (.leaf)) 113 ti113 (.node (.leaf) 114 ti114 (.leaf))) 115 ti115 (.node (.node (.leaf) 116 ti116 (.leaf)) 117 ti117 (.node (.leaf) 118 ti118 (.leaf)))))) 119 ti119 (.node (.node (.node (.node (.node (.node (.leaf) 120 ti120 (.leaf)) 121 ti121 (.leaf)) 122 ti122 (.node (.leaf) 123 ti123 (.leaf))) 124 ti124 (.node (.node (.leaf) 125 ti125 (.leaf)) 126 ti126 (.node (.leaf) 127 ti127 (.leaf)))) 128 ti128 (.node (.node (.node (.node (.leaf) 129 ti129 (.leaf)) 130 ti130 (.leaf)) 131 ti131 (.node (.leaf) 132 ti132 (.leaf))) 133 ti133 (.node (.node (.leaf) 135 ti135 (.leaf)) 136 ti136 (.node (.leaf) 138 ti138 (.leaf))))) 139 ti139 (.node (.node (.node (.node (.node (.leaf) 140 ti140 (.leaf)) 141 ti141 (.leaf)) 142 ti142 (.node (.leaf) 143 ti143 (.leaf))) 144 ti144 (.node (.node (.leaf) 145 ti145 (.leaf)) 146 ti146 (.node (.leaf) 147 ti147 (.leaf)))) 148 ti148 (.node (.node (.node (.leaf) 149 ti149 (.leaf)) 150 ti150 (.node (.leaf) 151 ti151 (.leaf))) 152 ti152 (.node (.node (.leaf) 153 ti153 (.leaf)) 154 ti154 (.node (.leaf) 155 ti155 (.leaf)))))))
theorem mq : ql.allP (dp Try.prog) := ⟨⟨⟨⟨⟨⟨⟨⟨trivial, ti1_ok, trivial⟩, ti2_ok, trivial⟩, ti3_ok, ⟨trivial, ti4_ok, trivial⟩⟩, ti5_ok, ⟨⟨trivial, ti6_ok, trivial⟩, ti7_ok, ⟨trivial, ti8_ok, trivial⟩⟩⟩, ti9_ok, ⟨⟨⟨⟨trivial, ti10_ok, trivial⟩, ti11_ok, trivial⟩, ti12_ok, ⟨trivial, ti13_ok, trivial⟩⟩, ti14_ok, ⟨⟨trivial, ti15_ok, trivial⟩, ti16_ok, ⟨trivial, ti17_ok, trivial⟩⟩⟩⟩, ti18_ok, ⟨⟨⟨⟨⟨trivial, ti19_ok, trivial⟩, ti20_ok, trivial⟩, ti21_ok, ⟨trivial, ti22_ok, trivial⟩⟩, ti23_ok, ⟨⟨trivial, ti24_ok, trivial⟩, ti26_ok, ⟨trivial, ti27_ok, trivial⟩⟩⟩, ti29_ok, ⟨⟨⟨⟨trivial, ti30_ok, trivial⟩, ti31_ok, trivial⟩, ti32_ok, ⟨trivial, ti33_ok, trivial⟩⟩, ti34_ok, ⟨⟨trivial, ti35_ok, trivial⟩, ti36_ok, ⟨trivial, ti37_ok, trivial⟩⟩⟩⟩⟩, ti38_ok, ⟨⟨⟨⟨⟨⟨trivial, ti39_ok, trivial⟩, ti40_ok, trivial⟩, ti41_ok, ⟨trivial, ti42_ok, trivial⟩⟩, ti43_ok, ⟨⟨trivial, ti44_ok, trivial⟩, ti45_ok, ⟨trivial, ti46_ok, trivial⟩⟩⟩, ti48_ok, ⟨⟨⟨⟨trivial, ti49_ok, trivial⟩, ti50_ok, trivial⟩, ti51_ok, ⟨trivial, ti52_ok, trivial⟩⟩, ti53_ok, ⟨⟨trivial, ti55_ok, trivial⟩, ti56_ok, ⟨trivial, ti57_ok, trivial⟩⟩⟩⟩, ti58_ok, ⟨⟨⟨⟨⟨trivial, ti59_ok, trivial⟩, ti60_ok, trivial⟩, ti61_ok, ⟨trivial, ti62_ok, trivial⟩⟩, ti63_ok, ⟨⟨trivial, ti64_ok, trivial⟩, ti65_ok, ⟨trivial, ti66_ok, trivial⟩⟩⟩, ti67_ok, ⟨⟨⟨trivial, ti68_ok, trivial⟩, ti69_ok, ⟨trivial, ti70_ok, trivial⟩⟩, ti71_ok, ⟨⟨trivial, ti72_ok, trivial⟩, ti73_ok, ⟨trivial, ti74_ok, trivial⟩⟩⟩⟩⟩⟩, ti75_ok, ⟨⟨⟨⟨⟨⟨⟨trivial, ti76_ok, trivial⟩, ti77_ok, trivial⟩, ti78_ok, ⟨trivial, ti79_ok, trivial⟩⟩, ti80_ok, ⟨⟨trivial, ti82_ok, trivial⟩, ti83_ok, ⟨trivial, ti85_ok, trivial⟩⟩⟩, ti86_ok, ⟨⟨⟨⟨trivial, ti87_ok, trivial⟩, ti88_ok, trivial⟩, ti89_ok, ⟨trivial, ti91_ok, trivial⟩⟩, ti92_ok, ⟨⟨trivial, ti93_ok, trivial⟩, ti94_ok, ⟨trivial, ti96_ok, trivial⟩⟩⟩⟩, ti97_ok, ⟨⟨⟨⟨⟨trivial, ti98_ok, trivial⟩, ti99_ok, trivial⟩, po, ⟨trivial, pk, trivial⟩⟩, pj, ⟨⟨trivial, ph, trivial⟩, pg, ⟨trivial, pf, trivial⟩⟩⟩, pe, ⟨⟨⟨⟨trivial, pd, trivial⟩, pc, trivial⟩, pb, ⟨trivial, pa, trivial⟩⟩, o9, ⟨⟨trivial, o8, trivial⟩, o7, ⟨trivial, o6, trivial⟩⟩⟩⟩⟩, o5, ⟨⟨⟨⟨⟨⟨trivial, o0, trivial⟩, oZ, trivial⟩, oY, ⟨trivial, oX, trivial⟩⟩, oW, ⟨⟨trivial, oV, trivial⟩, oU, ⟨trivial, oT, trivial⟩⟩⟩, oS, ⟨⟨⟨⟨trivial, oR, trivial⟩, oQ, trivial⟩, oP, ⟨trivial, oO, trivial⟩⟩, oN, ⟨⟨trivial, oM, trivial⟩, oL, ⟨trivial, oK, trivial⟩⟩⟩⟩, oJ, ⟨⟨⟨⟨⟨trivial, oI, trivial⟩, oH, trivial⟩, oG, ⟨trivial, oF, trivial⟩⟩, oE, ⟨⟨trivial, oD, trivial⟩, oC, ⟨trivial, oB, trivial⟩⟩⟩, oA, ⟨⟨⟨trivial, oz, trivial⟩, oy, ⟨trivial, ox, trivial⟩⟩, ow, ⟨⟨trivial, ov, trivial⟩, ou, ⟨trivial, ot, trivial⟩⟩⟩⟩⟩⟩⟩
noncomputable def TC : Cx := ⟨Try.prog, ql.look, bS.look_ok mq⟩
theorem ac : TC.P.follows .mixedOrders = true := by kernel_rfl
section
open Go.RowKit Go.Shelf
theorem Pure.val {C : Cx} {g : Nat} {xs : List Value} {r : Value} (ent : dh C.P g) (hr : r.oneCell' = true) (h : ∀ w, Calls C.P g xs.toArray w fun e w' => e = .returned r ∧ w' = w) : Pure C g (xs.map fun v => .d (.val v)) (.d (.val r)) := by
  refine ⟨ent, fun E w vs hIm hsz hargs => ?_⟩
  have : vs = xs.toArray := by
    apply Array.ext (by simpa using hsz)
    intro i h1 h2
    have h3 := hargs i (by simpa using h2)
    rw [List.getElem_map] at h3
    have := h3.val_inv
    simpa [Array.getD, h1] using this
  subst this
  refine (h w).mono ?_
  rintro e w' ⟨rfl, rfl⟩
  exact ⟨r, rfl, Kp.refl _, .d _ _ (.val _ hr)⟩
theorem Pure.val2 {C : Cx} {g : Nat} {xs : List Value} {r s : Value} (ent : dh C.P g) (hr : r.oneCell' = true) (hs : s.oneCell' = true) (h : ∀ w, Calls C.P g xs.toArray w fun e w' => e = .returned (.tuple #[r, s]) ∧ w' = w) : Pure C g (xs.map fun v => .d (.val v)) (.tup [.d (.val r), .d (.val s)]) := by
  refine ⟨ent, fun E w vs hIm hsz hargs => ?_⟩
  have : vs = xs.toArray := by
    apply Array.ext (by simpa using hsz)
    intro i h1 h2
    have h3 := hargs i (by simpa using h2)
    rw [List.getElem_map] at h3
    have := h3.val_inv
    simpa [Array.getD, h1] using this
  subst this
  refine (h w).mono ?_
  rintro e w' ⟨rfl, rfl⟩
  refine ⟨_, rfl, Kp.refl _, .tup _ _ rfl fun j hj => ?_⟩
  have : j = 0 ∨ j = 1 := by simp at hj; omega
  rcases this with rfl | rfl
  · exact .d _ _ (.val _ hr)
  · exact .d _ _ (.val _ hs)
def mulRen : Go.Shelf.Ren := ⟨fun | 264 => 80 | n => n, fun | 53 => 73 | 46 => 32 | n => n, fun | n => n⟩
theorem mulLays : Go.Proofs.Lays.n264 Try.prog mulRen := {
  mixed := by kernel_rfl
  f264 := Try.func80.trans (congrArg some (by kernel_rfl))
  t46 := Try.underlying32
  a46 := Try.isAgg32
  z46 := Try.sizeOf32
  v46 := Try.zeroValue32
  t53 := Try.underlying73
  a53 := Try.isAgg73
  z53 := Try.sizeOf73
  v53 := Try.zeroValue73 }
def hiI (x : Int) : Int := x / 18446744073709551616
def loI (x : Int) : Int := x % 18446744073709551616
theorem bits_Mul64 (x y : Int) (hx : 0 ≤ x) (hx2 : x < 18446744073709551616) (hy : 0 ≤ y) (hy2 : y < 18446744073709551616) : Pure TC 80 [.i .u64 x, .i .u64 y] (.tup [.i .u64 (hiI (x * y)), .i .u64 (loI (x * y))]) := by
  obtain ⟨n, rfl⟩ := Int.eq_ofNat_of_zero_le hx
  obtain ⟨m, rfl⟩ := Int.eq_ofNat_of_zero_le hy
  refine Pure.val2 (xs := [.int .u64 n, .int .u64 m]) (.mk Try.func80 rfl rfl) rfl rfl fun w => ?_
  refine (Any.bits_Mul64 mulLays n m (by omega) (by omega) w).mono ?_
  rintro e w' ⟨rfl, rfl⟩
  refine ⟨?_, rfl⟩
  simp [hiI, loI]
end
def ap {α : Type} [Inhabited α] (esz : Nat) (enc : α → List D) (xs : List α) : D := .sl esz xs.length fun i => enc (xs.getD i default)
def aQ (k : IntKind) (n : Int) : List D := [.val (.int k n)]
def bU (n : Int) : Bool := decide (0 ≤ n) && decide (n ≤ 4611686018427387903)
theorem bv (n : Int) : bU n = true ↔ 0 ≤ n ∧ n ≤ 4611686018427387903 := by simp [bU]
def limE (T tau : Int) : Int := if bU T = true ∧ 1 ≤ T ∧ bU tau = true then 0 else 1
theorem aW (n : Int) : Pure TC 40 [.i .i64 n] (.b (bU n)) := by
  refine Pure.mk' Try.func40 rfl rfl (zzb rfl) ?_
  (repeat' (first
    | with_reducible refine Wp.seq ?_
    | with_reducible refine Wp.block ?_
    | ((with_reducible first | refine Wp.region ?_ | refine Wp.drawL ac ?_ | refine Wp.cond ?_ | refine Wp.ret ?_ | refine Wp.skip ?_ | refine Wp.exit ?_ | refine Go.mk ?_ | apply aA.of); conv => whnf)
    | with_reducible exact rfl
    | ((with_reducible refine Ov.ok zO ?_); conv => whnf)
    | (with_reducible refine Ov.sh1 (by with_unfolding_all exact rfl) ?_)
    | ((with_reducible refine Ov.quo (by omega) (by omega) (by omega) (fun _ _ => ?_)); conv => whnf)
    | ((with_reducible refine And.intro (show aj _ _ _ _ = true by kernel_rfl) ?_); conv => whnf)
    | ((with_reducible refine And.intro zC ?_); conv => whnf)
    | ((with_reducible refine And.intro ?hb ?_); (case hb => exact ae (zzb rfl) (by omega)); (conv => whnf))
    | ((refine af.a rfl rfl rfl rfl rfl rfl ?hb ?_); (case hb => exact zB); (conv => whnf))
    | ((refine af.b rfl rfl rfl rfl rfl rfl rfl rfl ?hb ?ho ?_); (case hb => exact zB); (case ho => omega); (conv => whnf))
    | ((refine af.c rfl rfl rfl rfl rfl ?hb ?_); (case hb => exact zB); (conv => whnf))
    | ((refine af.d rfl rfl rfl rfl rfl rfl ?hb ?ho ?_); (case hb => exact zB); (case ho => omega); (conv => whnf))
    | (with_reducible refine Or.inl ?_)
    | ((with_reducible refine nil_no (by omega) ?_); (conv => whnf))
    | ((with_reducible refine ag ?_ (fun hn0 => ?_)) <;> (conv => whnf))
    
    | ((refine aB (fun hc => ?_) (fun hc => ?_)) <;> (try simp only [decide_eq_true_eq, decide_eq_false_iff_not, Q5, Q20, Bool.and_eq_false_iff, Bool.or_eq_false_iff, Bool.not_eq_true', Bool.not_eq_false', beq_iff_eq, bne_iff_ne, ne_eq, beq_eq_false_iff_ne, bne_eq_false_iff_eq, Bool.not_eq_true, Bool.not_eq_false] at hc) <;> (try (exfalso; omega)) <;> (conv => whnf))))
  all_goals exact .b (by simp [bU]; omega)
theorem cU (T tau : Int) : Pure TC 53 [.agg [.i .i64 T, .i .i64 tau]] (.i .i64 (limE T tau)) := by
  refine Pure.mk' Try.func53 rfl rfl (zzb rfl) ?_
  (repeat' (first
    | with_reducible refine Wp.seq ?_
    | with_reducible refine Wp.block ?_
    | ((with_reducible first | refine Wp.region ?_ | refine Wp.drawL ac ?_ | refine Wp.cond ?_ | refine Wp.ret ?_ | refine Wp.skip ?_ | refine Wp.exit ?_ | refine Go.mk ?_ | apply aA.of); conv => whnf)
    | with_reducible exact rfl
    | ((with_reducible refine Ov.ok zO ?_); conv => whnf)
    | (with_reducible refine Ov.sh1 (by with_unfolding_all exact rfl) ?_)
    | ((with_reducible refine Ov.quo (by omega) (by omega) (by omega) (fun _ _ => ?_)); conv => whnf)
    | ((with_reducible refine And.intro (show aj _ _ _ _ = true by kernel_rfl) ?_); conv => whnf)
    | ((with_reducible refine And.intro zC ?_); conv => whnf)
    | ((with_reducible refine And.intro ?hb ?_); (case hb => exact ae (zzb rfl) (by omega)); (conv => whnf))
    | ((refine af.a rfl rfl rfl rfl rfl rfl ?hb ?_); (case hb => exact zB); (conv => whnf))
    | ((refine af.b rfl rfl rfl rfl rfl rfl rfl rfl ?hb ?ho ?_); (case hb => exact zB); (case ho => omega); (conv => whnf))
    | ((refine af.c rfl rfl rfl rfl rfl ?hb ?_); (case hb => exact zB); (conv => whnf))
    | ((refine af.d rfl rfl rfl rfl rfl rfl ?hb ?ho ?_); (case hb => exact zB); (case ho => omega); (conv => whnf))
    | (with_reducible refine Or.inl ?_)
    | ((with_reducible refine nil_no (by omega) ?_); (conv => whnf))
    | ((with_reducible refine ag ?_ (fun hn0 => ?_)) <;> (conv => whnf))
    | ((with_reducible refine aa.pure (aW _) rfl rfl ?_); conv => whnf) | ((with_reducible refine ai.pure (aW _) rfl rfl ?_); conv => whnf)
    | ((refine aB (fun hc => ?_) (fun hc => ?_)) <;> (try simp only [decide_eq_true_eq, decide_eq_false_iff_not, Q5, Q20, Bool.and_eq_false_iff, Bool.or_eq_false_iff, Bool.not_eq_true', Bool.not_eq_false', beq_iff_eq, bne_iff_ne, ne_eq, beq_eq_false_iff_ne, bne_eq_false_iff_eq, Bool.not_eq_true, Bool.not_eq_false] at hc) <;> (try (exfalso; omega)) <;> (conv => whnf))))
  all_goals exact .i (by simp [limE, *]; try omega)
structure Pol where
  kind : Int
  T : Int
  tau : Int
  permits : Int
  deriving Inhabited
def Pol.D (p : Pol) : List D := [.val (.int .u8 p.kind), .val (.int .i64 p.T), .val (.int .i64 p.tau), .val (.int .i64 p.permits)]
def kg (k T tau m : Int) : Bool := if k = 1 then limE T tau == 0 else if k = 2 then decide (1 ≤ m) && decide (m ≤ 64) else false
theorem jI (k T tau m : Int) : Pure TC 37 [.agg [.i .u8 k, .i .i64 T, .i .i64 tau, .i .i64 m]] (.b (kg k T tau m)) := by
  refine Pure.mk' Try.func37 rfl rfl (zzb rfl) ?_
  (repeat' (first
    | with_reducible refine Wp.seq ?_
    | with_reducible refine Wp.block ?_
    | ((with_reducible first | refine Wp.region ?_ | refine Wp.drawL ac ?_ | refine Wp.cond ?_ | refine Wp.ret ?_ | refine Wp.skip ?_ | refine Wp.exit ?_ | refine Go.mk ?_ | apply aA.of); conv => whnf)
    | with_reducible exact rfl
    | ((with_reducible refine Ov.ok zO ?_); conv => whnf)
    | (with_reducible refine Ov.sh1 (by with_unfolding_all exact rfl) ?_)
    | ((with_reducible refine Ov.quo (by omega) (by omega) (by omega) (fun _ _ => ?_)); conv => whnf)
    | ((with_reducible refine And.intro (show aj _ _ _ _ = true by kernel_rfl) ?_); conv => whnf)
    | ((with_reducible refine And.intro zC ?_); conv => whnf)
    | ((with_reducible refine And.intro ?hb ?_); (case hb => exact ae (zzb rfl) (by omega)); (conv => whnf))
    | ((refine af.a rfl rfl rfl rfl rfl rfl ?hb ?_); (case hb => exact zB); (conv => whnf))
    | ((refine af.b rfl rfl rfl rfl rfl rfl rfl rfl ?hb ?ho ?_); (case hb => exact zB); (case ho => omega); (conv => whnf))
    | ((refine af.c rfl rfl rfl rfl rfl ?hb ?_); (case hb => exact zB); (conv => whnf))
    | ((refine af.d rfl rfl rfl rfl rfl rfl ?hb ?ho ?_); (case hb => exact zB); (case ho => omega); (conv => whnf))
    | (with_reducible refine Or.inl ?_)
    | ((with_reducible refine nil_no (by omega) ?_); (conv => whnf))
    | ((with_reducible refine ag ?_ (fun hn0 => ?_)) <;> (conv => whnf))
    | ((with_reducible refine aa.pure (cU _ _) rfl rfl ?_); conv => whnf) | ((with_reducible refine ai.pure (cU _ _) rfl rfl ?_); conv => whnf)
    | ((refine aB (fun hc => ?_) (fun hc => ?_)) <;> (try simp only [decide_eq_true_eq, decide_eq_false_iff_not, Q5, Q20, Bool.and_eq_false_iff, Bool.or_eq_false_iff, Bool.not_eq_true', Bool.not_eq_false', beq_iff_eq, bne_iff_ne, ne_eq, beq_eq_false_iff_ne, bne_eq_false_iff_eq, Bool.not_eq_true, Bool.not_eq_false] at hc) <;> (try (exfalso; omega)) <;> (conv => whnf))))
  all_goals exact .b (by simp [kg, *])
def bA (ps : List Pol) : Int := if 32 < ps.length then 2 else if ps.all (fun p => kg p.kind p.T p.tau p.permits) then 0 else 3
theorem iY {ps : List Pol} (h : ¬ 32 < ps.length) : bA ps = if ps.all (fun p => kg p.kind p.T p.tau p.permits) then 0 else 3 := by simp [bA, h]
theorem dK {α : Type} [Inhabited α] {f : α → Bool} {xs : List α} {k : Nat} (hk : k < xs.length) (h : (xs.take k).all f = true) (h2 : f (xs.getD k default) = true) : (xs.take (k + 1)).all f = true := by
  rw [List.take_succ_eq_append_getElem hk, List.all_append, h]
  simp only [List.getD, Q0 hk, Option.getD_some] at h2
  simp [h2]
theorem m0 {α : Type} [Inhabited α] {f : α → Bool} {xs : List α} {k : Nat} (hk : k < xs.length) (h2 : f (xs.getD k default) = false) : xs.all f = false := by
  simp only [List.getD, Q0 hk, Option.getD_some] at h2
  rw [List.all_eq_false]
  exact ⟨_, Q14 hk, by simp [h2]⟩
theorem bn (ps : List Pol) : Pure TC 18 [.d (ap 4 Pol.D ps)] (.i .i64 (bA ps)) := by
  refine Pure.mk' Try.func18 rfl rfl (zzb rfl) ?_
  (repeat' (first
    | with_reducible refine Wp.seq ?_
    | with_reducible refine Wp.block ?_
    | ((with_reducible first | refine Wp.region ?_ | refine Wp.drawL ac ?_ | refine Wp.cond ?_ | refine Wp.ret ?_ | refine Wp.skip ?_ | refine Wp.exit ?_ | refine Go.mk ?_ | apply aA.of); conv => whnf)
    | with_reducible exact rfl
    | ((with_reducible refine Ov.ok zO ?_); conv => whnf)
    | (with_reducible refine Ov.sh1 (by with_unfolding_all exact rfl) ?_)
    | ((with_reducible refine Ov.quo (by omega) (by omega) (by omega) (fun _ _ => ?_)); conv => whnf)
    | ((with_reducible refine And.intro (show aj _ _ _ _ = true by kernel_rfl) ?_); conv => whnf)
    | ((with_reducible refine And.intro zC ?_); conv => whnf)
    | ((with_reducible refine And.intro ?hb ?_); (case hb => exact ae (zzb rfl) (by omega)); (conv => whnf))
    | ((refine af.a rfl rfl rfl rfl rfl rfl ?hb ?_); (case hb => exact zB); (conv => whnf))
    | ((refine af.b rfl rfl rfl rfl rfl rfl rfl rfl ?hb ?ho ?_); (case hb => exact zB); (case ho => omega); (conv => whnf))
    | ((refine af.c rfl rfl rfl rfl rfl ?hb ?_); (case hb => exact zB); (conv => whnf))
    | ((refine af.d rfl rfl rfl rfl rfl rfl ?hb ?ho ?_); (case hb => exact zB); (case ho => omega); (conv => whnf))
    | (with_reducible refine Or.inl ?_)
    | ((with_reducible refine nil_no (by omega) ?_); (conv => whnf))
    | ((with_reducible refine ag ?_ (fun hn0 => ?_)) <;> (conv => whnf))
    
    | ((refine aB (fun hc => ?_) (fun hc => ?_)) <;> (try simp only [decide_eq_true_eq, decide_eq_false_iff_not, Q5, Q20, Bool.and_eq_false_iff, Bool.or_eq_false_iff, Bool.not_eq_true', Bool.not_eq_false', beq_iff_eq, bne_iff_ne, ne_eq, beq_eq_false_iff_ne, bne_eq_false_iff_eq, Bool.not_eq_true, Bool.not_eq_false] at hc) <;> (try (exfalso; omega)) <;> (conv => whnf))))
  · exact .i (by simp [bA]; omega)
  · refine Wp.loopP (fun k => k ≤ ps.length ∧ (ps.take k).all (fun p => kg p.kind p.T p.tau p.permits) = true) (fun k => ⟨⟨Try.f18.ntmps, 0⟩, 0, [(8, .d (ap 4 Pol.D ps)), (9, .i .i64 ps.length), (10, .i .i64 k)], []⟩) (fun k => ps.length - k) 0 ⟨by simp, by simp⟩ ?_ ?_
    · (refine Le.by [] rfl rfl rfl rfl ?_ ?_ <;> (conv => whnf) <;> (repeat' (first | exact trivial | exact ab.rfl rfl | exact ab.ptr rfl | exact ab.sl rfl | ((with_reducible refine ab.fn ?_); (conv => whnf)) | ((refine ab.iref ?_); (conv => whnf)) | exact ⟨rfl, rfl, rfl⟩ | exact fun i hi => rfl | ((with_reducible refine And.intro ?_ ?_) <;> (conv => whnf)))))
    · rintro k ⟨hk, hall⟩
      (repeat' (first
    | with_reducible refine Wp.seq ?_
    | with_reducible refine Wp.block ?_
    | ((with_reducible first | refine Wp.region ?_ | refine Wp.drawL ac ?_ | refine Wp.cond ?_ | refine Wp.ret ?_ | refine Wp.skip ?_ | refine Wp.exit ?_ | refine Go.mk ?_ | apply aA.of); conv => whnf)
    | with_reducible exact rfl
    | ((with_reducible refine Ov.ok zO ?_); conv => whnf)
    | (with_reducible refine Ov.sh1 (by with_unfolding_all exact rfl) ?_)
    | ((with_reducible refine Ov.quo (by omega) (by omega) (by omega) (fun _ _ => ?_)); conv => whnf)
    | ((with_reducible refine And.intro (show aj _ _ _ _ = true by kernel_rfl) ?_); conv => whnf)
    | ((with_reducible refine And.intro zC ?_); conv => whnf)
    | ((with_reducible refine And.intro ?hb ?_); (case hb => exact ae (zzb rfl) (by omega)); (conv => whnf))
    | ((refine af.a rfl rfl rfl rfl rfl rfl ?hb ?_); (case hb => exact zB); (conv => whnf))
    | ((refine af.b rfl rfl rfl rfl rfl rfl rfl rfl ?hb ?ho ?_); (case hb => exact zB); (case ho => omega); (conv => whnf))
    | ((refine af.c rfl rfl rfl rfl rfl ?hb ?_); (case hb => exact zB); (conv => whnf))
    | ((refine af.d rfl rfl rfl rfl rfl rfl ?hb ?ho ?_); (case hb => exact zB); (case ho => omega); (conv => whnf))
    | (with_reducible refine Or.inl ?_)
    | ((with_reducible refine nil_no (by omega) ?_); (conv => whnf))
    | ((with_reducible refine ag ?_ (fun hn0 => ?_)) <;> (conv => whnf))
    | ((with_reducible refine aa.pure (jI _ _ _ _) rfl rfl ?_); conv => whnf) | ((with_reducible refine ai.pure (jI _ _ _ _) rfl rfl ?_); conv => whnf)
    | ((refine aB (fun hc => ?_) (fun hc => ?_)) <;> (try simp only [decide_eq_true_eq, decide_eq_false_iff_not, Q5, Q20, Bool.and_eq_false_iff, Bool.or_eq_false_iff, Bool.not_eq_true', Bool.not_eq_false', beq_iff_eq, bne_iff_ne, ne_eq, beq_eq_false_iff_ne, bne_eq_false_iff_eq, Bool.not_eq_true, Bool.not_eq_false] at hc) <;> (try (exfalso; omega)) <;> (conv => whnf))))
      · exact .i (by rw [iY (by omega), m0 (k := k) (by omega) (by simpa using hc)]; rfl)
      · refine ⟨k + 1, ⟨by omega, dK (by omega) hall (by simpa using hc)⟩, by dsimp only; omega, ?_⟩
        (refine Le.by [] rfl rfl rfl rfl ?_ ?_ <;> (conv => whnf) <;> (repeat' (first | exact trivial | exact ab.rfl rfl | exact ab.ptr rfl | exact ab.sl rfl | ((with_reducible refine ab.fn ?_); (conv => whnf)) | ((refine ab.iref ?_); (conv => whnf)) | exact ⟨rfl, rfl, rfl⟩ | exact fun i hi => rfl | ((with_reducible refine And.intro ?_ ?_) <;> (conv => whnf)))))
      · rw [Q21 (by omega)] at hall
        exact .i (by rw [iY (by omega), hall]; rfl)
def ja (op : Int) : Int := if op = 1 then 1 else if op = 2 ∨ op = 3 then 2 else 0
theorem jH (op : Int) : Pure TC 52 [.i .u8 op] (.i .u8 (ja op)) := by
  refine Pure.mk' Try.func52 rfl rfl (zzb rfl) ?_
  (repeat' (first
    | with_reducible refine Wp.seq ?_
    | with_reducible refine Wp.block ?_
    | ((with_reducible first | refine Wp.region ?_ | refine Wp.drawL ac ?_ | refine Wp.cond ?_ | refine Wp.ret ?_ | refine Wp.skip ?_ | refine Wp.exit ?_ | refine Go.mk ?_ | apply aA.of); conv => whnf)
    | with_reducible exact rfl
    | ((with_reducible refine Ov.ok zO ?_); conv => whnf)
    | (with_reducible refine Ov.sh1 (by with_unfolding_all exact rfl) ?_)
    | ((with_reducible refine Ov.quo (by omega) (by omega) (by omega) (fun _ _ => ?_)); conv => whnf)
    | ((with_reducible refine And.intro (show aj _ _ _ _ = true by kernel_rfl) ?_); conv => whnf)
    | ((with_reducible refine And.intro zC ?_); conv => whnf)
    | ((with_reducible refine And.intro ?hb ?_); (case hb => exact ae (zzb rfl) (by omega)); (conv => whnf))
    | ((refine af.a rfl rfl rfl rfl rfl rfl ?hb ?_); (case hb => exact zB); (conv => whnf))
    | ((refine af.b rfl rfl rfl rfl rfl rfl rfl rfl ?hb ?ho ?_); (case hb => exact zB); (case ho => omega); (conv => whnf))
    | ((refine af.c rfl rfl rfl rfl rfl ?hb ?_); (case hb => exact zB); (conv => whnf))
    | ((refine af.d rfl rfl rfl rfl rfl rfl ?hb ?ho ?_); (case hb => exact zB); (case ho => omega); (conv => whnf))
    | (with_reducible refine Or.inl ?_)
    | ((with_reducible refine nil_no (by omega) ?_); (conv => whnf))
    | ((with_reducible refine ag ?_ (fun hn0 => ?_)) <;> (conv => whnf))
    
    | ((refine aB (fun hc => ?_) (fun hc => ?_)) <;> (try simp only [decide_eq_true_eq, decide_eq_false_iff_not, Q5, Q20, Bool.and_eq_false_iff, Bool.or_eq_false_iff, Bool.not_eq_true', Bool.not_eq_false', beq_iff_eq, bne_iff_ne, ne_eq, beq_eq_false_iff_ne, bne_eq_false_iff_eq, Bool.not_eq_true, Bool.not_eq_false] at hc) <;> (try (exfalso; omega)) <;> (conv => whnf))))
  all_goals exact .i (by simp [ja, *])
def bsF (lt : Nat → Bool) : Nat → Nat → Nat → Nat
  | 0, i, _ => i
  | n + 1, i, j => if i < j then (if lt ((i + j) / 2) then bsF lt n ((i + j) / 2 + 1) j else bsF lt n i ((i + j) / 2)) else i
def bs (lt : Nat → Bool) (n : Nat) : Nat := bsF lt (n + 1) 0 n
theorem nQ {lt : Nat → Bool} {q i j : Nat} (h : ¬ i < j) : bsF lt q i j = i := by cases q <;> simp [bsF, h]
def qc (ps : List Pol) (op pol : Int) (key : List Int) (n : Int) : Int :=
  if op < 1 ∨ 6 < op ∨ (op = 1 ∧ bU n = false) then 1
  else if op ≤ 4 ∧ 255 < key.length then 2
  else if bA ps ≠ 0 then bA ps
  else if op ≤ 4 ∧ (pol < 0 ∨ ps.length ≤ pol ∨ (ja op ≠ 0 ∧ (ps.getD pol.toNat default).kind ≠ ja op)) then 6 else 0
theorem eo (ps : List Pol) (op pol : Int) (key : List Int) (n : Int) : Pure TC 33 [.d (ap 4 Pol.D ps), .agg [.i .u8 op, .i .i64 pol, .d (ap 1 (aQ .u8) key), .i .i64 n]] (.i .i64 (qc ps op pol key n)) := by
  refine Pure.mk' Try.func33 rfl rfl (zzb rfl) ?_
  (repeat' (first
    | with_reducible refine Wp.seq ?_
    | with_reducible refine Wp.block ?_
    | ((with_reducible first | refine Wp.region ?_ | refine Wp.drawL ac ?_ | refine Wp.cond ?_ | refine Wp.ret ?_ | refine Wp.skip ?_ | refine Wp.exit ?_ | refine Go.mk ?_ | apply aA.of); conv => whnf)
    | with_reducible exact rfl
    | ((with_reducible refine Ov.ok zO ?_); conv => whnf)
    | (with_reducible refine Ov.sh1 (by with_unfolding_all exact rfl) ?_)
    | ((with_reducible refine Ov.quo (by omega) (by omega) (by omega) (fun _ _ => ?_)); conv => whnf)
    | ((with_reducible refine And.intro (show aj _ _ _ _ = true by kernel_rfl) ?_); conv => whnf)
    | ((with_reducible refine And.intro zC ?_); conv => whnf)
    | ((with_reducible refine And.intro ?hb ?_); (case hb => exact ae (zzb rfl) (by omega)); (conv => whnf))
    | ((refine af.a rfl rfl rfl rfl rfl rfl ?hb ?_); (case hb => exact zB); (conv => whnf))
    | ((refine af.b rfl rfl rfl rfl rfl rfl rfl rfl ?hb ?ho ?_); (case hb => exact zB); (case ho => omega); (conv => whnf))
    | ((refine af.c rfl rfl rfl rfl rfl ?hb ?_); (case hb => exact zB); (conv => whnf))
    | ((refine af.d rfl rfl rfl rfl rfl rfl ?hb ?ho ?_); (case hb => exact zB); (case ho => omega); (conv => whnf))
    | (with_reducible refine Or.inl ?_)
    | ((with_reducible refine nil_no (by omega) ?_); (conv => whnf))
    | ((with_reducible refine ag ?_ (fun hn0 => ?_)) <;> (conv => whnf))
    | ((with_reducible refine aa.pure (aW _) rfl rfl ?_); conv => whnf) | ((with_reducible refine ai.pure (aW _) rfl rfl ?_); conv => whnf)
    | ((with_reducible refine aa.pure (bn _) rfl rfl ?_); conv => whnf) | ((with_reducible refine ai.pure (bn _) rfl rfl ?_); conv => whnf)
    | ((with_reducible refine aa.pure (jH _) rfl rfl ?_); conv => whnf) | ((with_reducible refine ai.pure (jH _) rfl rfl ?_); conv => whnf)
    | ((refine aB (fun hc => ?_) (fun hc => ?_)) <;> (try simp only [decide_eq_true_eq, decide_eq_false_iff_not, Q5, Q20, Bool.and_eq_false_iff, Bool.or_eq_false_iff, Bool.not_eq_true', Bool.not_eq_false', beq_iff_eq, bne_iff_ne, ne_eq, beq_eq_false_iff_ne, bne_eq_false_iff_eq, Bool.not_eq_true, Bool.not_eq_false] at hc) <;> (try (exfalso; omega)) <;> (conv => whnf))))
  all_goals exact .i (by
    unfold qc
    repeat' split
    all_goals first | rfl | omega | (exfalso; simp_all; try omega) | simp_all)
def kj (a b : Int) : Int := if bU a && bU b then 0 else 1
theorem iA (a b : Int) : kj a b = 0 ↔ (0 ≤ a ∧ a ≤ 4611686018427387903) ∧ 0 ≤ b ∧ b ≤ 4611686018427387903 := by simp [kj, bU]; omega
theorem qu (T tau : Int) : limE T tau = 0 ↔ (1 ≤ T ∧ T ≤ 4611686018427387903) ∧ 0 ≤ tau ∧ tau ≤ 4611686018427387903 := by simp [limE, bU]; omega
theorem iP (a b : Int) : Pure TC 57 [.i .i64 a, .i .i64 b] (.i .i64 (kj a b)) := by
  refine Pure.mk' Try.func57 rfl rfl (zzb rfl) ?_
  (repeat' (first
    | with_reducible refine Wp.seq ?_
    | with_reducible refine Wp.block ?_
    | ((with_reducible first | refine Wp.region ?_ | refine Wp.drawL ac ?_ | refine Wp.cond ?_ | refine Wp.ret ?_ | refine Wp.skip ?_ | refine Wp.exit ?_ | refine Go.mk ?_ | apply aA.of); conv => whnf)
    | with_reducible exact rfl
    | ((with_reducible refine Ov.ok zO ?_); conv => whnf)
    | (with_reducible refine Ov.sh1 (by with_unfolding_all exact rfl) ?_)
    | ((with_reducible refine Ov.quo (by omega) (by omega) (by omega) (fun _ _ => ?_)); conv => whnf)
    | ((with_reducible refine And.intro (show aj _ _ _ _ = true by kernel_rfl) ?_); conv => whnf)
    | ((with_reducible refine And.intro zC ?_); conv => whnf)
    | ((with_reducible refine And.intro ?hb ?_); (case hb => exact ae (zzb rfl) (by omega)); (conv => whnf))
    | ((refine af.a rfl rfl rfl rfl rfl rfl ?hb ?_); (case hb => exact zB); (conv => whnf))
    | ((refine af.b rfl rfl rfl rfl rfl rfl rfl rfl ?hb ?ho ?_); (case hb => exact zB); (case ho => omega); (conv => whnf))
    | ((refine af.c rfl rfl rfl rfl rfl ?hb ?_); (case hb => exact zB); (conv => whnf))
    | ((refine af.d rfl rfl rfl rfl rfl rfl ?hb ?ho ?_); (case hb => exact zB); (case ho => omega); (conv => whnf))
    | (with_reducible refine Or.inl ?_)
    | ((with_reducible refine nil_no (by omega) ?_); (conv => whnf))
    | ((with_reducible refine ag ?_ (fun hn0 => ?_)) <;> (conv => whnf))
    | ((with_reducible refine aa.pure (aW _) rfl rfl ?_); conv => whnf) | ((with_reducible refine ai.pure (aW _) rfl rfl ?_); conv => whnf)
    | ((refine aB (fun hc => ?_) (fun hc => ?_)) <;> (try simp only [decide_eq_true_eq, decide_eq_false_iff_not, Q5, Q20, Bool.and_eq_false_iff, Bool.or_eq_false_iff, Bool.not_eq_true', Bool.not_eq_false', beq_iff_eq, bne_iff_ne, ne_eq, beq_eq_false_iff_ne, bne_eq_false_iff_eq, Bool.not_eq_true, Bool.not_eq_false] at hc) <;> (try (exfalso; omega)) <;> (conv => whnf))))
  all_goals exact .i (by simp [kj, *])
def ar (n : Int) : Int := min (max n 0) 4611686018427387903
theorem ge (n : Int) : Pure TC 58 [.i .i64 n] (.i .i64 (ar n)) := by
  refine Pure.mk' Try.func58 rfl rfl (zzb rfl) ?_
  (repeat' (first
    | with_reducible refine Wp.seq ?_
    | with_reducible refine Wp.block ?_
    | ((with_reducible first | refine Wp.region ?_ | refine Wp.drawL ac ?_ | refine Wp.cond ?_ | refine Wp.ret ?_ | refine Wp.skip ?_ | refine Wp.exit ?_ | refine Go.mk ?_ | apply aA.of); conv => whnf)
    | with_reducible exact rfl
    | ((with_reducible refine Ov.ok zO ?_); conv => whnf)
    | (with_reducible refine Ov.sh1 (by with_unfolding_all exact rfl) ?_)
    | ((with_reducible refine Ov.quo (by omega) (by omega) (by omega) (fun _ _ => ?_)); conv => whnf)
    | ((with_reducible refine And.intro (show aj _ _ _ _ = true by kernel_rfl) ?_); conv => whnf)
    | ((with_reducible refine And.intro zC ?_); conv => whnf)
    | ((with_reducible refine And.intro ?hb ?_); (case hb => exact ae (zzb rfl) (by omega)); (conv => whnf))
    | ((refine af.a rfl rfl rfl rfl rfl rfl ?hb ?_); (case hb => exact zB); (conv => whnf))
    | ((refine af.b rfl rfl rfl rfl rfl rfl rfl rfl ?hb ?ho ?_); (case hb => exact zB); (case ho => omega); (conv => whnf))
    | ((refine af.c rfl rfl rfl rfl rfl ?hb ?_); (case hb => exact zB); (conv => whnf))
    | ((refine af.d rfl rfl rfl rfl rfl rfl ?hb ?ho ?_); (case hb => exact zB); (case ho => omega); (conv => whnf))
    | (with_reducible refine Or.inl ?_)
    | ((with_reducible refine nil_no (by omega) ?_); (conv => whnf))
    | ((with_reducible refine ag ?_ (fun hn0 => ?_)) <;> (conv => whnf))
    
    | ((refine aB (fun hc => ?_) (fun hc => ?_)) <;> (try simp only [decide_eq_true_eq, decide_eq_false_iff_not, Q5, Q20, Bool.and_eq_false_iff, Bool.or_eq_false_iff, Bool.not_eq_true', Bool.not_eq_false', beq_iff_eq, bne_iff_ne, ne_eq, beq_eq_false_iff_ne, bne_eq_false_iff_eq, Bool.not_eq_true, Bool.not_eq_false] at hc) <;> (try (exfalso; omega)) <;> (conv => whnf))))
  all_goals exact .i (by unfold ar; omega)
def jS (a b : Int) : Int := if kj a b = 0 then max (a - b) 0 else 0
theorem ko (a b : Int) : Pure TC 45 [.i .i64 a, .i .i64 b] (.tup [.i .i64 (jS a b), .i .i64 (kj a b)]) := by
  refine Pure.mk' Try.func45 rfl rfl (zzb rfl) ?_
  (repeat' (first
    | with_reducible refine Wp.seq ?_
    | with_reducible refine Wp.block ?_
    | ((with_reducible first | refine Wp.region ?_ | refine Wp.drawL ac ?_ | refine Wp.cond ?_ | refine Wp.ret ?_ | refine Wp.skip ?_ | refine Wp.exit ?_ | refine Go.mk ?_ | apply aA.of); conv => whnf)
    | with_reducible exact rfl
    | ((with_reducible refine Ov.ok zO ?_); conv => whnf)
    | (with_reducible refine Ov.sh1 (by with_unfolding_all exact rfl) ?_)
    | ((with_reducible refine Ov.quo (by omega) (by omega) (by omega) (fun _ _ => ?_)); conv => whnf)
    | ((with_reducible refine And.intro (show aj _ _ _ _ = true by kernel_rfl) ?_); conv => whnf)
    | ((with_reducible refine And.intro zC ?_); conv => whnf)
    | ((with_reducible refine And.intro ?hb ?_); (case hb => exact ae (zzb rfl) (by omega)); (conv => whnf))
    | ((refine af.a rfl rfl rfl rfl rfl rfl ?hb ?_); (case hb => exact zB); (conv => whnf))
    | ((refine af.b rfl rfl rfl rfl rfl rfl rfl rfl ?hb ?ho ?_); (case hb => exact zB); (case ho => omega); (conv => whnf))
    | ((refine af.c rfl rfl rfl rfl rfl ?hb ?_); (case hb => exact zB); (conv => whnf))
    | ((refine af.d rfl rfl rfl rfl rfl rfl ?hb ?ho ?_); (case hb => exact zB); (case ho => omega); (conv => whnf))
    | (with_reducible refine Or.inl ?_)
    | ((with_reducible refine nil_no (by omega) ?_); (conv => whnf))
    | ((with_reducible refine ag ?_ (fun hn0 => ?_)) <;> (conv => whnf))
    | ((with_reducible refine aa.pure (iP _ _) rfl rfl ?_); conv => whnf) | ((with_reducible refine ai.pure (iP _ _) rfl rfl ?_); conv => whnf)
    | ((with_reducible refine aa.pure (ge _) rfl rfl ?_); conv => whnf) | ((with_reducible refine ai.pure (ge _) rfl rfl ?_); conv => whnf)
    | ((refine aB (fun hc => ?_) (fun hc => ?_)) <;> (try simp only [decide_eq_true_eq, decide_eq_false_iff_not, Q5, Q20, Bool.and_eq_false_iff, Bool.or_eq_false_iff, Bool.not_eq_true', Bool.not_eq_false', beq_iff_eq, bne_iff_ne, ne_eq, beq_eq_false_iff_ne, bne_eq_false_iff_eq, Bool.not_eq_true, Bool.not_eq_false, iA] at hc) <;> (try (exfalso; omega)) <;> (conv => whnf))))
  · exact .of_eq (by rw [jS, if_neg (by rw [iA]; omega)])
  · exact .of_eq (by rw [jS, if_pos (by rw [iA]; omega), show kj a b = 0 by rw [iA]; omega, show ar (a - b) = max (a - b) 0 by unfold ar; omega])
theorem iX (a T : Int) (ha : 0 ≤ a) (hT : 1 ≤ T) : 0 ≤ a / T ∧ a / T ≤ a := ⟨Int.ediv_nonneg ha (by omega), Int.ediv_le_self _ ha⟩
def bj (T tau tat now : Int) : Int := if tau < max tat now - now then 0 else min ((tau - (max tat now - now)) / T + 1) ((4611686018427387903 - max tat now) / T)
theorem dy (T tau tat now : Int) (hT : 1 ≤ T) (hT2 : T ≤ 4611686018427387903) (h1 : 0 ≤ tau) (h2 : tau ≤ 4611686018427387903) (h3 : 0 ≤ tat) (h4 : tat ≤ 4611686018427387903) (h5 : 0 ≤ now) (h6 : now ≤ 4611686018427387903) :
    Pure TC 56 [.agg [.i .i64 T, .i .i64 tau], .i .i64 tat, .i .i64 now] (.i .i64 (bj T tau tat now)) := by
  have q1 : ¬ (if now > tat then now else tat) - now > tau → _ := fun h => iX (tau - ((if now > tat then now else tat) - now)) T (by omega) hT
  have q2 := iX (4611686018427387903 - (if now > tat then now else tat)) T (by omega) hT
  refine Pure.mk' Try.func56 rfl rfl (zzb rfl) ?_
  (repeat' (first
    | with_reducible refine Wp.seq ?_
    | with_reducible refine Wp.block ?_
    | ((with_reducible first | refine Wp.region ?_ | refine Wp.drawL ac ?_ | refine Wp.cond ?_ | refine Wp.ret ?_ | refine Wp.skip ?_ | refine Wp.exit ?_ | refine Go.mk ?_ | apply aA.of); conv => whnf)
    | with_reducible exact rfl
    | ((with_reducible refine Ov.ok zO ?_); conv => whnf)
    | (with_reducible refine Ov.sh1 (by with_unfolding_all exact rfl) ?_)
    | ((with_reducible refine Ov.quo (by omega) (by omega) (by omega) (fun _ _ => ?_)); conv => whnf)
    | ((with_reducible refine And.intro (show aj _ _ _ _ = true by kernel_rfl) ?_); conv => whnf)
    | ((with_reducible refine And.intro zC ?_); conv => whnf)
    | ((with_reducible refine And.intro ?hb ?_); (case hb => exact ae (zzb rfl) (by omega)); (conv => whnf))
    | ((refine af.a rfl rfl rfl rfl rfl rfl ?hb ?_); (case hb => exact zB); (conv => whnf))
    | ((refine af.b rfl rfl rfl rfl rfl rfl rfl rfl ?hb ?ho ?_); (case hb => exact zB); (case ho => omega); (conv => whnf))
    | ((refine af.c rfl rfl rfl rfl rfl ?hb ?_); (case hb => exact zB); (conv => whnf))
    | ((refine af.d rfl rfl rfl rfl rfl rfl ?hb ?ho ?_); (case hb => exact zB); (case ho => omega); (conv => whnf))
    | (with_reducible refine Or.inl ?_)
    | ((with_reducible refine nil_no (by omega) ?_); (conv => whnf))
    | ((with_reducible refine ag ?_ (fun hn0 => ?_)) <;> (conv => whnf))
    
    | ((refine aB (fun hc => ?_) (fun hc => ?_)) <;> (try simp only [decide_eq_true_eq, decide_eq_false_iff_not, Q5, Q20, Bool.and_eq_false_iff, Bool.or_eq_false_iff, Bool.not_eq_true', Bool.not_eq_false', beq_iff_eq, bne_iff_ne, ne_eq, beq_eq_false_iff_ne, bne_eq_false_iff_eq, Bool.not_eq_true, Bool.not_eq_false] at hc) <;> (try (exfalso; omega)) <;> (conv => whnf))))
  · exact .i (by unfold bj; omega)
  · refine .i ?_
    have e : max tat now = if now > tat then now else tat := by omega
    rw [bj, e, if_neg (show ¬ tau < (if now > tat then now else tat) - now by omega)]
    omega
theorem qs {x y : Int} (hx : 0 ≤ x) (hx2 : x ≤ 4611686018427387903) (hy : 0 ≤ y) (hy2 : y ≤ 4611686018427387903) : 0 ≤ x * y ∧ x * y ≤ 4611686018427387903 * 4611686018427387903 :=
  ⟨Int.mul_nonneg hx hy, Int.mul_le_mul hx2 hy2 hy (by omega)⟩
def fQ (T n : Int) : Int := IntKind.i64.wrap (loI ((n - 1) * T))
theorem hi_0 {p : Int} (h : 0 ≤ p) : (hiI p = 0 → loI p = p) ∧ (hiI p ≠ 0 → 18446744073709551616 ≤ p) := by unfold hiI loI; omega
theorem gz (T tau n : Int) (hT : 1 ≤ T) (hT2 : T ≤ 4611686018427387903) (h1 : 0 ≤ tau) (h2 : tau ≤ 4611686018427387903) (h3 : 1 ≤ n) (h4 : n ≤ 4611686018427387903) :
    Pure TC 76 [.agg [.i .i64 T, .i .i64 tau], .i .i64 n] (.tup [.i .i64 (fQ T n), .b (decide ((n - 1) * T ≤ tau))]) := by
  obtain ⟨m1, m2⟩ := qs (x := n - 1) (y := T) (by omega) (by omega) (by omega) hT2
  refine Pure.mk' Try.func76 rfl rfl (zzb rfl) ?_
  (repeat' (first
    | with_reducible refine Wp.seq ?_
    | with_reducible refine Wp.block ?_
    | ((with_reducible first | refine Wp.region ?_ | refine Wp.drawL ac ?_ | refine Wp.cond ?_ | refine Wp.ret ?_ | refine Wp.skip ?_ | refine Wp.exit ?_ | refine Go.mk ?_ | apply aA.of); conv => whnf)
    | with_reducible exact rfl
    | ((with_reducible refine Ov.ok zO ?_); conv => whnf)
    | (with_reducible refine Ov.sh1 (by with_unfolding_all exact rfl) ?_)
    | ((with_reducible refine Ov.quo (by omega) (by omega) (by omega) (fun _ _ => ?_)); conv => whnf)
    | ((with_reducible refine And.intro (show aj _ _ _ _ = true by kernel_rfl) ?_); conv => whnf)
    | ((with_reducible refine And.intro zC ?_); conv => whnf)
    | ((with_reducible refine And.intro ?hb ?_); (case hb => exact ae (zzb rfl) (by omega)); (conv => whnf))
    | ((refine af.a rfl rfl rfl rfl rfl rfl ?hb ?_); (case hb => exact zB); (conv => whnf))
    | ((refine af.b rfl rfl rfl rfl rfl rfl rfl rfl ?hb ?ho ?_); (case hb => exact zB); (case ho => omega); (conv => whnf))
    | ((refine af.c rfl rfl rfl rfl rfl ?hb ?_); (case hb => exact zB); (conv => whnf))
    | ((refine af.d rfl rfl rfl rfl rfl rfl ?hb ?ho ?_); (case hb => exact zB); (case ho => omega); (conv => whnf))
    | (with_reducible refine Or.inl ?_)
    | ((with_reducible refine nil_no (by omega) ?_); (conv => whnf))
    | ((with_reducible refine ag ?_ (fun hn0 => ?_)) <;> (conv => whnf))
    | ((with_reducible refine aa.pure (bits_Mul64 _ _ (by omega) (by omega) (by omega) (by omega)) rfl rfl ?_); conv => whnf) | ((with_reducible refine ai.pure (bits_Mul64 _ _ (by omega) (by omega) (by omega) (by omega)) rfl rfl ?_); conv => whnf)
    | ((with_reducible refine Ov.mk ?_); conv => whnf)
    | ((refine aB (fun hc => ?_) (fun hc => ?_)) <;> (try simp only [decide_eq_true_eq, decide_eq_false_iff_not, Q5, Q20, Bool.and_eq_false_iff, Bool.or_eq_false_iff, Bool.not_eq_true', Bool.not_eq_false', beq_iff_eq, bne_iff_ne, ne_eq, beq_eq_false_iff_ne, bne_eq_false_iff_eq, Bool.not_eq_true, Bool.not_eq_false] at hc) <;> (try (exfalso; omega)) <;> (conv => whnf))))
  · rw [(hi_0 m1).1 hc]
    exact .of_eq (by unfold fQ; rw [(hi_0 m1).1 hc])
  · have := (hi_0 m1).2 hc
    exact .of_eq (by rw [show decide ((n - 1) * T ≤ tau) = false by simp; omega]; rfl)
def jQ (T tau tat now n : Int) : Int :=
  if (n - 1) * T ≤ tau ∧ n ≤ (4611686018427387903 - max tat now) / T then tat - now - (tau - (n - 1) * T) else 4611686018427387903
theorem qj {T tau n : Int} (h0 : 0 ≤ (n - 1) * T) (h : (n - 1) * T ≤ tau) (ht : tau ≤ 4611686018427387903) : fQ T n = (n - 1) * T := by
  unfold fQ loI
  generalize (n - 1) * T = p at *
  rw [show p % 18446744073709551616 = p by omega, IntWalk.i64_in _ (by omega)]
theorem jq (T tau tat now n : Int) (hT : 1 ≤ T) (hT2 : T ≤ 4611686018427387903) (h1 : 0 ≤ tau) (h2 : tau ≤ 4611686018427387903) (h3 : 0 ≤ tat) (h4 : tat ≤ 4611686018427387903) (h5 : 0 ≤ now) (h6 : now ≤ 4611686018427387903) (h7 : 1 ≤ n) (h8 : n ≤ 4611686018427387903) :
    Pure TC 69 [.agg [.i .i64 T, .i .i64 tau], .i .i64 tat, .i .i64 now, .i .i64 n] (.i .i64 (jQ T tau tat now n)) := by
  obtain ⟨m1, m2⟩ := qs (x := n - 1) (y := T) (by omega) (by omega) (by omega) hT2
  have q2 := iX (4611686018427387903 - (if now > tat then now else tat)) T (by omega) hT
  have q3 : (n - 1) * T ≤ tau → fQ T n = (n - 1) * T := fun h => qj m1 h h2
  refine Pure.mk' Try.func69 rfl rfl (zzb rfl) ?_
  have e : max tat now = if now > tat then now else tat := by omega
  (repeat' (first
    | with_reducible refine Wp.seq ?_
    | with_reducible refine Wp.block ?_
    | ((with_reducible first | refine Wp.region ?_ | refine Wp.drawL ac ?_ | refine Wp.cond ?_ | refine Wp.ret ?_ | refine Wp.skip ?_ | refine Wp.exit ?_ | refine Go.mk ?_ | apply aA.of); conv => whnf)
    | with_reducible exact rfl
    | ((with_reducible refine Ov.ok zO ?_); conv => whnf)
    | (with_reducible refine Ov.sh1 (by with_unfolding_all exact rfl) ?_)
    | ((with_reducible refine Ov.quo (by omega) (by omega) (by omega) (fun _ _ => ?_)); conv => whnf)
    | ((with_reducible refine And.intro (show aj _ _ _ _ = true by kernel_rfl) ?_); conv => whnf)
    | ((with_reducible refine And.intro zC ?_); conv => whnf)
    | ((with_reducible refine And.intro ?hb ?_); (case hb => exact ae (zzb rfl) (by omega)); (conv => whnf))
    | ((refine af.a rfl rfl rfl rfl rfl rfl ?hb ?_); (case hb => exact zB); (conv => whnf))
    | ((refine af.b rfl rfl rfl rfl rfl rfl rfl rfl ?hb ?ho ?_); (case hb => exact zB); (case ho => omega); (conv => whnf))
    | ((refine af.c rfl rfl rfl rfl rfl ?hb ?_); (case hb => exact zB); (conv => whnf))
    | ((refine af.d rfl rfl rfl rfl rfl rfl ?hb ?ho ?_); (case hb => exact zB); (case ho => omega); (conv => whnf))
    | (with_reducible refine Or.inl ?_)
    | ((with_reducible refine nil_no (by omega) ?_); (conv => whnf))
    | ((with_reducible refine ag ?_ (fun hn0 => ?_)) <;> (conv => whnf))
    | ((with_reducible refine aa.pure (gz T tau n hT hT2 h1 h2 h7 h8) rfl rfl ?_); conv => whnf) | ((with_reducible refine ai.pure (gz T tau n hT hT2 h1 h2 h7 h8) rfl rfl ?_); conv => whnf)
    | ((refine aB (fun hc => ?_) (fun hc => ?_)) <;> (try simp only [decide_eq_true_eq, decide_eq_false_iff_not, Q5, Q20, Bool.and_eq_false_iff, Bool.or_eq_false_iff, Bool.not_eq_true', Bool.not_eq_false', beq_iff_eq, bne_iff_ne, ne_eq, beq_eq_false_iff_ne, bne_eq_false_iff_eq, Bool.not_eq_true, Bool.not_eq_false] at hc) <;> (try (exfalso; omega)) <;> (conv => whnf))))
  · exact .i (by rw [jQ, if_neg (by omega)])
  · exact .i (by rw [jQ, e, if_neg (show ¬ ((n - 1) * T ≤ tau ∧ n ≤ (4611686018427387903 - (if now > tat then now else tat)) / T) by omega)])
  · exact .i (by rw [jQ, e, if_pos (show (n - 1) * T ≤ tau ∧ n ≤ (4611686018427387903 - (if now > tat then now else tat)) / T by omega), q3 (by omega)])
structure Ans where
  g : Bool
  tat : Int
  wait : Int
  left : Int
def Ans.S (a : Ans) : SV := .agg [.b a.g, .i .i64 a.tat, .i .i64 a.wait, .i .i64 a.left]
def pp (T tau tat now n : Int) : Int := if n ≤ bj T tau tat now ∧ 0 < n then max tat now + n * T else tat
def decI (T tau tat now n : Int) : Ans :=
  { g := decide (n ≤ bj T tau tat now), tat := pp T tau tat now n
    wait := if n ≤ bj T tau tat now then 0 else jQ T tau tat now n, left := bj T tau (pp T tau tat now n) now }
theorem pL {T tau tat now : Int} (hT : 1 ≤ T) (h3 : 0 ≤ tat) (h4 : tat ≤ 4611686018427387903) (h5 : 0 ≤ now) (h6 : now ≤ 4611686018427387903) {n : Int} (hn : n ≤ bj T tau tat now) (h0 : 0 < n) :
    0 ≤ n * T ∧ max tat now + n * T ≤ 4611686018427387903 := by
  unfold bj at hn
  split at hn
  · omega
  · have h : n ≤ (4611686018427387903 - max tat now) / T := by omega
    rw [Int.le_ediv_iff_mul_le (by omega)] at h
    exact ⟨Int.mul_nonneg (by omega) (by omega), by omega⟩
theorem i8 {T tau tat now : Int} (hT : 1 ≤ T) (h3 : 0 ≤ tat) (h4 : tat ≤ 4611686018427387903) (h5 : 0 ≤ now) (h6 : now ≤ 4611686018427387903) : 0 ≤ bj T tau tat now ∧ bj T tau tat now ≤ 4611686018427387903 := by
  unfold bj
  split
  · omega
  · have h1 := iX (tau - (max tat now - now)) T (by omega) hT
    have h2 := iX (4611686018427387903 - max tat now) T (by omega) hT
    omega
theorem fA (T tau tat now n : Int) (hT : 1 ≤ T) (hT2 : T ≤ 4611686018427387903) (h1 : 0 ≤ tau) (h2 : tau ≤ 4611686018427387903) (h3 : 0 ≤ tat) (h4 : tat ≤ 4611686018427387903) (h5 : 0 ≤ now) (h6 : now ≤ 4611686018427387903) (h7 : 0 ≤ n) (h8 : n ≤ 4611686018427387903) :
    Pure TC 59 [.agg [.i .i64 T, .i .i64 tau], .i .i64 tat, .i .i64 now, .i .i64 n] (decI T tau tat now n).S := by
  have hl0 := i8 (tau := tau) hT h3 h4 h5 h6
  have hl1 : n ≤ bj T tau tat now → 0 < n → _ := pL (n := n) (tau := tau) hT h3 h4 h5 h6
  have e : max tat now = if now > tat then now else tat := by omega
  refine Pure.mk' Try.func59 rfl rfl (zzb rfl) ?_
  (repeat' (first
    | with_reducible refine Wp.seq ?_
    | with_reducible refine Wp.block ?_
    | ((with_reducible first | refine Wp.region ?_ | refine Wp.drawL ac ?_ | refine Wp.cond ?_ | refine Wp.ret ?_ | refine Wp.skip ?_ | refine Wp.exit ?_ | refine Go.mk ?_ | apply aA.of); conv => whnf)
    | with_reducible exact rfl
    | ((with_reducible refine Ov.ok zO ?_); conv => whnf)
    | (with_reducible refine Ov.sh1 (by with_unfolding_all exact rfl) ?_)
    | ((with_reducible refine Ov.quo (by omega) (by omega) (by omega) (fun _ _ => ?_)); conv => whnf)
    | ((with_reducible refine And.intro (show aj _ _ _ _ = true by kernel_rfl) ?_); conv => whnf)
    | ((with_reducible refine And.intro zC ?_); conv => whnf)
    | ((with_reducible refine And.intro ?hb ?_); (case hb => exact ae (zzb rfl) (by omega)); (conv => whnf))
    | ((refine af.a rfl rfl rfl rfl rfl rfl ?hb ?_); (case hb => exact zB); (conv => whnf))
    | ((refine af.b rfl rfl rfl rfl rfl rfl rfl rfl ?hb ?ho ?_); (case hb => exact zB); (case ho => omega); (conv => whnf))
    | ((refine af.c rfl rfl rfl rfl rfl ?hb ?_); (case hb => exact zB); (conv => whnf))
    | ((refine af.d rfl rfl rfl rfl rfl rfl ?hb ?ho ?_); (case hb => exact zB); (case ho => omega); (conv => whnf))
    | (with_reducible refine Or.inl ?_)
    | ((with_reducible refine nil_no (by omega) ?_); (conv => whnf))
    | ((with_reducible refine ag ?_ (fun hn0 => ?_)) <;> (conv => whnf))
    | ((with_reducible refine aa.pure (dy _ _ _ _ hT hT2 h1 h2 (by omega) (by omega) h5 h6) rfl rfl ?_); conv => whnf) | ((with_reducible refine ai.pure (dy _ _ _ _ hT hT2 h1 h2 (by omega) (by omega) h5 h6) rfl rfl ?_); conv => whnf)
    | ((with_reducible refine aa.pure (jq _ _ _ _ _ hT hT2 h1 h2 (by omega) (by omega) h5 h6 (by omega) (by omega)) rfl rfl ?_); conv => whnf) | ((with_reducible refine ai.pure (jq _ _ _ _ _ hT hT2 h1 h2 (by omega) (by omega) h5 h6 (by omega) (by omega)) rfl rfl ?_); conv => whnf)
    | ((refine aB (fun hc => ?_) (fun hc => ?_)) <;> (try simp only [decide_eq_true_eq, decide_eq_false_iff_not, Q5, Q20, Bool.and_eq_false_iff, Bool.or_eq_false_iff, Bool.not_eq_true', Bool.not_eq_false', beq_iff_eq, bne_iff_ne, ne_eq, beq_eq_false_iff_ne, bne_eq_false_iff_eq, Bool.not_eq_true, Bool.not_eq_false] at hc) <;> (try (exfalso; omega)) <;> (conv => whnf))))
  all_goals refine .of_eq ?_
  · simp [Ans.S, decI, pp, hc]
  · have h9 : n ≤ bj T tau tat now ∧ 0 < n := by omega
    simp [Ans.S, decI, pp, h9, e]
  · have h9 : ¬ (n ≤ bj T tau tat now ∧ 0 < n) := by omega
    have h8 : n ≤ bj T tau tat now := by omega
    simp only [Ans.S, decI, pp, if_neg h9, if_pos h8]
def iJ (T tau : Int) (xs : List Int) : Int := if xs.all bU then limE T tau else 1
theorem gy (T tau : Int) (xs : List Int) : Pure TC 55 [.agg [.i .i64 T, .i .i64 tau], .d (ap 1 (aQ .i64) xs)] (.i .i64 (iJ T tau xs)) := by
  refine Pure.lens (.mk Try.func55 rfl rfl) fun hlen => ?_
  have hlen := hlen xs.length (by simp [ez, ap])
  refine Pure.mk' Try.func55 rfl rfl (zzb rfl) ?_
  (repeat' (first
    | with_reducible refine Wp.seq ?_
    | with_reducible refine Wp.block ?_
    | ((with_reducible first | refine Wp.region ?_ | refine Wp.drawL ac ?_ | refine Wp.cond ?_ | refine Wp.ret ?_ | refine Wp.skip ?_ | refine Wp.exit ?_ | refine Go.mk ?_ | apply aA.of); conv => whnf)
    | with_reducible exact rfl
    | ((with_reducible refine Ov.ok zO ?_); conv => whnf)
    | (with_reducible refine Ov.sh1 (by with_unfolding_all exact rfl) ?_)
    | ((with_reducible refine Ov.quo (by omega) (by omega) (by omega) (fun _ _ => ?_)); conv => whnf)
    | ((with_reducible refine And.intro (show aj _ _ _ _ = true by kernel_rfl) ?_); conv => whnf)
    | ((with_reducible refine And.intro zC ?_); conv => whnf)
    | ((with_reducible refine And.intro ?hb ?_); (case hb => exact ae (zzb rfl) (by omega)); (conv => whnf))
    | ((refine af.a rfl rfl rfl rfl rfl rfl ?hb ?_); (case hb => exact zB); (conv => whnf))
    | ((refine af.b rfl rfl rfl rfl rfl rfl rfl rfl ?hb ?ho ?_); (case hb => exact zB); (case ho => omega); (conv => whnf))
    | ((refine af.c rfl rfl rfl rfl rfl ?hb ?_); (case hb => exact zB); (conv => whnf))
    | ((refine af.d rfl rfl rfl rfl rfl rfl ?hb ?ho ?_); (case hb => exact zB); (case ho => omega); (conv => whnf))
    | (with_reducible refine Or.inl ?_)
    | ((with_reducible refine nil_no (by omega) ?_); (conv => whnf))
    | ((with_reducible refine ag ?_ (fun hn0 => ?_)) <;> (conv => whnf))
    
    | ((refine aB (fun hc => ?_) (fun hc => ?_)) <;> (try simp only [decide_eq_true_eq, decide_eq_false_iff_not, Q5, Q20, Bool.and_eq_false_iff, Bool.or_eq_false_iff, Bool.not_eq_true', Bool.not_eq_false', beq_iff_eq, bne_iff_ne, ne_eq, beq_eq_false_iff_ne, bne_eq_false_iff_eq, Bool.not_eq_true, Bool.not_eq_false] at hc) <;> (try (exfalso; omega)) <;> (conv => whnf))))
  refine Wp.loopP (fun k => k ≤ xs.length ∧ (xs.take k).all bU = true) (fun k => ⟨⟨Try.f55.ntmps, 0⟩, 1, [(2, .ptr 0 0), (7, .d (ap 1 (aQ .i64) xs)), (8, .i .i64 xs.length), (9, .i .i64 k)], [(0, some (.cells [.i .i64 T, .i .i64 tau]))]⟩) (fun k => xs.length - k) 0 ⟨by simp, by simp⟩ ?_ ?_
  · (refine Le.by [0] rfl rfl rfl rfl ?_ ?_ <;> (conv => whnf) <;> (repeat' (first | exact trivial | exact ab.rfl rfl | exact ab.ptr rfl | exact ab.sl rfl | ((with_reducible refine ab.fn ?_); (conv => whnf)) | ((refine ab.iref ?_); (conv => whnf)) | exact ⟨rfl, rfl, rfl⟩ | exact fun i hi => rfl | ((with_reducible refine And.intro ?_ ?_) <;> (conv => whnf)))))
  · rintro k ⟨hk, hall⟩
    (repeat' (first
    | with_reducible refine Wp.seq ?_
    | with_reducible refine Wp.block ?_
    | ((with_reducible first | refine Wp.region ?_ | refine Wp.drawL ac ?_ | refine Wp.cond ?_ | refine Wp.ret ?_ | refine Wp.skip ?_ | refine Wp.exit ?_ | refine Go.mk ?_ | apply aA.of); conv => whnf)
    | with_reducible exact rfl
    | ((with_reducible refine Ov.ok zO ?_); conv => whnf)
    | (with_reducible refine Ov.sh1 (by with_unfolding_all exact rfl) ?_)
    | ((with_reducible refine Ov.quo (by omega) (by omega) (by omega) (fun _ _ => ?_)); conv => whnf)
    | ((with_reducible refine And.intro (show aj _ _ _ _ = true by kernel_rfl) ?_); conv => whnf)
    | ((with_reducible refine And.intro zC ?_); conv => whnf)
    | ((with_reducible refine And.intro ?hb ?_); (case hb => exact ae (zzb rfl) (by omega)); (conv => whnf))
    | ((refine af.a rfl rfl rfl rfl rfl rfl ?hb ?_); (case hb => exact zB); (conv => whnf))
    | ((refine af.b rfl rfl rfl rfl rfl rfl rfl rfl ?hb ?ho ?_); (case hb => exact zB); (case ho => omega); (conv => whnf))
    | ((refine af.c rfl rfl rfl rfl rfl ?hb ?_); (case hb => exact zB); (conv => whnf))
    | ((refine af.d rfl rfl rfl rfl rfl rfl ?hb ?ho ?_); (case hb => exact zB); (case ho => omega); (conv => whnf))
    | (with_reducible refine Or.inl ?_)
    | ((with_reducible refine nil_no (by omega) ?_); (conv => whnf))
    | ((with_reducible refine ag ?_ (fun hn0 => ?_)) <;> (conv => whnf))
    | ((with_reducible refine aa.pure (aW _) rfl rfl ?_); conv => whnf) | ((with_reducible refine ai.pure (aW _) rfl rfl ?_); conv => whnf)
    | ((with_reducible refine aa.pure (cU _ _) rfl rfl ?_); conv => whnf) | ((with_reducible refine ai.pure (cU _ _) rfl rfl ?_); conv => whnf)
    | ((refine aB (fun hc => ?_) (fun hc => ?_)) <;> (try simp only [decide_eq_true_eq, decide_eq_false_iff_not, Q5, Q20, Bool.and_eq_false_iff, Bool.or_eq_false_iff, Bool.not_eq_true', Bool.not_eq_false', beq_iff_eq, bne_iff_ne, ne_eq, beq_eq_false_iff_ne, bne_eq_false_iff_eq, Bool.not_eq_true, Bool.not_eq_false] at hc) <;> (try (exfalso; omega)) <;> (conv => whnf))))
    · exact .i (by rw [iJ, m0 (k := k) (by omega) (by simpa using hc)]; rfl)
    · refine ⟨k + 1, ⟨by omega, dK (by omega) hall (by simpa using hc)⟩, by dsimp only; omega, ?_⟩
      (refine Le.by [0] rfl rfl rfl rfl ?_ ?_ <;> (conv => whnf) <;> (repeat' (first | exact trivial | exact ab.rfl rfl | exact ab.ptr rfl | exact ab.sl rfl | ((with_reducible refine ab.fn ?_); (conv => whnf)) | ((refine ab.iref ?_); (conv => whnf)) | exact ⟨rfl, rfl, rfl⟩ | exact fun i hi => rfl | ((with_reducible refine And.intro ?_ ?_) <;> (conv => whnf)))))
    · rw [Q21 (by omega)] at hall
      exact .i (by rw [iJ, hall]; rfl)
theorem gF (T tau a b c : Int) : iJ T tau [a, b, c] = 0 ↔ ((1 ≤ T ∧ T ≤ 4611686018427387903) ∧ 0 ≤ tau ∧ tau ≤ 4611686018427387903) ∧ (0 ≤ a ∧ a ≤ 4611686018427387903) ∧ (0 ≤ b ∧ b ≤ 4611686018427387903) ∧ 0 ≤ c ∧ c ≤ 4611686018427387903 := by
  rw [← qu]; unfold iJ
  simp only [List.all_cons, List.all_nil, Bool.and_true, Q5, bv]
  split <;> omega
theorem ly (T tau a b : Int) : iJ T tau [a, b] = 0 ↔ ((1 ≤ T ∧ T ≤ 4611686018427387903) ∧ 0 ≤ tau ∧ tau ≤ 4611686018427387903) ∧ (0 ≤ a ∧ a ≤ 4611686018427387903) ∧ 0 ≤ b ∧ b ≤ 4611686018427387903 := by
  rw [← qu]; unfold iJ
  simp only [List.all_cons, List.all_nil, Bool.and_true, Q5, bv]
  split <;> omega
def fS (T tau tat now n : Int) : Ans := if iJ T tau [tat, now, n] = 0 then decI T tau tat now n else ⟨false, 0, 0, 0⟩
theorem fB (T tau tat now n : Int) : Pure TC 46 [.agg [.i .i64 T, .i .i64 tau], .i .i64 tat, .i .i64 now, .i .i64 n] (.tup [(fS T tau tat now n).S, .i .i64 (iJ T tau [tat, now, n])]) := by
  refine Pure.mk' Try.func46 rfl rfl (zzb rfl) ?_
  (repeat' (first
    | with_reducible refine Wp.seq ?_
    | with_reducible refine Wp.block ?_
    | ((with_reducible first | refine Wp.region ?_ | refine Wp.drawL ac ?_ | refine Wp.cond ?_ | refine Wp.ret ?_ | refine Wp.skip ?_ | refine Wp.exit ?_ | refine Go.mk ?_ | apply aA.of); conv => whnf)
    | with_reducible exact rfl
    | ((with_reducible refine Ov.ok zO ?_); conv => whnf)
    | (with_reducible refine Ov.sh1 (by with_unfolding_all exact rfl) ?_)
    | ((with_reducible refine Ov.quo (by omega) (by omega) (by omega) (fun _ _ => ?_)); conv => whnf)
    | ((with_reducible refine And.intro (show aj _ _ _ _ = true by kernel_rfl) ?_); conv => whnf)
    | ((with_reducible refine And.intro zC ?_); conv => whnf)
    | ((with_reducible refine And.intro ?hb ?_); (case hb => exact ae (zzb rfl) (by omega)); (conv => whnf))
    | ((refine af.a rfl rfl rfl rfl rfl rfl ?hb ?_); (case hb => exact zB); (conv => whnf))
    | ((refine af.b rfl rfl rfl rfl rfl rfl rfl rfl ?hb ?ho ?_); (case hb => exact zB); (case ho => omega); (conv => whnf))
    | ((refine af.c rfl rfl rfl rfl rfl ?hb ?_); (case hb => exact zB); (conv => whnf))
    | ((refine af.d rfl rfl rfl rfl rfl rfl ?hb ?ho ?_); (case hb => exact zB); (case ho => omega); (conv => whnf))
    | (with_reducible refine Or.inl ?_)
    | ((with_reducible refine nil_no (by omega) ?_); (conv => whnf))
    | ((with_reducible refine ag ?_ (fun hn0 => ?_)) <;> (conv => whnf))
    | ((with_reducible refine aa.pureI (gy T tau [tat, now, n]) rfl ?_); (conv => whnf); (repeat' ((with_reducible refine And.intro (by omega) ?_); (conv => whnf))); (refine And.intro (by (repeat' (first | exact Les.nil | with_reducible refine Les.cons ?_ ?_ | exact SV.Le.rfl _ | exact SV.Le.nil | exact SV.Le.sl (fun i hi => by (rcases i with _ | _ | _ | _ | i) <;> first | rfl | (exfalso; omega)) | exact SV.Le.sl (fun i hi => by simp [cM, ap, *])))) ?_); (conv => whnf))
    | ((with_reducible refine aa.pure (fA T tau tat now n (by omega) (by omega) (by omega) (by omega) (by omega) (by omega) (by omega) (by omega) (by omega) (by omega)) rfl rfl ?_); conv => whnf) | ((with_reducible refine ai.pure (fA T tau tat now n (by omega) (by omega) (by omega) (by omega) (by omega) (by omega) (by omega) (by omega) (by omega) (by omega)) rfl rfl ?_); conv => whnf)
    | ((refine aB (fun hc => ?_) (fun hc => ?_)) <;> (try simp only [decide_eq_true_eq, decide_eq_false_iff_not, Q5, Q20, Bool.and_eq_false_iff, Bool.or_eq_false_iff, Bool.not_eq_true', Bool.not_eq_false', beq_iff_eq, bne_iff_ne, ne_eq, beq_eq_false_iff_ne, bne_eq_false_iff_eq, Bool.not_eq_true, Bool.not_eq_false, gF] at hc) <;> (try (exfalso; omega)) <;> (conv => whnf))))
  · exact .of_eq (by rw [fS, if_neg (by rw [gF]; exact hc)]; rfl)
  · exact .of_eq (by rw [fS, if_pos (by rw [gF]; exact hc), (gF ..).2 hc]; rfl)
theorem jr (T tau tat now : Int) : Pure TC 44 [.agg [.i .i64 T, .i .i64 tau], .i .i64 tat, .i .i64 now] (.tup [.i .i64 (if iJ T tau [tat, now] = 0 then bj T tau tat now else 0), .i .i64 (iJ T tau [tat, now])]) := by
  refine Pure.mk' Try.func44 rfl rfl (zzb rfl) ?_
  (repeat' (first
    | with_reducible refine Wp.seq ?_
    | with_reducible refine Wp.block ?_
    | ((with_reducible first | refine Wp.region ?_ | refine Wp.drawL ac ?_ | refine Wp.cond ?_ | refine Wp.ret ?_ | refine Wp.skip ?_ | refine Wp.exit ?_ | refine Go.mk ?_ | apply aA.of); conv => whnf)
    | with_reducible exact rfl
    | ((with_reducible refine Ov.ok zO ?_); conv => whnf)
    | (with_reducible refine Ov.sh1 (by with_unfolding_all exact rfl) ?_)
    | ((with_reducible refine Ov.quo (by omega) (by omega) (by omega) (fun _ _ => ?_)); conv => whnf)
    | ((with_reducible refine And.intro (show aj _ _ _ _ = true by kernel_rfl) ?_); conv => whnf)
    | ((with_reducible refine And.intro zC ?_); conv => whnf)
    | ((with_reducible refine And.intro ?hb ?_); (case hb => exact ae (zzb rfl) (by omega)); (conv => whnf))
    | ((refine af.a rfl rfl rfl rfl rfl rfl ?hb ?_); (case hb => exact zB); (conv => whnf))
    | ((refine af.b rfl rfl rfl rfl rfl rfl rfl rfl ?hb ?ho ?_); (case hb => exact zB); (case ho => omega); (conv => whnf))
    | ((refine af.c rfl rfl rfl rfl rfl ?hb ?_); (case hb => exact zB); (conv => whnf))
    | ((refine af.d rfl rfl rfl rfl rfl rfl ?hb ?ho ?_); (case hb => exact zB); (case ho => omega); (conv => whnf))
    | (with_reducible refine Or.inl ?_)
    | ((with_reducible refine nil_no (by omega) ?_); (conv => whnf))
    | ((with_reducible refine ag ?_ (fun hn0 => ?_)) <;> (conv => whnf))
    | ((with_reducible refine aa.pureI (gy T tau [tat, now]) rfl ?_); (conv => whnf); (repeat' ((with_reducible refine And.intro (by omega) ?_); (conv => whnf))); (refine And.intro (by (repeat' (first | exact Les.nil | with_reducible refine Les.cons ?_ ?_ | exact SV.Le.rfl _ | exact SV.Le.nil | exact SV.Le.sl (fun i hi => by (rcases i with _ | _ | _ | _ | i) <;> first | rfl | (exfalso; omega)) | exact SV.Le.sl (fun i hi => by simp [cM, ap, *])))) ?_); (conv => whnf))
    | ((with_reducible refine aa.pure (dy T tau tat now (by omega) (by omega) (by omega) (by omega) (by omega) (by omega) (by omega) (by omega)) rfl rfl ?_); conv => whnf) | ((with_reducible refine ai.pure (dy T tau tat now (by omega) (by omega) (by omega) (by omega) (by omega) (by omega) (by omega) (by omega)) rfl rfl ?_); conv => whnf)
    | ((refine aB (fun hc => ?_) (fun hc => ?_)) <;> (try simp only [decide_eq_true_eq, decide_eq_false_iff_not, Q5, Q20, Bool.and_eq_false_iff, Bool.or_eq_false_iff, Bool.not_eq_true', Bool.not_eq_false', beq_iff_eq, bne_iff_ne, ne_eq, beq_eq_false_iff_ne, bne_eq_false_iff_eq, Bool.not_eq_true, Bool.not_eq_false, ly] at hc) <;> (try (exfalso; omega)) <;> (conv => whnf))))
  · exact .of_eq (by rw [if_neg (by rw [ly]; exact hc)])
  · exact .of_eq (by rw [if_pos (by rw [ly]; exact hc), (ly ..).2 hc])
end Go.Proofs.Ytpdhdnhkhidmpaa
