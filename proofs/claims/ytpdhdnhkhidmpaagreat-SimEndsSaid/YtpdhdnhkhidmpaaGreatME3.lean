/- Lemmas of Sx12b, Sx13, Sx14, Sx15. No condition. -/
import Derived.Test.YtpdhdnhkhidmpaaGreatME2
import Derived.Orders
set_option linter.unusedVariables false
set_option linter.unusedSimpArgs false
set_option maxHeartbeats 80000000
set_option maxRecDepth 100000
namespace Go.Proofs.YtpdhdnhkhidmpaaGreat
open Go.RowKit
section
structure Fresh (S : St) (F : Nat → Prop) (nx' : Nat) : Prop where
 le : S.nx ≤ nx'
 fr : ∀ (E E' : Env) (w : World), (∀ m, ¬ F m → E'.ρ m = E.ρ m ∧ E'.κ m = E.κ m) → E'.Im = E.Im → ∀ n v, RS E S.nx w (lk S.fr n) v → RS E' S.nx w (lk S.fr n) v
 hp : ∀ m b, lkh S.hp m = some b → ¬ F m ∧ ∀ (E E' : Env) (w : World), (∀ m, ¬ F m → E'.ρ m = E.ρ m ∧ E'.κ m = E.κ m) → E'.Im = E.Im → BS E S.nx w m b → BS E' S.nx w m b
open Classical in
theorem callP {O : Org} {E : Env} {S : St} {a : Act} {w : World} (hs : Sat O E S a w) {args : List SV} {m' : Nat} {args0 : List SV} {H H' : List (Nat × Option Blk)} {r : SV} (L : List Nat) {Pm : (Value → World → Prop) → Prop} (hmono : ∀ p q : Value → World → Prop, (∀ v w', p v w' → q v w') → Pm p → Pm q)
  (vs : Array Value) (hle : L.length ≤ m') (h : ∀ Ec : Env, lA Ec L.length H w → (∀ j (hj : j < args0.length), RS Ec L.length w args0[j] (vs.getD j undef)) → Pm fun v w' => ∃ E', Kq (HB Ec H) w w' ∧ (∀ l, l < L.length → E'.ρ l = Ec.ρ l ∧ E'.κ l = Ec.κ l) ∧ lA E' m' H' w' ∧ (∀ b, HB E' H' b → HB Ec H b ∨ w.heap.size ≤ b) ∧
   (∀ b, E'.Im b → Ec.Im b ∨ HB Ec H b ∨ w.heap.size ≤ b) ∧ (∀ b, Ec.Im b → E'.Im b) ∧ RS E' m' w' r v)
  (hd : bh L = true) (hlive : dD H L.length = true) (hkeys : dF H' L.length = true) (hlt : cq H' m' = true)
  (ha : a8 L args args0) (hh : aL S.hp L H) {F : Nat → Prop} {nx' : Nat} (hF : Fresh S F nx') (hFO : ∀ l, F l → O.nl ≤ l) (π : Nat → Nat) (hπ1 : ∀ i, i < L.length → π i = L.getD i 0) (hπF : ∀ i, L.length ≤ i → i < m' → F (π i) ∧ π i < nx') (hπinj : ∀ i j, i < m' → j < m' → π i = π j → i = j)
  (hsz : vs.size = args.length) (hargs : ∀ j (hj : j < args.length), RS E S.nx w args[j] (vs.getD j undef)) :
  Pm fun v w' => ∃ E', Sat O E' ⟨S.nt, nx', S.fr, aV π S.hp H'⟩ a w' ∧ RS E' nx' w' (m0 π r) v := by
 obtain ⟨ha1, ha2⟩ := ha.out
 let Ec : Env := ⟨fun i => E.ρ (L.getD i 0), fun i => E.κ (L.getD i 0), E.Im⟩
 have hblk : ∀ i b, lkh H i = some b → i < L.length ∧ (∃ b0, lkh S.hp (L.getD i 0) = some b0 ∧ (b.real (E.κ (L.getD i 0)) → b0.real (E.κ (L.getD i 0)))) ∧ BS Ec L.length w i b := by
  intro i b hb
  obtain ⟨g1, g2⟩ := hh.out i b hb
  unfold ly at g2
  split at g2
  ·rename_i cs cs' hl
   refine ⟨g1, ⟨_, hl, fun _ => trivial⟩, ?_⟩
   obtain ⟨us, T, k1, k2, k3⟩ := hs.hp _ _ hl
   obtain ⟨p1, p2⟩ := g2.out
   refine ⟨us, T, k1, by omega, fun j hj => ?_⟩
   obtain ⟨z, q1, q2⟩ := p2 j _ (Q0 hj)
   obtain ⟨q3, q4⟩ := Q3 q1
   have := k3 j q3
   rw [q4] at this
   exact ⟨q2.out _ _ _ _ this.1, this.2⟩
  ·rename_i e z n f e' z' n' f' hl
   obtain ⟨⟨rfl, rfl, rfl⟩, g3⟩ := g2
   refine ⟨g1, ⟨_, hl, fun h => h⟩, ?_⟩
   obtain ⟨k1, k2, k3, k4, k5⟩ := hs.hp _ _ hl
   refine ⟨k1, k2, k3, fun i hi => by rw [← g3 i hi]; exact k4 i hi, fun hk => ?_⟩
   obtain ⟨us, q1, q2, q3, q4⟩ := k5 hk
   refine ⟨us, q1, q2, q3, fun i j hi hj => ?_⟩
   have key : ∀ c : List D, c = f i → ∀ hj' : j < c.length, RD w E.Im c[j] (us.getD (i * z + j) undef) := by
    intro c hc hj'; subst hc; exact q4 i j hi hj'
   exact key _ (g3 i hi).symm hj
  ·obtain ⟨⟨b0, q1, q2⟩, q3⟩ := g2.bs rfl fun x hx => hs.hp _ x hx
   exact ⟨g1, ⟨b0, q1, fun hr => q2 _ _ hr⟩, q3⟩
  ·exact g2.elim
 have hS : lA Ec L.length H w := by
  refine ⟨fun i b hb => (hblk i b hb).2.2, fun i b hb => (hblk i b hb).1, fun i j b b' hi hj hr hr' hne => ?_, fun b hb => ⟨(hs.im b hb).1, fun i z hz hzr => ?_⟩⟩
  ·obtain ⟨g1, ⟨b0, g2, g3⟩, _⟩ := hblk i b hi
   obtain ⟨g4, ⟨b1, g5, g6⟩, _⟩ := hblk j b' hj
   exact hs.inj _ _ _ _ g2 g5 (g3 hr) (g6 hr') (bW hd g1 g4 hne)
  ·obtain ⟨g1, ⟨b0, g2, g3⟩, _⟩ := hblk i z hz
   exact (hs.im b hb).2.2 _ _ g2 (g3 hzr)
 have hLlt : ∀ i, i < L.length → L.getD i 0 < S.nx ∧ ¬ F (L.getD i 0) := fun i hi => by
  have := hlive
  unfold dD at this
  rw [Q23] at this
  obtain ⟨b, hb⟩ := Option.isSome_iff_exists.1 (this i (by simpa using hi))
  obtain ⟨_, ⟨b0, g2, _⟩, _⟩ := hblk i b hb
  exact ⟨hs.nx _ _ g2, (hF.hp _ _ g2).1⟩
 refine hmono _ _ ?_ (h Ec hS fun j hj => ?_)
 rotate_left
 ·obtain ⟨z, q1, q2⟩ := ha2 j _ (Q0 hj)
  obtain ⟨q3, q4⟩ := Q3 q1
  have := hargs j q3
  rw [q4] at this
  exact q2.out _ _ _ _ this
 rintro v w' ⟨E', hkq, hlab, hS', hnew, him, himo, hv⟩
 let E2 : Env := ⟨fun l => if hx : ∃ i, L.length ≤ i ∧ i < m' ∧ π i = l then E'.ρ (Classical.choose hx) else E.ρ l, fun l => if hx : ∃ i, L.length ≤ i ∧ i < m' ∧ π i = l then E'.κ (Classical.choose hx) else E.κ l, fun b => E.Im b ∨ E'.Im b⟩
 have hE2 : ∀ l, ¬ F l → E2.ρ l = E.ρ l ∧ E2.κ l = E.κ l := fun l hl => by
  have hno : ¬ ∃ i, L.length ≤ i ∧ i < m' ∧ π i = l := fun ⟨i, h1, h2, h3⟩ => hl (h3 ▸ (hπF i h1 h2).1)
  exact ⟨dif_neg hno, dif_neg hno⟩
 have hEπ : ∀ i, i < m' → E2.ρ (π i) = E'.ρ i ∧ E2.κ (π i) = E'.κ i := fun i hi => by
  by_cases hlt : i < L.length
  ·rw [hπ1 i hlt, (hE2 _ (hLlt i hlt).2).1, (hE2 _ (hLlt i hlt).2).2]
   obtain ⟨p1, p2⟩ := hlab i hlt
   exact ⟨p1.symm, p2.symm⟩
  ·have hx : ∃ j, L.length ≤ j ∧ j < m' ∧ π j = π i := ⟨i, by omega, hi, rfl⟩
   have hj := Classical.choose_spec hx
   have e1 : Classical.choose hx = i := hπinj _ _ hj.2.1 hi hj.2.2
   refine ⟨(dif_pos hx).trans (by rw [e1]), (dif_pos hx).trans (by rw [e1])⟩
 have hπlt : ∀ i, i < m' → π i < nx' := fun i hi => by
  by_cases hlt : i < L.length
  ·rw [hπ1 i hlt]; have := (hLlt i hlt).1; have := hF.le; omega
  ·exact (hπF i (by omega) hi).2
 have hkl : ∀ i, (∃ o, (i, o) ∈ H') → i < m' := fun i ⟨o, ho⟩ => by
  unfold cq at hlt
  rw [Q23] at hlt
  simpa using hlt _ ho
 have hbfr : ∀ n v, RS E S.nx w (lk S.fr n) v → RS ⟨E2.ρ, E2.κ, E.Im⟩ S.nx w (lk S.fr n) v := hF.fr E ⟨E2.ρ, E2.κ, E.Im⟩ w hE2 rfl
 have hbhp : ∀ l x, lkh S.hp l = some x → BS ⟨E2.ρ, E2.κ, E.Im⟩ S.nx w l x := fun l x hl => (hF.hp l x hl).2 E ⟨E2.ρ, E2.κ, E.Im⟩ w hE2 rfl (hs.hp l x hl)
 have hHB : ∀ b, HB Ec H b → ∃ i b0, i < L.length ∧ lkh S.hp (L.getD i 0) = some b0 ∧ b0.real (E.κ (L.getD i 0)) ∧ E.ρ (L.getD i 0) = b := by
  rintro b ⟨i, z, hz, hzr, rfl⟩
  obtain ⟨g1, ⟨b0, g2, g3⟩, _⟩ := hblk i z hz
  exact ⟨i, b0, g1, g2, g3 hzr, rfl⟩
 have hwi : ∀ b, E.Im b → w'.heap[b]? = w.heap[b]? := fun b hb => hkq.block b (hs.im b hb).1 (fun hx => by
  obtain ⟨i, b0, _, g2, g3, g4⟩ := hHB b hx
  exact (hs.im b hb).2.2 _ _ g2 g3 g4)
 have hsize := hkq.size
 have hlook : ∀ l x, lkh (aV π S.hp H') l = some x → (∃ i b, l = π i ∧ i < m' ∧ lkh H' i = some b ∧ x = rf π b) ∨ ((∀ i, i < L.length → l ≠ L.getD i 0) ∧ ¬ F l ∧ lkh S.hp l = some x) := by
  intro l x hx
  rcases fy (fun i j hi hj => hπinj i j (hkl i hi) (hkl j hj)) l x hx with ⟨i, b, h1, _, h3, h4⟩ | ⟨h1, h2⟩
  ·exact Or.inl ⟨i, b, h1, hS'.nx i b h3, h3, h4⟩
  ·refine Or.inr ⟨fun i hi => ?_, (hF.hp l x h2).1, h2⟩
   unfold dF at hkeys
   rw [Q23] at hkeys
   have := hkeys i (by simpa using hi)
   rw [List.any_eq_true] at this
   obtain ⟨p, hp1, hp2⟩ := this
   have hp3 := Q2 hp2
   obtain ⟨p1, p2⟩ := p
   simp only at hp3
   subst hp3
   rw [← hπ1 _ hi]
   exact h1 _ ⟨p2, hp1⟩
 have hold : ∀ l x, lkh S.hp l = some x → x.real (E.κ l) → (∀ i, i < L.length → l ≠ L.getD i 0) → ¬ HB Ec H (E.ρ l) := by
  intro l x hl hr hne hx
  obtain ⟨i, b0, g1, g2, g3, g4⟩ := hHB _ hx
  exact hs.inj l _ x b0 hl g2 hr g3 (hne i g1) g4.symm
 have hpost : ∀ i b, i < m' → lkh H' i = some b → (rf π b).real (E2.κ (π i)) → HB E' H' (E2.ρ (π i)) := by
  intro i b hi hb hr
  rw [(hEπ i hi).1]
  rw [bK, (hEπ i hi).2] at hr
  exact ⟨i, b, hb, hr, rfl⟩
 have hpostown : ∀ b, HB E' H' b → (∃ i b0, i < L.length ∧ lkh S.hp (L.getD i 0) = some b0 ∧ b0.real (E.κ (L.getD i 0)) ∧ E.ρ (L.getD i 0) = b) ∨ w.heap.size ≤ b := by
  intro b hb
  rcases hnew b hb with h9 | h9
  ·exact Or.inl (hHB b h9)
  ·exact Or.inr h9
 have hw0 := hs.kq.size
 refine ⟨E2, ?_, ?_⟩
 ·refine ⟨fun n => RS.mono (E := ⟨E2.ρ, E2.κ, E.Im⟩) (fun _ _ => ⟨rfl, rfl⟩) hF.le (fun b hb => Or.inl hb) hwi (hbfr n _ (hs.fr n)), hs.nt, hs.df, ?_, ?_, ?_, ?_, ?_, ?_, ?_, by have := hs.nl; have := hF.le; simp only; omega, fun b hb => Or.inl (hs.imo b hb)⟩
  ·intro l x hx
   rcases hlook l x hx with ⟨i, b, rfl, hi, hb, rfl⟩ | ⟨hne, hlx, hl⟩
   ·exact rc (E := E') (E' := E2) (nx := m') (fun l hl => hEπ l hl) (fun l hl => hπlt l hl) (fun b hb => Or.inr hb) hi (hS'.hp i b hb)
   ·exact BS.mono (E := ⟨E2.ρ, E2.κ, E.Im⟩) (hs.nx l x hl) (fun _ _ => ⟨rfl, rfl⟩) hF.le (fun b hb => Or.inl hb) hwi (fun hr => by simp only at hr ⊢; rw [(hE2 l hlx).1]; rw [(hE2 l hlx).2] at hr; exact hkq.block _ ((hs.hp l x hl).lt hr) (hold l x hl hr hne)) (hbhp l x hl)
  ·intro l x hx
   rcases hlook l x hx with ⟨i, b, rfl, hi, hb, rfl⟩ | ⟨hne, hlx, hl⟩
   ·exact hπlt i hi
   ·have := hs.nx l x hl; have := hF.le; simp only; omega
  ·intro l l' x x' hx hx' hr hr' hne
   rcases hlook l x hx with ⟨i, b, rfl, hi, hb, rfl⟩ | ⟨hn1, hlx, hl⟩ <;> rcases hlook l' x' hx' with ⟨j, b', rfl, hj, hb', rfl⟩ | ⟨hn2, hlx', hl'⟩
   ·rw [(hEπ i hi).1, (hEπ j hj).1]
    rw [bK, (hEπ i hi).2] at hr
    rw [bK, (hEπ j hj).2] at hr'
    exact hS'.inj i j b b' hb hb' hr hr' (fun e => hne (by rw [e]))
   ·have h1 := hpostown _ (hpost i b hi hb hr)
    rw [(hE2 l' hlx').1]
    rw [(hE2 l' hlx').2] at hr'
    rcases h1 with ⟨q, b0, g1, g2, g3, g4⟩ | h1
    ·rw [← g4]; exact hs.inj _ _ _ _ g2 hl' g3 hr' (fun e => hn2 q g1 e.symm)
    ·have := (hs.hp l' x' hl').lt hr'; omega
   ·have h1 := hpostown _ (hpost j b' hj hb' hr')
    rw [(hE2 l hlx).1]
    rw [(hE2 l hlx).2] at hr
    rcases h1 with ⟨q, b0, g1, g2, g3, g4⟩ | h1
    ·rw [← g4]; exact hs.inj _ _ _ _ hl g2 hr g3 (hn1 q g1)
    ·have := (hs.hp l x hl).lt hr; omega
   ·rw [(hE2 l hlx).1, (hE2 l' hlx').1]
    rw [(hE2 l hlx).2] at hr
    rw [(hE2 l' hlx').2] at hr'
    exact hs.inj l l' x x' hl hl' hr hr' hne
  ·rintro b (hb | hb)
   ·obtain ⟨k1, k2, k3⟩ := hs.im b hb
    refine ⟨by omega, k2, fun l x hx hr => ?_⟩
    rcases hlook l x hx with ⟨i, b', rfl, hi, hb', rfl⟩ | ⟨hne, hlx, hl⟩
    ·rcases hpostown _ (hpost i b' hi hb' hr) with ⟨q, b0, g1, g2, g3, g4⟩ | h1
     ·rw [← g4]; exact k3 _ _ g2 g3
     ·omega
    ·rw [(hE2 l hlx).1]; rw [(hE2 l hlx).2] at hr; exact k3 l x hl hr
   ·obtain ⟨k1, k2⟩ := hS'.im b hb
    have hb3 := him b hb
    refine ⟨k1, ?_, fun l x hx hr => ?_⟩
    ·rcases hb3 with h9 | h9 | h9
     ·exact (hs.im b h9).2.1
     ·obtain ⟨q, b0, g1, g2, g3, g4⟩ := hHB b h9
      rcases hs.own _ _ g2 g3 with h8 | h8
      ·exact Or.inr (Or.inr (g4 ▸ h8))
      ·exact Or.inl (by omega)
     ·exact Or.inl (by omega)
    ·rcases hlook l x hx with ⟨i, b', rfl, hi, hb', rfl⟩ | ⟨hne, hlx, hl⟩
     ·rw [(hEπ i hi).1]
      rw [bK, (hEπ i hi).2] at hr
      exact k2 i b' hb' hr
     ·rw [(hE2 l hlx).1]
      rw [(hE2 l hlx).2] at hr
      rcases hb3 with h9 | h9 | h9
      ·exact (hs.im b h9).2.2 l x hl hr
      ·intro e; exact hold l x hl hr hne (e ▸ h9)
      ·have := (hs.hp l x hl).lt hr; omega
  ·intro l x hx hr
   rcases hlook l x hx with ⟨i, b, rfl, hi, hb, rfl⟩ | ⟨hne, hlx, hl⟩
   ·rcases hpostown _ (hpost i b hi hb hr) with ⟨q, b0, g1, g2, g3, g4⟩ | h1
    ·rw [← g4]; exact hs.own _ _ g2 g3
    ·exact Or.inr (by omega)
   ·rw [(hE2 l hlx).1]; rw [(hE2 l hlx).2] at hr; exact hs.own l x hl hr
  ·exact hs.kq.trans' hkq fun b hb hlt => by
    obtain ⟨q, b0, g1, g2, g3, g4⟩ := hHB b hb
    rcases hs.own _ _ g2 g3 with h8 | h8
    ·exact g4 ▸ h8
    ·omega
  ·intro l hl
   have := hs.nl
   obtain ⟨h1, h2⟩ := hE2 l (fun hf => by have := hFO l hf; omega)
   rw [h1, h2]; exact hs.lab l hl
 ·exact rh (E := E') (E' := E2) (nx := m') (fun l hl => hEπ l hl) (fun l hl => hπlt l hl) (fun b hb => Or.inr hb) hv
theorem Fun.callG {C : Cx} {O : Org} {E : Env} {S : St} {a : Act} {w : World} (hs : Sat O E S a w) {g : Nat} {args : List SV} {m' : Nat} {args0 : List SV} {H H' : List (Nat × Option Blk)} {r : SV} (L : List Nat) (h : Fun C g L.length args0 H m' r H') (hd : bh L = true) (hlive : dD H L.length = true) (hkeys : dF H' L.length = true) (hlt : cq H' m' = true)
  (ha : a8 L args args0) (hh : aL S.hp L H) {F : Nat → Prop} {nx' : Nat} (hF : Fresh S F nx') (hFO : ∀ l, F l → O.nl ≤ l) (π : Nat → Nat) (hπ1 : ∀ i, i < L.length → π i = L.getD i 0) (hπF : ∀ i, L.length ≤ i → i < m' → F (π i) ∧ π i < nx') (hπinj : ∀ i j, i < m' → j < m' → π i = π j → i = j)
  (vs : Array Value) (hsz : vs.size = args.length) (hargs : ∀ j (hj : j < args.length), RS E S.nx w args[j] (vs.getD j undef)) :
  Calls C.P g vs w fun e w' => ∃ v E', e = .returned v ∧ Sat O E' ⟨S.nt, nx', S.fr, aV π S.hp H'⟩ a w' ∧ RS E' nx' w' (m0 π r) v := by
 have := callP hs L (Pm := fun p => Calls C.P g vs w fun e w' => ∃ v, e = .returned v ∧ p v w') (m' := m') (H' := H') (r := r) (args := args) (args0 := args0) (fun p q hpq hc => hc.mono fun e w' ⟨v, h1, h2⟩ => ⟨v, h1, hpq v w' h2⟩) vs h.le
  (fun Ec hS hr => (h.out Ec w vs hS (by rw [hsz]; exact ha.out.1) hr).mono fun e w' ⟨v, E', h1, h2⟩ => ⟨v, h1, E', h2⟩) hd hlive hkeys hlt ha hh hF hFO π hπ1 hπF hπinj hsz hargs
 exact this.mono fun e w' ⟨v, h1, E', h2⟩ => ⟨v, E', h1, h2⟩
structure nQ (C : Cx) (t m : Nat) (x y : SV) (H : List (Nat × Option Blk)) (m' : Nat) (r : SV) (H' : List (Nat × Option Blk)) : Prop where
 le : m ≤ m'
 out : ∀ (E : Env) (w : World) (ty : Nat) (u v : Value), lA E m H w → RS E m w x u → RS E m w y v → ∃ z w', (Builtin.append_ #[t, t] ty #[u, v]).run C.P w = .ok z w' ∧ ∃ E', Kq (HB E H) w w' ∧ (∀ l, l < m → E'.ρ l = E.ρ l ∧ E'.κ l = E.κ l) ∧ lA E' m' H' w' ∧ (∀ b, HB E' H' b → HB E H b ∨ w.heap.size ≤ b) ∧
   (∀ b, E'.Im b → E.Im b ∨ HB E H b ∨ w.heap.size ≤ b) ∧ (∀ b, E.Im b → E'.Im b) ∧ RS E' m' w' r z
theorem nQ.of {C : Cx} {t m m' : Nat} {x y r : SV} {H H' : List (Nat × Option Blk)} (hmm : m ≤ m') (h : dJ C ⟨⟨0, m⟩, m, [], H⟩ t x y fun S' r0 => af m S' r0 m' r H') : nQ C t m x y H m' r H' := by
 refine ⟨hmm, fun E w ty u v hS hu hv => ?_⟩
 let O : Org := ⟨w, HB E H, E.Im, m, E.ρ, E.κ⟩
 have hs : Sat O E ⟨⟨0, m⟩, m, [], H⟩ { tmps := #[], defers := [] } w :=
  ⟨fun n => .any _, ⟨rfl, rfl⟩, rfl, hS.hp, hS.nx, hS.inj, fun b hb => ⟨(hS.im b hb).1, Or.inr (Or.inl hb), (hS.im b hb).2⟩, fun l b hb hr => Or.inl ⟨l, b, hb, hr, rfl⟩, Kq.refl _ _, fun l _ => ⟨rfl, rfl⟩, Q4 _, fun b hb => hb⟩
 obtain ⟨z, w', E1, S', x1, h1, h2, hs', h4⟩ := jV (ty := ty) hs hu hv h
 obtain ⟨E2, k1, k2, k3, k4, k5, k6⟩ := h2.out O E1 _ w' _ rfl hs' h4
 have hown : ∀ b, HB E1 S'.hp b → HB E H b ∨ w.heap.size ≤ b := by
  rintro b ⟨l, x, hl, hr, rfl⟩
  exact hs'.own l x hl hr
 refine ⟨z, w', h1, E2, hs'.kq, fun l hl => ?_, k1, fun b hb => hown b (k3 b hb), fun b hb => ?_, fun b hb => k5 b (hs'.imo b hb), k6⟩
 ·obtain ⟨p1, p2⟩ := hs'.lab l hl
  obtain ⟨p3, p4⟩ := k2 l hl
  exact ⟨p3.trans p1, p4.trans p2⟩
 ·rcases k4 b hb with hb | hb
  ·obtain ⟨q1, q2, -⟩ := hs'.im b hb
   rcases q2 with q2 | q2 | q2
   ·exact Or.inr (Or.inr q2)
   ·exact Or.inl q2
   ·exact Or.inr (Or.inl q2)
  ·exact Or.inr (hown b hb)
theorem nQ.a {C : Cx} {t z n m e : Nat} {f g : Nat → List D} {i j : TI} (hi : C.tt t = some i) (hk : i.k = .slice e) (hj : C.tt e = some j) (hz : j.size = z) (hc : (Nat.blt 0 j.size && Nat.blt 0 j.bytes && Nat.beq j.zero.length j.size) = true) (hb : (n + m) * j.bytes ≤ 140737488355328) :
  nQ C t 1 (.sl 0 z 0 n) (.d (.sl z m g)) [(0, some (.row e z n f))] 2 (.sl 1 z 0 (n + m)) [(0, none), (1, some (.row e z (n + m) (bG n f g)))] := by
 subst hz
 refine .of (by omega) ?_
 have hr : ∀ q, Nat.beq q q = true := fun q => by simp
 simp only [dJ, hi, hk, hj, hc, cond_true, pN, lD, aj, if_true, hr, Bool.and_self, true_and]
 refine ⟨hb, af.of [0, 1] rfl (fun i hi => by obtain rfl : i = 0 := (by omega); rfl) rfl ?_ ?_⟩
 ·exact .rfl _
 ·exact ⟨⟨⟨rfl, rfl, rfl⟩, fun i hi => rfl⟩, trivial⟩
theorem nQ.b {C : Cx} {t z n m e o m2 e2 : Nat} {f f2 : Nat → List D} {i j : TI} (hi : C.tt t = some i) (hk : i.k = .slice e) (hj : C.tt e = some j) (hz : j.size = z) (hc : (Nat.blt 0 j.size && Nat.blt 0 j.bytes && Nat.beq j.zero.length j.size) = true) (hb : (n + m) * j.bytes ≤ 140737488355328) (ho : o + m ≤ m2) :
  nQ C t 2 (.sl 0 z 0 n) (.sl 1 z o m) [(0, some (.row e z n f)), (1, some (.row e2 z m2 f2))] 3 (.sl 2 z 0 (n + m)) [(0, none), (1, some (.row e2 z m2 f2)), (2, some (.row e z (n + m) (bG n f fun i => f2 (o + i))))] := by
 subst hz
 refine .of (by omega) ?_
 have hr : ∀ q, Nat.beq q q = true := fun q => by simp
 have e1 : (0 : Nat) ≠ 1 := by omega
 simp only [dJ, hi, hk, hj, hc, cond_true, pN, lD, aj, if_true, if_neg e1, hr, Bool.and_self, true_and]
 refine ⟨ho, hb, af.of [0, 1, 2] rfl (fun i hi => by have : i = 0 ∨ i = 1 := (by omega); rcases this with h | h <;> subst h <;> rfl) rfl ?_ ?_⟩
 ·exact .rfl _
 ·exact ⟨⟨⟨rfl, rfl, rfl⟩, fun i hi => rfl⟩, ⟨⟨rfl, rfl, rfl⟩, fun i hi => rfl⟩, trivial⟩
theorem nQ.c {C : Cx} {t z m e : Nat} {g : Nat → List D} {i j : TI} (hi : C.tt t = some i) (hk : i.k = .slice e) (hj : C.tt e = some j) (hz : j.size = z) (hc : (Nat.blt 0 j.size && Nat.blt 0 j.bytes && Nat.beq j.zero.length j.size) = true) (hb : (0 + m) * j.bytes ≤ 140737488355328) :
  nQ C t 0 (.d (.val (.slice none 0 0))) (.d (.sl z m g)) [] 1 (.sl 0 z 0 (0 + m)) [(0, some (.row e z (0 + m) (bG 0 (fun _ => []) g)))] := by
 subst hz
 refine .of (by omega) ?_
 have hr : ∀ q, Nat.beq q q = true := fun q => by simp
 simp only [dJ, hi, hk, hj, hc, cond_true, pN, lD, hr]
 refine ⟨hb, af.of [0] rfl (fun i hi => by omega) rfl ?_ ?_⟩
 ·exact .rfl _
 ·exact ⟨⟨⟨rfl, rfl, rfl⟩, fun i hi => rfl⟩, trivial⟩
theorem nQ.d {C : Cx} {t z m e o m2 e2 : Nat} {f2 : Nat → List D} {i j : TI} (hi : C.tt t = some i) (hk : i.k = .slice e) (hj : C.tt e = some j) (hz : j.size = z) (hc : (Nat.blt 0 j.size && Nat.blt 0 j.bytes && Nat.beq j.zero.length j.size) = true) (hb : (0 + m) * j.bytes ≤ 140737488355328) (ho : o + m ≤ m2) :
  nQ C t 1 (.d (.val (.slice none 0 0))) (.sl 0 z o m) [(0, some (.row e2 z m2 f2))] 2 (.sl 1 z 0 (0 + m)) [(0, some (.row e2 z m2 f2)), (1, some (.row e z (0 + m) (bG 0 (fun _ => []) fun i => f2 (o + i))))] := by
 subst hz
 refine .of (by omega) ?_
 have hr : ∀ q, Nat.beq q q = true := fun q => by simp
 simp only [dJ, hi, hk, hj, hc, cond_true, pN, lD, aj, if_true, hr, Bool.and_self]
 refine ⟨ho, hb, af.of [0, 1] rfl (fun i hi => by obtain rfl : i = 0 := (by omega); rfl) rfl ?_ ?_⟩
 ·exact .rfl _
 ·exact ⟨⟨⟨rfl, rfl, rfl⟩, fun i hi => rfl⟩, ⟨⟨rfl, rfl, rfl⟩, fun i hi => rfl⟩, trivial⟩
end
section
structure Ef where
 val : SV
 ed : List (Nat × Option Blk)
 rd : List Nat
def fY (C : Cx) (S : St) (t : Nat) : SV → SV → (Nat → Blk → Prop) → Prop
 | .ptr l off, x, k => match C.tt t, lkh S.hp l with
  | some i, some (.cells cs) => cu x fun vs => bif Nat.beq vs.length i.size then i3 cs off vs fun cs' => k l (.cells cs') else False
  | some i, some (.cf m n g) => bif Nat.beq i.size 1 then cu x (fun vs => match vs with
   | [v] => SV.Lt m v ∧ At off fun o => o < n ∧ k l (.cf m n fun j => bif Nat.beq j o then v else g j)
   | _ => False) else False
  | _, _ => False
 | .rp l esz q off, x, k => match C.tt t, lkh S.hp l with
  | some i, some (.row e z n f) => bif Nat.beq esz z then q < n ∧ cu x (fun vs => bif Nat.beq vs.length i.size then fp vs (fun ds => cB (f q) off ds fun cs' => k l (.row e z n fun j => if j = q then cs' else f j)) else False) else False
  | _, _ => False
 | _, _, _ => False
theorem fS {x : SV} {k k' : List SV → Prop} (h : ∀ r, k r → k' r) (hk : cu x k) : cu x k' := by cases x <;> first | exact h _ hk | exact hk.elim
theorem j6 : ∀ (cs : List SV) (o : Nat) (vs : List SV) (k k' : List SV → Prop), (∀ r, k r → k' r) → i3 cs o vs k → i3 cs o vs k'
 | [], 0, [], k, k', h, hk => by simp only [i3] at hk ⊢; exact h _ hk
 | _ :: _, 0, [], k, k', h, hk => by simp only [i3] at hk ⊢; exact h _ hk
 | c :: cs, 0, v :: vs, k, k', h, hk => by simp only [i3] at hk ⊢; exact j6 cs 0 vs _ _ (fun r => h _) hk
 | c :: cs, n + 1, vs, k, k', h, hk => by cases vs <;> (simp only [i3] at hk ⊢; exact j6 cs n _ _ _ (fun r => h _) hk)
 | [], 0, v :: vs, k, k', h, hk => by simp [i3] at hk
 | [], n + 1, vs, k, k', h, hk => by cases vs <;> simp [i3] at hk
theorem g9 : ∀ (cs : List D) (o : Nat) (vs : List D) (k k' : List D → Prop), (∀ r, k r → k' r) → cB cs o vs k → cB cs o vs k'
 | [], 0, [], k, k', h, hk => by simp only [cB] at hk ⊢; exact h _ hk
 | _ :: _, 0, [], k, k', h, hk => by simp only [cB] at hk ⊢; exact h _ hk
 | c :: cs, 0, v :: vs, k, k', h, hk => by simp only [cB] at hk ⊢; exact g9 cs 0 vs _ _ (fun r => h _) hk
 | c :: cs, n + 1, vs, k, k', h, hk => by cases vs <;> (simp only [cB] at hk ⊢; exact g9 cs n _ _ _ (fun r => h _) hk)
 | [], 0, v :: vs, k, k', h, hk => by simp [cB] at hk
 | [], n + 1, vs, k, k', h, hk => by cases vs <;> simp [cB] at hk
theorem pe : ∀ (vs : List SV) (k k' : List D → Prop), (∀ r, k r → k' r) → fp vs k → fp vs k'
 | [], k, k', h, hk => by simp only [fp] at hk ⊢; exact h _ hk
 | .d x :: r, k, k', h, hk => by simp only [fp] at hk ⊢; exact pe r _ _ (fun r => h _) hk
 | .any :: r, k, k', h, hk => by simp [fp] at hk
 | .ptr _ _ :: r, k, k', h, hk => by simp [fp] at hk
 | .rp _ _ _ _ :: r, k, k', h, hk => by simp [fp] at hk
 | .sl _ _ _ _ :: r, k, k', h, hk => by simp [fp] at hk
 | .agg _ :: r, k, k', h, hk => by simp [fp] at hk
 | .tup _ :: r, k, k', h, hk => by simp [fp] at hk
 | .fn _ _ :: r, k, k', h, hk => by simp [fp] at hk
 | .iref _ _ :: r, k, k', h, hk => by simp [fp] at hk
theorem ug {C : Cx} {S : St} {t : Nat} {x y : SV} {k : Nat → Blk → Prop} {k' : St → Prop} (h : ∀ l b, k l b → k' (S.seth l (some b))) (hk : fY C S t x y k) : jf C S t x y k' := by
 cases x with
 | ptr l off =>
  simp only [fY, jf] at hk ⊢
  split at hk
  ·rename_i i cs hi hl
   rw [hi, hl]
   refine fS (fun r hr => ?_) hk
   cases hz : Nat.beq r.length i.size with
   | false => simp [hz] at hr
   | true => simp only [hz, cond_true] at hr ⊢; exact j6 _ _ _ _ _ (fun q => h _ _) hr
  ·rename_i i m n g hi hl
   rw [hi, hl]
   cases hz : Nat.beq i.size 1 with
   | false => simp [hz] at hk
   | true =>
    simp only [hz, cond_true] at hk ⊢
    refine fS (fun r hr => ?_) hk
    split at hr
    ·exact ⟨hr.1, ⟨hr.2.out.1, h _ _ hr.2.out.2⟩⟩
    ·exact hr.elim
  ·exact hk.elim
 | rp l esz q off =>
  simp only [fY, jf] at hk ⊢
  split at hk
  ·rename_i i e z n f hi hl
   rw [hi, hl]
   cases hz : Nat.beq esz z with
   | false => simp [hz] at hk
   | true =>
    simp only [hz, cond_true] at hk ⊢
    refine ⟨hk.1, fS (fun r hr => ?_) hk.2⟩
    cases hz2 : Nat.beq r.length i.size with
    | false => simp [hz2] at hr
    | true =>
     simp only [hz2, cond_true] at hr ⊢
     exact pe _ _ _ (fun ds => g9 _ _ _ _ _ (fun q => h _ _)) hr
  ·exact hk.elim
 | _ => exact hk.elim
def Inv (S : St) (l : Nat) : Prop := ∀ (E E' : Env) (w : World), (∀ m, m ≠ l → E'.ρ m = E.ρ m ∧ E'.κ m = E.κ m) → E'.Im = E.Im →
 (∀ n v, RS E S.nx w (lk S.fr n) v → RS E' S.nx w (lk S.fr n) v) ∧ (∀ m b, lkh S.hp m = some b → m ≠ l ∧ (BS E S.nx w m b → BS E' S.nx w m b))
def πn (L : List Nat) (ln i : Nat) : Nat := bif Nat.blt i L.length then L.getD i 0 else ln
theorem ab.fresh {C : Cx} {S : St} {ln g : Nat} {args : List SV} {k : St → SV → Prop} {args0 : List SV} {H H' : List (Nat × Option Blk)} {r : SV} (L : List Nat) (h : Fun C g L.length args0 H (L.length + 1) r H') (hd : bh L = true) (hlive : dD H L.length = true) (hkeys : dF H' L.length = true) (hlt : cq H' (L.length + 1) = true)
    (ha : a8 L args args0) (hh : aL S.hp L H) (hinv : Inv S ln) (hm : S.nt.m ≤ ln) (hl : ln < S.nx) (hk : k ⟨S.nt, S.nx, S.fr, aV (πn L ln) S.hp H'⟩ (m0 (πn L ln) r)) : ab C S g args k := by
  refine ⟨h.ent, fun O E a w vs hs hsz hargs => ?_⟩
  have hO := hs.nt.2
  have hLn : ∀ i, i < L.length → L.getD i 0 ≠ ln := fun i hi => by
    have := hlive
    unfold dD at this
    rw [Q23] at this
    obtain ⟨b, hb⟩ := Option.isSome_iff_exists.1 (this i (by simpa using hi))
    obtain ⟨g1, g2⟩ := hh.out i b hb
    cases hq : lkh S.hp (L.getD i 0) with
    | none => rw [hq] at g2; cases b <;> exact (show False from g2).elim
    | some b0 => exact ((hinv E E w (fun _ _ => ⟨rfl, rfl⟩) rfl).2 _ _ hq).1
  have hπ1 : ∀ i, i < L.length → πn L ln i = L.getD i 0 := fun i hi => by
    have hb : Nat.blt i L.length = true := by simpa using hi
    unfold πn; rw [hb]; rfl
  have hπ2 : ∀ i, L.length ≤ i → πn L ln i = ln := fun i hi => by
    unfold πn
    cases hb : Nat.blt i L.length with
    | true => have : i < L.length := by simpa using hb
              omega
    | false => rfl
  refine (Fun.callG hs L h hd hlive hkeys hlt ha hh (F := fun l => l = ln) (nx' := S.nx) ⟨Q4 _, fun E E' w hρ hI => (hinv E E' w hρ hI).1, fun m b hb => ⟨((hinv E E w (fun _ _ => ⟨rfl, rfl⟩) rfl).2 m b hb).1, fun E E' w hρ hI => ((hinv E E' w hρ hI).2 m b hb).2⟩⟩ (fun l hl => by subst hl; omega) (πn L ln) hπ1 (fun i h1 h2 => ⟨hπ2 i h1, by rw [hπ2 i h1]; exact hl⟩) (fun i j hi hj e => ?_) vs hsz hargs).mono ?_
  · by_cases h1 : i < L.length <;> by_cases h2 : j < L.length
    · rw [hπ1 i h1, hπ1 j h2] at e
      exact Classical.byContradiction fun hne => bW hd h1 h2 hne e
    · rw [hπ1 i h1, hπ2 j (by omega)] at e; exact absurd e (hLn i h1)
    · rw [hπ2 i (by omega), hπ1 j h2] at e; exact absurd e.symm (hLn j h2)
    · omega
  · rintro e w' ⟨v, E', rfl, h1, h2⟩
    exact ⟨v, E', _, _, rfl, hk, h1, h2⟩
def i4 (P hp : List (Nat × Option Blk)) : List Nat → Prop
 | [] => True
 | l :: r => lkh P l = lkh hp l ∧ i4 P hp r
theorem lQ {P hp : List (Nat × Option Blk)} : ∀ {K : List Nat}, i4 P hp K → ∀ l ∈ K, lkh P l = lkh hp l
 | [], _, l, hl => by simp at hl
 | k :: r, ⟨h1, h2⟩, l, hl => by
  rcases Q22 hl with rfl | hl
  ·exact h1
  ·exact lQ h2 l hl
def memN (l : Nat) : List Nat → Bool
 | [] => false
 | k :: r => bif Nat.beq k l then true else memN l r
theorem gA {l : Nat} : ∀ {K : List Nat}, memN l K = true ↔ l ∈ K
 | [] => by simp [memN]
 | k :: r => by
  unfold memN
  cases h : Nat.beq k l with
  | true => obtain rfl := Q2 h; simp
  | false =>
   have hne : ¬ l = k := fun e => by subst e; simp at h
   simp only [cond_false, List.mem_cons, hne, false_or]; exact gA
def fP (K : List Nat) : List (Nat × Option Blk) → List (Nat × Option Blk)
 | [] => []
 | (l, ob) :: r => bif memN l K then fP K r else (l, ob) :: fP K r
theorem fO {K : List Nat} {hp : List (Nat × Option Blk)} (l : Nat) : ∀ (P : List (Nat × Option Blk)), (l ∈ K → lkh (fP K P ++ hp) l = lkh hp l) ∧ (¬ l ∈ K → lkh (fP K P ++ hp) l = lkh (P ++ hp) l)
 | [] => ⟨fun _ => rfl, fun _ => rfl⟩
 | (m, ob) :: r => by
  obtain ⟨h1, h2⟩ := fO (hp := hp) (K := K) l r
  unfold fP
  cases hm : memN m K with
  | true =>
   simp only [cond_true]
   refine ⟨h1, fun hn => ?_⟩
   rw [h2 hn, List.cons_append, aj, if_neg (fun (e : m = l) => hn (e ▸ gA.1 hm))]
  | false =>
   simp only [cond_false, List.cons_append, aj]
   refine ⟨fun hl => ?_, fun hn => by rw [h2 hn]⟩
   rw [if_neg (fun (e : m = l) => by rw [e, gA.2 hl] at hm; cases hm)]; exact h1 hl
theorem d6 {K : List Nat} {l : Nat} {o : Option Blk} : ∀ {P : List (Nat × Option Blk)}, (l, o) ∈ P → l ∈ K ∨ (l, o) ∈ fP K P
 | (m, ob) :: r, h => by
  unfold fP
  cases hm : memN m K with
  | true =>
   simp only [cond_true]
   rcases Q22 h with h | h
   ·cases h; exact Or.inl (gA.1 hm)
   ·exact d6 h
  | false =>
   simp only [cond_false]
   rcases Q22 h with h | h
   ·exact Or.inr (by simp [h])
   ·exact (d6 (P := r) h).imp id fun h => by simp [h]
open Classical in
theorem oz : ∀ (e hp : List (Nat × Option Blk)) (l : Nat), lkh (e ++ hp) l = if (∃ o, (l, o) ∈ e) then lkh e l else lkh hp l
 | [], hp, l => by simp
 | (m, ob) :: r, hp, l => by
  rw [List.cons_append, aj, aj, oz r hp l]
  by_cases h : m = l
  ·subst h; rw [if_pos rfl, if_pos ⟨ob, by simp⟩, if_pos rfl]
  ·rw [if_neg h, if_neg h]
   by_cases h2 : ∃ o, (l, o) ∈ r
   ·rw [if_pos h2, if_pos (by obtain ⟨o, ho⟩ := h2; exact ⟨o, by simp [ho]⟩)]
   ·rw [if_neg h2, if_neg (by
     rintro ⟨o, ho⟩
     rcases Q22 ho with ho | ho
     ·cases ho; exact h rfl
     ·exact h2 ⟨o, ho⟩)]
theorem oW {K : List Nat} {P hp : List (Nat × Option Blk)} (h : i4 P hp K) (l : Nat) : lkh (P ++ hp) l = lkh (fP K P ++ hp) l := by
 by_cases hl : l ∈ K
 ·rw [(fO l P).1 hl, oz]
  split
  ·exact lQ h l hl
  ·rfl
 ·rw [(fO l P).2 hl]
structure ag (C : Cx) (S : St) (ln g : Nat) (args : List SV) (k : SV → List (Nat × Option Blk) → List Nat → Prop) : Prop where
 out : (∃ r, Pure C g args r ∧ args.all SV.free = true ∧ r.free = true ∧ k r [] []) ∨
  (∃ L args0 H H' r K, Fun C g L.length args0 H L.length r H' ∧ bh L = true ∧ dD H L.length = true ∧ dF H' L.length = true ∧ cq H' L.length = true ∧ a8 L args args0 ∧ aL S.hp L H ∧
   i4 (aV (πf L S.nx) [] H') S.hp K ∧ k (m0 (πf L S.nx) r) (fP K (aV (πf L S.nx) [] H')) K) ∨
  (∃ L args0 H H' r K, Fun C g L.length args0 H (L.length + 1) r H' ∧ bh L = true ∧ dD H L.length = true ∧ dF H' L.length = true ∧ cq H' (L.length + 1) = true ∧ a8 L args args0 ∧ aL S.hp L H ∧
   i4 (aV (πn L ln) [] H') S.hp K ∧ k (m0 (πn L ln) r) (fP K (aV (πn L ln) [] H')) K) ∨
  (∃ m r, Fun C g m args [] m r [] ∧ SV.ltB S.nx r = true ∧ Nat.ble S.nx m = true ∧ k r [] [])
theorem ag.funM {C : Cx} {S : St} {ln g : Nat} {args : List SV} {k : SV → List (Nat × Option Blk) → List Nat → Prop} {m : Nat} {r : SV} (h : Fun C g m args [] m r []) (hlt : SV.ltB S.nx r = true) (hm : Nat.ble S.nx m = true) (hk : k r [] []) : ag C S ln g args k :=
 ⟨Or.inr (Or.inr (Or.inr ⟨m, r, h, hlt, hm, hk⟩))⟩
theorem ag.pure {C : Cx} {S : St} {ln g : Nat} {args : List SV} {k : SV → List (Nat × Option Blk) → List Nat → Prop} {r : SV} (h : Pure C g args r) (hf : args.all SV.free = true) (hr : r.free = true) (hk : k r [] []) : ag C S ln g args k := ⟨Or.inl ⟨r, h, hf, hr, hk⟩⟩
theorem ag.fun {C : Cx} {S : St} {ln g : Nat} {args : List SV} {k : SV → List (Nat × Option Blk) → List Nat → Prop} {m : Nat} {args0 : List SV} {H H' : List (Nat × Option Blk)} {r : SV} (h : Fun C g m args0 H m r H') (L K : List Nat) (hlen : L.length = m) (hd : bh L = true) (hlive : dD H m = true) (hkeys : dF H' m = true) (hlt : cq H' m = true)
  (ha : a8 L args args0) (hh : aL S.hp L H) (hs : i4 (aV (πf L S.nx) [] H') S.hp K) (hk : k (m0 (πf L S.nx) r) (fP K (aV (πf L S.nx) [] H')) K) : ag C S ln g args k := by
 subst hlen
 exact ⟨Or.inr (Or.inl ⟨L, args0, H, H', r, K, h, hd, hlive, hkeys, hlt, ha, hh, hs, hk⟩)⟩
theorem ag.new {C : Cx} {S : St} {ln g : Nat} {args : List SV} {k : SV → List (Nat × Option Blk) → List Nat → Prop} {m m' : Nat} {args0 : List SV} {H H' : List (Nat × Option Blk)} {r : SV} (h : Fun C g m args0 H m' r H') (L K : List Nat) (hlen : L.length = m) (hm' : m' = m + 1) (hd : bh L = true) (hlive : dD H m = true) (hkeys : dF H' m = true) (hlt : cq H' m' = true)
  (ha : a8 L args args0) (hh : aL S.hp L H) (hs : i4 (aV (πn L ln) [] H') S.hp K) (hk : k (m0 (πn L ln) r) (fP K (aV (πn L ln) [] H')) K) : ag C S ln g args k := by
 subst hlen hm'
 exact ⟨Or.inr (Or.inr (Or.inl ⟨L, args0, H, H', r, K, h, hd, hlive, hkeys, hlt, ha, hh, hs, hk⟩))⟩
def cF : Op → Bool
 | .alloc _ => true
 | .buildSlice .. => true
 | .box .. => true
 | .call _ => true
 | _ => false
def fER (v : SV) (ed : List (Nat × Option Blk)) (rd : List Nat) (k : Ef → Prop) : Prop := dr v fun v' => k ⟨v', ed, rd⟩
theorem jF {v : SV} {ed : List (Nat × Option Blk)} {rd : List Nat} {k : Ef → Prop} (h : fER v ed rd k) : k ⟨v, ed, rd⟩ := br (k := fun v' => k ⟨v', ed, rd⟩) h
def fE (v : SV) (ed : List (Nat × Option Blk)) (k : Ef → Prop) : Prop := dr v fun v' => k ⟨v', ed, []⟩
theorem fE_ok {v : SV} {ed : List (Nat × Option Blk)} {k : Ef → Prop} (h : fE v ed k) : k ⟨v, ed, []⟩ := br (k := fun v' => k ⟨v', ed, []⟩) h
def sX (C : Cx) (S : St) (ln : Nat) (f : SV) (args : List SV) (k : Ef → Prop) : Prop :=
 match f with
 | .d (.fn (.func g) []) => ag C S ln g args fun r ed rd => fER r ed rd k
 | .fn (.func g) caps => ag C S ln g (args ++ caps) fun r ed rd => fER r ed rd k
 | _ => False
structure gR (C : Cx) (S : St) (ln t : Nat) (x y : SV) (k : SV → List (Nat × Option Blk) → Prop) : Prop where
 out : ∃ L x0 y0 H H' r, nQ C t (List.length L) x0 y0 H (L.length + 1) r H' ∧ bh L = true ∧ dD H L.length = true ∧ dF H' L.length = true ∧ cq H' (L.length + 1) = true ∧ a8 L [x, y] [x0, y0] ∧ aL S.hp L H ∧
  k (m0 (πn L ln) r) (aV (πn L ln) [] H')
theorem Sat.app {C : Cx} {O : Org} {E : Env} {S : St} {a : Act} {w : World} (hs : Sat O E S a w) {ln t ty : Nat} {x y : SV} {u v : Value} {k : SV → List (Nat × Option Blk) → Prop} (hu : RS E S.nx w x u) (hv : RS E S.nx w y v) (h : gR C S ln t x y k) (hinv : Inv S ln) (hm : S.nt.m ≤ ln) (hl : ln < S.nx) :
    ∃ z w' E' r ed, (Builtin.append_ #[t, t] ty #[u, v]).run C.P w = .ok z w' ∧ k r ed ∧ Sat O E' (⟨S.nt, S.nx, S.fr, ed ++ S.hp⟩) a w' ∧ RS E' S.nx w' r z := by
  obtain ⟨L, x0, y0, H, H', r, hb, hd, hlive, hkeys, hlt, ha, hh, hk⟩ := h.out
  have hO := hs.nt.2
  have hLn : ∀ i, i < L.length → L.getD i 0 ≠ ln := fun i hi => by
    have := hlive
    unfold dD at this
    rw [Q23] at this
    obtain ⟨b, hb⟩ := Option.isSome_iff_exists.1 (this i (by simpa using hi))
    obtain ⟨g1, g2⟩ := hh.out i b hb
    cases hq : lkh S.hp (L.getD i 0) with
    | none => rw [hq] at g2; cases b <;> exact (show False from g2).elim
    | some b0 => exact ((hinv E E w (fun _ _ => ⟨rfl, rfl⟩) rfl).2 _ _ hq).1
  have hπ1 : ∀ i, i < L.length → πn L ln i = L.getD i 0 := fun i hi => by
    have hb : Nat.blt i L.length = true := by simpa using hi
    unfold πn; rw [hb]; rfl
  have hπ2 : ∀ i, L.length ≤ i → πn L ln i = ln := fun i hi => by
    unfold πn
    cases hb : Nat.blt i L.length with
    | true => have : i < L.length := by simpa using hb
              omega
    | false => rfl
  have hargs : ∀ j (hj : j < [x, y].length), RS E S.nx w [x, y][j] ((#[u, v] : Array Value).getD j undef) := fun j hj => by
    have : j = 0 ∨ j = 1 := by simp at hj; omega
    rcases this with rfl | rfl
    · exact hu
    · exact hv
  obtain ⟨z, w', h1, E', h2, h3⟩ := callP hs L (Pm := fun p => ∃ z w', (Builtin.append_ #[t, t] ty #[u, v]).run C.P w = .ok z w' ∧ p z w') (m' := L.length + 1) (H := H) (H' := H') (r := r) (args := [x, y]) (args0 := [x0, y0]) (fun p q hpq ⟨z, w', h1, h2⟩ => ⟨z, w', h1, hpq z w' h2⟩) #[u, v] (by omega)
    (fun Ec hS hr => hb.out Ec w ty u v hS (hr 0 (by simp)) (hr 1 (by simp))) hd hlive hkeys hlt ha hh (F := fun l => l = ln) (nx' := S.nx) ⟨Q4 _, fun E E' w hρ hI => (hinv E E' w hρ hI).1, fun m b hb => ⟨((hinv E E w (fun _ _ => ⟨rfl, rfl⟩) rfl).2 m b hb).1, fun E E' w hρ hI => ((hinv E E' w hρ hI).2 m b hb).2⟩⟩ (fun l hl => by subst hl; omega) (πn L ln) hπ1 (fun i h1 h2 => ⟨hπ2 i h1, by rw [hπ2 i h1]; exact hl⟩) (fun i j hi hj e => by
      by_cases h1 : i < L.length <;> by_cases h2 : j < L.length
      · rw [hπ1 i h1, hπ1 j h2] at e
        exact Classical.byContradiction fun hne => bW hd h1 h2 hne e
      · rw [hπ1 i h1, hπ2 j (by omega)] at e; exact absurd e (hLn i h1)
      · rw [hπ2 i (by omega), hπ1 j h2] at e; exact absurd e.symm (hLn j h2)
      · omega) (by rfl) hargs
  refine ⟨z, w', E', _, _, h1, hk, ?_, h3⟩
  have e1 : ∀ H, aV (πn L ln) S.hp H = aV (πn L ln) [] H ++ S.hp := by
    intro H
    induction H with
    | nil => rfl
    | cons q r ih => obtain ⟨i, ob⟩ := q; simp [aV, ih]
  rw [e1] at h2
  exact h2
theorem idx0 (l : Nat) (L : List Nat) : jB (l :: L) l = some 0 := by simp [jB, uU]
theorem idx1 {l l2 : Nat} (L : List Nat) (h : Nat.beq l l2 = false) : jB (l :: l2 :: L) l2 = some 1 := by simp [jB, uU, h]
theorem gR.a {C : Cx} {S : St} {ln t l z n m e : Nat} {f g : Nat → List D} {i j : TI} {k : SV → List (Nat × Option Blk) → Prop} (hi : C.tt t = some i) (hk : i.k = .slice e) (hj : C.tt e = some j) (hz : j.size = z) (hc : (Nat.blt 0 j.size && Nat.blt 0 j.bytes && Nat.beq j.zero.length j.size) = true)
  (hl : lkh S.hp l = some (.row e z n f)) (hb : (n + m) * j.bytes ≤ 140737488355328) (h : k (.sl ln z 0 (n + m)) [(l, none), (ln, some (.row e z (n + m) (bG n f g)))]) : gR C S ln t (.sl l z 0 n) (.d (.sl z m g)) k :=
 ⟨⟨[l], _, _, _, _, _, nQ.a (f := f) hi hk hj hz hc hb, rfl, rfl, rfl, rfl, ⟨ae.sl (idx0 l []), ae.rfl rfl, trivial⟩, ⟨show ly [l] (lkh S.hp l) _ from by rw [hl]; exact ⟨⟨rfl, rfl, rfl⟩, fun i hi => rfl⟩, trivial⟩, h⟩⟩
theorem gR.b {C : Cx} {S : St} {ln t l l2 z n m e o m2 e2 : Nat} {f f2 : Nat → List D} {i j : TI} {k : SV → List (Nat × Option Blk) → Prop} (hi : C.tt t = some i) (hk : i.k = .slice e) (hj : C.tt e = some j) (hz : j.size = z) (hc : (Nat.blt 0 j.size && Nat.blt 0 j.bytes && Nat.beq j.zero.length j.size) = true)
  (hl : lkh S.hp l = some (.row e z n f)) (hl2 : lkh S.hp l2 = some (.row e2 z m2 f2)) (hne : Nat.beq l l2 = false) (hb : (n + m) * j.bytes ≤ 140737488355328) (ho : o + m ≤ m2) (h : k (.sl ln z 0 (n + m)) [(l, none), (l2, some (.row e2 z m2 f2)), (ln, some (.row e z (n + m) (bG n f fun i => f2 (o + i))))]) : gR C S ln t (.sl l z 0 n) (.sl l2 z o m) k :=
 ⟨⟨[l, l2], _, _, _, _, _, nQ.b (f := f) (f2 := f2) (e2 := e2) (m2 := m2) hi hk hj hz hc hb ho, by simp [bh, hne], rfl, rfl, rfl, ⟨ae.sl (idx0 l [l2]), ae.sl (idx1 [] hne), trivial⟩, ⟨show ly [l, l2] (lkh S.hp l) _ from by rw [hl]; exact ⟨⟨rfl, rfl, rfl⟩, fun i hi => rfl⟩, show ly [l, l2] (lkh S.hp l2) _ from by rw [hl2]; exact ⟨⟨rfl, rfl, rfl⟩, fun i hi => rfl⟩, trivial⟩, h⟩⟩
theorem gR.c {C : Cx} {S : St} {ln t z m e : Nat} {g : Nat → List D} {i j : TI} {k : SV → List (Nat × Option Blk) → Prop} (hi : C.tt t = some i) (hk : i.k = .slice e) (hj : C.tt e = some j) (hz : j.size = z) (hc : (Nat.blt 0 j.size && Nat.blt 0 j.bytes && Nat.beq j.zero.length j.size) = true)
  (hb : (0 + m) * j.bytes ≤ 140737488355328) (h : k (.sl ln z 0 (0 + m)) [(ln, some (.row e z (0 + m) (bG 0 (fun _ => []) g)))]) : gR C S ln t (.d (.val (.slice none 0 0))) (.d (.sl z m g)) k :=
 ⟨⟨[], _, _, _, _, _, nQ.c hi hk hj hz hc hb, rfl, rfl, rfl, rfl, ⟨ae.rfl rfl, ae.rfl rfl, trivial⟩, trivial, h⟩⟩
theorem gR.d {C : Cx} {S : St} {ln t l2 z m e o m2 e2 : Nat} {f2 : Nat → List D} {i j : TI} {k : SV → List (Nat × Option Blk) → Prop} (hi : C.tt t = some i) (hk : i.k = .slice e) (hj : C.tt e = some j) (hz : j.size = z) (hc : (Nat.blt 0 j.size && Nat.blt 0 j.bytes && Nat.beq j.zero.length j.size) = true)
  (hl2 : lkh S.hp l2 = some (.row e2 z m2 f2)) (hb : (0 + m) * j.bytes ≤ 140737488355328) (ho : o + m ≤ m2) (h : k (.sl ln z 0 (0 + m)) [(l2, some (.row e2 z m2 f2)), (ln, some (.row e z (0 + m) (bG 0 (fun _ => []) fun i => f2 (o + i))))]) : gR C S ln t (.d (.val (.slice none 0 0))) (.sl l2 z o m) k :=
 ⟨⟨[l2], _, _, _, _, _, nQ.d (f2 := f2) (e2 := e2) (m2 := m2) hi hk hj hz hc hb ho, rfl, rfl, rfl, rfl, ⟨ae.rfl rfl, ae.sl (idx0 l2 []), trivial⟩, ⟨show ly [l2] (lkh S.hp l2) _ from by rw [hl2]; exact ⟨⟨rfl, rfl, rfl⟩, fun i hi => rfl⟩, trivial⟩, h⟩⟩
def fj (C : Cx) (S : St) (ln : Nat) (b : Builtin) (ts : List Nat) (args : List SV) (k : Ef → Prop) : Prop :=
 match b, ts, args with
 | .append, [t, t2], [x, y] => bif Nat.beq t t2 then gR C S ln t x y fun r ed => fE r ed k else False
 | .len, [t], [x] => lenK C t x fun v => fE v [] k
 | .min, _, [x, y] => minK x y fun v => fE v [] k
 | .max, _, [x, y] => maxK x y fun v => fE v [] k
 | _, _, _ => False
def qt (C : Cx) (S : St) (ln : Nat) (op : Op) (k : Ef → Prop) : Prop :=
 match op with
 | .move x => fE (ev S x) [] k
 | .assign x => fE (ev S x) [] k
 | .pick c x y => match ev S c with
  | .d (.val (.bool b)) => bif b then fE (ev S x) [] k else fE (ev S y) [] k
  | _ => False
 | .alloc t => match C.tt t with
  | some i => iY i.zero fun cs => k ⟨.ptr ln 0, [(ln, some (.cells cs))], []⟩
  | none => False
 | .load t a => kv C S t (ev S a) fun v => fE v [] k
 | .store t a x => fY C S t (ev S a) (ev S x) fun l b => k ⟨.any, [(l, some b)], []⟩
 | .binOp op t x y _ => binX C op t (ev S x) (ev S y) fun v => fE v [] k
 | .unOp op _ x => unK op (ev S x) fun v => fE v [] k
 | .convert s d x => kZ C s d (ev S x) fun v => fE v [] k
 | .fieldAddr t x f => d5 C t f (ev S x) fun v => fE v [] k
 | .field t x f => oT C t f (ev S x) fun v => fE v [] k
 | .indexAddr t x i => dO C t (ev S x) (ev S i) fun v => fE v [] k
 | .index t x i => oF C t (ev S x) (ev S i) fun v => fE v [] k
 | .extract x i => gO i (ev S x) fun v => fE v [] k
 | .slice t x lo hi none => nZ C t (ev S x) (lo.map (ev S)) (hi.map (ev S)) fun v => fE v [] k
 | .build t parts => mH C S t parts.toList fun v => fE v [] k
 | .buildSlice t n parts => cn C S t n parts.toList fun e z f => k ⟨.sl ln z 0 n, [(ln, some (.row e z n f))], []⟩ ∨ (Nat.blt 0 n = true ∧ k ⟨.d (.sl z n f), [(ln, none)], []⟩)
 | .nilCheck x => il (ev S x) fun v => fE v [] k
 | .makeFunc fn first caps => match first.toList with
  | [] => evL S caps.toList fun cs => fE (.fn fn cs) [] k
  | _ => False
 | .box _ x => cu (ev S x) fun cs => k ⟨.ptr ln 0, [(ln, some (.cells cs))], []⟩
 | .call c => match c.callee with
  | .value f => evL S c.args.toList fun args => sX C S ln (ev S f) args k
  | .builtin b => evL S c.args.toList fun args => fj C S ln b c.argTypes.toList args k
  | _ => False
 | _ => False
theorem Sat.allocD {O : Org} {E : Env} {S : St} {a : Act} {w : World} (h : Sat O E S a w) {l : Nat} (hl : l < S.nx) (hO : O.nl ≤ l) (hinv : Inv S l) {cs : List SV} {vs : Array Value} (T : TypeId)
  (ht : bR (E.new l w.heap.size) S.nx (w.alloc (.cells vs T)) cs vs.toList) :
  Sat O (E.new l w.heap.size) ⟨S.nt, S.nx, S.fr, (l, some (.cells cs)) :: S.hp⟩ a (w.alloc (.cells vs T)) ∧ RS (E.new l w.heap.size) S.nx (w.alloc (.cells vs T)) (.ptr l 0) (.pointer (some ⟨w.heap.size, 0, none⟩)) := by
 obtain ⟨h1, h2⟩ := hinv E (E.new l w.heap.size) w (fun m hm => ⟨by simp [Env.new, hm], rfl⟩) rfl
 have hr : (E.new l w.heap.size).ρ l = w.heap.size := by simp [Env.new]
 have hEm : ∀ m, m ≠ l → (E.new l w.heap.size).ρ m = E.ρ m := fun m hm => by simp [Env.new, hm]
 have hwk : ∀ k, k < w.heap.size → (w.alloc (.cells vs T)).heap[k]? = w.heap[k]? := fun k hk => Below.heap_alloc _ _ _ hk
 have hwi : ∀ b, E.Im b → (w.alloc (.cells vs T)).heap[b]? = w.heap[b]? := fun b hb => hwk b (h.im b hb).1
 have hlive : ∀ m x, lkh ((l, some (.cells cs)) :: S.hp) m = some x → (m = l ∧ x = .cells cs) ∨ (m ≠ l ∧ lkh S.hp m = some x) := by
  intro m x hm
  rw [aj] at hm
  by_cases e : l = m
  ·rw [if_pos e] at hm; cases hm; exact Or.inl ⟨e.symm, rfl⟩
  ·rw [if_neg e] at hm; exact Or.inr ⟨fun k => e k.symm, hm⟩
 have hmono : ∀ x v, RS (E.new l w.heap.size) S.nx w x v → RS (E.new l w.heap.size) S.nx (w.alloc (.cells vs T)) x v := fun x v hv => hv.mono (fun _ _ => ⟨rfl, rfl⟩) (Q4 _) (fun _ hb => hb) hwi
 refine ⟨⟨fun n => hmono _ _ (h1 n _ (h.fr n)), h.nt, h.df, ?_, ?_, ?_, ?_, ?_, ?_, ?_, h.nl, h.imo⟩, ?_⟩
 ·intro m x hm
  rcases hlive m x hm with ⟨rfl, rfl⟩ | ⟨hn, hm'⟩
  ·have := ht.to
   simp only [Array.toArray_toList] at this
   exact ⟨vs, T, by rw [hr]; exact aS w _, this.1, this.2⟩
  ·exact ((h2 m x hm').2 (h.hp m x hm')).mono (h.nx m x hm') (fun _ _ => ⟨rfl, rfl⟩) (Q4 _) (fun _ hb => hb) hwi (fun hxr => hwk _ (by rw [hEm m hn]; exact (h.hp m x hm').lt hxr))
 ·intro m x hm
  rcases hlive m x hm with ⟨rfl, rfl⟩ | ⟨hn, hm'⟩
  ·exact hl
  ·exact h.nx m x hm'
 ·intro m m' x x' hm hm' hxr hxr' hne
  rcases hlive m x hm with ⟨rfl, rfl⟩ | ⟨hn, hm1⟩ <;> rcases hlive m' x' hm' with ⟨rfl, rfl⟩ | ⟨hn', hm1'⟩
  ·exact absurd rfl hne
  ·rw [hr, hEm m' hn']; have := (h.hp m' x' hm1').lt hxr'; omega
  ·rw [hr, hEm m hn]; have := (h.hp m x hm1).lt hxr; omega
  ·rw [hEm m hn, hEm m' hn']; exact h.inj m m' x x' hm1 hm1' hxr hxr' hne
 ·intro k hk
  obtain ⟨k1, k2, k3⟩ := h.im k hk
  refine ⟨by simp only [World.size_alloc]; omega, k2, fun m x hm hxr => ?_⟩
  rcases hlive m x hm with ⟨rfl, rfl⟩ | ⟨hn, hm'⟩
  ·rw [hr]; omega
  ·rw [hEm m hn]; exact k3 m x hm' hxr
 ·intro m x hm hxr
  rcases hlive m x hm with ⟨rfl, rfl⟩ | ⟨hn, hm'⟩
  ·rw [hr]; exact Or.inr h.kq.size
  ·rw [hEm m hn]; exact h.own m x hm' hxr
 ·exact h.kq.trans ((Kp.refl w).alloc _ |>.kq _)
 ·intro m hm
  have hne : m ≠ l := by omega
  rw [hEm m hne]; exact h.lab m hm
 ·have := RS.ptr (E := E.new l w.heap.size) (w := w.alloc (.cells vs T)) (nx := S.nx) l 0 hl
  rwa [hr] at this
theorem Sat.allocDr {O : Org} {E : Env} {S : St} {a : Act} {w : World} (h : Sat O E S a w) {l c : Nat} {o : Obj} {b : Blk} (hl : l < S.nx) (hO : O.nl ≤ l) (hinv : Inv S l) (hb : BS (E.newrow l w.heap.size c) S.nx (w.alloc o) l b) :
  Sat O (E.newrow l w.heap.size c) ⟨S.nt, S.nx, S.fr, (l, some b) :: S.hp⟩ a (w.alloc o) := by
 have hEm : ∀ m, m ≠ l → (E.newrow l w.heap.size c).ρ m = E.ρ m ∧ (E.newrow l w.heap.size c).κ m = E.κ m := fun m hm => ⟨by simp [Env.newrow, hm], by simp [Env.newrow, hm]⟩
 obtain ⟨h1, h2⟩ := hinv E (E.newrow l w.heap.size c) w hEm rfl
 have hr : (E.newrow l w.heap.size c).ρ l = w.heap.size := by simp [Env.newrow]
 have hwk : ∀ k, k < w.heap.size → (w.alloc o).heap[k]? = w.heap[k]? := fun k hk => Below.heap_alloc _ _ _ hk
 have hwi : ∀ b, E.Im b → (w.alloc o).heap[b]? = w.heap[b]? := fun b hb => hwk b (h.im b hb).1
 have hlive : ∀ m x, lkh ((l, some b) :: S.hp) m = some x → (m = l ∧ x = b) ∨ (m ≠ l ∧ lkh S.hp m = some x) := by
  intro m x hm
  rw [aj] at hm
  by_cases e : l = m
  ·rw [if_pos e] at hm; cases hm; exact Or.inl ⟨e.symm, rfl⟩
  ·rw [if_neg e] at hm; exact Or.inr ⟨fun k => e k.symm, hm⟩
 refine ⟨fun n => RS.mono (E := E.newrow l w.heap.size c) (fun _ _ => ⟨rfl, rfl⟩) (Q4 _) (fun _ hb => hb) hwi (h1 n _ (h.fr n)), h.nt, h.df, ?_, ?_, ?_, ?_, ?_, ?_, ?_, h.nl, h.imo⟩
 ·intro m x hm
  rcases hlive m x hm with ⟨rfl, rfl⟩ | ⟨hn, hm'⟩
  ·exact hb
  ·exact ((h2 m x hm').2 (h.hp m x hm')).mono (h.nx m x hm') (fun _ _ => ⟨rfl, rfl⟩) (Q4 _) (fun _ hb => hb) hwi (fun hxr => hwk _ (by rw [(hEm m hn).1]; rw [(hEm m hn).2] at hxr; exact (h.hp m x hm').lt hxr))
 ·intro m x hm
  rcases hlive m x hm with ⟨rfl, rfl⟩ | ⟨hn, hm'⟩
  ·exact hl
  ·exact h.nx m x hm'
 ·intro m m' x x' hm hm' hxr hxr' hne
  rcases hlive m x hm with ⟨rfl, rfl⟩ | ⟨hn, hm1⟩ <;> rcases hlive m' x' hm' with ⟨rfl, rfl⟩ | ⟨hn', hm1'⟩
  ·exact absurd rfl hne
  ·rw [hr, (hEm m' hn').1]; rw [(hEm m' hn').2] at hxr'; have := (h.hp m' x' hm1').lt hxr'; omega
  ·rw [hr, (hEm m hn).1]; rw [(hEm m hn).2] at hxr; have := (h.hp m x hm1).lt hxr; omega
  ·rw [(hEm m hn).1, (hEm m' hn').1]; rw [(hEm m hn).2] at hxr; rw [(hEm m' hn').2] at hxr'; exact h.inj m m' x x' hm1 hm1' hxr hxr' hne
 ·intro k hk
  obtain ⟨k1, k2, k3⟩ := h.im k hk
  refine ⟨by simp only [World.size_alloc]; omega, k2, fun m x hm hxr => ?_⟩
  rcases hlive m x hm with ⟨rfl, rfl⟩ | ⟨hn, hm'⟩
  ·rw [hr]; omega
  ·rw [(hEm m hn).1]; rw [(hEm m hn).2] at hxr; exact k3 m x hm' hxr
 ·intro m x hm hxr
  rcases hlive m x hm with ⟨rfl, rfl⟩ | ⟨hn, hm'⟩
  ·rw [hr]; exact Or.inr h.kq.size
  ·rw [(hEm m hn).1]; rw [(hEm m hn).2] at hxr; exact h.own m x hm' hxr
 ·exact h.kq.trans ((Kp.refl w).alloc _ |>.kq _)
 ·intro m hm
  have hne : m ≠ l := by omega
  rw [(hEm m hne).1, (hEm m hne).2]; exact h.lab m hm
def St.ed (S : St) (e : List (Nat × Option Blk)) : St := match S with | ⟨nt, nx, fr, hp⟩ => ⟨nt, nx, fr, e ++ hp⟩
theorem fM : ∀ (vs : List SV) (k k' : List SV → Prop), (∀ r, k r → k' r) → f6 vs k → f6 vs k'
 | [], k, k', h, hk => h _ hk
 | v :: r, k, k', h, hk => by
  have : ∀ (x : SV) (q q' : SV → Prop), (∀ y, q y → q' y) → mg x q → mg x q' := fun x q q' hq hx => by cases x <;> exact hq _ hx
  exact this v _ _ (fun y hy => fM r _ _ (fun z => h _) hy) hk
theorem pP {x : SV} {k k' : SV → Prop} (h : ∀ r, k r → k' r) (hk : dr x k) : dr x k' := by
 cases x with
 | agg vs => exact fM vs _ _ (fun r => h _) hk
 | tup vs => exact fM vs _ _ (fun r => h _) hk
 | _ => exact h _ hk
theorem kX (S : St) : ∀ (xs : List Operand) (k k' : List SV → Prop), (∀ r, k r → k' r) → evL S xs k → evL S xs k'
 | [], k, k', h, hk => h _ hk
 | x :: r, k, k', h, hk => pP (fun v hv => kX S r _ _ (fun z => h _) hv) hk
theorem sI {x : SV} {k : SV → Prop} (h : k x) : mg x k := by cases x <;> exact h
theorem iF : ∀ (vs : List SV) (k : List SV → Prop), k vs → f6 vs k
 | [], k, h => h
 | v :: r, k, h => sI (iF r _ h)
theorem sD {x : SV} {k : SV → Prop} (h : k x) : dr x k := by
 cases x with
 | agg vs => exact iF vs _ h
 | tup vs => exact iF vs _ h
 | _ => exact h
theorem vZ (S : St) : ∀ (xs : List Operand) (k : List SV → Prop), evL S xs k → ∃ vs, k vs ∧ ∀ k2 : List SV → Prop, k2 vs → evL S xs k2
 | [], k, h => ⟨[], h, fun _ h => h⟩
 | x :: r, k, h => by
  obtain ⟨vs, h1, h2⟩ := vZ S r _ (br h)
  exact ⟨_, h1, fun k2 hk => sD (h2 _ hk)⟩
def pi (C : Cx) (O : Org) (S : St) (o : Oper) (a : Act) (w : World) (k : Ef → Prop) : Prop :=
 ∀ (next : Act → World → Prop) (Q : Exit → Act → World → Prop), (∀ v E' w' e, k e → Sat O E' (S.ed e.ed) a w' → RS E' S.nx w' e.val v → next (a.put o.dst v) w') → o.wp C.P a w next Q
theorem pi.of {C : Cx} {O : Org} {S : St} {o : Oper} {a : Act} {w : World} {k : Ef → Prop} (h : jY C O o a w fun S' x => S' = S ∧ fE x [] k) : pi C O S o a w k := by
 intro next Q hk
 refine h next Q fun v E' S' w' x ⟨e, hx⟩ hs hv => ?_
 subst e
 exact hk v E' w' _ (fE_ok hx) hs hv
theorem gT : ∀ (vs : List Value) (k : List SV → Prop), iY vs k → ∃ cs : List SV, k cs ∧ ∀ E nx w, bR E nx w cs vs
 | [], k, h => ⟨[], by simpa [iY] using h, fun _ _ _ => ⟨rfl, fun j x hj => by simp at hj⟩⟩
 | v :: r, k, h => by
  unfold iY at h
  cases hv : v.oneCell' with
  | false => simp [hv] at h
  | true =>
   simp only [hv, cond_true] at h
   obtain ⟨cs, h1, h2⟩ := gT r _ h
   refine ⟨_, h1, fun E nx w => ⟨by simp [(h2 E nx w).1], fun j x hj => ?_⟩⟩
   cases j with
   | zero => simp at hj; subst hj; exact ⟨v, by simp, .d _ _ (.val _ hv), hv⟩
   | succ j => simp at hj; obtain ⟨u, g1, g2⟩ := (h2 E nx w).2 j x hj; exact ⟨u, by simpa using g1, g2⟩
theorem ii (π : Nat → Nat) (hp : List (Nat × Option Blk)) : ∀ H, aV π hp H = aV π [] H ++ hp
 | [] => rfl
 | (i, ob) :: r => by simp [aV, ii π hp r]
theorem effD_ok {C : Cx} {O : Org} {E : Env} {S : St} {a : Act} {w : World} (hs : Sat O E S a w) {ln : Nat} (hl : ln < S.nx) (hO : O.nl ≤ ln) {o : Oper} (hinv : cF o.op = true → Inv S ln) {k : Ef → Prop} (h : qt C S ln o.op k) : pi C O S o a w k := by
 have via : ja C S o.op (fun S' x => S' = S ∧ fE x [] k) → pi C O S o a w k := fun h => .of (gU hs h)
 unfold qt at h
 split at h
 ·rename_i x ho; exact via (by rw [ho]; exact ⟨rfl, h⟩)
 ·rename_i x ho; exact via (by rw [ho]; exact ⟨rfl, h⟩)
 ·rename_i c x y ho
  refine via ?_
  rw [ho]
  simp only [ja, true_and]
  exact h
 ·rename_i t ho
  split at h
  ·rename_i i hi
   obtain ⟨j, z, h1, h2, h3, h4, _⟩ := (C.ok _ _ hi).info
   obtain ⟨cs, g1, g2⟩ := gT _ _ h
   rw [← h3] at g2
   obtain ⟨e1, e2⟩ := hs.allocD hl hO (hinv (by rw [ho]; rfl)) t (g2 _ S.nx _)
   intro next Q hk
   unfold Oper.wp
   rw [show (execOp a.eval o).run C.P w = .ok (.value (.pointer (some ⟨w.heap.size, 0, none⟩))) (w.alloc (.cells z.cells t)) by simp [execOp, ho, Instr.alloc, zeroValue, typeInfo, h1, h2, newVar, newRow]]
   exact hk _ _ _ _ g1 e1 e2
  ·exact h.elim
 ·rename_i t x ho; exact via (by rw [ho]; simp only [ja, true_and]; exact h)
 ·rename_i t x y ho
  obtain ⟨w', S', h1, ⟨l, b, h2, rfl⟩, h3⟩ := lJ (C := C) (t := t) (k := fun S' => ∃ l b, k ⟨.any, [(l, some b)], []⟩ ∧ S' = S.seth l (some b)) hs (aW hs x) (aW hs y) (ug (fun l b hb => ⟨l, b, hb, rfl⟩) h)
  intro next Q hk
  unfold Oper.wp
  rw [show (execOp a.eval o).run C.P w = .ok .skip w' by simp [execOp, ho, h1]]
  exact hk undef E w' _ h2 h3 (.any _)
 ·rename_i op t x y _ ho; exact via (by rw [ho]; simp only [ja, true_and]; exact h)
 ·rename_i op _ x ho; exact via (by rw [ho]; simp only [ja, true_and]; exact h)
 ·rename_i ho; exact via (by rw [ho]; simp only [ja, true_and]; first | exact h | exact fk (by simp only [true_and]; exact h))
 ·rename_i ho; exact via (by rw [ho]; simp only [ja, true_and]; first | exact h | exact fk (by simp only [true_and]; exact h))
 ·rename_i ho; exact via (by rw [ho]; simp only [ja, true_and]; first | exact h | exact fk (by simp only [true_and]; exact h))
 ·rename_i ho; exact via (by rw [ho]; simp only [ja, true_and]; first | exact h | exact fk (by simp only [true_and]; exact h))
 ·rename_i ho; exact via (by rw [ho]; simp only [ja, true_and]; first | exact h | exact fk (by simp only [true_and]; exact h))
 ·rename_i ho; exact via (by rw [ho]; simp only [ja, true_and]; first | exact h | exact fk (by simp only [true_and]; exact h))
 ·rename_i ho; exact via (by rw [ho]; simp only [ja, true_and]; first | exact h | exact fk (by simp only [true_and]; exact h))
 ·rename_i ho; exact via (by rw [ho]; simp only [ja, true_and]; first | exact h | exact fk (by simp only [true_and]; exact h))
 ·rename_i t n ps ho
  obtain ⟨e, z, f, us', g5, hrun, h1, h2, h3, h4, h5, h6⟩ := eh hs h
  have hr : (E.newrow ln w.heap.size n).ρ ln = w.heap.size := by simp [Env.newrow]
  have hκ : (E.newrow ln w.heap.size n).κ ln = n := by simp [Env.newrow]
  have e1 := hs.allocDr (c := n) (o := .cells us' e) (b := .row e z n f) hl hO (hinv (by rw [ho]; rfl)) ⟨by rw [hκ]; exact Q4 _, by rw [hκ]; exact h1, h2, h3, fun _ => ⟨us', by rw [hr]; exact aS w _, by rw [hκ]; exact h4, h5, fun i j hi hj => (h6 i j hi hj).mono (fun _ hb => hb) fun b hb => Below.heap_alloc _ _ _ (hs.im b hb).1⟩⟩
  intro next Q hk
  unfold Oper.wp
  rw [show (execOp a.eval o).run C.P w = .ok (.value (.slice (some ⟨w.heap.size, 0, none⟩) n n)) (w.alloc (.cells us' e)) by simp [execOp, ho, hrun]]
  have hv : RS (E.newrow ln w.heap.size n) S.nx (w.alloc (.cells us' e)) (.sl ln z 0 n) (.slice (some ⟨w.heap.size, 0, none⟩) n n) :=
   .sl _ _ _ _ _ _ hl (Q4 _) h1 (fun _ => by rw [hr, Nat.zero_mul]) (fun _ => ⟨hκ.symm, fun _ => by rw [hr]⟩)
  rcases g5 with g5 | ⟨hn, g5⟩
  ·exact hk _ _ _ _ g5 e1 hv
  ·have hn : 0 < n := by simpa using hn
   obtain ⟨s1, s2⟩ := e1.imm (w' := w.alloc (.cells us' e)) (l := ln) (e := e) (esz := z) (n := n) (f := f) (by rw [aj, if_pos rfl]) (by rw [hκ]; exact hn) (fun _ _ _ => rfl) rfl ⟨rfl, rfl, rfl⟩ (fun vs hvs => ⟨_, hvs⟩)
   have h7 := s2 0 n _ (by omega) hv
   rw [show (fun i => f (0 + i)) = f from funext fun i => by rw [Q19]] at h7
   refine hk _ _ _ _ g5 (s1.congr' fun l => ?_) h7
   show lkh ((ln, none) :: (ln, some (.row e z n f)) :: S.hp) l = lkh ((ln, none) :: S.hp) l
   rw [aj, aj, aj]
   split <;> rfl
 ·rename_i ho; exact via (by rw [ho]; simp only [ja, true_and]; first | exact h | exact fk (by simp only [true_and]; exact h))
 ·rename_i fn first caps ho; exact via (by rw [ho]; simp only [ja, true_and]; exact h)
 ·rename_i t x ho
  have h1 := ((hinv (by rw [ho]; rfl)) E (E.new ln w.heap.size) w (fun m hm => ⟨by simp [Env.new, hm], rfl⟩) rfl).1
  have hv : RS (E.new ln w.heap.size) S.nx w (ev S x) (a.eval x) := by
   cases x with
   | tmp t => exact h1 t _ (hs.fr t)
   | const v => exact qG _ _ _ v
   | global g => exact .any _
   | func f => exact .d _ _ (.fn _ _ _ (by simp) (fun j hj => by simp at hj))
  have hv2 : RS (E.new ln w.heap.size) S.nx (w.alloc (.cells (a.eval x).cells t)) (ev S x) (a.eval x) := hv.mono (fun _ _ => ⟨rfl, rfl⟩) (Q4 _) (fun _ hb => hb) (fun b hb => Below.heap_alloc _ _ _ (hs.im b hb).1)
  obtain ⟨cs, g1, g2⟩ := aY h hv2
  obtain ⟨e1, e2⟩ := hs.allocD hl hO (hinv (by rw [ho]; rfl)) t g2
  intro next Q hk
  unfold Oper.wp
  rw [show (execOp a.eval o).run C.P w = .ok (.value (.pointer (some ⟨w.heap.size, 0, none⟩))) (w.alloc (.cells (a.eval x).cells t)) by simp [execOp, ho, Instr.box, newVar, newRow]]
  exact hk _ _ _ _ g1 e1 e2
 ·rename_i c ho
  split at h
  ·rename_i f hc
   refine (fun (hcall : jY C O o a w fun S' x => ∃ ef : Ef, k ef ∧ (S'.nt = S.nt ∧ S'.nx = S.nx ∧ S'.fr = S.fr ∧ ∀ l, lkh S'.hp l = lkh (S.ed ef.ed).hp l) ∧ x = ef.val) => ?_) (gU hs ?_)
   ·intro next Q hk
    refine hcall next Q fun v E' S' w' x ⟨ef, h1, h2, h3⟩ hs' hv => ?_
    subst h3
    obtain ⟨nt, nx, fr, hp⟩ := S'
    obtain ⟨nt0, nx0, fr0, hp0⟩ := S
    obtain ⟨rfl, rfl, rfl, h2⟩ := h2
    exact hk v E' w' ef h1 (hs'.congr' h2) hv
   ·rw [ho]
    simp only [ja, hc]
    refine kX S _ _ _ (fun args hargs => ?_) h
    have go : ∀ (g : Nat) (args : List SV), ag C S ln g args (fun r ed rd => fER r ed rd k) → ab C S g args fun S' x => ∃ ef : Ef, k ef ∧ (S'.nt = S.nt ∧ S'.nx = S.nx ∧ S'.fr = S.fr ∧ ∀ l, lkh S'.hp l = lkh (S.ed ef.ed).hp l) ∧ x = ef.val := by
     intro g args hargs
     rcases hargs.out with ⟨r, h1, h2, h3, h4⟩ | ⟨L, args0, H, H', r, K, h1, h2, h3, h4, h5, h6, h7, h9, h8⟩ | ⟨L, args0, H, H', r, K, h1, h2, h3, h4, h5, h6, h7, h9, h8⟩ | ⟨m, r, h1, h2, h3, h4⟩
     ·exact .pure h1 h2 h3 ⟨_, jF h4, by cases S; exact ⟨rfl, rfl, rfl, fun _ => rfl⟩, rfl⟩
     ·refine .fun h1 L rfl h2 h3 h4 h5 h6 h7 ⟨_, jF h8, ?_, rfl⟩
      rw [ii, Nat.sub_self]
      exact ⟨rfl, rfl, rfl, fun l => oW h9 l⟩
     ·refine .fresh L h1 h2 h3 h4 h5 h6 h7 (hinv (by rw [ho]; rfl)) (show S.nt.m ≤ ln by have := hs.nt.2; omega) hl ⟨_, jF h8, ?_, rfl⟩
      rw [ii]
      exact ⟨rfl, rfl, rfl, fun l => oW h9 l⟩
     ·exact .funM h1 h2 h3 ⟨_, jF h4, by cases S; exact ⟨rfl, rfl, rfl, fun _ => rfl⟩, rfl⟩
    unfold sX at hargs
    split at hargs
    ·rename_i g e
     rw [e]
     simp only [vu]
     exact go g args hargs
    ·rename_i g caps e
     rw [e]
     simp only [vu]
     have h9 := go g (args ++ caps) hargs
     cases S; exact h9
    ·exact hargs.elim
  ·rename_i b hc
   obtain ⟨vs0, hk0, hall⟩ := vZ S _ _ h
   obtain ⟨args, ⟨hargs, hall2⟩, h2, h3⟩ := mo hs _ (fun args => fj C S ln b c.argTypes.toList args k ∧ ∀ k2 : List SV → Prop, k2 args → evL S c.args.toList k2) (hall _ ⟨hk0, hall⟩)
   by_cases hap : ∃ t x y, b = .append ∧ c.argTypes.toList = [t, t] ∧ args = [x, y] ∧ gR C S ln t x y fun r ed => fE r ed k
   ·obtain ⟨t, x, y, rfl, e1, rfl, happ⟩ := hap
    have ht := aD e1
    match hca : c.args.toList, h2, h3 with
    | [p, q], h2, h3 =>
     have hca' := aD hca
     obtain ⟨z, w', E', r, ed, g1, g2, g3, g4⟩ := hs.app (ty := o.type) (h3 0 p x rfl rfl) (h3 1 q y rfl rfl) happ (hinv (by rw [ho]; rfl)) (show S.nt.m ≤ ln by have := hs.nt.2; omega) hl
     intro next Q hk
     unfold Oper.wp
     rw [show (execOp a.eval o).run C.P w = .ok (.value z) w' by simp [execOp, ho, resolve, hc, invoke, builtin, ht, hca', g1]]
     exact hk z E' w' _ (fE_ok g2) g3 g4
    | [], h2, h3 => simp at h2
    | [_], h2, h3 => simp at h2
    | _ :: _ :: _ :: _, h2, h3 => simp at h2
   ·refine via ?_
    rw [ho]
    simp only [ja, hc]
    refine hall2 _ ?_
    unfold fj at hargs
    split at hargs
    ·rename_i t t2 x y e1
     exfalso
     cases hb : Nat.beq t t2 with
     | false => simp [hb] at hargs
     | true =>
      simp only [hb, cond_true] at hargs
      obtain rfl := Q2 hb
      exact hap ⟨t, x, y, rfl, e1, rfl, hargs⟩
    ·rename_i t x e1
     rw [e1]; simp only [fl, true_and]; exact hargs
    ·simp only [fl, true_and]; exact hargs
    ·simp only [fl, true_and]; exact hargs
    ·exact hargs.elim
  ·exact h.elim
 ·exact h.elim
end
theorem oV {S S' : St} {x : Operand} (h : ∀ t, x = .tmp t → lk S.fr t = lk S'.fr t) : ev S x = ev S' x := by
 cases x with
 | tmp t => exact h t rfl
 | _ => rfl
theorem fe {S S' : St} : ∀ (xs : List Operand) (k : List SV → Prop), (∀ x ∈ xs, ev S x = ev S' x) → evL S xs k = evL S' xs k
 | [], k, h => rfl
 | x :: r, k, h => by
  simp only [evL]
  rw [h x (by simp)]
  congr 1
  funext v
  exact fe r _ fun y hy => h y (by simp [hy])
theorem iI {C : Cx} {S S' : St} {fs : List (Nat × Nat)} : ∀ (ps : List (Nat × Operand)) (cs : List SV) (k : List SV → Prop), (∀ p ∈ ps, ev S p.2 = ev S' p.2) → iJ C S fs ps cs k = iJ C S' fs ps cs k
 | [], cs, k, h => rfl
 | (i, x) :: r, cs, k, h => by
  have ih : ∀ cs' k', iJ C S fs r cs' k' = iJ C S' fs r cs' k' := fun cs' k' => iI r cs' k' fun p hp => h p (by simp [hp])
  have hx : ev S x = ev S' x := h (i, x) (by simp)
  unfold iJ
  simp only [hx, ih]
theorem f8 {S S' : St} {z : Nat} : ∀ (ps : List (Nat × Operand)) (cs : List SV) (k : List SV → Prop), (∀ p ∈ ps, ev S p.2 = ev S' p.2) → dH S z ps cs k = dH S' z ps cs k
 | [], cs, k, h => rfl
 | (i, x) :: r, cs, k, h => by
  have ih : ∀ cs' k', dH S z r cs' k' = dH S' z r cs' k' := fun cs' k' => f8 r cs' k' fun p hp => h p (by simp [hp])
  have hx : ev S x = ev S' x := h (i, x) (by simp)
  unfold dH
  simp only [hx, ih]
def l6 : SV → List Nat
 | .ptr l _ => [l]
 | .rp l _ _ _ => [l]
 | _ => []
def fZ (S : St) : Op → List Nat
 | .load _ a => l6 (ev S a)
 | .store _ a _ => l6 (ev S a)
 | _ => []
theorem nj {C : Cx} {S S' : St} {t : Nat} {x : SV} {k : SV → Prop} (h : ∀ l ∈ l6 x, lkh S.hp l = lkh S'.hp l) : kv C S t x k = kv C S' t x k := by
 cases x with
 | ptr l off => simp only [kv]; rw [h _ (by simp [l6])]
 | rp l z i off => simp only [kv]; rw [h _ (by simp [l6])]
 | d x => cases x <;> rfl
 | _ => rfl
theorem lK {C : Cx} {S S' : St} {t : Nat} {x y : SV} {k : Nat → Blk → Prop} (h : ∀ l ∈ l6 x, lkh S.hp l = lkh S'.hp l) : fY C S t x y k = fY C S' t x y k := by
 cases x with
 | ptr l off => simp only [fY]; rw [h _ (by simp [l6])]
 | rp l z i off => simp only [fY]; rw [h _ (by simp [l6])]
 | _ => rfl
theorem l7 {π : Nat → Nat} : ∀ {H : List (Nat × Option Blk)} {i : Nat}, (∃ o, (i, o) ∈ H) → ∃ o, (π i, o) ∈ aV π [] H
 | [], i, ⟨o, h⟩ => by simp at h
 | (j, ob) :: r, i, ⟨o, h⟩ => by
  rcases Q22 h with h | h
  ·cases h; exact ⟨ob.map (rf π), by simp [aV]⟩
  ·obtain ⟨o', h'⟩ := l7 (π := π) (H := r) ⟨o, h⟩
   exact ⟨o', by simp [aV, h']⟩
theorem eo {P hp hp' : List (Nat × Option Blk)} : ∀ {K : List Nat}, (∀ l ∈ K, lkh hp l = lkh hp' l) → i4 P hp K → i4 P hp' K
 | [], _, _ => trivial
 | k :: r, h, ⟨h1, h2⟩ => ⟨h1.trans (h k (by simp)), eo (fun l hl => h l (by simp [hl])) h2⟩
theorem keyH {S S' : St} {P : List (Nat × Option Blk)} (hk : ∀ l o, (l, o) ∈ P → lkh S.hp l = lkh S'.hp l) : ∀ (L : List Nat) (π : Nat → Nat) (H H' : List (Nat × Option Blk)), dF H' L.length = true → (∀ i, i < L.length → π i = L.getD i 0) → aV π [] H' = P → aL S.hp L H → aL S'.hp L H := by
 intro L π H H' h4 hπ h8 h7
 have hag : ∀ i, i < L.length → lkh S.hp (L.getD i 0) = lkh S'.hp (L.getD i 0) := fun i hi => by
  unfold dF at h4
  rw [Q23] at h4
  have := h4 i (by simpa using hi)
  rw [List.any_eq_true] at this
  obtain ⟨⟨p1, p2⟩, hp1, hp2⟩ := this
  have hp3 := Q2 hp2
  simp only at hp3
  subst hp3
  obtain ⟨o, ho⟩ := l7 (π := π) ⟨p2, hp1⟩
  rw [h8, hπ _ hi] at ho
  exact hk _ _ ho
 have key : ∀ (Hx : List (Nat × Option Blk)), aL S.hp L Hx → aL S'.hp L Hx := by
  intro Hx
  induction Hx with
  | nil => exact fun h => h
  | cons p r ih =>
   obtain ⟨i, ob⟩ := p
   cases ob with
   | none => exact fun h => ih h
   | some b =>
    intro h9
    unfold aL at h9 ⊢
    cases hb : Nat.blt i L.length with
    | false => simp [hb] at h9
    | true =>
     simp only [hb, cond_true] at h9 ⊢
     exact ⟨by rw [← hag i (by simpa using hb)]; exact h9.1, ih h9.2⟩
 exact key H h7
theorem jO {C : Cx} {S S' : St} {ln : Nat} {op : Op} {ef : Ef} (hnx : S.nx = S'.nx) (hx : ∀ x ∈ op.operands.toList, ev S x = ev S' x) (hl : ∀ l ∈ fZ S op, lkh S.hp l = lkh S'.hp l) (hk : ∀ l o, (l, o) ∈ ef.ed → lkh S.hp l = lkh S'.hp l) (hr : ∀ l ∈ ef.rd, lkh S.hp l = lkh S'.hp l)
  (h : qt C S ln op (fun e => e = ef)) : qt C S' ln op (fun e => e = ef) := by
 cases op <;> simp only [qt] at h ⊢
 case move x => rw [← hx x (by simp [Op.operands])]; exact h
 case assign x => rw [← hx x (by simp [Op.operands])]; exact h
 case pick c x y => rw [← hx c (by simp [Op.operands]), ← hx x (by simp [Op.operands]), ← hx y (by simp [Op.operands])]; exact h
 case alloc t => exact h
 case box t x => rw [← hx x (by simp [Op.operands])]; exact h
 case load t a => rw [← hx a (by simp [Op.operands]), ← nj (S := S) (by simpa [fZ] using hl)]; exact h
 case store t a x => rw [← hx a (by simp [Op.operands]), ← hx x (by simp [Op.operands]), ← lK (S := S) (by simpa [fZ] using hl)]; exact h
 case binOp op t x y _ => rw [← hx x (by simp [Op.operands]), ← hx y (by simp [Op.operands])]; exact h
 case unOp op _ x => rw [← hx x (by simp [Op.operands])]; exact h
 case convert s d x => rw [← hx x (by simp [Op.operands])]; exact h
 case fieldAddr t x f => rw [← hx x (by simp [Op.operands])]; exact h
 case field t x f => rw [← hx x (by simp [Op.operands])]; exact h
 case indexAddr t x i => rw [← hx x (by simp [Op.operands]), ← hx i (by simp [Op.operands])]; exact h
 case index t x i => rw [← hx x (by simp [Op.operands]), ← hx i (by simp [Op.operands])]; exact h
 case extract x i => rw [← hx x (by simp [Op.operands])]; exact h
 case nilCheck x => rw [← hx x (by simp [Op.operands])]; exact h
 case slice t x lo hi mx =>
  cases mx with
  | some m => simp at h
  | none =>
   simp only at h ⊢
   rw [← hx x (by simp [Op.operands])]
   have h1 : lo.map (ev S) = lo.map (ev S') := by cases lo with
    | none => rfl
    | some a => simp [hx a (by simp [Op.operands])]
   have h2 : hi.map (ev S) = hi.map (ev S') := by cases hi with
    | none => rfl
    | some a => simp [hx a (by simp [Op.operands])]
   rw [← h1, ← h2]; exact h
 case build t ps =>
  unfold mH at h ⊢
  have hc : ∀ fs cs k, iJ C S fs ps.toList cs k = iJ C S' fs ps.toList cs k := fun fs cs k => iI _ _ _ fun p hp => hx p.2 (by simp [Op.operands]; exact ⟨p.1, by simpa using hp⟩)
  simp only [hc] at h
  exact h
 case buildSlice t n ps =>
  unfold cn at h ⊢
  have hc : ∀ z cs k, dH S z ps.toList cs k = dH S' z ps.toList cs k := fun z cs k => f8 _ _ _ fun p hp => hx p.2 (by simp [Op.operands]; exact ⟨p.1, by simpa using hp⟩)
  simp only [hc] at h
  exact h
 case makeFunc fn first caps =>
  split at h
  ·rw [← fe _ _ fun x hx' => hx x (by simp [Op.operands]; exact Or.inr (by simpa using hx'))]
   exact h
  ·exact h.elim
 case call c =>
  split at h
  ·rename_i f hc
   have hf : ev S f = ev S' f := hx f (by simp [Op.operands, Call.operands, hc])
   rw [← fe _ _ fun x hx' => hx x (by simp [Op.operands, Call.operands, hc]; exact Or.inr (by simpa using hx'))]
   refine kX S _ _ _ (fun args hargs => ?_) h
   rw [← hf]
   have go : ∀ (g : Nat) (args : List SV), ag C S ln g args (fun r ed rd => fER r ed rd fun e => e = ef) → ag C S' ln g args (fun r ed rd => fER r ed rd fun e => e = ef) := by
    intro g args hargs
    refine ⟨?_⟩
    rcases hargs.out with h1 | ⟨L, args0, H, H', r, K, h1, h2, h3, h4, h5, h6, h7, h9, h8⟩ | ⟨L, args0, H, H', r, K, h1, h2, h3, h4, h5, h6, h7, h9, h8⟩ | ⟨m, r, h1, h2, h3, h4⟩
    ·exact Or.inl h1
    ·have e8 := jF h8
     have hkP : ∀ l o, (l, o) ∈ aV (πf L S.nx) [] H' → lkh S.hp l = lkh S'.hp l := fun l o hlo => by
      rcases d6 (K := K) hlo with h | h
      ·exact hr l (by rw [← e8]; exact h)
      ·exact hk l o (by rw [← e8]; exact h)
     refine Or.inr (Or.inl ⟨L, args0, H, H', r, K, h1, h2, h3, h4, h5, h6, keyH hkP L (πf L S.nx) H H' h4 (fun i hi => ?_) rfl h7, ?_, by rw [← hnx]; exact h8⟩)
     rotate_left
     ·rw [← hnx]
      have hrK : ∀ l ∈ K, lkh S.hp l = lkh S'.hp l := fun l hl => hr l (by rw [← e8]; exact hl)
      exact eo hrK h9
     have hb : Nat.blt i L.length = true := by simpa using hi
     unfold πf; rw [hb]; rfl
    ·have e8 := jF h8
     have hkP : ∀ l o, (l, o) ∈ aV (πn L ln) [] H' → lkh S.hp l = lkh S'.hp l := fun l o hlo => by
      rcases d6 (K := K) hlo with h | h
      ·exact hr l (by rw [← e8]; exact h)
      ·exact hk l o (by rw [← e8]; exact h)
     refine Or.inr (Or.inr (Or.inl ⟨L, args0, H, H', r, K, h1, h2, h3, h4, h5, h6, keyH hkP L (πn L ln) H H' h4 (fun i hi => ?_) rfl h7, ?_, h8⟩))
     rotate_left
     ·have hrK : ∀ l ∈ K, lkh S.hp l = lkh S'.hp l := fun l hl => hr l (by rw [← e8]; exact hl)
      exact eo hrK h9
     have hb : Nat.blt i L.length = true := by simpa using hi
     unfold πn; rw [hb]; rfl
    ·exact Or.inr (Or.inr (Or.inr ⟨m, r, h1, by rw [← hnx]; exact h2, by rw [← hnx]; exact h3, h4⟩))
   unfold sX at hargs ⊢
   split at hargs
   ·rename_i g e; exact go g args hargs
   ·rename_i g caps e; exact go g _ hargs
   ·exact hargs.elim
  ·rename_i b hc
   rw [← fe _ _ fun x hx' => hx x (by simp [Op.operands, Call.operands, hc]; simpa using hx')]
   refine kX S _ _ _ (fun args hargs => ?_) h
   unfold fj at hargs ⊢
   split at hargs
   ·rename_i t t2 x y e1
    cases hb : Nat.beq t t2 with
    | false => simp [hb] at hargs
    | true =>
     simp only [hb, cond_true] at hargs ⊢
     obtain ⟨L, x0, y0, H, H', r, h1, h2, h3, h4, h5, h6, h7, h8⟩ := hargs.out
     refine ⟨L, x0, y0, H, H', r, h1, h2, h3, h4, h5, h6, keyH hk L (πn L ln) H H' h4 (fun i hi => ?_) (by rw [← fE_ok h8]) h7, h8⟩
     have hb : Nat.blt i L.length = true := by simpa using hi
     unfold πn; rw [hb]; rfl
   ·exact hargs
   ·exact hargs
   ·exact hargs
   ·exact hargs.elim
  ·exact h.elim
section
def St.step : St → Option Nat → Ef → St
 | ⟨nt, nx, fr, hp⟩, some n, e => ⟨nt, nx, (n, e.val) :: fr, e.ed ++ hp⟩
 | ⟨nt, nx, fr, hp⟩, none, e => ⟨nt, nx, fr, e.ed ++ hp⟩
structure iX (S S' : St) : Prop where
 nt : S.nt = S'.nt
 nx : S.nx = S'.nx
 fr : ∀ n, lk S.fr n = lk S'.fr n
 hp : ∀ l, lkh S.hp l = lkh S'.hp l
theorem iX.refl (S : St) : iX S S := ⟨rfl, rfl, fun _ => rfl, fun _ => rfl⟩
theorem iX.symm {S S' : St} (h : iX S S') : iX S' S := ⟨h.nt.symm, h.nx.symm, fun n => (h.fr n).symm, fun l => (h.hp l).symm⟩
theorem iX.trans {S S' S'' : St} (h : iX S S') (k : iX S' S'') : iX S S'' := ⟨h.nt.trans k.nt, h.nx.trans k.nx, fun n => (h.fr n).trans (k.fr n), fun l => (h.hp l).trans (k.hp l)⟩
theorem Sat.congr {O : Org} {E : Env} {S S' : St} {a : Act} {w : World} (e : iX S S') (h : Sat O E S a w) : Sat O E S' a w := by
 obtain ⟨nt, nx, fr, hp⟩ := S
 obtain ⟨nt', nx', fr', hp'⟩ := S'
 obtain ⟨e1, e2, e3, e4⟩ := e
 simp only at e1 e2 e3 e4
 subst e1 e2
 refine ⟨fun n => ?_, h.nt, h.df, fun l b hb => h.hp l b ?_, fun l b hb => h.nx l b ?_, fun l l' b b' hb hb' => h.inj l l' b b' ?_ ?_, fun b hb => ⟨(h.im b hb).1, (h.im b hb).2.1, fun l x hl => (h.im b hb).2.2 l x ?_⟩, fun l b hb => h.own l b ?_, h.kq, h.lab, h.nl, h.imo⟩
 ·have := h.fr n
  simp only at this ⊢
  rw [← e3]; exact this
 all_goals (simp only at *; rw [e4]; assumption)
open Classical in
theorem rW : ∀ (e hp : List (Nat × Option Blk)) (l : Nat), lkh (e ++ hp) l = if (∃ o, (l, o) ∈ e) then lkh e l else lkh hp l
 | [], hp, l => by simp
 | (m, ob) :: r, hp, l => by
  rw [List.cons_append, aj, aj, rW r hp l]
  by_cases h : m = l
  ·subst h; rw [if_pos rfl, if_pos ⟨ob, by simp⟩, if_pos rfl]
  ·rw [if_neg h, if_neg h]
   by_cases h2 : ∃ o, (l, o) ∈ r
   ·rw [if_pos h2, if_pos (by obtain ⟨o, ho⟩ := h2; exact ⟨o, by simp [ho]⟩)]
   ·rw [if_neg h2, if_neg (by
     rintro ⟨o, ho⟩
     rcases Q22 ho with ho | ho
     ·cases ho; exact h rfl
     ·exact h2 ⟨o, ho⟩)]
theorem gX (S : St) (d : Option Nat) (e : Ef) : (S.step d e).nt = S.nt ∧ (S.step d e).nx = S.nx := by cases S; cases d <;> exact ⟨rfl, rfl⟩
theorem step_fr (S : St) (d : Option Nat) (e : Ef) (n : Nat) : lk (S.step d e).fr n = if d = some n then e.val else lk S.fr n := by
 cases S
 cases d with
 | none => simp [St.step]
 | some m => simp only [St.step, cE, Option.some.injEq]
open Classical in
theorem j5 (S : St) (d : Option Nat) (e : Ef) (l : Nat) : lkh (S.step d e).hp l = if (∃ o, (l, o) ∈ e.ed) then lkh e.ed l else lkh S.hp l := by
 cases S
 cases d <;> exact rW _ _ _
theorem iX.step {S S' : St} (h : iX S S') (d : Option Nat) (e : Ef) : iX (S.step d e) (S'.step d e) :=
 ⟨by rw [(gX S d e).1, (gX S' d e).1, h.nt], by rw [(gX S d e).2, (gX S' d e).2, h.nx], fun n => by rw [step_fr, step_fr, h.fr], fun l => by rw [j5, j5, h.hp]⟩
abbrev Pt := Oper × Ef
def ap : List Pt → St → St
 | [], S => S
 | p :: r, S => ap r (S.step p.1.dst p.2)
theorem dh : ∀ (l : List Pt) (S : St), (ap l S).nt = S.nt ∧ (ap l S).nx = S.nx
 | [], S => ⟨rfl, rfl⟩
 | p :: r, S => by
  obtain ⟨h1, h2⟩ := dh r (S.step p.1.dst p.2)
  obtain ⟨h3, h4⟩ := gX S p.1.dst p.2
  exact ⟨h1.trans h3, h2.trans h4⟩
theorem eY : ∀ (l : List Pt) (S : St) (n : Nat), (∀ p ∈ l, p.1.dst ≠ some n) → lk (ap l S).fr n = lk S.fr n
 | [], S, n, h => rfl
 | p :: r, S, n, h => by
  rw [ap, eY r _ n fun q hq => h q (by simp [hq]), step_fr, if_neg (h p (by simp))]
theorem gL : ∀ (l : List Pt) (S : St) (n : Nat) (v : SV), (∃ p ∈ l, p.1.dst = some n) → (∀ p ∈ l, p.1.dst = some n → p.2.val = v) → lk (ap l S).fr n = v
 | [], S, n, v, ⟨p, hp, _⟩, h => by simp at hp
 | p :: r, S, n, v, hex, h => by
  by_cases h2 : ∃ q ∈ r, q.1.dst = some n
  ·exact gL r _ n v h2 fun q hq => h q (by simp [hq])
  ·rw [ap, eY r _ n fun q hq e => h2 ⟨q, hq, e⟩, step_fr]
   obtain ⟨q, hq, e⟩ := hex
   rcases Q22 hq with rfl | hq
   ·rw [if_pos e]; exact h _ (by simp) e
   ·exact absurd ⟨q, hq, e⟩ h2
theorem kT : ∀ (l : List Pt) (S : St) (n : Nat), (∀ p ∈ l, ∀ o, (n, o) ∉ p.2.ed) → lkh (ap l S).hp n = lkh S.hp n
 | [], S, n, h => rfl
 | p :: r, S, n, h => by
  rw [ap, kT r _ n fun q hq => h q (by simp [hq]), j5, if_neg (by rintro ⟨o, ho⟩; exact h p (by simp) o ho)]
theorem pQ (l m : List Pt) (S : St) : ap (l ++ m) S = ap m (ap l S) := by
 induction l generalizing S with
 | nil => rfl
 | cons p r ih => exact ih _
def cy (C : Cx) (ops : List Oper) (ln : Nat) (S : St) (o : Oper) (ef : Ef) : Prop :=
 match o.guard with
 | none => qt C S ln o.op fun e => e = ef
 | some (j, want) => ∃ t, (ops[j]?).bind (·.dst) = some t ∧ ((∃ b, lk S.fr t = .b b ∧ (b = want → qt C S ln o.op fun e => e = ef) ∧ (b ≠ want → ef = ⟨.tup [], [], []⟩)) ∨ (lk S.fr t = .tup [] ∧ ef = ⟨.tup [], [], []⟩))
structure Go (p : Prop) : Prop where
 out : p
def edK : List (Nat × Option Blk) → List (Nat × Option Blk) → (List (Nat × Option Blk) → Prop) → Prop
 | [], hp, k => k hp
 | x :: r, hp, k => edK r hp fun h => k (x :: h)
theorem v4 : ∀ (e hp : List (Nat × Option Blk)) (k : List (Nat × Option Blk) → Prop), edK e hp k → k (e ++ hp)
 | [], hp, k, h => h
 | x :: r, hp, k, h => v4 r hp _ h
def qQ (S : St) (dst : Option Nat) (ef : Ef) (k : St → Prop) : Prop :=
 match S, dst, ef with
 | ⟨nt, nx, fr, hp⟩, some n, ⟨v, ed, _⟩ => edK ed hp fun hp' => k ⟨nt, nx, (n, v) :: fr, hp'⟩
 | ⟨nt, nx, fr, hp⟩, none, ⟨_, ed, _⟩ => edK ed hp fun hp' => k ⟨nt, nx, fr, hp'⟩
theorem dK {S : St} {dst : Option Nat} {ef : Ef} {k : St → Prop} (h : qQ S dst ef k) : k (S.step dst ef) := by
 obtain ⟨nt, nx, fr, hp⟩ := S
 obtain ⟨v, ed, rd⟩ := ef
 cases dst <;> exact v4 _ _ _ h
structure ah (A B : Ef → Prop) : Prop where
 out : ∃ ef, A ef ∧ B ef
theorem ah.of {A B : Ef → Prop} (ef : Ef) (h1 : A ef) (h2 : Go (B ef)) : ah A B := ⟨ef, h1, h2.out⟩
def runR (C : Cx) (S : St) (ln : Nat) (o : Oper) (k : Ef → St → Prop) : Prop := ah (fun ef => qt C S ln o.op fun e => e = ef) fun ef => qQ S o.dst ef fun S' => k ef S'
def cG (C : Cx) (ops : List Oper) (n0 : Nat) : List Oper → Nat → St → (List Ef → St → Prop) → Prop
 | [], _, S, k => k [] S
 | o :: r, i, S, k => match o.guard with
  | none => runR C S (n0 + i) o fun ef S' => cG C ops n0 r (i + 1) S' fun efs => k (ef :: efs)
  | some (j, want) => match (ops[j]?).bind (·.dst) with
   | some t => match lk S.fr t with
    | .d (.val (.bool b)) => match want with
     | true => bif b then runR C (setSlot S t true) (n0 + i) o (fun ef S' => cG C ops n0 r (i + 1) S' fun efs => k (ef :: efs)) else qQ (setSlot S t false) o.dst ⟨.tup [], [], []⟩ fun S' => cG C ops n0 r (i + 1) S' fun efs => k (⟨.tup [], [], []⟩ :: efs)
     | false => bif b then qQ (setSlot S t true) o.dst ⟨.tup [], [], []⟩ (fun S' => cG C ops n0 r (i + 1) S' fun efs => k (⟨.tup [], [], []⟩ :: efs)) else runR C (setSlot S t false) (n0 + i) o fun ef S' => cG C ops n0 r (i + 1) S' fun efs => k (ef :: efs)
    | .tup [] => qQ S o.dst ⟨.tup [], [], []⟩ fun S' => cG C ops n0 r (i + 1) S' fun efs => k (⟨.tup [], [], []⟩ :: efs)
    | _ => False
   | none => False
theorem px {S : St} {t : Nat} {b : Bool} (h : lk S.fr t = .b b) : iX S (setSlot S t b) := by
 obtain ⟨nt, nx, fr, hp⟩ := S
 refine ⟨rfl, rfl, fun n => ?_, fun _ => rfl⟩
 simp only [setSlot, cE]
 by_cases e : t = n
 ·subst e; rw [if_pos rfl]; exact h
 ·rw [if_neg e]
theorem sS {C : Cx} {S S' : St} (e : iX S S') {ln : Nat} {op : Op} {ef : Ef} (h : qt C S ln op fun x => x = ef) : qt C S' ln op fun x => x = ef :=
 jO e.nx (fun x _ => oV fun t _ => e.fr t) (fun l _ => e.hp l) (fun l _ _ => e.hp l) (fun l _ => e.hp l) h
theorem cy.congr {C : Cx} {ops : List Oper} {ln : Nat} {S S' : St} {o : Oper} {ef : Ef} (e : iX S S') (h : cy C ops ln S o ef) : cy C ops ln S' o ef := by
 unfold cy at h ⊢
 split at h
 ·exact sS e h
 ·obtain ⟨t, h1, ⟨b, h2, h3, h4⟩ | ⟨h2, h3⟩⟩ := h
  ·exact ⟨t, h1, Or.inl ⟨b, by rw [← e.fr]; exact h2, fun hb => sS e (h3 hb), h4⟩⟩
  ·exact ⟨t, h1, Or.inr ⟨by rw [← e.fr]; exact h2, h3⟩⟩
theorem oU {C : Cx} {ops : List Oper} {n0 : Nat} : ∀ (l : List Oper) (i : Nat) (S : St) (k : List Ef → St → Prop), cG C ops n0 l i S k →
  ∃ (efs : List Ef) (Sn : St), k efs Sn ∧ efs.length = l.length ∧ iX Sn (ap (l.zip efs) S) ∧ ∀ (j : Nat) (o : Oper) (ef : Ef), l[j]? = some o → efs[j]? = some ef → cy C ops (n0 + (i + j)) (ap ((l.zip efs).take j) S) o ef
 | [], i, S, k, h => ⟨[], S, h, rfl, .refl _, fun j o ef ho => by simp at ho⟩
 | o :: r, i, S, k, h => by
  have fin : ∀ (S1 : St) (ef : Ef), iX S S1 → cy C ops (n0 + i) S1 o ef → cG C ops n0 r (i + 1) (S1.step o.dst ef) (fun efs => k (ef :: efs)) →
    ∃ (efs : List Ef) (Sn : St), k efs Sn ∧ efs.length = (o :: r).length ∧ iX Sn (ap ((o :: r).zip efs) S) ∧ ∀ (j : Nat) (o' : Oper) (ef : Ef), (o :: r)[j]? = some o' → efs[j]? = some ef → cy C ops (n0 + (i + j)) (ap (((o :: r).zip efs).take j) S) o' ef := by
   intro S1 ef hS hst hx
   obtain ⟨efs, Sn, h1, h2, h3, h4⟩ := oU r (i + 1) _ _ hx
   have cong : ∀ (l : List Pt) (S S' : St), iX S S' → iX (ap l S) (ap l S') := by
    intro l
    induction l with
    | nil => exact fun S S' h => h
    | cons p l ih => exact fun S S' h => ih _ _ (h.step _ _)
   refine ⟨ef :: efs, Sn, h1, by simp [h2], h3.trans (cong _ _ _ ((hS.step _ _).symm)), fun j o' ef' ho he => ?_⟩
   cases j with
   | zero => simp at ho he; subst ho he; exact hst.congr hS.symm
   | succ j =>
    simp at ho he
    have := h4 j o' ef' ho he
    rw [show i + (j + 1) = i + 1 + j by omega]
    have e := cong ((r.zip efs).take j) _ _ (hS.step o.dst ef).symm
    exact this.congr e
  unfold cG at h
  split at h
  ·rename_i hg
   obtain ⟨ef, h1, h2⟩ := h.out
   exact fin S ef (.refl S) (by unfold cy; rw [hg]; exact h1) (dK (k := fun S' => cG C ops n0 r (i + 1) S' fun efs => k (ef :: efs)) h2)
  ·rename_i j want hg
   split at h
   ·rename_i t ht
    split at h
    ·rename_i b hb
     have hS := px hb
     have hb' : ∀ c, b = c → lk (setSlot S t c).fr t = .b c := fun c hc => by subst hc; rw [← hS.fr]; exact hb
     have okr : ∀ c ef, b = c → c = want → qt C (setSlot S t c) (n0 + i) o.op (fun e => e = ef) → cy C ops (n0 + i) (setSlot S t c) o ef := fun c ef hc hw h1 => by
      unfold cy; rw [hg]; exact ⟨t, ht, Or.inl ⟨c, hb' c hc, fun _ => h1, fun hne => absurd hw hne⟩⟩
     have oks : ∀ c, b = c → c ≠ want → cy C ops (n0 + i) (setSlot S t c) o ⟨.tup [], [], []⟩ := fun c hc hw => by
      unfold cy; rw [hg]; exact ⟨t, ht, Or.inl ⟨c, hb' c hc, fun he => absurd he hw, fun _ => rfl⟩⟩
     cases want <;> cases b
     ·obtain ⟨ef, h1, h2⟩ := h.out
      exact fin _ ef hS (okr _ _ rfl rfl h1) (dK (k := fun S' => cG C ops n0 r (i + 1) S' fun efs => k (ef :: efs)) h2)
     ·exact fin _ _ hS (oks _ rfl (by simp)) (dK (S := setSlot S t true) (dst := o.dst) (ef := ⟨.tup [], [], []⟩) (k := fun S' => cG C ops n0 r (i + 1) S' fun efs => k (⟨.tup [], [], []⟩ :: efs)) h)
     ·exact fin _ _ hS (oks _ rfl (by simp)) (dK (S := setSlot S t false) (dst := o.dst) (ef := ⟨.tup [], [], []⟩) (k := fun S' => cG C ops n0 r (i + 1) S' fun efs => k (⟨.tup [], [], []⟩ :: efs)) h)
     ·obtain ⟨ef, h1, h2⟩ := h.out
      exact fin _ ef hS (okr _ _ rfl rfl h1) (dK (k := fun S' => cG C ops n0 r (i + 1) S' fun efs => k (ef :: efs)) h2)
    ·rename_i hb
     exact fin S ⟨.tup [], [], []⟩ (.refl S) (by unfold cy; rw [hg]; exact ⟨t, ht, Or.inr ⟨hb, rfl⟩⟩) (dK (S := S) (dst := o.dst) (ef := ⟨.tup [], [], []⟩) (k := fun S' => cG C ops n0 r (i + 1) S' fun efs => k (⟨.tup [], [], []⟩ :: efs)) h)
    ·exact h.elim
   ·exact h.elim
end
end Go.Proofs.YtpdhdnhkhidmpaaGreat
