/- Parts of the proof, one behind the other: Sx12, Sx12b. Lemmas and contracts of functions; no condition of its own. -/
import Derived.Test.YteallmlkkcjblaaGreatDoorMR2
set_option linter.unusedVariables false
set_option linter.unusedSimpArgs false
namespace Go.Proofs.YteallmlkkcjblaaGreatDoor
open Go.RowKit
mutual
def SV.ren (π : Nat → Nat) : SV → SV
  | .any => .any
  | .d x => .d x
  | .ptr l o => .ptr (π l) o
  | .rp l z q o => .rp (π l) z q o
  | .sl l z o n => .sl (π l) z o n
  | .agg vs => .agg (SV.renL π vs)
  | .tup vs => .tup (SV.renL π vs)
  | .fn f cs => .fn f (SV.renL π cs)
  | .iref cs o => .iref (SV.renL π cs) o
def SV.renL (π : Nat → Nat) : List SV → List SV
  | [] => []
  | x :: r => SV.ren π x :: SV.renL π r
end
theorem SV.renL_map (π : Nat → Nat) : ∀ vs : List SV, SV.renL π vs = vs.map (SV.ren π)
  | [] => rfl
  | x :: r => by rw [SV.renL, SV.renL_map π r]; rfl
def ren0 (π : Nat → Nat) : SV → SV
  | .ptr l o => .ptr (π l) o
  | .sl l z o n => .sl (π l) z o n
  | .rp l z q o => .rp (π l) z q o
  | .d x => .d x
  | .fn f cs => .fn f (SV.renL π cs)
  | .iref cs o => .iref (SV.renL π cs) o
  | _ => .any
def ren1 (π : Nat → Nat) : SV → SV
  | .agg vs => .agg (vs.map (ren0 π))
  | .ptr l o => .ptr (π l) o
  | .sl l z o n => .sl (π l) z o n
  | .rp l z q o => .rp (π l) z q o
  | .d x => .d x
  | .fn f cs => .fn f (SV.renL π cs)
  | .iref cs o => .iref (SV.renL π cs) o
  | _ => .any
def ren2 (π : Nat → Nat) : SV → SV
  | .tup vs => .tup (vs.map (ren1 π))
  | .agg vs => .agg (vs.map (ren0 π))
  | .ptr l o => .ptr (π l) o
  | .sl l z o n => .sl (π l) z o n
  | .rp l z q o => .rp (π l) z q o
  | .d x => .d x
  | .fn f cs => .fn f (SV.renL π cs)
  | .iref cs o => .iref (SV.renL π cs) o
  | _ => .any
def bnd (π : Nat → Nat) : Nat → Nat
  | 0 => 0
  | m + 1 => max (bnd π m) (π m + 1)
theorem bnd_lt (π : Nat → Nat) : ∀ {m l : Nat}, l < m → π l < bnd π m
  | 0, l, h => by omega
  | m + 1, l, h => by
    unfold bnd
    by_cases e : l = m
    · subst e; omega
    · have := bnd_lt π (m := m) (l := l) (by omega); omega
theorem bnd_le (π : Nat → Nat) {k : Nat} : ∀ {m : Nat}, (∀ l, l < m → π l < k) → bnd π m ≤ k
  | 0, h => Nat.zero_le _
  | m + 1, h => by
    unfold bnd
    have h1 := bnd_le π (k := k) (m := m) fun l hl => h l (by omega)
    have h2 := h m (by omega)
    omega
theorem SV.Lt.ren {π : Nat → Nat} {m : Nat} {x : SV} (h : SV.Lt m x) : SV.Lt (bnd π m) (SV.ren π x) := by
  induction h with
  | any => unfold SV.ren; exact .any
  | d x => unfold SV.ren; exact .d _
  | ptr l o h => unfold SV.ren; exact .ptr _ _ (bnd_lt π h)
  | rp l z q o h => unfold SV.ren; exact .rp _ _ _ _ (bnd_lt π h)
  | sl l z o n h => unfold SV.ren; exact .sl _ _ _ _ (bnd_lt π h)
  | agg vs h ih => unfold SV.ren; rw [SV.renL_map]; exact .agg _ fun y hy => by obtain ⟨z, hz, rfl⟩ := List.mem_map.1 hy; exact ih z hz
  | tup vs h ih => unfold SV.ren; rw [SV.renL_map]; exact .tup _ fun y hy => by obtain ⟨z, hz, rfl⟩ := List.mem_map.1 hy; exact ih z hz
  | fn f vs h ih => unfold SV.ren; rw [SV.renL_map]; exact .fn _ _ fun y hy => by obtain ⟨z, hz, rfl⟩ := List.mem_map.1 hy; exact ih z hz
  | iref vs o h ih => unfold SV.ren; rw [SV.renL_map]; exact .iref _ _ fun y hy => by obtain ⟨z, hz, rfl⟩ := List.mem_map.1 hy; exact ih z hz
theorem map_idL {f : SV → SV} : ∀ {vs : List SV}, (∀ y ∈ vs, f y = y) → vs.map f = vs
  | [], _ => rfl
  | x :: r, h => by rw [List.map_cons, h x (by simp), map_idL fun y hy => h y (by simp [hy])]
theorem SV.Lt.ren0 {π : Nat → Nat} {m : Nat} {x : SV} (h : SV.Lt m x) (hm : m = 0) : SV.ren π x = x := by
  induction h with
  | any => unfold SV.ren; rfl
  | d x => unfold SV.ren; rfl
  | ptr l o h => omega
  | rp l z q o h => omega
  | sl l z o n h => omega
  | agg vs h ih => unfold SV.ren; rw [SV.renL_map, map_idL ih]
  | tup vs h ih => unfold SV.ren; rw [SV.renL_map, map_idL ih]
  | fn f vs h ih => unfold SV.ren; rw [SV.renL_map, map_idL ih]
  | iref vs o h ih => unfold SV.ren; rw [SV.renL_map, map_idL ih]
def renB (π : Nat → Nat) : Blk → Blk
  | .cells cs => .cells (cs.map (ren0 π))
  | .row e z n f => .row e z n f
  | .cf m n g => bif Nat.beq m 0 then .cf 0 n g else .cf (bnd π m) n fun j => SV.ren π (g j)
  | .obj b m n p g => .obj b (bnd π m) n p fun j => SV.ren π (g j)
section
variable {E E' : Env} {nx nx' : Nat} {w : World} {π : Nat → Nat}
theorem SV.ren_ok (hρ : ∀ l, l < nx → E'.ρ (π l) = E.ρ l ∧ E'.κ (π l) = E.κ l) (hn : ∀ l, l < nx → π l < nx') (hI : ∀ b, E.Im b → E'.Im b) {x : SV} {v : Value} (h : RS E nx w x v) : RS E' nx' w (SV.ren π x) v := by
  induction h with
  | any => unfold SV.ren; exact .any _
  | d x v h => unfold SV.ren; exact .d _ _ (h.mono hI fun _ _ => rfl)
  | ptr l o hl => unfold SV.ren; rw [← (hρ l hl).1]; exact .ptr _ _ (hn l hl)
  | rp l z q o hl => unfold SV.ren; rw [← (hρ l hl).1]; exact .rp _ _ _ _ (hn l hl)
  | sl l z o n ad cap hl hc hm ha h0 =>
    unfold SV.ren
    exact .sl _ _ _ _ _ _ (hn l hl) hc hm (by rw [(hρ l hl).1]; exact ha) (by rw [(hρ l hl).1, (hρ l hl).2]; exact h0)
  | agg vs us hs h1 h ih => unfold SV.ren; rw [SV.renL_map]; exact .agg _ _ (by simpa using hs) h1 fun j hj => by rw [List.getElem_map]; exact ih j (by simpa using hj)
  | tup vs us hs h ih => unfold SV.ren; rw [SV.renL_map]; exact .tup _ _ (by simpa using hs) fun j hj => by rw [List.getElem_map]; exact ih j (by simpa using hj)
  | fn f vs us hs h ih => unfold SV.ren; rw [SV.renL_map]; exact .fn _ _ _ (by simpa using hs) fun j hj => by rw [List.getElem_map]; exact ih j (by simpa using hj)
  | iref cs off b o g hb hcell h1 h ih =>
    unfold SV.ren; rw [SV.renL_map]
    exact .iref _ _ b o g (hI _ hb) (fun j hj => hcell j (by simpa using hj)) (fun j hj => h1 j (by simpa using hj)) fun j hj => by rw [List.getElem_map]; exact ih j (by simpa using hj)
theorem ren0_ok (hρ : ∀ l, l < nx → E'.ρ (π l) = E.ρ l ∧ E'.κ (π l) = E.κ l) (hn : ∀ l, l < nx → π l < nx') (hI : ∀ b, E.Im b → E'.Im b) {x : SV} {v : Value} (h : RS E nx w x v) : RS E' nx' w (ren0 π x) v := by
  cases h with
  | any => exact .any _
  | d x v h => exact .d _ _ (h.mono hI fun _ _ => rfl)
  | ptr l o hl => simp only [ren0]; rw [← (hρ l hl).1]; exact .ptr _ _ (hn l hl)
  | rp l z q o hl => simp only [ren0]; rw [← (hρ l hl).1]; exact .rp _ _ _ _ (hn l hl)
  | sl l z o n ad cap hl hc hm ha h0 =>
    exact .sl _ _ _ _ _ _ (hn l hl) hc hm (by rw [(hρ l hl).1]; exact ha) (by rw [(hρ l hl).1, (hρ l hl).2]; exact h0)
  | fn f cs us hs hh => have := SV.ren_ok hρ hn hI (RS.fn f cs us hs hh); unfold SV.ren at this; exact this
  | iref cs off b o g hb hcell h1 hh => have := SV.ren_ok hρ hn hI (RS.iref cs off b o g hb hcell h1 hh); unfold SV.ren at this; exact this
  | _ => exact .any _
theorem ren1_ok (hρ : ∀ l, l < nx → E'.ρ (π l) = E.ρ l ∧ E'.κ (π l) = E.κ l) (hn : ∀ l, l < nx → π l < nx') (hI : ∀ b, E.Im b → E'.Im b) {x : SV} {v : Value} (h : RS E nx w x v) : RS E' nx' w (ren1 π x) v := by
  cases x with
  | agg vs =>
    cases h with
    | agg _ us hs h1 hh => exact .agg _ _ (by simpa using hs) h1 fun j hj => by rw [List.getElem_map]; exact ren0_ok hρ hn hI (hh j (by simpa using hj))
  | tup => exact .any _
  | any => exact .any _
  | fn => exact ren0_ok hρ hn hI h
  | iref => exact ren0_ok hρ hn hI h
  | d x => exact ren0_ok hρ hn hI h
  | ptr l o => exact ren0_ok hρ hn hI h
  | rp l z q o => exact ren0_ok hρ hn hI h
  | sl l z o n => exact ren0_ok hρ hn hI h
theorem ren2_ok (hρ : ∀ l, l < nx → E'.ρ (π l) = E.ρ l ∧ E'.κ (π l) = E.κ l) (hn : ∀ l, l < nx → π l < nx') (hI : ∀ b, E.Im b → E'.Im b) {x : SV} {v : Value} (h : RS E nx w x v) : RS E' nx' w (ren2 π x) v := by
  cases x with
  | tup vs =>
    cases h with
    | tup _ us hs hh => exact .tup _ _ (by simpa using hs) fun j hj => by rw [List.getElem_map]; exact ren1_ok hρ hn hI (hh j (by simpa using hj))
  | agg vs => exact ren1_ok hρ hn hI h
  | any => exact .any _
  | fn => exact ren0_ok hρ hn hI h
  | iref => exact ren0_ok hρ hn hI h
  | d x => exact ren0_ok hρ hn hI h
  | ptr l o => exact ren0_ok hρ hn hI h
  | rp l z q o => exact ren0_ok hρ hn hI h
  | sl l z o n => exact ren0_ok hρ hn hI h
theorem renB_ok (hρ : ∀ l, l < nx → E'.ρ (π l) = E.ρ l ∧ E'.κ (π l) = E.κ l) (hn : ∀ l, l < nx → π l < nx') (hI : ∀ b, E.Im b → E'.Im b) {l : Nat} {b : Blk} (hl : l < nx) (h : BS E nx w l b) : BS E' nx' w (π l) (renB π b) := by
  cases b with
  | cells cs =>
    obtain ⟨vs, T, h1, h2, h3⟩ := h
    refine ⟨vs, T, by rw [(hρ l hl).1]; exact h1, by simpa using h2, fun j hj => ?_⟩
    have hj' : j < cs.length := by simpa using hj
    rw [List.getElem_map]
    exact ⟨ren0_ok hρ hn hI (h3 j hj').1, (h3 j hj').2⟩
  | row e z n f =>
    obtain ⟨h1, h2, h3, h4, h5⟩ := h
    refine ⟨by rw [(hρ l hl).2]; exact h1, by rw [(hρ l hl).2]; exact h2, h3, h4, ?_⟩
    rw [(hρ l hl).1, (hρ l hl).2]
    intro hk
    obtain ⟨vs, g1, g2, g3, g4⟩ := h5 hk
    exact ⟨vs, g1, g2, g3, fun i j hi hj => (g4 i j hi hj).mono hI fun _ _ => rfl⟩
  | cf m n g =>
    obtain ⟨h0, hh⟩ := h
    cases hm : Nat.beq m 0 with
    | true =>
      have hm0 := Nat.eq_of_beq_eq_true hm
      subst hm0
      refine ⟨Nat.zero_le _, fun hp => ?_⟩
      obtain ⟨vs, T, h1, h2, h3⟩ := hh hp
      refine ⟨vs, T, by rw [(hρ l hl).1]; exact h1, h2, fun j hj => ⟨(h3 j hj).1, ?_, (h3 j hj).2.2⟩⟩
      have := SV.ren_ok hρ hn hI (h3 j hj).2.1
      rwa [(h3 j hj).1.ren0 rfl] at this
    | false =>
    have e9 : renB π (.cf m n g) = .cf (bnd π m) n fun j => SV.ren π (g j) := by show (bif Nat.beq m 0 then _ else _) = _; rw [hm]; rfl
    rw [e9]
    refine ⟨bnd_le π fun l hl => hn l (by omega), fun hp => ?_⟩
    obtain ⟨vs, T, h1, h2, h3⟩ := hh hp
    refine ⟨vs, T, by rw [(hρ l hl).1]; exact h1, h2, fun j hj => ⟨(h3 j hj).1.ren, SV.ren_ok hρ hn hI (h3 j hj).2.1, (h3 j hj).2.2⟩⟩
  | obj c m n p g =>
    obtain ⟨e0, h0, o, u, h1, h2, h3⟩ := h
    exact ⟨by rw [(hρ l hl).1]; exact e0, bnd_le π fun l hl => hn l (by omega), o, u, by rw [(hρ l hl).1]; exact h1, h2, fun j hj => ⟨(h3 j hj).1.ren, SV.ren_ok hρ hn hI (h3 j hj).2.1, (h3 j hj).2.2⟩⟩
end
theorem renB_real (π : Nat → Nat) (b : Blk) (κ : Nat) : (renB π b).real κ ↔ b.real κ := by
  cases b with
  | cf m n g =>
    show (bif Nat.beq m 0 then Blk.cf 0 n g else .cf (bnd π m) n fun j => SV.ren π (g j)).real κ ↔ _
    cases Nat.beq m 0 <;> exact Iff.rfl
  | _ => exact Iff.rfl
theorem ArgLe.free {L : List Nat} {x x0 : SV} (h : SV.Le x x0) (hf : x0.free = true) : ArgLe L x x0 := ⟨fun E _ _ _ hv => RS.free (E := E) (E' := ⟨fun i => E.ρ (L.getD i 0), fun i => E.κ (L.getD i 0), E.Im⟩) _root_.rfl hf (h.out _ _ _ _ hv)⟩
theorem ArgLe.rfl {L : List Nat} {x : SV} (hf : x.free = true) : ArgLe L x x := .free (.rfl x) hf
theorem ArgLe.ptr {L : List Nat} {l o i : Nat} (hi : idxK L l = some i) : ArgLe L (.ptr l o) (.ptr i o) := by
  obtain ⟨h1, h2⟩ := idxK_some hi
  refine ⟨fun E nx w v hv => ?_⟩
  cases hv with
  | ptr _ _ hl =>
    have := RS.ptr (E := ⟨fun i => E.ρ (L.getD i 0), fun i => E.κ (L.getD i 0), E.Im⟩) (nx := L.length) (w := w) i o h1
    simp only [h2] at this; exact this
theorem ArgLe.sl {L : List Nat} {l z o n i : Nat} (hi : idxK L l = some i) : ArgLe L (.sl l z o n) (.sl i z o n) := by
  obtain ⟨h1, h2⟩ := idxK_some hi
  refine ⟨fun E nx w v hv => ?_⟩
  cases hv with
  | sl _ _ _ _ ad cap hl hc hm ha h0 => exact .sl _ _ _ _ _ _ h1 hc hm (by simp only [h2]; exact ha) (by simp only [h2]; exact h0)
def BlkLe (L : List Nat) : Option Blk → Blk → Prop
  | some (.cells cs), .cells cs' => ArgLes L cs cs'
  | some (.row e z n f), .row e' z' n' f' => (e = e' ∧ z = z' ∧ n = n') ∧ ∀ i, i < n → f i = f' i
  | ob, .cf m n g => cfLe L ob (.cf m n g)
  | ob, .obj c m n p g => cfLe L ob (.obj c m n p g)
  | _, _ => False
def HeapLe (hp : List (Nat × Option Blk)) (L : List Nat) : List (Nat × Option Blk) → Prop
  | [] => True
  | (_, none) :: r => HeapLe hp L r
  | (i, some b) :: r => bif Nat.blt i L.length then BlkLe L (lkh hp (L.getD i 0)) b ∧ HeapLe hp L r else False
theorem HeapLe.out {hp : List (Nat × Option Blk)} {L : List Nat} : ∀ {H : List (Nat × Option Blk)}, HeapLe hp L H → ∀ i b, lkh H i = some b → i < L.length ∧ BlkLe L (lkh hp (L.getD i 0)) b
  | [], _, i, b, h => by simp [lkh] at h
  | (j, none) :: r, hk, i, b, h => HeapLe.out (H := r) hk i b (lkh_dead h).2
  | (j, some b') :: r, hk, i, b, h => by
    unfold HeapLe at hk
    cases hb : Nat.blt j L.length with
    | false => simp [hb] at hk
    | true =>
      simp only [hb, cond_true] at hk
      rw [lkh_cons] at h
      by_cases e : j = i
      · subst e; rw [if_pos rfl] at h; cases h; exact ⟨by simpa using hb, hk.1⟩
      · rw [if_neg e] at h; exact HeapLe.out hk.2 i b h
def πf (L : List Nat) (nx i : Nat) : Nat := bif Nat.blt i L.length then L.getD i 0 else nx + (i - L.length)
def postH (π : Nat → Nat) (hp : List (Nat × Option Blk)) : List (Nat × Option Blk) → List (Nat × Option Blk)
  | [] => hp
  | (i, ob) :: r => (π i, ob.map (renB π)) :: postH π hp r
theorem postH_look {π : Nat → Nat} {hp : List (Nat × Option Blk)} : ∀ {H : List (Nat × Option Blk)}, (∀ i j, (∃ o, (i, o) ∈ H) → (∃ o, (j, o) ∈ H) → π i = π j → i = j) → ∀ l x, lkh (postH π hp H) l = some x →
    (∃ i b, l = π i ∧ (∃ o, (i, o) ∈ H) ∧ lkh H i = some b ∧ x = renB π b) ∨ ((∀ i, (∃ o, (i, o) ∈ H) → l ≠ π i) ∧ lkh hp l = some x)
  | [], _, l, x, h => Or.inr ⟨fun i hi => by obtain ⟨o, ho⟩ := hi; simp at ho, h⟩
  | (j, ob) :: r, hinj, l, x, h => by
    unfold postH at h
    rw [lkh_cons] at h
    by_cases e : π j = l
    · rw [if_pos e] at h
      cases ob with
      | none => simp at h
      | some b => simp at h; exact Or.inl ⟨j, b, e.symm, ⟨some b, by simp⟩, by rw [lkh_cons, if_pos rfl], h.symm⟩
    · rw [if_neg e] at h
      rcases postH_look (H := r) (fun i j ⟨o, hi⟩ ⟨o', hj⟩ => hinj i j ⟨o, by simp [hi]⟩ ⟨o', by simp [hj]⟩) l x h with ⟨i, b, h1, ⟨o, h2⟩, h3, h4⟩ | ⟨h1, h2⟩
      · refine Or.inl ⟨i, b, h1, ⟨o, by simp [h2]⟩, ?_, h4⟩
        rw [lkh_cons, if_neg (fun k => e (by rw [k, ← h1]))]; exact h3
      · refine Or.inr ⟨fun i ⟨o, hi⟩ => ?_, h2⟩
        rcases List.mem_cons.1 hi with hi | hi
        · cases hi; exact fun k => e k.symm
        · exact h1 i ⟨o, hi⟩
def keysK (H : List (Nat × Option Blk)) (m : Nat) : Bool := (List.range m).all fun i => H.any fun p => Nat.beq p.1 i
def keysLt (H : List (Nat × Option Blk)) (m : Nat) : Bool := H.all fun p => Nat.blt p.1 m
def liveK (H : List (Nat × Option Blk)) (m : Nat) : Bool := (List.range m).all fun i => (lkh H i).isSome
theorem CallStop.fun {C : Cx} {S : St} {g : Nat} {args : List SV} {k : St → SV → Prop} {m m' : Nat} {args0 : List SV} {H H' : List (Nat × Option Blk)} {r : SV} (h : Fun C g m args0 H m' r H') (L : List Nat) (hlen : L.length = m) (hd : noDup L = true) (hlive : liveK H m = true) (hkeys : keysK H' m = true) (hlt : keysLt H' m' = true)
    (ha : ArgLes L args args0) (hh : HeapLe S.hp L H) (hk : k ⟨S.nt, S.nx + (m' - m), S.fr, postH (πf L S.nx) S.hp H'⟩ (ren2 (πf L S.nx) r)) : CallStop C S g args k := by
  subst hlen
  refine ⟨h.ent, fun O E a w vs hs hsz hargs => ?_⟩
  obtain ⟨ha1, ha2⟩ := ha.out
  let Ec : Env := ⟨fun i => E.ρ (L.getD i 0), fun i => E.κ (L.getD i 0), E.Im⟩
  have hblk : ∀ i b, lkh H i = some b → i < L.length ∧ (∃ b0, lkh S.hp (L.getD i 0) = some b0 ∧ (b.real (E.κ (L.getD i 0)) → b0.real (E.κ (L.getD i 0)))) ∧ BS Ec L.length w i b := by
    intro i b hb
    obtain ⟨g1, g2⟩ := hh.out i b hb
    unfold BlkLe at g2
    split at g2
    · rename_i cs cs' hl
      refine ⟨g1, ⟨_, hl, fun _ => trivial⟩, ?_⟩
      obtain ⟨us, T, k1, k2, k3⟩ := hs.hp _ _ hl
      obtain ⟨p1, p2⟩ := g2.out
      refine ⟨us, T, k1, by omega, fun j hj => ?_⟩
      obtain ⟨z, q1, q2⟩ := p2 j _ (List.getElem?_eq_getElem hj)
      obtain ⟨q3, q4⟩ := List.getElem?_eq_some_iff.1 q1
      have := k3 j q3
      rw [q4] at this
      exact ⟨q2.out _ _ _ _ this.1, this.2⟩
    · rename_i e z n f e' z' n' f' hl
      obtain ⟨⟨rfl, rfl, rfl⟩, g3⟩ := g2
      refine ⟨g1, ⟨_, hl, fun h => h⟩, ?_⟩
      obtain ⟨k1, k2, k3, k4, k5⟩ := hs.hp _ _ hl
      refine ⟨k1, k2, k3, fun i hi => by rw [← g3 i hi]; exact k4 i hi, fun hk => ?_⟩
      obtain ⟨us, q1, q2, q3, q4⟩ := k5 hk
      refine ⟨us, q1, q2, q3, fun i j hi hj => ?_⟩
      have key : ∀ c : List D, c = f i → ∀ hj' : j < c.length, RD w E.Im c[j] (us.getD (i * z + j) undef) := by
        intro c hc hj'; subst hc; exact q4 i j hi hj'
      exact key _ (g3 i hi).symm hj
    · obtain ⟨⟨b0, q1, q2⟩, q3⟩ := g2.bs rfl fun x hx => hs.hp _ x hx
      exact ⟨g1, ⟨b0, q1, fun hr => q2 _ _ hr⟩, q3⟩
    · obtain ⟨⟨b0, q1, q2⟩, q3⟩ := g2.bs rfl fun x hx => hs.hp _ x hx
      exact ⟨g1, ⟨b0, q1, fun hr => q2 _ _ hr⟩, q3⟩
    · exact g2.elim
  have hS : HSat Ec L.length H w := by
    refine ⟨fun i b hb => (hblk i b hb).2.2, fun i b hb => (hblk i b hb).1, fun i j b b' hi hj hr hr' hne => ?_, fun b hb => ⟨(hs.im b hb).1, fun i z hz hzr => ?_⟩⟩
    · obtain ⟨g1, ⟨b0, g2, g3⟩, _⟩ := hblk i b hi
      obtain ⟨g4, ⟨b1, g5, g6⟩, _⟩ := hblk j b' hj
      exact hs.inj _ _ _ _ g2 g5 (g3 hr) (g6 hr') (noDup_ne hd g1 g4 hne)
    · obtain ⟨g1, ⟨b0, g2, g3⟩, _⟩ := hblk i z hz
      exact (hs.im b hb).2.2 _ _ g2 (g3 hzr)
  have hLlt : ∀ i, i < L.length → L.getD i 0 < S.nx := fun i hi => by
    have := hlive
    unfold liveK at this
    rw [List.all_eq_true] at this
    obtain ⟨b, hb⟩ := Option.isSome_iff_exists.1 (this i (by simpa using hi))
    obtain ⟨_, ⟨b0, g2, _⟩, _⟩ := hblk i b hb
    exact hs.nx _ _ g2
  refine (h.out Ec w vs hS (by omega) fun j hj => ?_).mono ?_
  · obtain ⟨z, q1, q2⟩ := ha2 j _ (List.getElem?_eq_getElem hj)
    obtain ⟨q3, q4⟩ := List.getElem?_eq_some_iff.1 q1
    have := hargs j q3
    rw [q4] at this
    exact q2.out _ _ _ _ this
  rintro e w' ⟨v, E', rfl, hkq, hlab, hS', hnew, him, himo, hv⟩
  let π := πf L S.nx
  have hπ1 : ∀ i, i < L.length → π i = L.getD i 0 := fun i hi => by
    show (bif Nat.blt i L.length then L.getD i 0 else S.nx + (i - L.length)) = _
    have hb : Nat.blt i L.length = true := by simpa using hi
    rw [hb]; rfl
  have hπ2 : ∀ i, L.length ≤ i → π i = S.nx + (i - L.length) := fun i hi => by
    show (bif Nat.blt i L.length then L.getD i 0 else S.nx + (i - L.length)) = _
    cases hb : Nat.blt i L.length with
    | true => have : i < L.length := by simpa using hb
              omega
    | false => rfl
  have hle := h.le
  let E2 : Env := ⟨fun l => if l < S.nx then E.ρ l else E'.ρ (l - S.nx + L.length), fun l => if l < S.nx then E.κ l else E'.κ (l - S.nx + L.length), fun b => E.Im b ∨ E'.Im b⟩
  have hE2 : ∀ l, l < S.nx → E2.ρ l = E.ρ l ∧ E2.κ l = E.κ l := fun l hl => ⟨by simp only [E2]; rw [if_pos hl], by simp only [E2]; rw [if_pos hl]⟩
  have hEπ : ∀ i, i < m' → E2.ρ (π i) = E'.ρ i ∧ E2.κ (π i) = E'.κ i := fun i hi => by
    by_cases hlt : i < L.length
    · rw [hπ1 i hlt, (hE2 _ (hLlt i hlt)).1, (hE2 _ (hLlt i hlt)).2]
      obtain ⟨p1, p2⟩ := hlab i hlt
      exact ⟨p1.symm, p2.symm⟩
    · rw [hπ2 i (by omega)]
      have e1 : S.nx + (i - L.length) - S.nx + L.length = i := by omega
      refine ⟨by simp only [E2]; rw [if_neg (by omega), e1], by simp only [E2]; rw [if_neg (by omega), e1]⟩
  have hπlt : ∀ i, i < m' → π i < S.nx + (m' - L.length) := fun i hi => by
    by_cases hlt : i < L.length
    · rw [hπ1 i hlt]; have := hLlt i hlt; omega
    · rw [hπ2 i (by omega)]; omega
  have hπinj : ∀ i j, π i = π j → i = j := fun i j hij => by
    by_cases hi : i < L.length <;> by_cases hj : j < L.length
    · rw [hπ1 i hi, hπ1 j hj] at hij
      exact Classical.byContradiction fun hne => noDup_ne hd hi hj hne hij
    · rw [hπ1 i hi, hπ2 j (by omega)] at hij; have := hLlt i hi; omega
    · rw [hπ1 j hj, hπ2 i (by omega)] at hij; have := hLlt j hj; omega
    · rw [hπ2 i (by omega), hπ2 j (by omega)] at hij; omega
  have hHB : ∀ b, HB Ec H b → ∃ i b0, i < L.length ∧ lkh S.hp (L.getD i 0) = some b0 ∧ b0.real (E.κ (L.getD i 0)) ∧ E.ρ (L.getD i 0) = b := by
    rintro b ⟨i, z, hz, hzr, rfl⟩
    obtain ⟨g1, ⟨b0, g2, g3⟩, _⟩ := hblk i z hz
    exact ⟨i, b0, g1, g2, g3 hzr, rfl⟩
  have hwi : ∀ b, E.Im b → w'.heap[b]? = w.heap[b]? := fun b hb => hkq.block b (hs.im b hb).1 (fun hx => by
    obtain ⟨i, b0, _, g2, g3, g4⟩ := hHB b hx
    exact (hs.im b hb).2.2 _ _ g2 g3 g4)
  have hsize := hkq.size
  have hlook : ∀ l x, lkh (postH π S.hp H') l = some x → (∃ i b, l = π i ∧ i < m' ∧ lkh H' i = some b ∧ x = renB π b) ∨ ((∀ i, i < L.length → l ≠ L.getD i 0) ∧ l < S.nx ∧ lkh S.hp l = some x) := by
    intro l x hx
    rcases postH_look (fun i j _ _ => hπinj i j) l x hx with ⟨i, b, h1, _, h3, h4⟩ | ⟨h1, h2⟩
    · exact Or.inl ⟨i, b, h1, hS'.nx i b h3, h3, h4⟩
    · refine Or.inr ⟨fun i hi => ?_, hs.nx l x h2, h2⟩
      unfold keysK at hkeys
      rw [List.all_eq_true] at hkeys
      have := hkeys i (by simpa using hi)
      rw [List.any_eq_true] at this
      obtain ⟨p, hp1, hp2⟩ := this
      have hp3 := Nat.eq_of_beq_eq_true hp2
      obtain ⟨p1, p2⟩ := p
      simp only at hp3
      subst hp3
      rw [← hπ1 _ hi]
      exact h1 _ ⟨p2, hp1⟩
  have hold : ∀ l x, lkh S.hp l = some x → x.real (E.κ l) → (∀ i, i < L.length → l ≠ L.getD i 0) → ¬ HB Ec H (E.ρ l) := by
    intro l x hl hr hne hx
    obtain ⟨i, b0, g1, g2, g3, g4⟩ := hHB _ hx
    exact hs.inj l _ x b0 hl g2 hr g3 (hne i g1) g4.symm
  have hpost : ∀ i b, i < m' → lkh H' i = some b → (renB π b).real (E2.κ (π i)) → HB E' H' (E2.ρ (π i)) := by
    intro i b hi hb hr
    rw [(hEπ i hi).1]
    rw [renB_real, (hEπ i hi).2] at hr
    exact ⟨i, b, hb, hr, rfl⟩
  have hpostown : ∀ b, HB E' H' b → (∃ i b0, i < L.length ∧ lkh S.hp (L.getD i 0) = some b0 ∧ b0.real (E.κ (L.getD i 0)) ∧ E.ρ (L.getD i 0) = b) ∨ w.heap.size ≤ b := by
    intro b hb
    rcases hnew b hb with h9 | h9
    · exact Or.inl (hHB b h9)
    · exact Or.inr h9
  have hw0 := hs.kq.size
  refine ⟨v, E2, ⟨S.nt, S.nx + (m' - L.length), S.fr, postH π S.hp H'⟩, ren2 π r, rfl, hk, ?_, ?_⟩
  · refine ⟨fun n => (hs.fr n).mono hE2 (by simp) (fun b hb => Or.inl hb) hwi, hs.nt, hs.df, ?_, ?_, ?_, ?_, ?_, ?_, ?_, by have := hs.nl; simp only; omega, fun b hb => Or.inl (hs.imo b hb)⟩
    · intro l x hx
      rcases hlook l x hx with ⟨i, b, rfl, hi, hb, rfl⟩ | ⟨hne, hlx, hl⟩
      · exact renB_ok (E := E') (E' := E2) (nx := m') (fun l hl => hEπ l hl) (fun l hl => hπlt l hl) (fun b hb => Or.inr hb) hi (hS'.hp i b hb)
      · exact (hs.hp l x hl).mono hlx hE2 (by simp) (fun b hb => Or.inl hb) hwi (fun hr => hkq.block _ ((hs.hp l x hl).lt hr) (hold l x hl hr hne))
    · intro l x hx
      rcases hlook l x hx with ⟨i, b, rfl, hi, hb, rfl⟩ | ⟨hne, hlx, hl⟩
      · exact hπlt i hi
      · simp only; omega
    · intro l l' x x' hx hx' hr hr' hne
      rcases hlook l x hx with ⟨i, b, rfl, hi, hb, rfl⟩ | ⟨hn1, hlx, hl⟩ <;> rcases hlook l' x' hx' with ⟨j, b', rfl, hj, hb', rfl⟩ | ⟨hn2, hlx', hl'⟩
      · rw [(hEπ i hi).1, (hEπ j hj).1]
        rw [renB_real, (hEπ i hi).2] at hr
        rw [renB_real, (hEπ j hj).2] at hr'
        exact hS'.inj i j b b' hb hb' hr hr' (fun e => hne (by rw [e]))
      · have h1 := hpostown _ (hpost i b hi hb hr)
        rw [(hE2 l' hlx').1]
        rw [(hE2 l' hlx').2] at hr'
        rcases h1 with ⟨q, b0, g1, g2, g3, g4⟩ | h1
        · rw [← g4]; exact hs.inj _ _ _ _ g2 hl' g3 hr' (fun e => hn2 q g1 e.symm)
        · have := (hs.hp l' x' hl').lt hr'; omega
      · have h1 := hpostown _ (hpost j b' hj hb' hr')
        rw [(hE2 l hlx).1]
        rw [(hE2 l hlx).2] at hr
        rcases h1 with ⟨q, b0, g1, g2, g3, g4⟩ | h1
        · rw [← g4]; exact hs.inj _ _ _ _ hl g2 hr g3 (hn1 q g1)
        · have := (hs.hp l x hl).lt hr; omega
      · rw [(hE2 l hlx).1, (hE2 l' hlx').1]
        rw [(hE2 l hlx).2] at hr
        rw [(hE2 l' hlx').2] at hr'
        exact hs.inj l l' x x' hl hl' hr hr' hne
    · rintro b (hb | hb)
      · obtain ⟨k1, k2, k3⟩ := hs.im b hb
        refine ⟨by omega, k2, fun l x hx hr => ?_⟩
        rcases hlook l x hx with ⟨i, b', rfl, hi, hb', rfl⟩ | ⟨hne, hlx, hl⟩
        · rcases hpostown _ (hpost i b' hi hb' hr) with ⟨q, b0, g1, g2, g3, g4⟩ | h1
          · rw [← g4]; exact k3 _ _ g2 g3
          · omega
        · rw [(hE2 l hlx).1]; rw [(hE2 l hlx).2] at hr; exact k3 l x hl hr
      · obtain ⟨k1, k2⟩ := hS'.im b hb
        have hb3 := him b hb
        refine ⟨k1, ?_, fun l x hx hr => ?_⟩
        · rcases hb3 with h9 | h9 | h9
          · exact (hs.im b h9).2.1
          · obtain ⟨q, b0, g1, g2, g3, g4⟩ := hHB b h9
            rcases hs.own _ _ g2 g3 with h8 | h8
            · exact Or.inr (Or.inr (g4 ▸ h8))
            · exact Or.inl (by omega)
          · exact Or.inl (by omega)
        · rcases hlook l x hx with ⟨i, b', rfl, hi, hb', rfl⟩ | ⟨hne, hlx, hl⟩
          · rw [(hEπ i hi).1]
            rw [renB_real, (hEπ i hi).2] at hr
            exact k2 i b' hb' hr
          · rw [(hE2 l hlx).1]
            rw [(hE2 l hlx).2] at hr
            rcases hb3 with h9 | h9 | h9
            · exact (hs.im b h9).2.2 l x hl hr
            · intro e; exact hold l x hl hr hne (e ▸ h9)
            · have := (hs.hp l x hl).lt hr; omega
    · intro l x hx hr
      rcases hlook l x hx with ⟨i, b, rfl, hi, hb, rfl⟩ | ⟨hne, hlx, hl⟩
      · rcases hpostown _ (hpost i b hi hb hr) with ⟨q, b0, g1, g2, g3, g4⟩ | h1
        · rw [← g4]; exact hs.own _ _ g2 g3
        · exact Or.inr (by omega)
      · rw [(hE2 l hlx).1]; rw [(hE2 l hlx).2] at hr; exact hs.own l x hl hr
    · exact hs.kq.trans' hkq fun b hb hlt => by
        obtain ⟨q, b0, g1, g2, g3, g4⟩ := hHB b hb
        rcases hs.own _ _ g2 g3 with h8 | h8
        · exact g4 ▸ h8
        · omega
    · intro l hl
      have := hs.nl
      obtain ⟨h1, h2⟩ := hE2 l (by omega)
      rw [h1, h2]; exact hs.lab l hl
  · exact ren2_ok (E := E') (E' := E2) (nx := m') (fun l hl => hEπ l hl) (fun l hl => hπlt l hl) (fun b hb => Or.inr hb) hv
theorem CallStop.funM {C : Cx} {S : St} {g : Nat} {args : List SV} {k : St → SV → Prop} {m : Nat} {r : SV} (h : Fun C g m args [] m r []) (hlt : SV.ltB S.nx r = true) (hm : Nat.ble S.nx m = true) (hk : k S r) : CallStop C S g args k := by
  refine ⟨h.ent, fun O E a w vs hs hsz hargs => ?_⟩
  have hm := Nat.le_of_ble_eq_true hm
  have hH : ∀ b, ¬ HB E [] b := by
    rintro b ⟨l, x, hl, _⟩; simp [lkh] at hl
  have hS : HSat E m [] w := ⟨fun l b hl => by simp [lkh] at hl, fun l b hl => by simp [lkh] at hl, fun l l' b b' hl => by simp [lkh] at hl, fun b hb => ⟨(hs.im b hb).1, fun l x hl => by simp [lkh] at hl⟩⟩
  refine (h.out E w vs hS hsz fun j hj => RS.mono (E := E) (nx := S.nx) (fun _ _ => ⟨rfl, rfl⟩) hm (fun _ hb => hb) (fun _ _ => rfl) (hargs j hj)).mono ?_
  rintro e w' ⟨v, E', rfl, hkq, hlab, hS', hnew, him, himo, hv⟩
  have hkp : Kp w w' := ⟨hkq.os, hkq.tape, hkq.output, hkq.size, fun b hb => hkq.block b hb (hH b)⟩
  refine ⟨v, _, S, r, rfl, hk, hs.after hkp, RS.congr (E := E') (m := S.nx) (fun l hl => ⟨(hlab l (by omega)).1.symm, (hlab l (by omega)).2.symm⟩) (Nat.le_refl _) (fun b hb => ?_) (SV.Lt.of hlt) hv⟩
  rcases him b hb with h9 | h9 | h9
  · exact Or.inl h9
  · exact absurd h9 (hH b)
  · exact Or.inr ⟨h9, (hS'.im b hb).1⟩
theorem Le.to {nt : NT} {nx : Nat} {fr fr' : List (Nat × SV)} {hp hp' : List (Nat × Option Blk)} {nx' : Nat} (L : List Nat) (hlen : L.length = nx') (hd : noDup L = true) (hm : nt.m ≤ nx') (hid : ∀ i, i < nt.m → L.getD i 0 = i)
    (hfr : ∀ p ∈ fr', ArgLe L (lk fr p.1) p.2) (hhp : HeapLe hp L hp') : Le ⟨nt, nx, fr, hp⟩ ⟨nt, nx', fr', hp'⟩ := by
  subst hlen
  refine ⟨fun O E a w hs => ?_⟩
  let E' : Env := ⟨fun i => E.ρ (L.getD i 0), fun i => E.κ (L.getD i 0), E.Im⟩
  have hblk : ∀ i b, lkh hp' i = some b → i < L.length ∧ (∃ b0, lkh hp (L.getD i 0) = some b0 ∧ (b.real (E.κ (L.getD i 0)) → b0.real (E.κ (L.getD i 0)))) ∧ BS E' L.length w i b := by
    intro i b hb
    obtain ⟨g1, g2⟩ := hhp.out i b hb
    unfold BlkLe at g2
    split at g2
    · rename_i cs cs' hl
      refine ⟨g1, ⟨_, hl, fun _ => trivial⟩, ?_⟩
      obtain ⟨us, T, k1, k2, k3⟩ := hs.hp _ _ hl
      obtain ⟨p1, p2⟩ := g2.out
      refine ⟨us, T, k1, by omega, fun j hj => ?_⟩
      obtain ⟨z, q1, q2⟩ := p2 j _ (List.getElem?_eq_getElem hj)
      obtain ⟨q3, q4⟩ := List.getElem?_eq_some_iff.1 q1
      have := k3 j q3
      rw [q4] at this
      exact ⟨q2.out _ _ _ _ this.1, this.2⟩
    · rename_i e z n f e' z' n' f' hl
      obtain ⟨⟨rfl, rfl, rfl⟩, g3⟩ := g2
      refine ⟨g1, ⟨_, hl, fun h => h⟩, ?_⟩
      obtain ⟨k1, k2, k3, k4, k5⟩ := hs.hp _ _ hl
      refine ⟨k1, k2, k3, fun i hi => by rw [← g3 i hi]; exact k4 i hi, fun hk => ?_⟩
      obtain ⟨us, q1, q2, q3, q4⟩ := k5 hk
      refine ⟨us, q1, q2, q3, fun i j hi hj => ?_⟩
      have key : ∀ c : List D, c = f i → ∀ hj' : j < c.length, RD w E.Im c[j] (us.getD (i * z + j) undef) := by
        intro c hc hj'; subst hc; exact q4 i j hi hj'
      exact key _ (g3 i hi).symm hj
    · obtain ⟨⟨b0, q1, q2⟩, q3⟩ := g2.bs rfl fun x hx => hs.hp _ x hx
      exact ⟨g1, ⟨b0, q1, fun hr => q2 _ _ hr⟩, q3⟩
    · obtain ⟨⟨b0, q1, q2⟩, q3⟩ := g2.bs rfl fun x hx => hs.hp _ x hx
      exact ⟨g1, ⟨b0, q1, fun hr => q2 _ _ hr⟩, q3⟩
    · exact g2.elim
  refine ⟨E', ⟨fun n => ?_, hs.nt, hs.df, fun i b hb => (hblk i b hb).2.2, fun i b hb => (hblk i b hb).1, fun i j b b' hi hj hr hr' hne => ?_, fun b hb => ⟨(hs.im b hb).1, (hs.im b hb).2.1, fun i z hz hzr => ?_⟩, fun i b hb hr => ?_, hs.kq, fun l hl => ?_, by rw [hs.nt.2]; exact hm, hs.imo⟩⟩
  · have key : ∀ l : List (Nat × SV), (∀ p ∈ l, ArgLe L (lk fr p.1) p.2) → RS E' L.length w (lk l n) (a.tmps.getD n undef) := by
      intro l
      induction l with
      | nil => intro _; exact .any _
      | cons p l ih =>
        intro hl
        obtain ⟨m, v⟩ := p
        rw [lk_cons]
        by_cases e : m = n
        · subst e; rw [if_pos rfl]; exact (hl (m, v) (by simp)).out _ _ _ _ (hs.fr m)
        · rw [if_neg e]; exact ih fun p hp => hl p (by simp [hp])
    exact key fr' hfr
  · obtain ⟨g1, ⟨b0, g2, g3⟩, _⟩ := hblk i b hi
    obtain ⟨g4, ⟨b1, g5, g6⟩, _⟩ := hblk j b' hj
    exact hs.inj _ _ _ _ g2 g5 (g3 hr) (g6 hr') (noDup_ne hd g1 g4 hne)
  · obtain ⟨g1, ⟨b0, g2, g3⟩, _⟩ := hblk i z hz
    exact (hs.im b hb).2.2 _ _ g2 (g3 hzr)
  · obtain ⟨g1, ⟨b0, g2, g3⟩, _⟩ := hblk i b hb
    exact hs.own _ _ g2 (g3 hr)
  · have h1 : l < nt.m := by have := hs.nt.2; simp only at this; omega
    simp only [E']
    rw [hid l h1]
    exact hs.lab l hl
def slotK (L : List Nat) (fr : List (Nat × SV)) : List (Nat × SV) → Prop
  | [] => True
  | (n, v) :: r => forceK (lk fr n) (fun x => ArgLe L x v) ∧ slotK L fr r
theorem slotK_ok {L : List Nat} {fr : List (Nat × SV)} : ∀ {fr' : List (Nat × SV)}, slotK L fr fr' → ∀ p ∈ fr', ArgLe L (lk fr p.1) p.2
  | [], _, p, hp => by simp at hp
  | (n, v) :: r, ⟨h1, h2⟩, p, hp => by
    rcases List.mem_cons.1 hp with rfl | hp
    · exact forceK_ok (k := fun x => ArgLe L x v) h1
    · exact slotK_ok h2 p hp
def idP (L : List Nat) (m : Nat) : Bool := (List.range m).all fun i => Nat.beq (L.getD i 0) i
theorem Le.by {nt : NT} {nx : Nat} {fr fr' : List (Nat × SV)} {hp hp' : List (Nat × Option Blk)} {nx' : Nat} (L : List Nat) (hlen : L.length = nx') (hd : noDup L = true) (hm : Nat.ble nt.m nx' = true) (hid : idP L nt.m = true)
    (hfr : slotK L fr fr') (hhp : HeapLe hp L hp') : Le ⟨nt, nx, fr, hp⟩ ⟨nt, nx', fr', hp'⟩ :=
  .to L hlen hd (Nat.le_of_ble_eq_true hm) (fun i hi => by unfold idP at hid; rw [List.all_eq_true] at hid; exact Nat.eq_of_beq_eq_true (hid i (by simpa using hi))) (slotK_ok hfr) hhp
end Go.Proofs.YteallmlkkcjblaaGreatDoor

namespace Go.Proofs.YteallmlkkcjblaaGreatDoor
open Go.RowKit
structure Fresh (S : St) (F : Nat → Prop) (nx' : Nat) : Prop where
  le : S.nx ≤ nx'
  fr : ∀ (E E' : Env) (w : World), (∀ m, ¬ F m → E'.ρ m = E.ρ m ∧ E'.κ m = E.κ m) → E'.Im = E.Im → ∀ n v, RS E S.nx w (lk S.fr n) v → RS E' S.nx w (lk S.fr n) v
  hp : ∀ m b, lkh S.hp m = some b → ¬ F m ∧ ∀ (E E' : Env) (w : World), (∀ m, ¬ F m → E'.ρ m = E.ρ m ∧ E'.κ m = E.κ m) → E'.Im = E.Im → BS E S.nx w m b → BS E' S.nx w m b
open Classical in
theorem callP {O : Org} {E : Env} {S : St} {a : Act} {w : World} (hs : Sat O E S a w) {args : List SV} {m' : Nat} {args0 : List SV} {H H' : List (Nat × Option Blk)} {r : SV} (L : List Nat) {Pm : (Value → World → Prop) → Prop} (hmono : ∀ p q : Value → World → Prop, (∀ v w', p v w' → q v w') → Pm p → Pm q)
    (vs : Array Value) (hle : L.length ≤ m') (h : ∀ Ec : Env, HSat Ec L.length H w → (∀ j (hj : j < args0.length), RS Ec L.length w args0[j] (vs.getD j undef)) → Pm fun v w' => ∃ E', Kq (HB Ec H) w w' ∧ (∀ l, l < L.length → E'.ρ l = Ec.ρ l ∧ E'.κ l = Ec.κ l) ∧ HSat E' m' H' w' ∧ (∀ b, HB E' H' b → HB Ec H b ∨ w.heap.size ≤ b) ∧
      (∀ b, E'.Im b → Ec.Im b ∨ HB Ec H b ∨ w.heap.size ≤ b) ∧ (∀ b, Ec.Im b → E'.Im b) ∧ RS E' m' w' r v)
    (hd : noDup L = true) (hlive : liveK H L.length = true) (hkeys : keysK H' L.length = true) (hlt : keysLt H' m' = true)
    (ha : ArgLes L args args0) (hh : HeapLe S.hp L H) {F : Nat → Prop} {nx' : Nat} (hF : Fresh S F nx') (hFO : ∀ l, F l → O.nl ≤ l) (π : Nat → Nat) (hπ1 : ∀ i, i < L.length → π i = L.getD i 0) (hπF : ∀ i, L.length ≤ i → i < m' → F (π i) ∧ π i < nx') (hπinj : ∀ i j, i < m' → j < m' → π i = π j → i = j)
    (hsz : vs.size = args.length) (hargs : ∀ j (hj : j < args.length), RS E S.nx w args[j] (vs.getD j undef)) :
    Pm fun v w' => ∃ E', Sat O E' ⟨S.nt, nx', S.fr, postH π S.hp H'⟩ a w' ∧ RS E' nx' w' (ren2 π r) v := by
  obtain ⟨ha1, ha2⟩ := ha.out
  let Ec : Env := ⟨fun i => E.ρ (L.getD i 0), fun i => E.κ (L.getD i 0), E.Im⟩
  have hblk : ∀ i b, lkh H i = some b → i < L.length ∧ (∃ b0, lkh S.hp (L.getD i 0) = some b0 ∧ (b.real (E.κ (L.getD i 0)) → b0.real (E.κ (L.getD i 0)))) ∧ BS Ec L.length w i b := by
    intro i b hb
    obtain ⟨g1, g2⟩ := hh.out i b hb
    unfold BlkLe at g2
    split at g2
    · rename_i cs cs' hl
      refine ⟨g1, ⟨_, hl, fun _ => trivial⟩, ?_⟩
      obtain ⟨us, T, k1, k2, k3⟩ := hs.hp _ _ hl
      obtain ⟨p1, p2⟩ := g2.out
      refine ⟨us, T, k1, by omega, fun j hj => ?_⟩
      obtain ⟨z, q1, q2⟩ := p2 j _ (List.getElem?_eq_getElem hj)
      obtain ⟨q3, q4⟩ := List.getElem?_eq_some_iff.1 q1
      have := k3 j q3
      rw [q4] at this
      exact ⟨q2.out _ _ _ _ this.1, this.2⟩
    · rename_i e z n f e' z' n' f' hl
      obtain ⟨⟨rfl, rfl, rfl⟩, g3⟩ := g2
      refine ⟨g1, ⟨_, hl, fun h => h⟩, ?_⟩
      obtain ⟨k1, k2, k3, k4, k5⟩ := hs.hp _ _ hl
      refine ⟨k1, k2, k3, fun i hi => by rw [← g3 i hi]; exact k4 i hi, fun hk => ?_⟩
      obtain ⟨us, q1, q2, q3, q4⟩ := k5 hk
      refine ⟨us, q1, q2, q3, fun i j hi hj => ?_⟩
      have key : ∀ c : List D, c = f i → ∀ hj' : j < c.length, RD w E.Im c[j] (us.getD (i * z + j) undef) := by
        intro c hc hj'; subst hc; exact q4 i j hi hj'
      exact key _ (g3 i hi).symm hj
    · obtain ⟨⟨b0, q1, q2⟩, q3⟩ := g2.bs rfl fun x hx => hs.hp _ x hx
      exact ⟨g1, ⟨b0, q1, fun hr => q2 _ _ hr⟩, q3⟩
    · obtain ⟨⟨b0, q1, q2⟩, q3⟩ := g2.bs rfl fun x hx => hs.hp _ x hx
      exact ⟨g1, ⟨b0, q1, fun hr => q2 _ _ hr⟩, q3⟩
    · exact g2.elim
  have hS : HSat Ec L.length H w := by
    refine ⟨fun i b hb => (hblk i b hb).2.2, fun i b hb => (hblk i b hb).1, fun i j b b' hi hj hr hr' hne => ?_, fun b hb => ⟨(hs.im b hb).1, fun i z hz hzr => ?_⟩⟩
    · obtain ⟨g1, ⟨b0, g2, g3⟩, _⟩ := hblk i b hi
      obtain ⟨g4, ⟨b1, g5, g6⟩, _⟩ := hblk j b' hj
      exact hs.inj _ _ _ _ g2 g5 (g3 hr) (g6 hr') (noDup_ne hd g1 g4 hne)
    · obtain ⟨g1, ⟨b0, g2, g3⟩, _⟩ := hblk i z hz
      exact (hs.im b hb).2.2 _ _ g2 (g3 hzr)
  have hLlt : ∀ i, i < L.length → L.getD i 0 < S.nx ∧ ¬ F (L.getD i 0) := fun i hi => by
    have := hlive
    unfold liveK at this
    rw [List.all_eq_true] at this
    obtain ⟨b, hb⟩ := Option.isSome_iff_exists.1 (this i (by simpa using hi))
    obtain ⟨_, ⟨b0, g2, _⟩, _⟩ := hblk i b hb
    exact ⟨hs.nx _ _ g2, (hF.hp _ _ g2).1⟩
  refine hmono _ _ ?_ (h Ec hS fun j hj => ?_)
  rotate_left
  · obtain ⟨z, q1, q2⟩ := ha2 j _ (List.getElem?_eq_getElem hj)
    obtain ⟨q3, q4⟩ := List.getElem?_eq_some_iff.1 q1
    have := hargs j q3
    rw [q4] at this
    exact q2.out _ _ _ _ this
  rintro v w' ⟨E', hkq, hlab, hS', hnew, him, himo, hv⟩
  let E2 : Env := ⟨fun l => if hx : ∃ i, L.length ≤ i ∧ i < m' ∧ π i = l then E'.ρ (Classical.choose hx) else E.ρ l, fun l => if hx : ∃ i, L.length ≤ i ∧ i < m' ∧ π i = l then E'.κ (Classical.choose hx) else E.κ l, fun b => E.Im b ∨ E'.Im b⟩
  have hE2 : ∀ l, ¬ F l → E2.ρ l = E.ρ l ∧ E2.κ l = E.κ l := fun l hl => by
    have hno : ¬ ∃ i, L.length ≤ i ∧ i < m' ∧ π i = l := fun ⟨i, h1, h2, h3⟩ => hl (h3 ▸ (hπF i h1 h2).1)
    exact ⟨dif_neg hno, dif_neg hno⟩
  have hEπ : ∀ i, i < m' → E2.ρ (π i) = E'.ρ i ∧ E2.κ (π i) = E'.κ i := fun i hi => by
    by_cases hlt : i < L.length
    · rw [hπ1 i hlt, (hE2 _ (hLlt i hlt).2).1, (hE2 _ (hLlt i hlt).2).2]
      obtain ⟨p1, p2⟩ := hlab i hlt
      exact ⟨p1.symm, p2.symm⟩
    · have hx : ∃ j, L.length ≤ j ∧ j < m' ∧ π j = π i := ⟨i, by omega, hi, rfl⟩
      have hj := Classical.choose_spec hx
      have e1 : Classical.choose hx = i := hπinj _ _ hj.2.1 hi hj.2.2
      refine ⟨(dif_pos hx).trans (by rw [e1]), (dif_pos hx).trans (by rw [e1])⟩
  have hπlt : ∀ i, i < m' → π i < nx' := fun i hi => by
    by_cases hlt : i < L.length
    · rw [hπ1 i hlt]; have := (hLlt i hlt).1; have := hF.le; omega
    · exact (hπF i (by omega) hi).2
  have hkl : ∀ i, (∃ o, (i, o) ∈ H') → i < m' := fun i ⟨o, ho⟩ => by
    unfold keysLt at hlt
    rw [List.all_eq_true] at hlt
    simpa using hlt _ ho
  have hbfr : ∀ n v, RS E S.nx w (lk S.fr n) v → RS ⟨E2.ρ, E2.κ, E.Im⟩ S.nx w (lk S.fr n) v := hF.fr E ⟨E2.ρ, E2.κ, E.Im⟩ w hE2 rfl
  have hbhp : ∀ l x, lkh S.hp l = some x → BS ⟨E2.ρ, E2.κ, E.Im⟩ S.nx w l x := fun l x hl => (hF.hp l x hl).2 E ⟨E2.ρ, E2.κ, E.Im⟩ w hE2 rfl (hs.hp l x hl)
  have hHB : ∀ b, HB Ec H b → ∃ i b0, i < L.length ∧ lkh S.hp (L.getD i 0) = some b0 ∧ b0.real (E.κ (L.getD i 0)) ∧ E.ρ (L.getD i 0) = b := by
    rintro b ⟨i, z, hz, hzr, rfl⟩
    obtain ⟨g1, ⟨b0, g2, g3⟩, _⟩ := hblk i z hz
    exact ⟨i, b0, g1, g2, g3 hzr, rfl⟩
  have hwi : ∀ b, E.Im b → w'.heap[b]? = w.heap[b]? := fun b hb => hkq.block b (hs.im b hb).1 (fun hx => by
    obtain ⟨i, b0, _, g2, g3, g4⟩ := hHB b hx
    exact (hs.im b hb).2.2 _ _ g2 g3 g4)
  have hsize := hkq.size
  have hlook : ∀ l x, lkh (postH π S.hp H') l = some x → (∃ i b, l = π i ∧ i < m' ∧ lkh H' i = some b ∧ x = renB π b) ∨ ((∀ i, i < L.length → l ≠ L.getD i 0) ∧ ¬ F l ∧ lkh S.hp l = some x) := by
    intro l x hx
    rcases postH_look (fun i j hi hj => hπinj i j (hkl i hi) (hkl j hj)) l x hx with ⟨i, b, h1, _, h3, h4⟩ | ⟨h1, h2⟩
    · exact Or.inl ⟨i, b, h1, hS'.nx i b h3, h3, h4⟩
    · refine Or.inr ⟨fun i hi => ?_, (hF.hp l x h2).1, h2⟩
      unfold keysK at hkeys
      rw [List.all_eq_true] at hkeys
      have := hkeys i (by simpa using hi)
      rw [List.any_eq_true] at this
      obtain ⟨p, hp1, hp2⟩ := this
      have hp3 := Nat.eq_of_beq_eq_true hp2
      obtain ⟨p1, p2⟩ := p
      simp only at hp3
      subst hp3
      rw [← hπ1 _ hi]
      exact h1 _ ⟨p2, hp1⟩
  have hold : ∀ l x, lkh S.hp l = some x → x.real (E.κ l) → (∀ i, i < L.length → l ≠ L.getD i 0) → ¬ HB Ec H (E.ρ l) := by
    intro l x hl hr hne hx
    obtain ⟨i, b0, g1, g2, g3, g4⟩ := hHB _ hx
    exact hs.inj l _ x b0 hl g2 hr g3 (hne i g1) g4.symm
  have hpost : ∀ i b, i < m' → lkh H' i = some b → (renB π b).real (E2.κ (π i)) → HB E' H' (E2.ρ (π i)) := by
    intro i b hi hb hr
    rw [(hEπ i hi).1]
    rw [renB_real, (hEπ i hi).2] at hr
    exact ⟨i, b, hb, hr, rfl⟩
  have hpostown : ∀ b, HB E' H' b → (∃ i b0, i < L.length ∧ lkh S.hp (L.getD i 0) = some b0 ∧ b0.real (E.κ (L.getD i 0)) ∧ E.ρ (L.getD i 0) = b) ∨ w.heap.size ≤ b := by
    intro b hb
    rcases hnew b hb with h9 | h9
    · exact Or.inl (hHB b h9)
    · exact Or.inr h9
  have hw0 := hs.kq.size
  refine ⟨E2, ?_, ?_⟩
  · refine ⟨fun n => RS.mono (E := ⟨E2.ρ, E2.κ, E.Im⟩) (fun _ _ => ⟨rfl, rfl⟩) hF.le (fun b hb => Or.inl hb) hwi (hbfr n _ (hs.fr n)), hs.nt, hs.df, ?_, ?_, ?_, ?_, ?_, ?_, ?_, by have := hs.nl; have := hF.le; simp only; omega, fun b hb => Or.inl (hs.imo b hb)⟩
    · intro l x hx
      rcases hlook l x hx with ⟨i, b, rfl, hi, hb, rfl⟩ | ⟨hne, hlx, hl⟩
      · exact renB_ok (E := E') (E' := E2) (nx := m') (fun l hl => hEπ l hl) (fun l hl => hπlt l hl) (fun b hb => Or.inr hb) hi (hS'.hp i b hb)
      · exact BS.mono (E := ⟨E2.ρ, E2.κ, E.Im⟩) (hs.nx l x hl) (fun _ _ => ⟨rfl, rfl⟩) hF.le (fun b hb => Or.inl hb) hwi (fun hr => by simp only at hr ⊢; rw [(hE2 l hlx).1]; rw [(hE2 l hlx).2] at hr; exact hkq.block _ ((hs.hp l x hl).lt hr) (hold l x hl hr hne)) (hbhp l x hl)
    · intro l x hx
      rcases hlook l x hx with ⟨i, b, rfl, hi, hb, rfl⟩ | ⟨hne, hlx, hl⟩
      · exact hπlt i hi
      · have := hs.nx l x hl; have := hF.le; simp only; omega
    · intro l l' x x' hx hx' hr hr' hne
      rcases hlook l x hx with ⟨i, b, rfl, hi, hb, rfl⟩ | ⟨hn1, hlx, hl⟩ <;> rcases hlook l' x' hx' with ⟨j, b', rfl, hj, hb', rfl⟩ | ⟨hn2, hlx', hl'⟩
      · rw [(hEπ i hi).1, (hEπ j hj).1]
        rw [renB_real, (hEπ i hi).2] at hr
        rw [renB_real, (hEπ j hj).2] at hr'
        exact hS'.inj i j b b' hb hb' hr hr' (fun e => hne (by rw [e]))
      · have h1 := hpostown _ (hpost i b hi hb hr)
        rw [(hE2 l' hlx').1]
        rw [(hE2 l' hlx').2] at hr'
        rcases h1 with ⟨q, b0, g1, g2, g3, g4⟩ | h1
        · rw [← g4]; exact hs.inj _ _ _ _ g2 hl' g3 hr' (fun e => hn2 q g1 e.symm)
        · have := (hs.hp l' x' hl').lt hr'; omega
      · have h1 := hpostown _ (hpost j b' hj hb' hr')
        rw [(hE2 l hlx).1]
        rw [(hE2 l hlx).2] at hr
        rcases h1 with ⟨q, b0, g1, g2, g3, g4⟩ | h1
        · rw [← g4]; exact hs.inj _ _ _ _ hl g2 hr g3 (hn1 q g1)
        · have := (hs.hp l x hl).lt hr; omega
      · rw [(hE2 l hlx).1, (hE2 l' hlx').1]
        rw [(hE2 l hlx).2] at hr
        rw [(hE2 l' hlx').2] at hr'
        exact hs.inj l l' x x' hl hl' hr hr' hne
    · rintro b (hb | hb)
      · obtain ⟨k1, k2, k3⟩ := hs.im b hb
        refine ⟨by omega, k2, fun l x hx hr => ?_⟩
        rcases hlook l x hx with ⟨i, b', rfl, hi, hb', rfl⟩ | ⟨hne, hlx, hl⟩
        · rcases hpostown _ (hpost i b' hi hb' hr) with ⟨q, b0, g1, g2, g3, g4⟩ | h1
          · rw [← g4]; exact k3 _ _ g2 g3
          · omega
        · rw [(hE2 l hlx).1]; rw [(hE2 l hlx).2] at hr; exact k3 l x hl hr
      · obtain ⟨k1, k2⟩ := hS'.im b hb
        have hb3 := him b hb
        refine ⟨k1, ?_, fun l x hx hr => ?_⟩
        · rcases hb3 with h9 | h9 | h9
          · exact (hs.im b h9).2.1
          · obtain ⟨q, b0, g1, g2, g3, g4⟩ := hHB b h9
            rcases hs.own _ _ g2 g3 with h8 | h8
            · exact Or.inr (Or.inr (g4 ▸ h8))
            · exact Or.inl (by omega)
          · exact Or.inl (by omega)
        · rcases hlook l x hx with ⟨i, b', rfl, hi, hb', rfl⟩ | ⟨hne, hlx, hl⟩
          · rw [(hEπ i hi).1]
            rw [renB_real, (hEπ i hi).2] at hr
            exact k2 i b' hb' hr
          · rw [(hE2 l hlx).1]
            rw [(hE2 l hlx).2] at hr
            rcases hb3 with h9 | h9 | h9
            · exact (hs.im b h9).2.2 l x hl hr
            · intro e; exact hold l x hl hr hne (e ▸ h9)
            · have := (hs.hp l x hl).lt hr; omega
    · intro l x hx hr
      rcases hlook l x hx with ⟨i, b, rfl, hi, hb, rfl⟩ | ⟨hne, hlx, hl⟩
      · rcases hpostown _ (hpost i b hi hb hr) with ⟨q, b0, g1, g2, g3, g4⟩ | h1
        · rw [← g4]; exact hs.own _ _ g2 g3
        · exact Or.inr (by omega)
      · rw [(hE2 l hlx).1]; rw [(hE2 l hlx).2] at hr; exact hs.own l x hl hr
    · exact hs.kq.trans' hkq fun b hb hlt => by
        obtain ⟨q, b0, g1, g2, g3, g4⟩ := hHB b hb
        rcases hs.own _ _ g2 g3 with h8 | h8
        · exact g4 ▸ h8
        · omega
    · intro l hl
      have := hs.nl
      obtain ⟨h1, h2⟩ := hE2 l (fun hf => by have := hFO l hf; omega)
      rw [h1, h2]; exact hs.lab l hl
  · exact ren2_ok (E := E') (E' := E2) (nx := m') (fun l hl => hEπ l hl) (fun l hl => hπlt l hl) (fun b hb => Or.inr hb) hv
theorem Fun.callG {C : Cx} {O : Org} {E : Env} {S : St} {a : Act} {w : World} (hs : Sat O E S a w) {g : Nat} {args : List SV} {m' : Nat} {args0 : List SV} {H H' : List (Nat × Option Blk)} {r : SV} (L : List Nat) (h : Fun C g L.length args0 H m' r H') (hd : noDup L = true) (hlive : liveK H L.length = true) (hkeys : keysK H' L.length = true) (hlt : keysLt H' m' = true)
    (ha : ArgLes L args args0) (hh : HeapLe S.hp L H) {F : Nat → Prop} {nx' : Nat} (hF : Fresh S F nx') (hFO : ∀ l, F l → O.nl ≤ l) (π : Nat → Nat) (hπ1 : ∀ i, i < L.length → π i = L.getD i 0) (hπF : ∀ i, L.length ≤ i → i < m' → F (π i) ∧ π i < nx') (hπinj : ∀ i j, i < m' → j < m' → π i = π j → i = j)
    (vs : Array Value) (hsz : vs.size = args.length) (hargs : ∀ j (hj : j < args.length), RS E S.nx w args[j] (vs.getD j undef)) :
    Calls C.P g vs w fun e w' => ∃ v E', e = .returned v ∧ Sat O E' ⟨S.nt, nx', S.fr, postH π S.hp H'⟩ a w' ∧ RS E' nx' w' (ren2 π r) v := by
  have := callP hs L (Pm := fun p => Calls C.P g vs w fun e w' => ∃ v, e = .returned v ∧ p v w') (m' := m') (H' := H') (r := r) (args := args) (args0 := args0) (fun p q hpq hc => hc.mono fun e w' ⟨v, h1, h2⟩ => ⟨v, h1, hpq v w' h2⟩) vs h.le
    (fun Ec hS hr => (h.out Ec w vs hS (by rw [hsz]; exact ha.out.1) hr).mono fun e w' ⟨v, E', h1, h2⟩ => ⟨v, h1, E', h2⟩) hd hlive hkeys hlt ha hh hF hFO π hπ1 hπF hπinj hsz hargs
  exact this.mono fun e w' ⟨v, h1, E', h2⟩ => ⟨v, E', h1, h2⟩
structure BApp (C : Cx) (t m : Nat) (x y : SV) (H : List (Nat × Option Blk)) (m' : Nat) (r : SV) (H' : List (Nat × Option Blk)) : Prop where
  le : m ≤ m'
  out : ∀ (E : Env) (w : World) (ty : Nat) (u v : Value), HSat E m H w → RS E m w x u → RS E m w y v → ∃ z w', (Builtin.append_ #[t, t] ty #[u, v]).run C.P w = .ok z w' ∧ ∃ E', Kq (HB E H) w w' ∧ (∀ l, l < m → E'.ρ l = E.ρ l ∧ E'.κ l = E.κ l) ∧ HSat E' m' H' w' ∧ (∀ b, HB E' H' b → HB E H b ∨ w.heap.size ≤ b) ∧
      (∀ b, E'.Im b → E.Im b ∨ HB E H b ∨ w.heap.size ≤ b) ∧ (∀ b, E.Im b → E'.Im b) ∧ RS E' m' w' r z
theorem BApp.of {C : Cx} {t m m' : Nat} {x y r : SV} {H H' : List (Nat × Option Blk)} (hmm : m ≤ m') (h : appendK C ⟨⟨0, m⟩, m, [], H⟩ t x y fun S' r0 => FinLe m S' r0 m' r H') : BApp C t m x y H m' r H' := by
  refine ⟨hmm, fun E w ty u v hS hu hv => ?_⟩
  let O : Org := ⟨w, HB E H, E.Im, m, E.ρ, E.κ, []⟩
  have hs : Sat O E ⟨⟨0, m⟩, m, [], H⟩ { tmps := #[], defers := [] } w :=
    ⟨fun n => .any _, ⟨rfl, rfl⟩, rfl, hS.hp, hS.nx, hS.inj, fun b hb => ⟨(hS.im b hb).1, Or.inr (Or.inl hb), (hS.im b hb).2⟩, fun l b hb hr => Or.inl ⟨l, b, hb, hr, rfl⟩, Kq.refl _ _, fun l _ => ⟨rfl, rfl⟩, Nat.le_refl _, fun b hb => hb⟩
  obtain ⟨z, w', E1, S', x1, h1, h2, hs', h4⟩ := appendK_ok (ty := ty) hs hu hv h
  obtain ⟨E2, k1, k2, k3, k4, k5, k6⟩ := h2.out O E1 _ w' _ rfl hs' h4
  have hown : ∀ b, HB E1 S'.hp b → HB E H b ∨ w.heap.size ≤ b := by
    rintro b ⟨l, x, hl, hr, rfl⟩
    exact hs'.own l x hl hr
  refine ⟨z, w', h1, E2, hs'.kq, fun l hl => ?_, k1, fun b hb => hown b (k3 b hb), fun b hb => ?_, fun b hb => k5 b (hs'.imo b hb), k6⟩
  · obtain ⟨p1, p2⟩ := hs'.lab l hl
    obtain ⟨p3, p4⟩ := k2 l hl
    exact ⟨p3.trans p1, p4.trans p2⟩
  · rcases k4 b hb with hb | hb
    · obtain ⟨q1, q2, -⟩ := hs'.im b hb
      rcases q2 with q2 | q2 | q2
      · exact Or.inr (Or.inr q2)
      · exact Or.inl q2
      · exact Or.inr (Or.inl q2)
    · exact Or.inr (hown b hb)
theorem BApp.a {C : Cx} {t z n m e : Nat} {f g : Nat → List D} {i j : TI} (hi : C.tt t = some i) (hk : i.k = .slice e) (hj : C.tt e = some j) (hz : j.size = z) (hc : (Nat.blt 0 j.size && Nat.blt 0 j.bytes && Nat.beq j.zero.length j.size) = true) (hb : (n + m) * j.bytes ≤ 140737488355328) :
    BApp C t 1 (.sl 0 z 0 n) (.d (.sl z m g)) [(0, some (.row e z n f))] 2 (.sl 1 z 0 (n + m)) [(0, none), (1, some (.row e z (n + m) (catF n f g)))] := by
  subst hz
  refine .of (by omega) ?_
  have hr : ∀ q, Nat.beq q q = true := fun q => by simp
  simp only [appendK, hi, hk, hj, hc, cond_true, fromK, viewK, lkh_cons, if_true, hr, Bool.and_self, true_and]
  refine ⟨hb, FinLe.of [0, 1] rfl (fun i hi => by obtain rfl : i = 0 := (by omega); rfl) rfl ?_ ?_⟩
  · exact .rfl _
  · exact ⟨⟨⟨rfl, rfl, rfl⟩, fun i hi => rfl⟩, trivial⟩
theorem BApp.b {C : Cx} {t z n m e o m2 e2 : Nat} {f f2 : Nat → List D} {i j : TI} (hi : C.tt t = some i) (hk : i.k = .slice e) (hj : C.tt e = some j) (hz : j.size = z) (hc : (Nat.blt 0 j.size && Nat.blt 0 j.bytes && Nat.beq j.zero.length j.size) = true) (hb : (n + m) * j.bytes ≤ 140737488355328) (ho : o + m ≤ m2) :
    BApp C t 2 (.sl 0 z 0 n) (.sl 1 z o m) [(0, some (.row e z n f)), (1, some (.row e2 z m2 f2))] 3 (.sl 2 z 0 (n + m)) [(0, none), (1, some (.row e2 z m2 f2)), (2, some (.row e z (n + m) (catF n f fun i => f2 (o + i))))] := by
  subst hz
  refine .of (by omega) ?_
  have hr : ∀ q, Nat.beq q q = true := fun q => by simp
  have e1 : (0 : Nat) ≠ 1 := by omega
  simp only [appendK, hi, hk, hj, hc, cond_true, fromK, viewK, lkh_cons, if_true, if_neg e1, hr, Bool.and_self, true_and]
  refine ⟨ho, hb, FinLe.of [0, 1, 2] rfl (fun i hi => by have : i = 0 ∨ i = 1 := (by omega); rcases this with h | h <;> subst h <;> rfl) rfl ?_ ?_⟩
  · exact .rfl _
  · exact ⟨⟨⟨rfl, rfl, rfl⟩, fun i hi => rfl⟩, ⟨⟨rfl, rfl, rfl⟩, fun i hi => rfl⟩, trivial⟩
theorem BApp.c {C : Cx} {t z m e : Nat} {g : Nat → List D} {i j : TI} (hi : C.tt t = some i) (hk : i.k = .slice e) (hj : C.tt e = some j) (hz : j.size = z) (hc : (Nat.blt 0 j.size && Nat.blt 0 j.bytes && Nat.beq j.zero.length j.size) = true) (hb : (0 + m) * j.bytes ≤ 140737488355328) :
    BApp C t 0 (.d (.val (.slice none 0 0))) (.d (.sl z m g)) [] 1 (.sl 0 z 0 (0 + m)) [(0, some (.row e z (0 + m) (catF 0 (fun _ => []) g)))] := by
  subst hz
  refine .of (by omega) ?_
  have hr : ∀ q, Nat.beq q q = true := fun q => by simp
  simp only [appendK, hi, hk, hj, hc, cond_true, fromK, viewK, hr]
  refine ⟨hb, FinLe.of [0] rfl (fun i hi => by omega) rfl ?_ ?_⟩
  · exact .rfl _
  · exact ⟨⟨⟨rfl, rfl, rfl⟩, fun i hi => rfl⟩, trivial⟩
theorem BApp.d {C : Cx} {t z m e o m2 e2 : Nat} {f2 : Nat → List D} {i j : TI} (hi : C.tt t = some i) (hk : i.k = .slice e) (hj : C.tt e = some j) (hz : j.size = z) (hc : (Nat.blt 0 j.size && Nat.blt 0 j.bytes && Nat.beq j.zero.length j.size) = true) (hb : (0 + m) * j.bytes ≤ 140737488355328) (ho : o + m ≤ m2) :
    BApp C t 1 (.d (.val (.slice none 0 0))) (.sl 0 z o m) [(0, some (.row e2 z m2 f2))] 2 (.sl 1 z 0 (0 + m)) [(0, some (.row e2 z m2 f2)), (1, some (.row e z (0 + m) (catF 0 (fun _ => []) fun i => f2 (o + i))))] := by
  subst hz
  refine .of (by omega) ?_
  have hr : ∀ q, Nat.beq q q = true := fun q => by simp
  simp only [appendK, hi, hk, hj, hc, cond_true, fromK, viewK, lkh_cons, if_true, hr, Bool.and_self]
  refine ⟨ho, hb, FinLe.of [0, 1] rfl (fun i hi => by obtain rfl : i = 0 := (by omega); rfl) rfl ?_ ?_⟩
  · exact .rfl _
  · exact ⟨⟨⟨rfl, rfl, rfl⟩, fun i hi => rfl⟩, ⟨⟨rfl, rfl, rfl⟩, fun i hi => rfl⟩, trivial⟩
end Go.Proofs.YteallmlkkcjblaaGreatDoor
