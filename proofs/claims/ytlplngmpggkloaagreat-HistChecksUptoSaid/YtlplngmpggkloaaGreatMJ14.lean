/- Lemmas of Hh2, Hh3, Hh4, Hc0, Hc1, Hc2. No condition. -/
import Derived.Test.YtlplngmpggkloaaGreatMJ13
set_option linter.unusedVariables false
set_option linter.unusedSimpArgs false
set_option maxHeartbeats 80000000
set_option maxRecDepth 100000
namespace Go.Proofs.YtlplngmpggkloaaGreat
open Go.RowKit
section
namespace Hist
structure Ask where
  op : Int
  pol : Int
  key : List Int
  n : Int
  now : Int
  ser : Int
  early : Int
  later : Int
  deriving Inhabited
@[reducible] def Ask.D (a : Ask) : List D := [.val (.int .u8 a.op), .val (.int .i64 a.pol), ak 1 (ar .u8) a.key, .val (.int .i64 a.n), .val (.int .i64 a.now), .val (.int .i64 a.ser), .val (.int .u8 a.early), .val (.int .u8 a.later)]
def opA (o : Int) : Int := if o < 1 ∨ 6 < o then 1 + o % 6 else o
def dR (o : Int) : Int := if o = 2 ∨ o = 3 then 1 else 0
def nA (a : Ask) : Int := max (aR a.n) 1
def serA (a : Ask) : Int := max (aR a.ser) 1
def nJ (a : Ask) (i : Nat) (r : Rpl) : HD := ⟨0, opA a.op, dR (opA a.op), a.key.take 2, nA a, 100 * i - a.early, 100 * i + a.later, r⟩
structure MS where
  xs : List Cel
  now : Int
  l : List HD
def eB (S : MS) (a : Ask) : Rpl × List Cel := doS bC 4096 S.xs (opA a.op) (dR (opA a.op)) (a.key.take 2) (nA a) (max S.now (aR a.now)) (serA a)
def mkS (S : MS) (i : Nat) (a : Ask) : MS :=
  if 8 ≤ S.l.length then S
  else if (eB S a).1.e = 8 then ⟨(eB S a).2, max S.now (aR a.now), S.l⟩
  else ⟨(eB S a).2, max S.now (aR a.now), S.l ++ [nJ a i (eB S a).1]⟩
theorem sL {o : Int} (h : 0 ≤ o) : 1 ≤ opA o ∧ opA o ≤ 6 := by unfold opA; split <;> omega
theorem ew (n : Int) : 0 ≤ aR n ∧ aR n ≤ 4611686018427387903 := by unfold aR; omega
theorem nA_bd (a : Ask) : 1 ≤ nA a ∧ nA a ≤ 4611686018427387903 := by have := ew a.n; unfold nA; omega
theorem serA_bd (a : Ask) : 1 ≤ serA a ∧ serA a ≤ 4611686018427387903 := by have := ew a.ser; unfold serA; omega
theorem tab2_ok : aG bC = 0 := by decide +kernel
theorem ta {op n : Int} {key : List Int} (h1 : 1 ≤ op) (h6 : op ≤ 6) (hk : key.length ≤ 2) (hn : 1 ≤ n ∧ n ≤ 4611686018427387903) : iE bC op (dR op) key n = 0 := by
  have tN : bk n = true := (bp _).2 ⟨by omega, hn.2⟩
  unfold iE
  rw [if_neg (by rw [tN]; simp; omega), if_neg (by omega), if_neg (by rw [tab2_ok]; simp), if_neg]
  rintro ⟨h4, h5⟩
  have h : op = 1 ∨ op = 2 ∨ op = 3 ∨ op = 4 := by omega
  rcases h with rfl | rfl | rfl | rfl <;> revert h5 <;> decide
theorem pz {op n now s : Int} {key : List Int} (h1 : 1 ≤ op) (h6 : op ≤ 6) (hk : key.length ≤ 2) (hn : 1 ≤ n ∧ n ≤ 4611686018427387903) (hw : 0 ≤ now ∧ now ≤ 4611686018427387903) (hs : 1 ≤ s ∧ s ≤ 4611686018427387903) : bJ bC op (dR op) key n now s = 0 := by
  have tn : bk now = true := (bp _).2 hw
  unfold bJ
  rw [if_neg (by rw [tn]; simp; omega)]
  exact ta h1 h6 hk hn
section
variable {ps : List Pol} {room : Int} {xs : List Cel} {op pol : Int} {key : List Int} {n now serial : Int}
theorem ru {z : Bool} {q : Rpl × Cel} (hq : q.1.g = true → q.1.e = 0) (h : (nE room xs pol key z q).1.e ≠ 0) : (nE room xs pol key z q).2 = xs := by
  unfold nE at h ⊢
  split
  · rfl
  · rename_i h1
    rw [if_neg h1] at h
    split
    · rfl
    · rename_i h2
      rw [if_neg h2] at h
      exact absurd (hq (by
        cases hg : q.1.g with
        | true => rfl
        | false => exact absurd (Or.inl hg) h1)) h
theorem one_e0 {p : Pol} {c : Cel} (h : (bV p c op n now serial).1.g = true) : (bV p c op n now serial).1.e = 0 := by
  unfold bV at h ⊢
  split
  · rfl
  · rename_i h1
    rw [if_neg h1] at h
    split
    · rename_i h2
      rw [if_pos h2] at h
      simp only [fS] at h ⊢
      split
      · rfl
      · rename_i h3; rw [if_neg h3] at h; cases h
    · rename_i h2
      rw [if_neg h2] at h
      simp only [jU] at h ⊢
      split
      · rfl
      · rename_i h3; rw [if_neg h3] at h; cases h
theorem do_err (h : (doS ps room xs op pol key n now serial).1.e ≠ 0) : (doS ps room xs op pol key n now serial).2 = xs := by
  unfold doS at h ⊢
  split
  · rfl
  · rename_i h1
    rw [if_neg h1] at h
    split
    · rename_i h2; rw [if_pos h2] at h; exact absurd rfl h
    · rename_i h2
      rw [if_neg h2] at h
      split
      · rfl
      · rename_i h3
        rw [if_neg h3] at h
        split
        · rfl
        · rename_i h4
          rw [if_neg h4] at h
          exact ru one_e0 h
theorem tc {p : Pol} {o : Option Cel} : (bS p o op pol key n now serial).1 = if op = 4 then bX p (o.getD (aw pol key)) now else (bV p (o.getD (aw pol key)) op n now serial).1 := by
  unfold bS
  split
  · rfl
  · split <;> rfl
theorem fW {o : Option Cel} (hE : bJ ps op pol key n now serial = 0) : aT ps o op pol key n now serial = bS (ps.getD pol.toNat default) o op pol key n now serial := by
  unfold aT; rw [if_neg (fun h => h hE)]
theorem my {xs : List Int} {t : Int} (h : gw xs t = true) : t ∈ xs := by
  unfold gw at h
  rw [Q5, decide_eq_true_iff, decide_eq_true_iff] at h
  obtain ⟨h1, h2⟩ := h
  rw [Q1, Q0 h1] at h2
  rw [← h2]
  exact Q14 h1
theorem m7 {p : Int} {xs : List Int} {s t : Int} (h : aM p xs s ≠ 0) (h8 : aM p xs s ≠ 8) (hs : dI s = true) (ht : dI t = true) (hn : t ∉ xs) : aM p xs t = aM p xs s := by
  have hh : gw xs t = false := by
    cases e : gw xs t with
    | false => rfl
    | true => exact absurd (my e) hn
  have e1 : ¬ dI s = false := by rw [hs]; decide
  have e2 : ¬ dI t = false := by rw [ht]; decide
  have e3 : ¬ gw xs t = true := by rw [hh]; decide
  unfold aM at h h8 ⊢
  simp only [if_neg e1, if_neg e2, if_neg e3] at h h8 ⊢
  by_cases h1 : dQ p xs ≠ 0
  · simp only [if_pos h1]
  · simp only [if_neg h1] at h h8 ⊢
    by_cases h2 : gw xs s = true
    · rw [if_pos h2] at h8; exact absurd rfl h8
    · rw [if_neg h2]
theorem dk {p : Pol} {o : Option Cel} (h : ¬ op = 4) : bS p o op pol key n now serial = if (bV p (o.getD (aw pol key)) op n now serial).1.g = false ∨ (op = 1 ∧ n = 0) then ((bV p (o.getD (aw pol key)) op n now serial).1, none) else ((bV p (o.getD (aw pol key)) op n now serial).1, some (bV p (o.getD (aw pol key)) op n now serial).2) := by
  unfold bS; rw [if_neg h]
theorem re_step {z : Option Cel} {op n now s spare : Int} {key : List Int} {d : HD} (h1 : 1 ≤ op) (h5 : op < 5) (hk : key.length ≤ 2) (hn : 1 ≤ n ∧ n ≤ 4611686018427387903) (hw : 0 ≤ now ∧ now ≤ 4611686018427387903) (hs : 1 ≤ s ∧ s ≤ 4611686018427387903) (hp : 1 ≤ spare ∧ spare ≤ 4611686018427387903)
    (hz : ∀ c, z = some c → spare ∉ c.held) (ho : d.op = op) (hr : d.r = (aT bC z op (dR op) key n now s).1) (hc : cp d = true) (h8 : d.r.e ≠ 8) :
    aT bC z op (dR op) key n d.r.now (ser spare d) = aT bC z op (dR op) key n now s := by
  have hb := fun w t hw ht => pz (op := op) (n := n) (now := w) (s := t) (key := key) h1 (by omega) hk hn hw ht
  rw [fW (hb _ _ hw hs), tc] at hr
  rw [fW (hb _ _ hw hs)]
  have h : op = 1 ∨ op = 2 ∨ op = 3 ∨ op = 4 := by omega
  rcases h with rfl | rfl | rfl | rfl
  · rw [if_neg (by decide), c9 rfl] at hr
    have e1 : d.r.now = now := by rw [hr]; rfl
    have e2 : d.r.serial = 0 := by rw [hr]; rfl
    have e3 : ser spare d = spare := by unfold ser; rw [if_pos e2]
    rw [e1, e3, fW (hb _ _ hw hp)]
    rw [dk (by decide), dk (by decide), c9 rfl, c9 rfl]
  · rw [if_neg (by decide), dF rfl] at hr
    simp only [fS] at hr
    by_cases h0 : aM (bC.getD (dR 2).toNat default).permits (z.getD (aw (dR 2) key)).held s = 0
    · rw [if_pos h0] at hr
      have e1 : d.r.now = 0 := by rw [hr]
      have e2 : ser spare d = s := by unfold ser; rw [if_neg (by rw [hr]; dsimp only; omega), hr]
      rw [e1, e2, fW (hb _ _ (by omega) hs)]
      rw [dk (by decide), dk (by decide), dF rfl, dF rfl]
    · rw [if_neg h0] at hr
      have e1 : d.r.now = 0 := by rw [hr]
      have e2 : ser spare d = spare := by unfold ser; rw [if_pos (by rw [hr])]
      have e3 : aM (bC.getD (dR 2).toNat default).permits (z.getD (aw (dR 2) key)).held spare = aM (bC.getD (dR 2).toNat default).permits (z.getD (aw (dR 2) key)).held s := by
        refine m7 h0 (by rw [hr] at h8; exact h8) (by unfold dI; simp; omega) (by unfold dI; simp; omega) ?_
        cases z with
        | none => simp [aw]
        | some c => exact hz c rfl
      rw [e1, e2, fW (hb _ _ (by omega) hp)]
      rw [dk (by decide), dk (by decide), dF rfl, dF rfl]
      have h0' : ¬ aM (bC.getD (dR 2).toNat default).permits (z.getD (aw (dR 2) key)).held spare = 0 := by rw [e3]; exact h0
      have a1 : fS (bC.getD (dR 2).toNat default) (z.getD (aw (dR 2) key)) spare = ⟨aM (bC.getD (dR 2).toNat default).permits (z.getD (aw (dR 2) key)).held s, false, 0, 0, 0, 0⟩ := by unfold fS; rw [if_neg h0', e3]
      have a2 : fS (bC.getD (dR 2).toNat default) (z.getD (aw (dR 2) key)) s = ⟨aM (bC.getD (dR 2).toNat default).permits (z.getD (aw (dR 2) key)).held s, false, 0, 0, 0, 0⟩ := by unfold fS; rw [if_neg h0]
      rw [if_pos (Or.inl (by rw [a1])), if_pos (Or.inl (by rw [a2]))]
      show ((fS _ _ _, none) : Rpl × Option Cel) = (fS _ _ _, none)
      rw [a1, a2]
  · rw [if_neg (by decide), dZ rfl] at hr
    have e1 : d.r.now = 0 := by rw [hr]; unfold jU; split <;> rfl
    have e2 : d.r.serial = 0 := by rw [hr]; unfold jU; split <;> rfl
    have e3 : ser spare d = spare := by unfold ser; rw [if_pos e2]
    rw [e1, e3, fW (hb _ _ (by omega) hp)]
    rw [dk (by decide), dk (by decide), dZ rfl, dZ rfl]
  · rw [if_pos rfl] at hr
    have hk2 : ¬ (bC.getD (dR 4).toNat default).kind = 2 := by decide
    have e1 : d.r.now = now := by rw [hr]; unfold bX; rw [if_neg hk2]
    have e2 : d.r.serial = 0 := by rw [hr]; unfold bX; rw [if_neg hk2]
    have e3 : ser spare d = spare := by unfold ser; rw [if_pos e2]
    rw [e1, e3, fW (hb _ _ hw hp)]
    unfold bS
    rw [if_pos rfl, if_pos rfl]
theorem ins_mem {xs : List Int} {i : Nat} {x y : Int} (h : y ∈ bE xs i x) : y = x ∨ y ∈ xs := by
  unfold bE at h
  rw [List.mem_append, List.mem_append, List.mem_singleton] at h
  rcases h with (h | h) | h
  · exact .inr (List.mem_of_mem_take h)
  · exact .inl h
  · exact .inr (List.mem_of_mem_drop h)
theorem del_mem {xs : List Int} {i : Nat} {y : Int} (h : y ∈ bY xs i) : y ∈ xs := by
  unfold bY at h
  rw [List.mem_append] at h
  rcases h with h | h
  · exact List.mem_of_mem_take h
  · exact List.mem_of_mem_drop h
theorem nT {o : Option Cel} {c : Cel} (h : (aT ps o op pol key n now serial).2 = some c) {x : Int} (hx : x ∈ c.held) :
    (∃ b, o = some b ∧ x ∈ b.held) ∨ (op = 2 ∧ x = serial ∧ (aT ps o op pol key n now serial).1.g = true ∧ (aT ps o op pol key n now serial).1.serial = serial) := by
  have hb : ∀ y, y ∈ (o.getD (aw pol key)).held → ∃ b, o = some b ∧ y ∈ b.held := fun y hy => by
    cases o with
    | none => simp [aw] at hy
    | some b => exact ⟨b, rfl, hy⟩
  unfold aT at h ⊢
  split at h
  · cases h
  · rename_i hE
    rw [if_neg hE]
    unfold bS at h ⊢
    generalize o.getD (aw pol key) = b at h hb ⊢
    split at h
    · cases h
    · rename_i h4
      rw [if_neg h4]
      split at h
      · cases h
      · rename_i h9
        rw [if_neg h9]
        simp only [Option.some.injEq] at h
        subst h
        unfold bV at hx ⊢
        by_cases h1 : op = 1
        · rw [if_pos h1] at hx; exact .inl (hb x hx)
        · rw [if_neg h1] at hx ⊢
          by_cases h2 : op = 2
          · rw [if_pos h2] at hx ⊢
            simp only [ff, fS] at hx ⊢
            by_cases h3 : aM (ps.getD pol.toNat default).permits b.held serial = 0
            · rw [if_pos h3] at hx ⊢
              simp only [dC] at hx
              rw [if_pos h3] at hx
              rcases ins_mem hx with rfl | hx
              · exact .inr ⟨h2, rfl, rfl, rfl⟩
              · exact .inl (hb x hx)
            · rw [if_neg h3] at hx; exact .inl (hb x hx)
          · rw [if_neg h2] at hx
            simp only [fA] at hx
            split at hx
            · rename_i h3
              simp only [eb] at hx
              rw [if_pos h3] at hx
              exact .inl (hb x (del_mem hx))
            · exact .inl (hb x hx)
theorem rh {o : Option Cel} (h3 : op = 3) (h : (aT ps o op pol key n now serial).1.g = true) : ∃ c, o = some c ∧ n ∈ c.held := by
  unfold aT at h
  split at h
  · cases h
  · rw [tc, if_neg (by omega), dZ h3] at h
    simp only [jU] at h
    split at h
    · rename_i h4
      have := my (jo.1 h4).2
      cases o with
      | none => simp [aw] at this
      | some c => exact ⟨c, rfl, this⟩
    · cases h
theorem oP {c : Cel} {m : Int} (h3 : aQ ps c now = true) (hm : now ≤ m) : aQ ps c m = true := by
  unfold aQ at h3 ⊢
  split
  · rename_i hk; rw [if_pos hk] at h3; exact h3
  · rename_i hk
    rw [if_neg hk] at h3
    have : c.tat ≤ now := by simpa using h3
    exact decide_eq_true (by omega)
end
def gid (l : List HD) (id : List Int) : List HD := l.filter fun d => cp d && decide (d.pol :: d.key = id)
theorem fM (l : List HD) (d : HD) (id : List Int) : gid (l ++ [d]) id = if cp d = true ∧ d.pol :: d.key = id then gid l id ++ [d] else gid l id := by
  unfold gid
  rw [List.filter_append]
  by_cases h : cp d = true ∧ d.pol :: d.key = id
  · rw [if_pos h, List.filter_cons, if_pos (by rw [h.1, decide_eq_true h.2]; rfl)]; rfl
  · rw [if_neg h, List.filter_cons, if_neg (by rw [Q5, decide_eq_true_iff]; exact h)]
    simp
structure Hon (id : List Int) (l : List HD) (xs : List Cel) (now : Int) (z : Option Cel) : Prop where
  good : ∀ spare, 1 ≤ spare → spare ≤ 4611686018427387903 → usedB (gid l id) spare = false → Good bC spare (gid l id) ∧ ∀ i, look (play bC spare (gid l id)) i = if i = id then z else none
  rel : look xs id = z ∨ (look xs id = none ∧ ∃ c, z = some c ∧ aQ bC c now = true)
  cl : ∀ c, z = some c → (jD (bC.getD c.pol.toNat default) c ∧ idn c = id) ∧ ∀ s ∈ c.held, ∃ d ∈ gid l id, d.op = 2 ∧ d.r.serial = s
structure Fm (d : HD) : Prop where
  op : 1 ≤ d.op ∧ d.op ≤ 6
  pol : d.pol = dR d.op
  key : IsB d.key
  klen : d.key.length ≤ 2
  n : 1 ≤ d.n ∧ d.n ≤ 4611686018427387903
structure MI (S : MS) (i : Nat) : Prop where
  inv : gN bC 4096 S.xs
  len : S.xs.length ≤ S.l.length
  l8 : S.l.length ≤ 8
  now : 0 ≤ S.now ∧ S.now ≤ 4611686018427387903
  fm : ∀ d ∈ S.l, Fm d ∧ d.first ≤ d.last ∧ d.first ≤ 100 * i - 100 ∧ -255 ≤ d.first
  tm : S.l.Pairwise fun a b => a.first ≤ b.last
  hon : ∀ id, ∃ z, Hon id S.l S.xs S.now z
  rel : ∀ d ∈ S.l, d.op = 3 → d.r.g = true → ∃ e ∈ S.l, e.op = 2 ∧ e.r.serial = d.n
theorem rx {spare : Int} {g : List HD} {id : List Int} {z : Option Cel} (hk : ∀ d ∈ g, IsB d.key) (h : ∀ i, look (play bC spare g) i = if i = id then z else none) : gN bC 4096 (play bC spare g) ∧ ((play bC spare g).length : Int) < 4096 := by
  have hB := i7 (ps := bC) (by decide) (spare := spare) hk
  have := rz (id := id) (xs := play bC spare g) hB.srt fun i => by
    by_cases e : i = id
    · rw [if_pos e]
    · rw [if_neg e, h, if_neg e]
  exact ⟨hB, by omega⟩
theorem nO {g : List HD} {d : HD} {s : Int} (h : usedB (g ++ [d]) s = false) : usedB g s = false := by
  unfold usedB at h ⊢
  rw [List.any_append, Bool.or_eq_false_iff] at h
  exact h.1
theorem Hon.later {id : List Int} {l : List HD} {xs : List Cel} {now m : Int} {z : Option Cel} (h : Hon id l xs now z) (hm : now ≤ m) : Hon id l xs m z := by
  refine ⟨h.good, ?_, h.cl⟩
  rcases h.rel with h1 | ⟨h1, c, h2, h3⟩
  · exact .inl h1
  · exact .inr ⟨h1, c, h2, oP h3 hm⟩
theorem Hon.step {l : List HD} {xs ys : List Cel} {now s : Int} {z : Option Cel} {d : HD} (h : Hon (d.pol :: d.key) l xs now z) (hkl : ∀ e ∈ l, IsB e.key) (hf : Fm d) (h5 : d.op < 5) (hw : 0 ≤ now ∧ now ≤ 4611686018427387903) (hs : 1 ≤ s ∧ s ≤ 4611686018427387903)
    (hr : d.r = (aT bC (look xs (d.pol :: d.key)) d.op d.pol d.key d.n now s).1) (hc : cp d = true) (h8 : d.r.e ≠ 8)
    (hy : look ys (d.pol :: d.key) = (aT bC (look xs (d.pol :: d.key)) d.op d.pol d.key d.n now s).2.or (look xs (d.pol :: d.key))) :
    ∃ z', Hon (d.pol :: d.key) (l ++ [d]) ys now z' := by
  have e1 : aT bC (look xs (d.pol :: d.key)) d.op d.pol d.key d.n now s = aT bC z d.op d.pol d.key d.n now s := by
    rcases h.rel with h1 | ⟨h1, c, h2, h3⟩
    · rw [h1]
    · rw [h1, h2]
      obtain ⟨⟨c1, c2⟩, _⟩ := h.cl c h2
      exact (ko c1 c2 h3 h5).symm
  rw [e1] at hr hy
  have hg : gid (l ++ [d]) (d.pol :: d.key) = gid l (d.pol :: d.key) ++ [d] := by rw [fM, if_pos ⟨hc, rfl⟩]
  have hkg : ∀ e ∈ gid l (d.pol :: d.key), IsB e.key := fun e he => hkl e (List.mem_filter.1 he).1
  refine ⟨(aT bC z d.op d.pol d.key d.n now s).2.or z, fun spare p1 p2 hu => ?_, ?_, fun c hcz => ?_⟩
  · rw [hg] at hu ⊢
    have hu0 := nO hu
    obtain ⟨g1, g2⟩ := h.good spare p1 p2 hu0
    obtain ⟨b1, b2⟩ := rx hkg g2
    obtain ⟨a1, a2, _⟩ := e7 (op := d.op) (pol := d.pol) (key := d.key) (n := d.n) (now := d.r.now) (serial := ser spare d) b1 h5 b2
    have hlz : look (play bC spare (gid l (d.pol :: d.key))) (d.pol :: d.key) = z := by rw [g2, if_pos rfl]
    have hre : aT bC z d.op d.pol d.key d.n d.r.now (ser spare d) = aT bC z d.op d.pol d.key d.n now s := by
      have hp := hf.pol
      rw [hp] at hr ⊢
      refine re_step hf.op.1 h5 hf.klen hf.n hw hs ⟨p1, p2⟩ (fun c hcz hm => ?_) rfl hr hc h8
      obtain ⟨e, he, _, hes⟩ := (h.cl c hcz).2 spare hm
      have : usedB (gid l (d.pol :: d.key)) spare = true := by
        unfold usedB; rw [List.any_eq_true]; exact ⟨e, he, by simp [hes]⟩
      rw [this] at hu0; cases hu0
    rw [hlz, hre] at a1 a2
    refine ⟨g1.snoc ?_, fun i => ?_⟩
    · unfold lZ
      rw [eqR_iff]
      exact a1.trans hr.symm
    · rw [dY]
      refine (a2 i).trans ?_
      by_cases hi : i = d.pol :: d.key
      · rw [if_pos hi, if_pos hi, g2, if_pos hi]
      · rw [if_neg hi, if_neg hi, g2, if_neg hi]
  · rw [hy]
    rcases h.rel with h1 | ⟨h1, c, h2, h3⟩
    · rw [h1]; exact .inl rfl
    · cases hq : (aT bC z d.op d.pol d.key d.n now s).2 with
      | none => rw [Option.none_or, Option.none_or]; exact .inr ⟨h1, c, h2, h3⟩
      | some c' => rw [Option.some_or, Option.some_or]; exact .inl rfl
  · rw [hg]
    cases hq : (aT bC z d.op d.pol d.key d.n now s).2 with
    | none =>
      rw [hq, Option.none_or] at hcz
      obtain ⟨c1, c2⟩ := h.cl c hcz
      refine ⟨c1, fun x hx => ?_⟩
      obtain ⟨e, he, h9⟩ := c2 x hx
      exact ⟨e, List.mem_append_left _ he, h9⟩
    | some c' =>
      rw [hq, Option.some_or] at hcz
      cases hcz
      refine ⟨ie (fun b hb => (h.cl b hb).1) h5 hq, fun x hx => ?_⟩
      rcases nT hq hx with ⟨b, hb, hx⟩ | ⟨o2, rfl, _, o4⟩
      · obtain ⟨e, he, h9⟩ := (h.cl b hb).2 x hx
        exact ⟨e, List.mem_append_left _ he, h9⟩
      · exact ⟨d, by simp, o2, by rw [hr]; exact o4⟩
end Hist
end
namespace Hist
structure Af (a : Ask) : Prop where
  op : 0 ≤ a.op ∧ a.op ≤ 255
  key : IsB a.key
  early : 0 ≤ a.early ∧ a.early ≤ 255
  later : 0 ≤ a.later ∧ a.later ≤ 255
theorem askD_fm {a : Ask} (ha : Af a) (i : Nat) (r : Rpl) : Fm (nJ a i r) :=
  ⟨sL ha.op.1, rfl, fun b hb => ha.key b (List.mem_of_mem_take hb), by show (a.key.take 2).length ≤ 2; rw [Q10]; omega, nA_bd a⟩
theorem MI.fm_mono {S : MS} {i : Nat} (h : MI S i) {d : HD} (hd : d ∈ S.l) : Fm d ∧ d.first ≤ d.last ∧ d.first ≤ 100 * ((i + 1 : Nat) : Int) - 100 ∧ -255 ≤ d.first := by
  obtain ⟨h1, h2, h3, h4⟩ := h.fm d hd
  exact ⟨h1, h2, by omega, h4⟩
theorem MI.step {S : MS} {i : Nat} (h : MI S i) {a : Ask} (ha : Af a) : MI (mkS S i a) (i + 1) := by
  unfold mkS
  by_cases h8 : 8 ≤ S.l.length
  · rw [if_pos h8]
    exact ⟨h.inv, h.len, h.l8, h.now, fun d hd => h.fm_mono hd, h.tm, h.hon, h.rel⟩
  rw [if_neg h8]
  have hw0 := ew a.now
  have hw := h.now
  have hw' : 0 ≤ max S.now (aR a.now) ∧ max S.now (aR a.now) ≤ 4611686018427387903 := by omega
  have hle : S.now ≤ max S.now (aR a.now) := by omega
  have hop := sL ha.op.1
  have hkt : IsB (a.key.take 2) := fun b hb => ha.key b (List.mem_of_mem_take hb)
  have hlen2 : (a.key.take 2).length ≤ 2 := by rw [Q10]; omega
  have hroom : (S.xs.length : Int) < 4096 := by have := h.len; omega
  have hinv : gN bC 4096 (eB S a).2 := pc h.inv hkt
  have hn := nA_bd a
  have hs := serA_bd a
  have hE := pz hop.1 hop.2 hlen2 hn hw' hs
  have herr : (eB S a).1.e ≠ 0 → (eB S a).2 = S.xs := fun h => do_err h
  have hlk : ∀ id, ∃ z, Hon id S.l S.xs (max S.now (aR a.now)) z := fun id => by
    obtain ⟨z, hz⟩ := h.hon id
    exact ⟨z, hz.later hle⟩
  have hlast : 0 ≤ a.early ∧ 0 ≤ a.later ∧ a.early ≤ 255 := ⟨ha.early.1, ha.later.1, ha.early.2⟩
  by_cases he : (eB S a).1.e = 8
  · rw [if_pos he]
    have hx := herr (by rw [he]; decide)
    rw [hx]
    exact ⟨h.inv, h.len, h.l8, hw', fun d hd => h.fm_mono hd, h.tm, hlk, h.rel⟩
  rw [if_neg he]
  have hfm := askD_fm ha i (eB S a).1
  have hlen1 : (eB S a).2.length ≤ S.xs.length + 1 := s8 h.inv
  refine ⟨hinv, ?_, ?_, hw', ?_, ?_, fun id => ?_, ?_⟩
  · have := h.len
    show (eB S a).2.length ≤ (S.l ++ [_]).length
    rw [Q9, List.length_singleton]; omega
  · show (S.l ++ [_]).length ≤ 8
    rw [Q9, List.length_singleton]; omega
  · intro d hd
    rcases List.mem_append.1 hd with hd | hd
    · exact h.fm_mono hd
    · rw [List.mem_singleton.1 hd]
      refine ⟨hfm, ?_, ?_, ?_⟩
      · show 100 * (i : Int) - a.early ≤ 100 * (i : Int) + a.later; omega
      · show 100 * (i : Int) - a.early ≤ _; omega
      · show -255 ≤ 100 * (i : Int) - a.early; omega
  · refine List.pairwise_append.2 ⟨h.tm, List.pairwise_singleton _ _, fun b hb c hc => ?_⟩
    rw [List.mem_singleton.1 hc]
    have := (h.fm b hb).2.2.1
    show b.first ≤ 100 * (i : Int) + a.later
    omega
  · show ∃ z, Hon id (S.l ++ [nJ a i (eB S a).1]) (eB S a).2 (max S.now (aR a.now)) z
    obtain ⟨z, hz⟩ := hlk id
    by_cases h5 : opA a.op < 5
    · obtain ⟨a1, a2, _⟩ := e7 (op := opA a.op) (pol := dR (opA a.op)) (key := a.key.take 2) (n := nA a) (now := max S.now (aR a.now)) (serial := serA a) h.inv h5 hroom
      have a1 : (eB S a).1 = _ := a1
      have a2 : ∀ i, look (eB S a).2 i = _ := a2
      by_cases hc : cp (nJ a i (eB S a).1) = true
      · by_cases hi : id = dR (opA a.op) :: a.key.take 2
        · subst hi
          exact hz.step (d := nJ a i (eB S a).1) (s := serA a) (fun e he => (h.fm e he).1.key) hfm h5 hw' hs a1 hc he (by rw [a2]; exact if_pos rfl)
        · have hg : gid (S.l ++ [nJ a i (eB S a).1]) id = gid S.l id := by rw [fM, if_neg (fun e => hi e.2.symm)]
          refine ⟨z, ⟨by rw [hg]; exact hz.good, by rw [a2, if_neg hi]; exact hz.rel, by rw [hg]; exact hz.cl⟩⟩
      · have hg : gid (S.l ++ [nJ a i (eB S a).1]) id = gid S.l id := by rw [fM, if_neg (fun e => hc e.1)]
        have hx : (eB S a).2 = S.xs := herr fun e0 => hc (by
          have hoo : (nJ a i (eB S a).1).op = opA a.op := rfl
          have hre : (nJ a i (eB S a).1).r.e = 0 := e0
          unfold cp
          rw [hre, hoo]
          have hq : opA a.op = 1 ∨ opA a.op = 2 ∨ opA a.op = 3 ∨ opA a.op = 4 := by omega
          rcases hq with h | h | h | h <;> rw [h] <;> decide)
        exact ⟨z, ⟨by rw [hg]; exact hz.good, by rw [hx]; exact hz.rel, by rw [hg]; exact hz.cl⟩⟩
    · have hc : cp (nJ a i (eB S a).1) = false := by
        have hoo : (nJ a i (eB S a).1).op = opA a.op := rfl
        unfold cp
        rw [hoo]
        have hq : opA a.op = 5 ∨ opA a.op = 6 := by omega
        rcases hq with h | h <;> rw [h] <;> simp
      have hg : gid (S.l ++ [nJ a i (eB S a).1]) id = gid S.l id := by rw [fM, if_neg (fun e => by rw [hc] at e; cases e.1)]
      have hx : (eB S a).2 = S.xs ∨ (eB S a).2 = stay bC (max S.now (aR a.now)) S.xs := by
        show (doS ..).2 = _ ∨ (doS ..).2 = _
        unfold doS
        rw [if_neg (fun h => h hE)]
        by_cases h55 : opA a.op = 5
        · rw [if_pos h55]; exact .inr rfl
        · rw [if_neg h55, if_pos (by omega)]; exact .inl rfl
      refine ⟨z, ⟨by rw [hg]; exact hz.good, ?_, by rw [hg]; exact hz.cl⟩⟩
      rcases hx with hx | hx
      · rw [hx]; exact hz.rel
      · rw [hx, jR h.inv.srt]
        rcases hz.rel with h1 | ⟨h1, h2⟩
        · rw [h1]
          cases z with
          | none => exact .inl rfl
          | some c =>
            by_cases hi : aQ bC c (max S.now (aR a.now)) = true
            · exact .inr ⟨by simp [Option.filter, hi], c, rfl, hi⟩
            · exact .inl (by simp [Option.filter, hi])
        · rw [h1]; exact .inr ⟨rfl, h2⟩
  · intro d hd hd3 hg
    rcases List.mem_append.1 hd with hd | hd
    · obtain ⟨e, he, h9⟩ := h.rel d hd hd3 hg
      exact ⟨e, List.mem_append_left _ he, h9⟩
    · rw [List.mem_singleton.1 hd] at hd3 hg ⊢
      have h3 : opA a.op = 3 := hd3
      obtain ⟨a1, _, _⟩ := e7 (op := opA a.op) (pol := dR (opA a.op)) (key := a.key.take 2) (n := nA a) (now := max S.now (aR a.now)) (serial := serA a) h.inv (by omega) hroom
      have a1 : (eB S a).1 = _ := a1
      have hg : (eB S a).1.g = true := hg
      rw [a1] at hg
      obtain ⟨c, hc, hm⟩ := rh h3 hg
      obtain ⟨z, hz⟩ := hlk (dR (opA a.op) :: a.key.take 2)
      have hzc : z = some c := by
        rcases hz.rel with h1 | ⟨h1, _⟩
        · rw [← h1, hc]
        · rw [hc] at h1; cases h1
      obtain ⟨e, he, h9⟩ := (hz.cl c hzc).2 _ hm
      exact ⟨e, List.mem_append_left _ (List.mem_filter.1 he).1, h9⟩
structure Ok (d : HD) : Prop where
  bad : dD bC d = false
  id : aI d.pol d.key = 0
  key : IsB d.key
theorem Fm.ok {d : HD} (h : Fm d) : Ok d := by
  have hc := ta h.op.1 h.op.2 h.klen h.n
  refine ⟨?_, ?_, h.key⟩
  · unfold dD
    rw [h.pol, hc]; rfl
  · have := h.klen
    have hp : d.pol = 0 ∨ d.pol = 1 := by rw [h.pol]; unfold dR; split <;> omega
    unfold aI
    rw [if_neg (by omega), if_neg (by omega)]
theorem Ok.inc {d : HD} (h : Ok d) : bM bC d = cp d := by unfold bM; rw [h.bad, decide_eq_true h.id]; rfl
theorem Ok.pol {d : HD} (h : Ok d) : 0 ≤ d.pol ∧ d.pol < 32 := by
  have := h.id
  unfold aI at this
  split at this
  · omega
  · omega
theorem oG {f : Int → UInt8} (hf : ∀ x y, (0 ≤ x ∧ x ≤ 255) → (0 ≤ y ∧ y ≤ 255) → f x = f y → x = y) : ∀ {a b : List Int}, IsB a → IsB b → a.map f = b.map f → a = b
  | [], [], _, _, _ => rfl
  | [], _ :: _, _, _, h => by cases h
  | _ :: _, [], _, _, h => by cases h
  | x :: a, y :: b, ha, hb, h => by
    rw [List.map_cons, List.map_cons, List.cons.injEq] at h
    rw [hf x y (ha x (List.mem_cons_self ..)) (hb y (List.mem_cons_self ..)) h.1, oG hf (fun z hz => ha z (List.mem_cons_of_mem _ hz)) (fun z hz => hb z (List.mem_cons_of_mem _ hz)) h.2]
theorem u8_inj (x y : Int) (hx : 0 ≤ x ∧ x ≤ 255) (hy : 0 ≤ y ∧ y ≤ 255) (h : UInt8.ofNat x.toNat = UInt8.ofNat y.toNat) : x = y := by
  have h1 := congrArg UInt8.toNat h
  rw [UInt8.toNat_ofNat', UInt8.toNat_ofNat'] at h1
  omega
end Hist
section
namespace Hist
section
variable {ps : List Pol} {op pol : Int} {key : List Int} {n now serial : Int}
theorem ou {spare : Int} : ∀ {l : List HD} {xs : List Cel}, gN ps 4096 xs → (∀ d ∈ l, IsB d.key) → (l.foldl (fun xs d => (doH ps spare xs d).2) xs).length ≤ xs.length + l.length
  | [], _, _, _ => by simp
  | d :: l, xs, h, hk => by
    have h1 := pc (op := d.op) (pol := d.pol) (n := d.n) (now := d.r.now) (serial := ser spare d) h (hk d (List.mem_cons_self ..))
    have h2 := ou (l := l) (spare := spare) h1 fun e he => hk e (List.mem_cons_of_mem _ he)
    have h3 : (doH ps spare xs d).2.length ≤ xs.length + 1 := s8 h
    rw [List.foldl_cons, List.length_cons]
    exact Nat.le_trans h2 (by show (doH ps spare xs d).2.length + _ ≤ _; omega)
end
theorem cnt_op {d : HD} (h : cp d = true) : 1 ≤ d.op ∧ d.op < 5 := by
  unfold cp at h
  split at h
  · omega
  · split at h
    · omega
    · simp at h; omega
section
variable {S : MS} {i : Nat} {key : List Int}
end
end Hist
end
section
namespace Hist
structure CI (p : Pol) (c : Cel) : Prop where
  tat : 0 ≤ c.tat ∧ c.tat ≤ 4611686018427387903
  sem : p.kind = 2 → dQ p.permits c.held = 0
def e6 (p : Pol) (c : Cel) (op n now s : Int) : Rpl × Cel :=
  if bk now = false ∨ (op = 2 ∧ dI s = false) then (pO 1, c)
  else if op = 4 then (bX p c now, c)
  else if (bV p c op n now s).1.g = false ∨ (op = 1 ∧ n = 0) then ((bV p c op n now s).1, c)
  else bV p c op n now s
structure Lk (c z : Cel) : Prop where
  tat : c.tat = z.tat
  held : c.held = z.held
theorem Lk.refl (c : Cel) : Lk c c := ⟨rfl, rfl⟩
section
variable {ps : List Pol} {p : Pol} {c z : Cel} {op pol n now s : Int} {key : List Int}
theorem Lk.one (h : Lk c z) : (bV p c op n now s).1 = (bV p z op n now s).1 ∧ Lk (bV p c op n now s).2 (bV p z op n now s).2 := by
  obtain ⟨p1, k1, t1, h1⟩ := c
  obtain ⟨p2, k2, t2, h2⟩ := z
  obtain ⟨e1, e2⟩ := h
  dsimp only at e1 e2
  subst e1 e2
  unfold bV
  split
  · exact ⟨rfl, rfl, rfl⟩
  · split
    · refine ⟨rfl, ?_, ?_⟩ <;> (dsimp only; unfold ff; split <;> rfl)
    · refine ⟨rfl, ?_, ?_⟩ <;> (dsimp only; unfold fA; split <;> rfl)
theorem Lk.peek (h : Lk c z) : bX p c now = bX p z now := by
  unfold bX; rw [h.tat, h.held]
theorem Lk.doc (h : Lk c z) : (e6 p c op n now s).1 = (e6 p z op n now s).1 ∧ Lk (e6 p c op n now s).2 (e6 p z op n now s).2 := by
  obtain ⟨a1, a2⟩ := h.one (p := p) (op := op) (n := n) (now := now) (s := s)
  unfold e6
  rw [a1, h.peek]
  split
  · exact ⟨rfl, h⟩
  · split
    · exact ⟨rfl, h⟩
    · split
      · exact ⟨rfl, h⟩
      · exact ⟨a1, a2⟩
theorem pA (hE : iE ps op pol key n = 0) : bJ ps op pol key n now s = if bk now = false ∨ (op = 2 ∧ dI s = false) then 1 else 0 := by
  unfold bJ
  rw [hE]
  have : (op = 2 ∧ (s < 1 ∨ 4611686018427387903 < s)) ↔ (op = 2 ∧ dI s = false) := by
    have : dI s = false ↔ (s < 1 ∨ 4611686018427387903 < s) := by
      unfold dI
      rw [Bool.and_eq_false_iff, decide_eq_false_iff_not, decide_eq_false_iff_not]; omega
    rw [this]
  simp only [this]
theorem ri (hE : iE ps op pol key n = 0) (o : Option Cel) :
    (aT ps o op pol key n now s).1 = (e6 (ps.getD pol.toNat default) (o.getD (aw pol key)) op n now s).1 ∧
    ((aT ps o op pol key n now s).2.or o).getD (aw pol key) = (e6 (ps.getD pol.toNat default) (o.getD (aw pol key)) op n now s).2 := by
  unfold aT
  rw [pA hE]
  unfold e6
  by_cases h : bk now = false ∨ (op = 2 ∧ dI s = false)
  · simp only [if_pos h]
    rw [if_pos (by decide)]
    exact ⟨rfl, by rw [Option.none_or]⟩
  · simp only [if_neg h]
    rw [if_neg (by decide)]
    unfold bS
    by_cases h4 : op = 4
    · rw [if_pos h4, if_pos h4]; exact ⟨rfl, by rw [Option.none_or]⟩
    · rw [if_neg h4, if_neg h4]
      split
      · exact ⟨rfl, by rw [Option.none_or]⟩
      · exact ⟨rfl, by rw [Option.some_or]; rfl⟩
theorem sg (hE : iE ps op pol key n = 0) : aG ps = 0 ∧ 1 ≤ op ∧ op ≤ 6 ∧ (op < 5 → key.length ≤ 255 ∧ 0 ≤ pol ∧ pol < ps.length) ∧ (op = 1 → 0 ≤ n ∧ n ≤ 4611686018427387903) ∧ (fC op ≠ 0 → (ps.getD pol.toNat default).kind = fC op) := by
  have hb : bJ ps op pol key n 0 1 = 0 := by rw [pA hE, if_neg]; rintro (h | ⟨_, h⟩) <;> (revert h; decide)
  have := fx hb
  exact ⟨this.2.2.2.1, this.2.1, this.2.2.1, this.2.2.2.2.1, this.2.2.2.2.2.1, this.2.2.2.2.2.2.2⟩
theorem oW (hE : iE ps op pol key n = 0) (h5 : op < 5) : eW (ps.getD pol.toNat default).kind (ps.getD pol.toNat default).T (ps.getD pol.toNat default).tau (ps.getD pol.toNat default).permits = true := by
  obtain ⟨hp, _, _, hk, _⟩ := sg hE
  obtain ⟨_, h1, h2⟩ := hk h5
  exact j8 hp _ (by omega)
theorem rf {q : Int} {xs : List Int} (h : aM q xs s = 0) : dQ q (dC q xs s) = 0 := by
  obtain ⟨h1, h2, h3, h4⟩ := k8.1 h
  have e : dC q xs s = bE xs (bW xs s) s := by unfold dC; rw [if_pos h]
  rw [e]
  unfold dQ at h2 ⊢
  split at h2
  · rename_i hs
    obtain ⟨g1, g2, g3, g4⟩ := hs
    have hn : s ∉ xs := fun hm => by rw [(fL (bi.1 g4).2).2 hm] at h3; cases h3
    rw [if_pos ⟨g1, g2, by rw [aD _ _ _ (gn _ _)]; omega, (mn g4 h1 hn).1⟩]
  · omega
theorem rO {q : Int} {xs : List Int} (h : ck q xs n = 0) : dQ q (eb q xs n) = 0 := by
  obtain ⟨h2, h3⟩ := jo.1 h
  have e : eb q xs n = bY xs (bW xs n) := by unfold eb; rw [if_pos h]
  rw [e]
  unfold dQ at h2 ⊢
  split at h2
  · rename_i hs
    obtain ⟨g1, g2, g3, g4⟩ := hs
    have hn : n ∈ xs := (fL (bi.1 g4).2).1 h3
    obtain ⟨d1, d2, d3⟩ := mI g4 hn
    rw [if_pos ⟨g1, g2, by omega, d1⟩]
  · omega
theorem CI.doc (h : CI (ps.getD pol.toNat default) c) (hE : iE ps op pol key n = 0) (h5 : op < 5) : CI (ps.getD pol.toNat default) (e6 (ps.getD pol.toNat default) c op n now s).2 := by
  have hF := oW hE h5
  obtain ⟨_, h1, _, _, hn, hk⟩ := sg hE
  generalize ps.getD pol.toNat default = p at *
  unfold e6
  split
  · exact h
  · rename_i hbad
    split
    · exact h
    · split
      · exact h
      · rename_i h4 hg
        unfold bV at hg ⊢
        by_cases e1 : op = 1
        · rw [if_pos e1] at hg ⊢
          have k1 : p.kind = 1 := by rw [hk (by rw [e1]; decide), e1]; rfl
          refine ⟨?_, fun h => by omega⟩
          have g : (fa p.T p.tau c.tat now n).g = true := by
            cases hq : (fa p.T p.tau c.tat now n).g with
            | true => rfl
            | false => exact absurd (Or.inl hq) hg
          obtain ⟨a1, a2, a3⟩ := dec_g g
          obtain ⟨⟨hT, ht⟩, b3, b5, bn⟩ := (ey _ _ _ _ _).1 a1
          show 0 ≤ (fa p.T p.tau c.tat now n).tat ∧ (fa p.T p.tau c.tat now n).tat ≤ 4611686018427387903
          rw [a3]
          have n0 : 0 < n := by have := hn e1; have : ¬ n = 0 := fun h => hg (Or.inr ⟨e1, h⟩); omega
          obtain ⟨c1, c2⟩ := ji (by omega) b3.1 b3.2 b5.1 b5.2 a2 n0
          unfold m6
          rw [if_pos ⟨a2, n0⟩]
          omega
        · rw [if_neg e1] at hg ⊢
          by_cases e2 : op = 2
          · rw [if_pos e2]
            dsimp only
            unfold ff
            split
            · exact ⟨h.tat, fun _ => rf (by assumption)⟩
            · exact h
          · rw [if_neg e2]
            dsimp only
            unfold fA
            split
            · exact ⟨h.tat, fun _ => rO (by assumption)⟩
            · exact h
theorem CI.new (hE : iE ps op pol key n = 0) (h5 : op < 5) (q : Int) (k : List Int) : CI (ps.getD pol.toNat default) ⟨q, k, 0, []⟩ := by
  have hF := oW hE h5
  refine ⟨by dsimp only; omega, fun hk => ?_⟩
  unfold eW at hF
  rw [hk, if_neg (by decide), if_pos rfl, Q5, decide_eq_true_eq, decide_eq_true_eq] at hF
  unfold dQ
  rw [if_pos ⟨hF.1, hF.2, by show (0 : Int) ≤ _; omega, rfl⟩]
end
def mY (p : Pol) (l : List HD) (spare : Int) (left : Nat) (c : Cel) (i : Nat) : Bool :=
  left.testBit i && ((List.range l.length).all fun j => !(left.testBit j && decide ((l.getD j default).last < (l.getD i default).first))) && eqR (e6 p c (l.getD i default).op (l.getD i default).n (l.getD i default).r.now (ser spare (l.getD i default))).1 (l.getD i default).r
def ordS (p : Pol) (l : List HD) (spare : Int) : Nat → Nat → Cel → Bool
  | 0, left, _ => left == 0
  | f + 1, left, c => left == 0 || (List.range l.length).any fun i => mY p l spare left c i && ordS p l spare f (left - 2 ^ i) (e6 p c (l.getD i default).op (l.getD i default).n (l.getD i default).r.now (ser spare (l.getD i default))).2
structure su (ps : List Pol) (pol : Int) (key : List Int) (l : List HD) : Prop where
  bt : IsB key
  gp : ∀ e ∈ l, e.pol = pol
  gk : ∀ e ∈ l, e.key = key
  go : ∀ e ∈ l, e.op < 5
  chk : ∀ e ∈ l, iE ps e.op pol key e.n = 0
theorem pC {α : Type} {l : List α} {f g : α → Bool} (h : ∀ x ∈ l, f x = g x) : l.any f = l.any g := by
  induction l with
  | nil => rfl
  | cons a l ih => rw [List.any_cons, List.any_cons, h a (List.mem_cons_self ..), ih fun x hx => h x (List.mem_cons_of_mem _ hx)]
theorem sJ {ps : List Pol} {pol : Int} {key : List Int} {l : List HD} {spare : Int} (hp : ps.length ≤ 32) (hg : su ps pol key l) : ∀ (f left : Nat) (c : Cel) (done : List HD), done.length + f ≤ 100 → (∀ e ∈ done, IsB e.key) → Lk c ((look (play ps spare done) (pol :: key)).getD (aw pol key)) →
    ordS (ps.getD pol.toNat default) l spare f left c = srch ps l spare f left done
  | 0, _, _, _, _, _, _ => rfl
  | f + 1, left, c, done, hdl, hk, hc => by
    unfold ordS srch
    congr 1
    refine pC fun i hi => ?_
    have hi : i < l.length := List.mem_range.1 hi
    have hm : l.getD i default ∈ l := by rw [Q1, Q0 hi]; exact Q14 hi
    have hB := i7 hp (spare := spare) hk
    have hL : (play ps spare done).length ≤ 0 + done.length := ou (.nil (by decide) (by decide) hp) hk
    obtain ⟨d, hd⟩ : ∃ d, l.getD i default = d := ⟨_, rfl⟩
    rw [hd] at hm ⊢
    obtain ⟨a1, a2, _⟩ := e7 (op := d.op) (pol := d.pol) (key := d.key) (n := d.n) (now := d.r.now) (serial := ser spare d) hB (hg.go d hm) (by omega)
    rw [hg.gp d hm, hg.gk d hm] at a1 a2
    obtain ⟨s1, s2⟩ := ri (now := d.r.now) (s := ser spare d) (hg.chk d hm) (look (play ps spare done) (pol :: key))
    obtain ⟨r1, r2⟩ := hc.doc (p := ps.getD pol.toNat default) (op := d.op) (n := d.n) (now := d.r.now) (s := ser spare d)
    have e1 : lZ ps spare done d = eqR (e6 (ps.getD pol.toNat default) c d.op d.n d.r.now (ser spare d)).1 d.r := by
      unfold lZ doH
      rw [hg.gp d hm, hg.gk d hm, a1, s1, r1]
    have e2 : ordS (ps.getD pol.toNat default) l spare f (left - 2 ^ i) (e6 (ps.getD pol.toNat default) c d.op d.n d.r.now (ser spare d)).2 = srch ps l spare f (left - 2 ^ i) (done ++ [d]) := by
      refine sJ hp hg f _ _ _ (by rw [Q9, List.length_singleton]; omega) (fun e he => ?_) ?_
      · rcases List.mem_append.1 he with he | he
        · exact hk e he
        · rw [List.mem_singleton.1 he, hg.gk d hm]; exact hg.bt
      · have a3 := a2 (pol :: key)
        rw [if_pos rfl] at a3
        have : look (play ps spare (done ++ [d])) (pol :: key) = ((aT ps (look (play ps spare done) (pol :: key)) d.op pol key d.n d.r.now (ser spare d)).2.or (look (play ps spare done) (pol :: key))) := by
          rw [dY]; unfold doH; rw [hg.gp d hm, hg.gk d hm]; exact a3
        rw [this, s2]
        exact r2
    rw [e2]
    congr 1
    unfold mY mZ
    rw [hd, e1]
end Hist
end
section
open Hist
theorem bD (d : HD) : Pure TC 15 [d.S] (.b (cp d)) := by
  refine Pure.mk' Tryz.func15 rfl rfl (zzb rfl) ?_
  (repeat' (first
    | with_reducible refine Wp.seq ?_
    | with_reducible refine Wp.block ?_
    | ((with_reducible first | refine Wp.region ?_ | refine Wp.drawL ac ?_ | refine Wp.cond ?_ | refine Wp.ret ?_ | refine Wp.skip ?_ | refine Wp.exit ?_ | refine Go.mk ?_ | apply ao.of); conv => whnf)
    | with_reducible exact rfl
    | ((with_reducible refine Ov.ok zO ?_); conv => whnf)
    | (with_reducible refine Ov.sh1 (by with_unfolding_all exact rfl) ?_)
    | ((with_reducible refine Ov.quo (by omega) (by omega) (by omega) (fun _ _ => ?_)); conv => whnf)
    | ((with_reducible refine And.intro (show ah _ _ _ _ = true by kernel_rfl) ?_); conv => whnf)
    | ((with_reducible refine And.intro zC ?_); conv => whnf)
    | ((with_reducible refine And.intro ?hb ?_); (case hb => exact ae (zzb rfl) (by omega)); (conv => whnf))
    | ((refine af.a rfl rfl rfl rfl rfl rfl ?hb ?_); (case hb => exact zB); (conv => whnf))
    | ((refine af.b rfl rfl rfl rfl rfl rfl rfl rfl ?hb ?ho ?_); (case hb => exact zB); (case ho => omega); (conv => whnf))
    | ((refine af.c rfl rfl rfl rfl rfl ?hb ?_); (case hb => exact zB); (conv => whnf))
    | ((refine af.d rfl rfl rfl rfl rfl rfl ?hb ?ho ?_); (case hb => exact zB); (case ho => omega); (conv => whnf))
    | (with_reducible refine Or.inl ?_)
    | ((with_reducible refine IxA.ptr ?_); conv => whnf)
    | ((with_reducible refine nil_no (by omega) ?_); (conv => whnf))
    | ((with_reducible refine ag ?_ (fun hn0 => ?_)) <;> (conv => whnf))
    
    | ((refine ap (fun hc => ?_) (fun hc => ?_)) <;> (try simp only [decide_eq_true_eq, decide_eq_false_iff_not, Q5, Q20, Bool.and_eq_false_iff, Bool.or_eq_false_iff, Bool.not_eq_true', Bool.not_eq_false', beq_iff_eq, bne_iff_ne, ne_eq, beq_eq_false_iff_ne, bne_eq_false_iff_eq, Bool.not_eq_true, Bool.not_eq_false] at hc) <;> (try (exfalso; omega)) <;> (conv => whnf))))
  all_goals exact .b (by unfold cp; simp [*, bne])
theorem dV (op pol : Int) (key : List Int) (n : Int) : Pure TC 26 [jy op pol key n] (.b (decide (aI pol key = 0))) := by
  refine Pure.mk' Tryz.func26 rfl rfl (zzb rfl) ?_
  (repeat' (first
    | with_reducible refine Wp.seq ?_
    | with_reducible refine Wp.block ?_
    | ((with_reducible first | refine Wp.region ?_ | refine Wp.drawL ac ?_ | refine Wp.cond ?_ | refine Wp.ret ?_ | refine Wp.skip ?_ | refine Wp.exit ?_ | refine Go.mk ?_ | apply ao.of); conv => whnf)
    | with_reducible exact rfl
    | ((with_reducible refine Ov.ok zO ?_); conv => whnf)
    | (with_reducible refine Ov.sh1 (by with_unfolding_all exact rfl) ?_)
    | ((with_reducible refine Ov.quo (by omega) (by omega) (by omega) (fun _ _ => ?_)); conv => whnf)
    | ((with_reducible refine And.intro (show ah _ _ _ _ = true by kernel_rfl) ?_); conv => whnf)
    | ((with_reducible refine And.intro zC ?_); conv => whnf)
    | ((with_reducible refine And.intro ?hb ?_); (case hb => exact ae (zzb rfl) (by omega)); (conv => whnf))
    | ((refine af.a rfl rfl rfl rfl rfl rfl ?hb ?_); (case hb => exact zB); (conv => whnf))
    | ((refine af.b rfl rfl rfl rfl rfl rfl rfl rfl ?hb ?ho ?_); (case hb => exact zB); (case ho => omega); (conv => whnf))
    | ((refine af.c rfl rfl rfl rfl rfl ?hb ?_); (case hb => exact zB); (conv => whnf))
    | ((refine af.d rfl rfl rfl rfl rfl rfl ?hb ?ho ?_); (case hb => exact zB); (case ho => omega); (conv => whnf))
    | (with_reducible refine Or.inl ?_)
    | ((with_reducible refine IxA.ptr ?_); conv => whnf)
    | ((with_reducible refine nil_no (by omega) ?_); (conv => whnf))
    | ((with_reducible refine ag ?_ (fun hn0 => ?_)) <;> (conv => whnf))
    
    | ((refine ap (fun hc => ?_) (fun hc => ?_)) <;> (try simp only [decide_eq_true_eq, decide_eq_false_iff_not, Q5, Q20, Bool.and_eq_false_iff, Bool.or_eq_false_iff, Bool.not_eq_true', Bool.not_eq_false', beq_iff_eq, bne_iff_ne, ne_eq, beq_eq_false_iff_ne, bne_eq_false_iff_eq, Bool.not_eq_true, Bool.not_eq_false] at hc) <;> (try (exfalso; omega)) <;> (conv => whnf))))
  all_goals exact .b (by
    unfold aI
    rw [eq_comm]
    repeat' split
    all_goals first | (rw [decide_eq_true_eq]; omega) | (rw [decide_eq_false_iff_not]; omega) | (rw [decide_eq_decide]; omega))
theorem fG (o1 p1 : Int) (k1 : List Int) (n1 o2 p2 : Int) (k2 : List Int) (n2 : Int) : Pure TC 16 [jy o1 p1 k1 n1, jy o2 p2 k2 n2] (.b (decide (p1 = p2) && decide (k1 = k2))) := by
  refine Pure.mk' Tryz.func16 rfl rfl (zzb rfl) ?_
  (repeat' (first
    | with_reducible refine Wp.seq ?_
    | with_reducible refine Wp.block ?_
    | ((with_reducible first | refine Wp.region ?_ | refine Wp.drawL ac ?_ | refine Wp.cond ?_ | refine Wp.ret ?_ | refine Wp.skip ?_ | refine Wp.exit ?_ | refine Go.mk ?_ | apply ao.of); conv => whnf)
    | with_reducible exact rfl
    | ((with_reducible refine Ov.ok zO ?_); conv => whnf)
    | (with_reducible refine Ov.sh1 (by with_unfolding_all exact rfl) ?_)
    | ((with_reducible refine Ov.quo (by omega) (by omega) (by omega) (fun _ _ => ?_)); conv => whnf)
    | ((with_reducible refine And.intro (show ah _ _ _ _ = true by kernel_rfl) ?_); conv => whnf)
    | ((with_reducible refine And.intro zC ?_); conv => whnf)
    | ((with_reducible refine And.intro ?hb ?_); (case hb => exact ae (zzb rfl) (by omega)); (conv => whnf))
    | ((refine af.a rfl rfl rfl rfl rfl rfl ?hb ?_); (case hb => exact zB); (conv => whnf))
    | ((refine af.b rfl rfl rfl rfl rfl rfl rfl rfl ?hb ?ho ?_); (case hb => exact zB); (case ho => omega); (conv => whnf))
    | ((refine af.c rfl rfl rfl rfl rfl ?hb ?_); (case hb => exact zB); (conv => whnf))
    | ((refine af.d rfl rfl rfl rfl rfl rfl ?hb ?ho ?_); (case hb => exact zB); (case ho => omega); (conv => whnf))
    | (with_reducible refine Or.inl ?_)
    | ((with_reducible refine IxA.ptr ?_); conv => whnf)
    | ((with_reducible refine nil_no (by omega) ?_); (conv => whnf))
    | ((with_reducible refine ag ?_ (fun hn0 => ?_)) <;> (conv => whnf))
    | ((with_reducible refine ab.pure (c8 _ _) rfl rfl ?_); conv => whnf) | ((with_reducible refine ai.pure (c8 _ _) rfl rfl ?_); conv => whnf)
    | ((refine ap (fun hc => ?_) (fun hc => ?_)) <;> (try simp only [decide_eq_true_eq, decide_eq_false_iff_not, Q5, Q20, Bool.and_eq_false_iff, Bool.or_eq_false_iff, Bool.not_eq_true', Bool.not_eq_false', beq_iff_eq, bne_iff_ne, ne_eq, beq_eq_false_iff_ne, bne_eq_false_iff_eq, Bool.not_eq_true, Bool.not_eq_false] at hc) <;> (try (exfalso; omega)) <;> (conv => whnf))))
  all_goals exact .b (by simp [*])
@[reducible] def gbC (p : Pol) (l : List HD) (spare : Int) : List SV := [.i .u8 p.kind, .i .i64 p.T, .i .i64 p.tau, .i .i64 p.permits, .d (ak 13 HD.D l), .i .i64 spare]
theorem gj {p : Pol} {l : List HD} {spare : Int} {d : HD} {c c' : Cel} {ρ : Rpl} {ch : Bool} (ht : bk d.r.now = true) (hs : d.op = 2 → dI (ser spare d) = true)
    (hOne : Pure TC 36 [p.S, c.S, jy d.op d.pol d.key d.n, .i .i64 d.r.now, .i .i64 (ser spare d)] (.tup [ρ.S, c'.S, .b ch])) :
    Fun TC 27 1 [.ptr 0 0, d.S, c.S] [(0, some (.cells (gbC p l spare)))] 1 (.tup [ρ.S, (if ch then c' else c).S]) [(0, some (.cells (gbC p l spare)))] := by
  have hF := eI d.r.now
  rw [ht] at hF
  have hs : d.op = 2 → 1 ≤ ser spare d ∧ ser spare d ≤ 4611686018427387903 := fun h => by
    have := hs h
    unfold dI at this
    rw [Q5, decide_eq_true_eq, decide_eq_true_eq] at this
    exact this
  unfold ser at hs hOne
  by_cases h0 : d.r.serial = 0
  all_goals first | rw [if_pos h0] at hs hOne | rw [if_neg h0] at hs hOne
  all_goals refine Fun.mk' Tryz.func27 rfl rfl (zzb rfl) (by decide) ?_
  all_goals (repeat' (first
    | with_reducible refine Wp.seq ?_
    | with_reducible refine Wp.block ?_
    | ((with_reducible first | refine Wp.region ?_ | refine Wp.drawL ac ?_ | refine Wp.cond ?_ | refine Wp.ret ?_ | refine Wp.skip ?_ | refine Wp.exit ?_ | refine Go.mk ?_ | apply ao.of); conv => whnf)
    | with_reducible exact rfl
    | ((with_reducible refine Ov.ok zO ?_); conv => whnf)
    | (with_reducible refine Ov.sh1 (by with_unfolding_all exact rfl) ?_)
    | ((with_reducible refine Ov.quo (by omega) (by omega) (by omega) (fun _ _ => ?_)); conv => whnf)
    | ((with_reducible refine And.intro (show ah _ _ _ _ = true by kernel_rfl) ?_); conv => whnf)
    | ((with_reducible refine And.intro zC ?_); conv => whnf)
    | ((with_reducible refine And.intro ?hb ?_); (case hb => exact ae (zzb rfl) (by omega)); (conv => whnf))
    | ((refine af.a rfl rfl rfl rfl rfl rfl ?hb ?_); (case hb => exact zB); (conv => whnf))
    | ((refine af.b rfl rfl rfl rfl rfl rfl rfl rfl ?hb ?ho ?_); (case hb => exact zB); (case ho => omega); (conv => whnf))
    | ((refine af.c rfl rfl rfl rfl rfl ?hb ?_); (case hb => exact zB); (conv => whnf))
    | ((refine af.d rfl rfl rfl rfl rfl rfl ?hb ?ho ?_); (case hb => exact zB); (case ho => omega); (conv => whnf))
    | (with_reducible refine Or.inl ?_)
    | ((with_reducible refine IxA.ptr ?_); conv => whnf)
    | ((with_reducible refine nil_no (by omega) ?_); (conv => whnf))
    | ((with_reducible refine ag ?_ (fun hn0 => ?_)) <;> (conv => whnf))
    | ((with_reducible refine ab.pure (hF) rfl rfl ?_); conv => whnf) | ((with_reducible refine ai.pure (hF) rfl rfl ?_); conv => whnf)
    | ((with_reducible refine ab.pure (hOne) rfl rfl ?_); conv => whnf) | ((with_reducible refine ai.pure (hOne) rfl rfl ?_); conv => whnf)
    | ((refine ap (fun hc => ?_) (fun hc => ?_)) <;> (try simp only [decide_eq_true_eq, decide_eq_false_iff_not, Q5, Q20, Bool.and_eq_false_iff, Bool.or_eq_false_iff, Bool.not_eq_true', Bool.not_eq_false', beq_iff_eq, bne_iff_ne, ne_eq, beq_eq_false_iff_ne, bne_eq_false_iff_eq, Bool.not_eq_true, Bool.not_eq_false] at hc) <;> (try (exfalso; omega)) <;> (conv => whnf))))
  all_goals first
    | (exfalso; omega)
    | (rw [show ch = true by assumption]
       refine aq.of [0] rfl (fun i hi => by have : i = 0 := (by omega); subst this; rfl) rfl ?_ ?_
       · exact .tup (.cons (.rfl _) (.cons (.rfl _) .nil))
       · ((conv => whnf); repeat' (first | exact trivial | exact SV.Le.rfl _ | exact ⟨rfl, rfl, rfl⟩ | exact fun i hi => rfl | ((with_reducible refine And.intro ?_ ?_) <;> (conv => whnf)))))
    | (rw [show ch = false by assumption]
       refine aq.of [0] rfl (fun i hi => by have : i = 0 := (by omega); subst this; rfl) rfl ?_ ?_
       · exact .tup (.cons (.rfl _) (.cons (.rfl _) .nil))
       · ((conv => whnf); repeat' (first | exact trivial | exact SV.Le.rfl _ | exact ⟨rfl, rfl, rfl⟩ | exact fun i hi => rfl | ((with_reducible refine And.intro ?_ ?_) <;> (conv => whnf)))))
theorem reply_0 {p : Pol} {l : List HD} {spare : Int} {d : HD} {c : Cel} (h : bk d.r.now = false ∨ (d.op = 2 ∧ dI (ser spare d) = false)) :
    Fun TC 27 1 [.ptr 0 0, d.S, c.S] [(0, some (.cells (gbC p l spare)))] 1 (.tup [(pO 1).S, c.S]) [(0, some (.cells (gbC p l spare)))] := by
  have hF := eI d.r.now
  have hs : dI (ser spare d) = false → (ser spare d < 1 ∨ 4611686018427387903 < ser spare d) := fun h => by
    unfold dI at h
    rw [Bool.and_eq_false_iff, decide_eq_false_iff_not, decide_eq_false_iff_not] at h
    omega
  unfold ser at hs h
  by_cases h0 : d.r.serial = 0
  all_goals first | rw [if_pos h0] at hs h | rw [if_neg h0] at hs h
  all_goals refine Fun.mk' Tryz.func27 rfl rfl (zzb rfl) (by decide) ?_
  all_goals (repeat' (first
    | with_reducible refine Wp.seq ?_
    | with_reducible refine Wp.block ?_
    | ((with_reducible first | refine Wp.region ?_ | refine Wp.drawL ac ?_ | refine Wp.cond ?_ | refine Wp.ret ?_ | refine Wp.skip ?_ | refine Wp.exit ?_ | refine Go.mk ?_ | apply ao.of); conv => whnf)
    | with_reducible exact rfl
    | ((with_reducible refine Ov.ok zO ?_); conv => whnf)
    | (with_reducible refine Ov.sh1 (by with_unfolding_all exact rfl) ?_)
    | ((with_reducible refine Ov.quo (by omega) (by omega) (by omega) (fun _ _ => ?_)); conv => whnf)
    | ((with_reducible refine And.intro (show ah _ _ _ _ = true by kernel_rfl) ?_); conv => whnf)
    | ((with_reducible refine And.intro zC ?_); conv => whnf)
    | ((with_reducible refine And.intro ?hb ?_); (case hb => exact ae (zzb rfl) (by omega)); (conv => whnf))
    | ((refine af.a rfl rfl rfl rfl rfl rfl ?hb ?_); (case hb => exact zB); (conv => whnf))
    | ((refine af.b rfl rfl rfl rfl rfl rfl rfl rfl ?hb ?ho ?_); (case hb => exact zB); (case ho => omega); (conv => whnf))
    | ((refine af.c rfl rfl rfl rfl rfl ?hb ?_); (case hb => exact zB); (conv => whnf))
    | ((refine af.d rfl rfl rfl rfl rfl rfl ?hb ?ho ?_); (case hb => exact zB); (case ho => omega); (conv => whnf))
    | (with_reducible refine Or.inl ?_)
    | ((with_reducible refine IxA.ptr ?_); conv => whnf)
    | ((with_reducible refine nil_no (by omega) ?_); (conv => whnf))
    | ((with_reducible refine ag ?_ (fun hn0 => ?_)) <;> (conv => whnf))
    | ((with_reducible refine ab.pure (hF) rfl rfl ?_); conv => whnf) | ((with_reducible refine ai.pure (hF) rfl rfl ?_); conv => whnf)
    | ((refine ap (fun hc => ?_) (fun hc => ?_)) <;> (try simp only [decide_eq_true_eq, decide_eq_false_iff_not, Q5, Q20, Bool.and_eq_false_iff, Bool.or_eq_false_iff, Bool.not_eq_true', Bool.not_eq_false', beq_iff_eq, bne_iff_ne, ne_eq, beq_eq_false_iff_ne, bne_eq_false_iff_eq, Bool.not_eq_true, Bool.not_eq_false] at hc) <;> (try (exfalso; omega)) <;> (conv => whnf))))
  all_goals first
    | (exfalso; rcases h with h | ⟨h, h2⟩
       · simp_all
       · have := hs h2; omega)
    | (refine aq.of [0] rfl (fun i hi => by have : i = 0 := (by omega); subst this; rfl) rfl ?_ ?_
       · exact .tup (.cons (.rfl _) (.cons (.rfl _) .nil))
       · ((conv => whnf); repeat' (first | exact trivial | exact SV.Le.rfl _ | exact ⟨rfl, rfl, rfl⟩ | exact fun i hi => rfl | ((with_reducible refine And.intro ?_ ?_) <;> (conv => whnf)))))
theorem oe {ps : List Pol} {l : List HD} {spare : Int} {d : HD} {c : Cel} (hE : iE ps d.op d.pol d.key d.n = 0) (h5 : d.op < 5) (hc : CI (ps.getD d.pol.toNat default) c) :
    Fun TC 27 1 [.ptr 0 0, d.S, c.S] [(0, some (.cells (gbC (ps.getD d.pol.toNat default) l spare)))] 1
      (.tup [(e6 (ps.getD d.pol.toNat default) c d.op d.n d.r.now (ser spare d)).1.S, (e6 (ps.getD d.pol.toNat default) c d.op d.n d.r.now (ser spare d)).2.S]) [(0, some (.cells (gbC (ps.getD d.pol.toNat default) l spare)))] := by
  have hF := oW hE h5
  obtain ⟨_, h1, _, _, hn, hk⟩ := sg hE
  generalize ps.getD d.pol.toNat default = p at *
  unfold e6
  by_cases hb : bk d.r.now = false ∨ (d.op = 2 ∧ dI (ser spare d) = false)
  · rw [if_pos hb]; exact reply_0 hb
  rw [if_neg hb]
  have ht : bk d.r.now = true := by cases h : bk d.r.now with | true => rfl | false => exact absurd (Or.inl h) hb
  have hs : d.op = 2 → dI (ser spare d) = true := fun e => by cases h : dI (ser spare d) with | true => rfl | false => exact absurd (Or.inr ⟨e, h⟩) hb
  have hw := (bp _).1 ht
  unfold eW at hF
  obtain e | e | e | e : d.op = 1 ∨ d.op = 2 ∨ d.op = 3 ∨ d.op = 4 := by omega
  · rw [if_neg (by omega)]
    have k1 : p.kind = 1 := by rw [hk (by rw [e]; decide), e]; rfl
    rw [if_pos k1, beq_iff_eq] at hF
    have hL := (mj p.T p.tau).1 hF
    have hC : g9 p.T p.tau [c.tat, d.r.now, d.n] = 0 := (ey _ _ _ _ _).2 ⟨hL, hc.tat, hw, hn e⟩
    have hO := one_D1 (p := p) (c := c) (pol := d.pol) (key := d.key) (s := ser spare d) hC
    rw [← e] at hO
    have h := gj (l := l) ht hs hO
    have hoe : bV p c d.op d.n d.r.now (ser spare d) = (cZ p c d.r.now d.n, bU p c d.r.now d.n) := by unfold bV; rw [if_pos e]
    rw [hoe]
    dsimp only
    have h0 := (hn e).1
    cases hg : (cZ p c d.r.now d.n).g with
    | false =>
      rw [if_pos (Or.inl rfl)]
      rw [hg] at h; exact h
    | true =>
      rw [hg] at h
      by_cases n0 : d.n = 0
      · rw [if_pos (Or.inr ⟨e, n0⟩)]
        rw [show (true && decide (0 < d.n)) = false by rw [n0]; rfl] at h; exact h
      · rw [if_neg (by rintro (h | h); · cases h
                       · exact n0 h.2)]
        rw [show (true && decide (0 < d.n)) = true by rw [decide_eq_true (by omega)]; rfl] at h; exact h
  · rw [if_neg (by omega)]
    have k1 : p.kind = 2 := by rw [hk (by rw [e]; decide), e]; rfl
    have hO := one_D2 (p := p) (c := c) (pol := d.pol) (now := d.r.now) (n := d.n) (key := d.key) (s := ser spare d) (hc.sem k1) (hs e)
    rw [← e] at hO
    have h := gj (l := l) ht hs hO
    have hoe : bV p c d.op d.n d.r.now (ser spare d) = (fS p c (ser spare d), ff p c (ser spare d)) := by unfold bV; rw [if_neg (by omega), if_pos e]
    rw [hoe]
    dsimp only
    cases hg : (fS p c (ser spare d)).g with
    | false => rw [if_pos (Or.inl rfl)]; rw [hg] at h; exact h
    | true =>
      rw [if_neg (by rintro (h | h); · cases h
                     · omega)]
      rw [hg] at h; exact h
  · rw [if_neg (by omega)]
    have k1 : p.kind = 2 := by rw [hk (by rw [e]; decide), e]; rfl
    have hO := one_D3 (p := p) (c := c) (pol := d.pol) (now := d.r.now) (n := d.n) (key := d.key) (s := ser spare d) (hc.sem k1)
    rw [← e] at hO
    have h := gj (l := l) ht hs hO
    have hoe : bV p c d.op d.n d.r.now (ser spare d) = (jU p c d.n, fA p c d.n) := by unfold bV; rw [if_neg (by omega), if_neg (by omega)]
    rw [hoe]
    dsimp only
    cases hg : (jU p c d.n).g with
    | false => rw [if_pos (Or.inl rfl)]; rw [hg] at h; exact h
    | true =>
      rw [if_neg (by rintro (h | h); · cases h
                     · omega)]
      rw [hg] at h; exact h
  · rw [if_pos e]
    by_cases k2 : p.kind = 2
    · rw [if_neg (by omega), if_pos k2, Q5, decide_eq_true_eq, decide_eq_true_eq] at hF
      have hO := one_D4s (p := p) (c := c) (pol := d.pol) (now := d.r.now) (n := d.n) (key := d.key) (s := ser spare d) k2 hF (by have := (sem_1 (hc.sem k2)).2.2.1; omega)
      rw [← e] at hO
      exact gj (l := l) ht hs hO
    · have k1 : p.kind = 1 := by
        refine Classical.byContradiction fun h => ?_
        rw [if_neg h, if_neg k2] at hF; cases hF
      rw [if_pos k1, beq_iff_eq] at hF
      have hL := (mj p.T p.tau).1 hF
      have hO := one_D4r (p := p) (c := c) (pol := d.pol) (now := d.r.now) (n := d.n) (key := d.key) (s := ser spare d) k2 ((iF _ _ _ _).2 ⟨hL, hc.tat, hw⟩)
      rw [← e] at hO
      exact gj (l := l) ht hs hO
end
section
open Hist
@[reducible] def tkR (n left : Nat) : Blk := .row 4 1 n fun q => [.val (.bool (!left.testBit q))]
theorem ir {p : Pol} {ps : List Pol} {pol : Int} {key : List Int} {l : List HD} {spare : Int} (hp : p = ps.getD pol.toNat default) (hl8 : l.length ≤ 8) (hg : su ps pol key l) {left : Nat} (hlt : left < 256) (hhi : ∀ j, l.length ≤ j → left.testBit j = false) {c : Cel} (hci : CI p c) {tk : Nat → List D} (htk : ∀ q, q < l.length → tk q = [.val (.bool (!left.testBit q))])
    {g : Nat → Cel → Bool}
    (ih : ∀ i, i < l.length → left.testBit i = true → ∀ (c' : Cel) (tk' : Nat → List D), CI p c' → (∀ q, q < l.length → tk' q = [.val (.bool (!(left - 2 ^ i).testBit q))]) →
      Fun TC 17 2 [.ptr 0 0, .sl 1 1 0 l.length, c'.S] [(0, some (.cells (gbC p l spare))), (1, some (.row 4 1 l.length tk'))] 2 (.b (g i c')) [(0, some (.cells (gbC p l spare))), (1, some (tkR l.length (left - 2 ^ i)))]) :
    Fun TC 17 2 [.ptr 0 0, .sl 1 1 0 l.length, c.S] [(0, some (.cells (gbC p l spare))), (1, some (.row 4 1 l.length tk))] 2
      (.b (left == 0 || (List.range l.length).any fun i => mY p l spare left c i && g i (e6 p c (l.getD i default).op (l.getD i default).n (l.getD i default).r.now (ser spare (l.getD i default))).2))
      [(0, some (.cells (gbC p l spare))), (1, some (tkR l.length left))] := by
  refine Fun.mk' Tryz.func17 rfl rfl (zzb rfl) (by decide) ?_
  (repeat' (first
    | with_reducible refine Wp.seq ?_
    | with_reducible refine Wp.block ?_
    | ((with_reducible first | refine Wp.region ?_ | refine Wp.drawL ac ?_ | refine Wp.cond ?_ | refine Wp.ret ?_ | refine Wp.skip ?_ | refine Wp.exit ?_ | refine Go.mk ?_ | apply ao.of); conv => whnf)
    | with_reducible exact rfl
    | ((with_reducible refine Ov.ok zO ?_); conv => whnf)
    | (with_reducible refine Ov.sh1 (by with_unfolding_all exact rfl) ?_)
    | ((with_reducible refine Ov.quo (by omega) (by omega) (by omega) (fun _ _ => ?_)); conv => whnf)
    | ((with_reducible refine And.intro (show ah _ _ _ _ = true by kernel_rfl) ?_); conv => whnf)
    | ((with_reducible refine And.intro zC ?_); conv => whnf)
    | ((with_reducible refine And.intro ?hb ?_); (case hb => exact ae (zzb rfl) (by omega)); (conv => whnf))
    | ((refine af.a rfl rfl rfl rfl rfl rfl ?hb ?_); (case hb => exact zB); (conv => whnf))
    | ((refine af.b rfl rfl rfl rfl rfl rfl rfl rfl ?hb ?ho ?_); (case hb => exact zB); (case ho => omega); (conv => whnf))
    | ((refine af.c rfl rfl rfl rfl rfl ?hb ?_); (case hb => exact zB); (conv => whnf))
    | ((refine af.d rfl rfl rfl rfl rfl rfl ?hb ?ho ?_); (case hb => exact zB); (case ho => omega); (conv => whnf))
    | (with_reducible refine Or.inl ?_)
    | ((with_reducible refine IxA.ptr ?_); conv => whnf)
    | ((with_reducible refine nil_no (by omega) ?_); (conv => whnf))
    | ((with_reducible refine ag ?_ (fun hn0 => ?_)) <;> (conv => whnf))
    
    | ((refine ap (fun hc => ?_) (fun hc => ?_)) <;> (try simp only [decide_eq_true_eq, decide_eq_false_iff_not, Q5, Q20, Bool.and_eq_false_iff, Bool.or_eq_false_iff, Bool.not_eq_true', Bool.not_eq_false', beq_iff_eq, bne_iff_ne, ne_eq, beq_eq_false_iff_ne, bne_eq_false_iff_eq, Bool.not_eq_true, Bool.not_eq_false] at hc) <;> (try (exfalso; omega)) <;> (conv => whnf))))
  refine Wp.loopP (ι := Nat × Bool) (fun k => k.1 ≤ l.length ∧ (k.2 = true ↔ ∀ i', i' < k.1 → left.testBit i' = false) ∧ ∀ i', i' < k.1 → (mY p l spare left c i' && g i' (e6 p c (l.getD i' default).op (l.getD i' default).n (l.getD i' default).r.now (ser spare (l.getD i' default))).2) = false)
    (fun k => ⟨⟨Tryz.f17.ntmps, 2⟩, 3, [(0, .ptr 0 0), (1, .sl 1 1 0 l.length), (5, .ptr 2 0), (7, .b k.2), (19, .d (ak 13 HD.D l)), (20, .i .i64 l.length), (21, .i .i64 k.1)],
      [(0, some (.cells (gbC p l spare))), (1, some (tkR l.length left)), (2, some (.cells [.i .i64 c.pol, .d (ak 1 (ar .u8) c.key), .i .i64 c.tat, .d (ak 1 (ar .i64) c.held)]))]⟩) (fun k => l.length - k.1) (0, true) ⟨Nat.zero_le _, ⟨fun _ i h => absurd h (Nat.not_lt_zero i), fun _ => rfl⟩, fun i h => absurd h (Nat.not_lt_zero i)⟩ ?_ ?_
  · (refine Le.by [0,1,2] rfl rfl rfl rfl ?_ ?_ <;> (conv => whnf) <;> (repeat' (first | exact trivial | exact aa.rfl rfl | exact aa.ptr rfl | exact aa.sl rfl | ((with_reducible refine aa.fn ?_); (conv => whnf)) | ((refine aa.iref ?_); (conv => whnf)) | exact ⟨rfl, rfl, rfl⟩ | exact fun i hi => rfl | ((with_reducible refine And.intro ?_ ?_) <;> (conv => whnf)))))
    exact htk
  · rintro ⟨i, al⟩ ⟨hi0, hal, hno⟩
    dsimp only at hi0 hal hno ⊢
    by_cases hi : i < l.length
    · have hD : l.getD (i : Int).toNat default = l.getD i default := by rw [Q13]
      cases hb : left.testBit i with
      | false =>
        have hb' : left.testBit (i : Int).toNat = false := by rw [Q13]; exact hb
        (repeat' (first
    | with_reducible refine Wp.seq ?_
    | with_reducible refine Wp.block ?_
    | ((with_reducible first | refine Wp.region ?_ | refine Wp.drawL ac ?_ | refine Wp.cond ?_ | refine Wp.ret ?_ | refine Wp.skip ?_ | refine Wp.exit ?_ | refine Go.mk ?_ | apply ao.of); conv => whnf)
    | with_reducible exact rfl
    | ((with_reducible refine Ov.ok zO ?_); conv => whnf)
    | (with_reducible refine Ov.sh1 (by with_unfolding_all exact rfl) ?_)
    | ((with_reducible refine Ov.quo (by omega) (by omega) (by omega) (fun _ _ => ?_)); conv => whnf)
    | ((with_reducible refine And.intro (show ah _ _ _ _ = true by kernel_rfl) ?_); conv => whnf)
    | ((with_reducible refine And.intro zC ?_); conv => whnf)
    | ((with_reducible refine And.intro ?hb ?_); (case hb => exact ae (zzb rfl) (by omega)); (conv => whnf))
    | ((refine af.a rfl rfl rfl rfl rfl rfl ?hb ?_); (case hb => exact zB); (conv => whnf))
    | ((refine af.b rfl rfl rfl rfl rfl rfl rfl rfl ?hb ?ho ?_); (case hb => exact zB); (case ho => omega); (conv => whnf))
    | ((refine af.c rfl rfl rfl rfl rfl ?hb ?_); (case hb => exact zB); (conv => whnf))
    | ((refine af.d rfl rfl rfl rfl rfl rfl ?hb ?ho ?_); (case hb => exact zB); (case ho => omega); (conv => whnf))
    | (with_reducible refine Or.inl ?_)
    | ((with_reducible refine IxA.ptr ?_); conv => whnf)
    | ((with_reducible refine nil_no (by omega) ?_); (conv => whnf))
    | ((with_reducible refine ag ?_ (fun hn0 => ?_)) <;> (conv => whnf))
    
    | ((refine ap (fun hc => ?_) (fun hc => ?_)) <;> (try simp only [decide_eq_true_eq, decide_eq_false_iff_not, Q5, Q20, Bool.and_eq_false_iff, Bool.or_eq_false_iff, Bool.not_eq_true', Bool.not_eq_false', beq_iff_eq, bne_iff_ne, ne_eq, beq_eq_false_iff_ne, bne_eq_false_iff_eq, Bool.not_eq_true, Bool.not_eq_false] at hc) <;> (try (exfalso; omega)) <;> (conv => whnf))))
        all_goals first
          | (exfalso; revert hc; simp only [Q19]; rw [hb']; decide)
          | (refine ⟨(i + 1, al), ⟨by dsimp only; omega, ?_, fun i' h => ?_⟩, by dsimp only; omega, ?_⟩
             · dsimp only
               rw [hal]
               refine ⟨fun h i' hi' => ?_, fun h i' hi' => h i' (by omega)⟩
               by_cases e : i' = i
               · subst e; exact hb
               · exact h i' (by omega)
             · dsimp only at h
               by_cases e : i' = i
               · subst e; unfold mY; rw [hb]; rfl
               · exact hno i' (by omega)
             · (refine Le.by [0,1,2] rfl rfl rfl rfl ?_ ?_ <;> (conv => whnf) <;> (repeat' (first | exact trivial | exact aa.rfl rfl | exact aa.ptr rfl | exact aa.sl rfl | ((with_reducible refine aa.fn ?_); (conv => whnf)) | ((refine aa.iref ?_); (conv => whnf)) | exact ⟨rfl, rfl, rfl⟩ | exact fun i hi => rfl | ((with_reducible refine And.intro ?_ ?_) <;> (conv => whnf))))))
      | true =>
        have hb' : left.testBit (i : Int).toNat = true := by rw [Q13]; exact hb
        (repeat' (first
    | with_reducible refine Wp.seq ?_
    | with_reducible refine Wp.block ?_
    | ((with_reducible first | refine Wp.region ?_ | refine Wp.drawL ac ?_ | refine Wp.cond ?_ | refine Wp.ret ?_ | refine Wp.skip ?_ | refine Wp.exit ?_ | refine Go.mk ?_ | apply ao.of); conv => whnf)
    | with_reducible exact rfl
    | ((with_reducible refine Ov.ok zO ?_); conv => whnf)
    | (with_reducible refine Ov.sh1 (by with_unfolding_all exact rfl) ?_)
    | ((with_reducible refine Ov.quo (by omega) (by omega) (by omega) (fun _ _ => ?_)); conv => whnf)
    | ((with_reducible refine And.intro (show ah _ _ _ _ = true by kernel_rfl) ?_); conv => whnf)
    | ((with_reducible refine And.intro zC ?_); conv => whnf)
    | ((with_reducible refine And.intro ?hb ?_); (case hb => exact ae (zzb rfl) (by omega)); (conv => whnf))
    | ((refine af.a rfl rfl rfl rfl rfl rfl ?hb ?_); (case hb => exact zB); (conv => whnf))
    | ((refine af.b rfl rfl rfl rfl rfl rfl rfl rfl ?hb ?ho ?_); (case hb => exact zB); (case ho => omega); (conv => whnf))
    | ((refine af.c rfl rfl rfl rfl rfl ?hb ?_); (case hb => exact zB); (conv => whnf))
    | ((refine af.d rfl rfl rfl rfl rfl rfl ?hb ?ho ?_); (case hb => exact zB); (case ho => omega); (conv => whnf))
    | (with_reducible refine Or.inl ?_)
    | ((with_reducible refine IxA.ptr ?_); conv => whnf)
    | ((with_reducible refine nil_no (by omega) ?_); (conv => whnf))
    | ((with_reducible refine ag ?_ (fun hn0 => ?_)) <;> (conv => whnf))
    
    | ((refine ap (fun hc => ?_) (fun hc => ?_)) <;> (try simp only [decide_eq_true_eq, decide_eq_false_iff_not, Q5, Q20, Bool.and_eq_false_iff, Bool.or_eq_false_iff, Bool.not_eq_true', Bool.not_eq_false', beq_iff_eq, bne_iff_ne, ne_eq, beq_eq_false_iff_ne, bne_eq_false_iff_eq, Bool.not_eq_true, Bool.not_eq_false] at hc) <;> (try (exfalso; omega)) <;> (conv => whnf))))
        all_goals first
          | (exfalso; revert hc; simp only [Q19]; rw [hb']; decide)
          | skip
        refine Wp.loopP (ι := Nat × Bool) (fun k => k.1 ≤ l.length ∧ (k.2 = true ↔ ∀ j', j' < k.1 → ¬ (left.testBit j' = true ∧ (l.getD j' default).last < (l.getD i default).first)))
          (fun k => ⟨⟨Tryz.f17.ntmps, 2⟩, 4, [(0, .ptr 0 0), (1, .sl 1 1 0 l.length), (5, .ptr 2 0), (7, .b false), (8, .i .i64 i), (9, .ptr 3 0), (10, .b k.2), (19, .d (ak 13 HD.D l)), (20, .i .i64 l.length), (21, .i .i64 i), (33, .d (ak 13 HD.D l)), (34, .i .i64 l.length), (35, .i .i64 k.1)],
            [(0, some (.cells (gbC p l spare))), (1, some (tkR l.length left)), (2, some (.cells [.i .i64 c.pol, .d (ak 1 (ar .u8) c.key), .i .i64 c.tat, .d (ak 1 (ar .i64) c.held)])), (3, some (.cells ((l.getD i default).D.map .d)))]⟩) (fun k => l.length - k.1) (0, true) ⟨Nat.zero_le _, ⟨fun _ i h => absurd h (Nat.not_lt_zero i), fun _ => rfl⟩⟩ ?_ ?_
        · rw [hD]
          (refine Le.by [0,1,2,3] rfl rfl rfl rfl ?_ ?_ <;> (conv => whnf) <;> (repeat' (first | exact trivial | exact aa.rfl rfl | exact aa.ptr rfl | exact aa.sl rfl | ((with_reducible refine aa.fn ?_); (conv => whnf)) | ((refine aa.iref ?_); (conv => whnf)) | exact ⟨rfl, rfl, rfl⟩ | exact fun i hi => rfl | ((with_reducible refine And.intro ?_ ?_) <;> (conv => whnf)))))
        · rintro ⟨j, fr⟩ ⟨hj0, hfr⟩
          dsimp only at hj0 hfr ⊢
          by_cases hj : j < l.length
          · have hDj : l.getD (j : Int).toNat default = l.getD j default := by rw [Q13]
            have hstep : ∀ fr', (fr' = true ↔ (fr = true ∧ ¬ (left.testBit j = true ∧ (l.getD j default).last < (l.getD i default).first))) → (fr' = true ↔ ∀ j', j' < j + 1 → ¬ (left.testBit j' = true ∧ (l.getD j' default).last < (l.getD i default).first)) := fun fr' h => by
              rw [h, hfr]
              refine ⟨fun ⟨h1, h2⟩ j' hj' => ?_, fun h => ⟨fun j' hj' => h j' (by omega), h j (by omega)⟩⟩
              by_cases e : j' = j
              · subst e; exact h2
              · exact h1 j' (by omega)
            cases hb2 : left.testBit j with
            | false =>
              have hb3 : left.testBit (j : Int).toNat = false := by rw [Q13]; exact hb2
              (repeat' (first
    | with_reducible refine Wp.seq ?_
    | with_reducible refine Wp.block ?_
    | ((with_reducible first | refine Wp.region ?_ | refine Wp.drawL ac ?_ | refine Wp.cond ?_ | refine Wp.ret ?_ | refine Wp.skip ?_ | refine Wp.exit ?_ | refine Go.mk ?_ | apply ao.of); conv => whnf)
    | with_reducible exact rfl
    | ((with_reducible refine Ov.ok zO ?_); conv => whnf)
    | (with_reducible refine Ov.sh1 (by with_unfolding_all exact rfl) ?_)
    | ((with_reducible refine Ov.quo (by omega) (by omega) (by omega) (fun _ _ => ?_)); conv => whnf)
    | ((with_reducible refine And.intro (show ah _ _ _ _ = true by kernel_rfl) ?_); conv => whnf)
    | ((with_reducible refine And.intro zC ?_); conv => whnf)
    | ((with_reducible refine And.intro ?hb ?_); (case hb => exact ae (zzb rfl) (by omega)); (conv => whnf))
    | ((refine af.a rfl rfl rfl rfl rfl rfl ?hb ?_); (case hb => exact zB); (conv => whnf))
    | ((refine af.b rfl rfl rfl rfl rfl rfl rfl rfl ?hb ?ho ?_); (case hb => exact zB); (case ho => omega); (conv => whnf))
    | ((refine af.c rfl rfl rfl rfl rfl ?hb ?_); (case hb => exact zB); (conv => whnf))
    | ((refine af.d rfl rfl rfl rfl rfl rfl ?hb ?ho ?_); (case hb => exact zB); (case ho => omega); (conv => whnf))
    | (with_reducible refine Or.inl ?_)
    | ((with_reducible refine IxA.ptr ?_); conv => whnf)
    | ((with_reducible refine nil_no (by omega) ?_); (conv => whnf))
    | ((with_reducible refine ag ?_ (fun hn0 => ?_)) <;> (conv => whnf))
    
    | ((refine ap (fun hc => ?_) (fun hc => ?_)) <;> (try simp only [decide_eq_true_eq, decide_eq_false_iff_not, Q5, Q20, Bool.and_eq_false_iff, Bool.or_eq_false_iff, Bool.not_eq_true', Bool.not_eq_false', beq_iff_eq, bne_iff_ne, ne_eq, beq_eq_false_iff_ne, bne_eq_false_iff_eq, Bool.not_eq_true, Bool.not_eq_false] at hc) <;> (try (exfalso; omega)) <;> (conv => whnf))))
              all_goals first
                | (exfalso; revert hc; simp only [Q19]; rw [hb3]; decide)
                | (refine ⟨(j + 1, true), ⟨?a, hstep true ?b⟩, ?c, ?d⟩; (case d => (refine Le.by [0,1,2,3] rfl rfl rfl rfl ?_ ?_ <;> (conv => whnf) <;> (repeat' (first | exact trivial | exact aa.rfl rfl | exact aa.ptr rfl | exact aa.sl rfl | ((with_reducible refine aa.fn ?_); (conv => whnf)) | ((refine aa.iref ?_); (conv => whnf)) | exact ⟨rfl, rfl, rfl⟩ | exact fun i hi => rfl | ((with_reducible refine And.intro ?_ ?_) <;> (conv => whnf)))))); (case a => dsimp only; omega); (case c => dsimp only; omega); (case b => clear hfr hno ih hal hstep; simp_all))
                | (refine ⟨(j + 1, false), ⟨?a, hstep false ?b⟩, ?c, ?d⟩; (case d => (refine Le.by [0,1,2,3] rfl rfl rfl rfl ?_ ?_ <;> (conv => whnf) <;> (repeat' (first | exact trivial | exact aa.rfl rfl | exact aa.ptr rfl | exact aa.sl rfl | ((with_reducible refine aa.fn ?_); (conv => whnf)) | ((refine aa.iref ?_); (conv => whnf)) | exact ⟨rfl, rfl, rfl⟩ | exact fun i hi => rfl | ((with_reducible refine And.intro ?_ ?_) <;> (conv => whnf)))))); (case a => dsimp only; omega); (case c => dsimp only; omega); (case b => clear hfr hno ih hal hstep; simp_all))
            | true =>
              have hb3 : left.testBit (j : Int).toNat = true := by rw [Q13]; exact hb2
              (repeat' (first
    | with_reducible refine Wp.seq ?_
    | with_reducible refine Wp.block ?_
    | ((with_reducible first | refine Wp.region ?_ | refine Wp.drawL ac ?_ | refine Wp.cond ?_ | refine Wp.ret ?_ | refine Wp.skip ?_ | refine Wp.exit ?_ | refine Go.mk ?_ | apply ao.of); conv => whnf)
    | with_reducible exact rfl
    | ((with_reducible refine Ov.ok zO ?_); conv => whnf)
    | (with_reducible refine Ov.sh1 (by with_unfolding_all exact rfl) ?_)
    | ((with_reducible refine Ov.quo (by omega) (by omega) (by omega) (fun _ _ => ?_)); conv => whnf)
    | ((with_reducible refine And.intro (show ah _ _ _ _ = true by kernel_rfl) ?_); conv => whnf)
    | ((with_reducible refine And.intro zC ?_); conv => whnf)
    | ((with_reducible refine And.intro ?hb ?_); (case hb => exact ae (zzb rfl) (by omega)); (conv => whnf))
    | ((refine af.a rfl rfl rfl rfl rfl rfl ?hb ?_); (case hb => exact zB); (conv => whnf))
    | ((refine af.b rfl rfl rfl rfl rfl rfl rfl rfl ?hb ?ho ?_); (case hb => exact zB); (case ho => omega); (conv => whnf))
    | ((refine af.c rfl rfl rfl rfl rfl ?hb ?_); (case hb => exact zB); (conv => whnf))
    | ((refine af.d rfl rfl rfl rfl rfl rfl ?hb ?ho ?_); (case hb => exact zB); (case ho => omega); (conv => whnf))
    | (with_reducible refine Or.inl ?_)
    | ((with_reducible refine IxA.ptr ?_); conv => whnf)
    | ((with_reducible refine nil_no (by omega) ?_); (conv => whnf))
    | ((with_reducible refine ag ?_ (fun hn0 => ?_)) <;> (conv => whnf))
    
    | ((refine ap (fun hc => ?_) (fun hc => ?_)) <;> (try simp only [decide_eq_true_eq, decide_eq_false_iff_not, Q5, Q20, Bool.and_eq_false_iff, Bool.or_eq_false_iff, Bool.not_eq_true', Bool.not_eq_false', beq_iff_eq, bne_iff_ne, ne_eq, beq_eq_false_iff_ne, bne_eq_false_iff_eq, Bool.not_eq_true, Bool.not_eq_false] at hc) <;> (try (exfalso; omega)) <;> (conv => whnf))))
              all_goals (try rw [hDj] at *)
              all_goals first
                | (exfalso; revert hc; simp only [Q19]; rw [hb3]; decide)
                | (refine ⟨(j + 1, decide ((l.getD j default).last ≥ (l.getD i default).first)), ⟨?a, hstep (decide ((l.getD j default).last ≥ (l.getD i default).first)) ?b⟩, ?c, ?d⟩; (case d => (refine Le.by [0,1,2,3] rfl rfl rfl rfl ?_ ?_ <;> (conv => whnf) <;> (repeat' (first | exact trivial | exact aa.rfl rfl | exact aa.ptr rfl | exact aa.sl rfl | ((with_reducible refine aa.fn ?_); (conv => whnf)) | ((refine aa.iref ?_); (conv => whnf)) | exact ⟨rfl, rfl, rfl⟩ | exact fun i hi => rfl | ((with_reducible refine And.intro ?_ ?_) <;> (conv => whnf)))))); (case a => dsimp only; omega); (case c => dsimp only; omega); (case b => rw [decide_eq_true_eq, hb2]; refine ⟨fun h => ⟨by assumption, fun h2 => by omega⟩, fun h => ?_⟩; have h2 := h.2; refine Classical.byContradiction fun h3 => h2 ⟨rfl, by omega⟩))
                | (refine ⟨(j + 1, false), ⟨?a, hstep false ?b⟩, ?c, ?d⟩; (case d => (refine Le.by [0,1,2,3] rfl rfl rfl rfl ?_ ?_ <;> (conv => whnf) <;> (repeat' (first | exact trivial | exact aa.rfl rfl | exact aa.ptr rfl | exact aa.sl rfl | ((with_reducible refine aa.fn ?_); (conv => whnf)) | ((refine aa.iref ?_); (conv => whnf)) | exact ⟨rfl, rfl, rfl⟩ | exact fun i hi => rfl | ((with_reducible refine And.intro ?_ ?_) <;> (conv => whnf)))))); (case a => dsimp only; omega); (case c => dsimp only; omega); (case b => clear hfr hno ih hal hstep; simp_all))
          · obtain rfl : j = l.length := by omega
            have hm : l.getD i default ∈ l := by rw [← hD]; exact bv hi
            have hE := hg.chk _ hm
            rw [← hg.gp _ hm, ← hg.gk _ hm] at hE
            have hrp := oe (l := l) (spare := spare) (c := c) hE (hg.go _ hm) (by rw [hg.gp _ hm, ← hp]; exact hci)
            have hck := CI.doc (now := (l.getD i default).r.now) (s := ser spare (l.getD i default)) (by rw [hg.gp _ hm, ← hp]; exact hci) hE (hg.go _ hm)
            rw [hg.gp _ hm, ← hp] at hrp hck
            have hF := ih i hi hb _ _ hck (fun q _ => rfl)
            have hal2 : (false = true ↔ ∀ i', i' < i + 1 → left.testBit i' = false) := ⟨fun h => (by cases h), fun h => (by have := h i (by omega); rw [hb] at this; cases this)⟩
            have hno2 : mY p l spare left c i = false ∨ g i (e6 p c (l.getD i default).op (l.getD i default).n (l.getD i default).r.now (ser spare (l.getD i default))).2 = false → ∀ i', i' < i + 1 → (mY p l spare left c i' && g i' (e6 p c (l.getD i' default).op (l.getD i' default).n (l.getD i' default).r.now (ser spare (l.getD i' default))).2) = false := fun h i' hi' => by
              by_cases e : i' = i
              · subst e; rcases h with h | h
                · rw [h]; rfl
                · rw [h, Bool.and_false]
              · exact hno i' (by omega)
            have hfree : ((List.range l.length).all fun j => !(left.testBit j && decide ((l.getD j default).last < (l.getD i default).first))) = fr := by
              cases fr with
              | true =>
                rw [Q23]
                intro j hj
                have := hfr.1 rfl j (List.mem_range.1 hj)
                simp only [Bool.not_eq_true', Bool.and_eq_false_iff, decide_eq_false_iff_not]
                by_cases h : left.testBit j = true
                · exact Or.inr fun h2 => this ⟨h, h2⟩
                · exact Or.inl (by simpa using h)
              | false =>
                refine Bool.eq_false_iff.2 fun h => ?_
                rw [Q23] at h
                have : false = true := hfr.2 fun j hj hh => by
                  have := h j (List.mem_range.2 hj)
                  rw [hh.1, decide_eq_true hh.2] at this
                  cases this
                cases this
            have htry : mY p l spare left c i = (fr && eqR (e6 p c (l.getD i default).op (l.getD i default).n (l.getD i default).r.now (ser spare (l.getD i default))).1 (l.getD i default).r) := by
              unfold mY; rw [hb, hfree, Bool.true_and]
            have hyes : mY p l spare left c i = true → g i (e6 p c (l.getD i default).op (l.getD i default).n (l.getD i default).r.now (ser spare (l.getD i default))).2 = true → (left == 0 || (List.range l.length).any fun i => mY p l spare left c i && g i (e6 p c (l.getD i default).op (l.getD i default).n (l.getD i default).r.now (ser spare (l.getD i default))).2) = true := fun h1 h2 => by
              rw [Q20, List.any_eq_true]
              exact Or.inr ⟨i, List.mem_range.2 hi, by rw [h1, h2]; rfl⟩
            have hrow : ∀ q, q < l.length → (if q = 0 + (i : Int).toNat then [D.val (.bool true)] else [D.val (.bool (!left.testBit q))]) = [D.val (.bool (!(left - 2 ^ i).testBit q))] := fun q hq => by
              rw [lC left hlt i (by omega) hb q (by omega)]
              by_cases e : q = i
              · rw [if_pos (by omega), e]; simp
              · rw [if_neg (by omega), decide_eq_false e]; simp
            have hrow2 : ∀ q, q < l.length → (if q = 0 + (i : Int).toNat then [D.val (.bool false)] else [D.val (.bool (!(left - 2 ^ i).testBit q))]) = [D.val (.bool (!left.testBit q))] := fun q hq => by
              rw [lC left hlt i (by omega) hb q (by omega)]
              by_cases e : q = i
              · rw [if_pos (by omega), e, hb]; rfl
              · rw [if_neg (by omega), decide_eq_false e]; simp
            generalize e6 p c (l.getD i default).op (l.getD i default).n (l.getD i default).r.now (ser spare (l.getD i default)) = R at *
            generalize l.getD i default = d at *
            (repeat' (first
    | with_reducible refine Wp.seq ?_
    | with_reducible refine Wp.block ?_
    | ((with_reducible first | refine Wp.region ?_ | refine Wp.drawL ac ?_ | refine Wp.cond ?_ | refine Wp.ret ?_ | refine Wp.skip ?_ | refine Wp.exit ?_ | refine Go.mk ?_ | apply ao.of); conv => whnf)
    | with_reducible exact rfl
    | ((with_reducible refine Ov.ok zO ?_); conv => whnf)
    | (with_reducible refine Ov.sh1 (by with_unfolding_all exact rfl) ?_)
    | ((with_reducible refine Ov.quo (by omega) (by omega) (by omega) (fun _ _ => ?_)); conv => whnf)
    | ((with_reducible refine And.intro (show ah _ _ _ _ = true by kernel_rfl) ?_); conv => whnf)
    | ((with_reducible refine And.intro zC ?_); conv => whnf)
    | ((with_reducible refine And.intro ?hb ?_); (case hb => exact ae (zzb rfl) (by omega)); (conv => whnf))
    | ((refine af.a rfl rfl rfl rfl rfl rfl ?hb ?_); (case hb => exact zB); (conv => whnf))
    | ((refine af.b rfl rfl rfl rfl rfl rfl rfl rfl ?hb ?ho ?_); (case hb => exact zB); (case ho => omega); (conv => whnf))
    | ((refine af.c rfl rfl rfl rfl rfl ?hb ?_); (case hb => exact zB); (conv => whnf))
    | ((refine af.d rfl rfl rfl rfl rfl rfl ?hb ?ho ?_); (case hb => exact zB); (case ho => omega); (conv => whnf))
    | (with_reducible refine Or.inl ?_)
    | ((with_reducible refine IxA.ptr ?_); conv => whnf)
    | ((with_reducible refine nil_no (by omega) ?_); (conv => whnf))
    | ((with_reducible refine ag ?_ (fun hn0 => ?_)) <;> (conv => whnf))
    | ((refine ab.fn (hrp) [0] rfl rfl rfl rfl rfl ?ha ?hh ?_); (case ha => exact zA); (case hh => exact zH); (conv => whnf))
    | ((refine ai.fn (hrp) [0] [0] rfl rfl rfl rfl rfl ?ha ?hh ?hs ?_); (case ha => exact zA); (case hh => exact zH); (case hs => exact zK); (conv => whnf)) | ((refine ai.new (hrp) [0] [0] rfl rfl rfl rfl rfl rfl ?ha ?hh ?hs ?_); (case ha => exact zA); (case hh => exact zH); (case hs => exact zK); (conv => whnf))
    | ((refine ai.fn (hrp) [0] [] rfl rfl rfl rfl rfl ?ha ?hh ?hs ?_); (case ha => exact zA); (case hh => exact zH); (case hs => exact zK); (conv => whnf)) | ((refine ai.new (hrp) [0] [] rfl rfl rfl rfl rfl rfl ?ha ?hh ?hs ?_); (case ha => exact zA); (case hh => exact zH); (case hs => exact zK); (conv => whnf))
    | ((refine ab.fn (hF) [0,1] rfl rfl rfl rfl rfl ?ha ?hh ?_); (case ha => exact zA); (case hh => (conv => whnf); (repeat' (first | exact trivial | exact aa.rfl rfl | exact aa.ptr rfl | exact aa.sl rfl | exact ⟨rfl, rfl, rfl⟩ | exact hrow | exact fun i hi => rfl | ((with_reducible refine And.intro ?_ ?_) <;> (conv => whnf))))); (conv => whnf))
    | ((refine ai.fn (hF) [0,1] [0,1] rfl rfl rfl rfl rfl ?ha ?hh ?hs ?_); (case ha => exact zA); (case hh => (conv => whnf); (repeat' (first | exact trivial | exact aa.rfl rfl | exact aa.ptr rfl | exact aa.sl rfl | exact ⟨rfl, rfl, rfl⟩ | exact hrow | exact fun i hi => rfl | ((with_reducible refine And.intro ?_ ?_) <;> (conv => whnf))))); (case hs => exact zK); (conv => whnf)) | ((refine ai.new (hF) [0,1] [0,1] rfl rfl rfl rfl rfl rfl ?ha ?hh ?hs ?_); (case ha => exact zA); (case hh => (conv => whnf); (repeat' (first | exact trivial | exact aa.rfl rfl | exact aa.ptr rfl | exact aa.sl rfl | exact ⟨rfl, rfl, rfl⟩ | exact hrow | exact fun i hi => rfl | ((with_reducible refine And.intro ?_ ?_) <;> (conv => whnf))))); (case hs => exact zK); (conv => whnf))
    | ((refine ai.fn (hF) [0,1] [] rfl rfl rfl rfl rfl ?ha ?hh ?hs ?_); (case ha => exact zA); (case hh => (conv => whnf); (repeat' (first | exact trivial | exact aa.rfl rfl | exact aa.ptr rfl | exact aa.sl rfl | exact ⟨rfl, rfl, rfl⟩ | exact hrow | exact fun i hi => rfl | ((with_reducible refine And.intro ?_ ?_) <;> (conv => whnf))))); (case hs => exact zK); (conv => whnf)) | ((refine ai.new (hF) [0,1] [] rfl rfl rfl rfl rfl rfl ?ha ?hh ?hs ?_); (case ha => exact zA); (case hh => (conv => whnf); (repeat' (first | exact trivial | exact aa.rfl rfl | exact aa.ptr rfl | exact aa.sl rfl | exact ⟨rfl, rfl, rfl⟩ | exact hrow | exact fun i hi => rfl | ((with_reducible refine And.intro ?_ ?_) <;> (conv => whnf))))); (case hs => exact zK); (conv => whnf))
    | ((refine ap (fun hc => ?_) (fun hc => ?_)) <;> (try simp only [decide_eq_true_eq, decide_eq_false_iff_not, Q5, Q20, Bool.and_eq_false_iff, Bool.or_eq_false_iff, Bool.not_eq_true', Bool.not_eq_false', beq_iff_eq, bne_iff_ne, ne_eq, beq_eq_false_iff_ne, bne_eq_false_iff_eq, Bool.not_eq_true, Bool.not_eq_false] at hc) <;> (try (exfalso; omega)) <;> (conv => whnf))))
            · refine ⟨(i + 1, false), ⟨by dsimp only; omega, hal2, hno2 (Or.inl (by rw [htry, show fr = false by assumption]; rfl))⟩, by dsimp only; omega, ?_⟩
              (refine Le.by [0,1,2] rfl rfl rfl rfl ?_ ?_ <;> (conv => whnf) <;> (repeat' (first | exact trivial | exact aa.rfl rfl | exact aa.ptr rfl | exact aa.sl rfl | ((with_reducible refine aa.fn ?_); (conv => whnf)) | ((refine aa.iref ?_); (conv => whnf)) | exact ⟨rfl, rfl, rfl⟩ | exact fun i hi => rfl | ((with_reducible refine And.intro ?_ ?_) <;> (conv => whnf)))))
            · refine ⟨(i + 1, false), ⟨by dsimp only; omega, hal2, hno2 (Or.inl (by rw [htry, show fr = true by assumption, Bool.true_and]; unfold eqR; simp only [Bool.and_eq_false_iff, beq_eq_false_iff_ne]; assumption))⟩, by dsimp only; omega, ?_⟩
              (refine Le.by [0,1,2] rfl rfl rfl rfl ?_ ?_ <;> (conv => whnf) <;> (repeat' (first | exact trivial | exact aa.rfl rfl | exact aa.ptr rfl | exact aa.sl rfl | ((with_reducible refine aa.fn ?_); (conv => whnf)) | ((refine aa.iref ?_); (conv => whnf)) | exact ⟨rfl, rfl, rfl⟩ | exact fun i hi => rfl | ((with_reducible refine And.intro ?_ ?_) <;> (conv => whnf)))))
            · rw [hyes (by rw [htry, show fr = true by assumption, Bool.true_and]; unfold eqR; simp only [Q5, beq_iff_eq]; assumption) (by assumption)]
              refine aq.of [0, 1] rfl (fun i hi => by have : i = 0 ∨ i = 1 := (by omega); rcases this with h | h <;> subst h <;> rfl) rfl ?_ ?_
              · exact .rfl _
              · ((conv => whnf); repeat' (first | exact trivial | exact SV.Le.rfl _ | exact ⟨rfl, rfl, rfl⟩ | exact hrow2 | exact fun i hi => rfl | ((with_reducible refine And.intro ?_ ?_) <;> (conv => whnf))))
            · refine ⟨(i + 1, false), ⟨by dsimp only; omega, hal2, hno2 (Or.inr (by assumption))⟩, by dsimp only; omega, ?_⟩
              (refine Le.by [0,1,2] rfl rfl rfl rfl ?_ ?_ <;> (conv => whnf) <;> (repeat' (first | exact trivial | exact aa.rfl rfl | exact aa.ptr rfl | exact aa.sl rfl | ((with_reducible refine aa.fn ?_); (conv => whnf)) | ((refine aa.iref ?_); (conv => whnf)) | exact ⟨rfl, rfl, rfl⟩ | exact fun i hi => rfl | ((with_reducible refine And.intro ?_ ?_) <;> (conv => whnf)))))
              all_goals exact hrow2
    · obtain rfl : i = l.length := by omega
      have hX : (left == 0 || (List.range l.length).any fun i => mY p l spare left c i && g i (e6 p c (l.getD i default).op (l.getD i default).n (l.getD i default).r.now (ser spare (l.getD i default))).2) = al := by
        have hany : ((List.range l.length).any fun i => mY p l spare left c i && g i (e6 p c (l.getD i default).op (l.getD i default).n (l.getD i default).r.now (ser spare (l.getD i default))).2) = false := by
          rw [List.any_eq_false]
          intro i hi
          rw [hno i (List.mem_range.1 hi)]; decide
        rw [hany, Bool.or_false]
        cases al with
        | true =>
          have := bit_no left hlt fun j hj => by
            by_cases h : j < l.length
            · exact hal.1 rfl j h
            · exact hhi j (by omega)
          subst this; rfl
        | false =>
          rw [beq_eq_false_iff_ne]
          intro h
          subst h
          have : false = true := hal.2 fun i _ => by simp
          cases this
      rw [hX]
      (repeat' (first
    | with_reducible refine Wp.seq ?_
    | with_reducible refine Wp.block ?_
    | ((with_reducible first | refine Wp.region ?_ | refine Wp.drawL ac ?_ | refine Wp.cond ?_ | refine Wp.ret ?_ | refine Wp.skip ?_ | refine Wp.exit ?_ | refine Go.mk ?_ | apply ao.of); conv => whnf)
    | with_reducible exact rfl
    | ((with_reducible refine Ov.ok zO ?_); conv => whnf)
    | (with_reducible refine Ov.sh1 (by with_unfolding_all exact rfl) ?_)
    | ((with_reducible refine Ov.quo (by omega) (by omega) (by omega) (fun _ _ => ?_)); conv => whnf)
    | ((with_reducible refine And.intro (show ah _ _ _ _ = true by kernel_rfl) ?_); conv => whnf)
    | ((with_reducible refine And.intro zC ?_); conv => whnf)
    | ((with_reducible refine And.intro ?hb ?_); (case hb => exact ae (zzb rfl) (by omega)); (conv => whnf))
    | ((refine af.a rfl rfl rfl rfl rfl rfl ?hb ?_); (case hb => exact zB); (conv => whnf))
    | ((refine af.b rfl rfl rfl rfl rfl rfl rfl rfl ?hb ?ho ?_); (case hb => exact zB); (case ho => omega); (conv => whnf))
    | ((refine af.c rfl rfl rfl rfl rfl ?hb ?_); (case hb => exact zB); (conv => whnf))
    | ((refine af.d rfl rfl rfl rfl rfl rfl ?hb ?ho ?_); (case hb => exact zB); (case ho => omega); (conv => whnf))
    | (with_reducible refine Or.inl ?_)
    | ((with_reducible refine IxA.ptr ?_); conv => whnf)
    | ((with_reducible refine nil_no (by omega) ?_); (conv => whnf))
    | ((with_reducible refine ag ?_ (fun hn0 => ?_)) <;> (conv => whnf))
    
    | ((refine ap (fun hc => ?_) (fun hc => ?_)) <;> (try simp only [decide_eq_true_eq, decide_eq_false_iff_not, Q5, Q20, Bool.and_eq_false_iff, Bool.or_eq_false_iff, Bool.not_eq_true', Bool.not_eq_false', beq_iff_eq, bne_iff_ne, ne_eq, beq_eq_false_iff_ne, bne_eq_false_iff_eq, Bool.not_eq_true, Bool.not_eq_false] at hc) <;> (try (exfalso; omega)) <;> (conv => whnf))))
      refine aq.of [0, 1] rfl (fun i hi => by have : i = 0 ∨ i = 1 := (by omega); rcases this with h | h <;> subst h <;> rfl) rfl ?_ ?_
      · exact .rfl _
      · ((conv => whnf); repeat' (first | exact trivial | exact SV.Le.rfl _ | exact ⟨rfl, rfl, rfl⟩ | exact fun i hi => rfl | ((with_reducible refine And.intro ?_ ?_) <;> (conv => whnf))))
theorem jV {p : Pol} {ps : List Pol} {pol : Int} {key : List Int} {l : List HD} {spare : Int} (hp : p = ps.getD pol.toNat default) (hl8 : l.length ≤ 8) (hg : su ps pol key l) : ∀ (f left : Nat), left < 256 → popc left ≤ f → (∀ j, l.length ≤ j → left.testBit j = false) → ∀ (c : Cel) (tk : Nat → List D), CI p c → (∀ q, q < l.length → tk q = [.val (.bool (!left.testBit q))]) →
    Fun TC 17 2 [.ptr 0 0, .sl 1 1 0 l.length, c.S] [(0, some (.cells (gbC p l spare))), (1, some (.row 4 1 l.length tk))] 2 (.b (ordS p l spare f left c)) [(0, some (.cells (gbC p l spare))), (1, some (tkR l.length left))]
  | 0, left, hlt, hpc, hhi, c, tk, hc, htk => by
    obtain rfl := sI left hlt (by omega)
    exact ir hp hl8 hg hlt hhi hc htk (g := fun _ _ => false) fun i hi hb => by simp at hb
  | f + 1, left, hlt, hpc, hhi, c, tk, hc, htk =>
    ir hp hl8 hg hlt hhi hc htk (g := fun i c' => ordS p l spare f (left - 2 ^ i) c') fun i hi hb c' tk' hc' htk' => by
      obtain ⟨p1, p2⟩ := l9 left hlt i (by omega) hb
      exact jV hp hl8 hg f (left - 2 ^ i) p2 (by omega) (fun j hj => by
        have := bit_iff hlt hb j
        cases h : (left - 2 ^ i).testBit j with
        | false => rfl
        | true => rw [hhi j hj] at this; exact absurd (this.1 h).1 (by decide)) c' tk' hc' htk'
end
end Go.Proofs.YtlplngmpggkloaaGreat
