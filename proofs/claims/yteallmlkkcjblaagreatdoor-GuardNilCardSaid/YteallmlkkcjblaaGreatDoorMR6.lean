/- Parts of the proof, one behind the other: Sx45, Sx47, Sx48, Sx49, Sx50, Sx51, Sx52, Sx23, Sx29, Sx53, Gu0, Gus, Gu1, Gu2, Gu3, Gu4, Sx31, Sx32, Ca1, Gu5, Sx33. Lemmas and contracts of functions; no condition of its own. -/
import Derived.Test.YteallmlkkcjblaaGreatDoorMR5
import Derived.Defers
import Derived.Recover
import Derived.Shelf.Strings.Search3
import Derived.Shelf.LaysM
import Derived.Shelf.Strings.Shaped
import Derived.Test.YteallmlkkcjblaaGreatDoorProg
import Derived.LaidEql
import Derived.Stop.Asserts
import Derived.RowKitTokens
import Derived.Conc.EventLaws
set_option linter.unusedVariables false
set_option linter.unusedSimpArgs false
set_option maxHeartbeats 1000000
namespace Go.Proofs.YteallmlkkcjblaaGreatDoor
open Go.RowKit
inductive Out where
  | ret (r : SV)
  | pan (ch : List PanicEntry)
def Out.post (E : Env) (nx : Nat) (w : World) : Out → Ending → Prop
  | .ret r, .returned v => RS E nx w r v
  | .pan ch, .panicked c => c = ch
  | _, _ => False
def PostH (E : Env) (m : Nat) (H : List (Nat × Option Blk)) (w : World) (m' : Nat) (H' : List (Nat × Option Blk)) (w' : World) (E' : Env) : Prop :=
  Kq (HB E H) w w' ∧ (∀ l, l < m → E'.ρ l = E.ρ l ∧ E'.κ l = E.κ l) ∧ HSat E' m' H' w' ∧ (∀ b, HB E' H' b → HB E H b ∨ w.heap.size ≤ b) ∧
    (∀ b, E'.Im b → E.Im b ∨ HB E H b ∨ w.heap.size ≤ b) ∧ (∀ b, E.Im b → E'.Im b)
structure FunO (C : Cx) (g m : Nat) (args : List SV) (H : List (Nat × Option Blk)) (m' : Nat) (o : Out) (H' : List (Nat × Option Blk)) : Prop where
  ent : Enters C.P g
  le : m ≤ m'
  out : ∀ (E : Env) (w : World) (vs : Array Value), HSat E m H w → vs.size = args.length → (∀ j (hj : j < args.length), RS E m w args[j] (vs.getD j undef)) →
    Calls C.P g vs w fun e w' => ∃ E', PostH E m H w m' H' w' E' ∧ o.post E' m' w' e
theorem FunO.fun {C : Cx} {g m m' : Nat} {args : List SV} {H H' : List (Nat × Option Blk)} {r : SV} (h : FunO C g m args H m' (.ret r) H') : Fun C g m args H m' r H' :=
  ⟨h.ent, h.le, fun E w vs hS hsz hargs => (h.out E w vs hS hsz hargs).mono fun e w' ⟨E', ⟨h1, h2, h3, h4, h5, h6⟩, ho⟩ => by
    cases e with
    | returned v => exact ⟨v, E', rfl, h1, h2, h3, h4, h5, h6, ho⟩
    | panicked c => exact ho.elim
    | outgrown => exact ho.elim⟩
structure PanStop (C : Cx) (S : St) (g : Nat) (args : List SV) (k : List PanicEntry → St → Prop) : Prop where
  ent : Enters C.P g
  out : ∀ O E a w (vs : Array Value), Sat O E S a w → vs.size = args.length → (∀ j (hj : j < args.length), RS E S.nx w args[j] (vs.getD j undef)) →
    Calls C.P g vs w fun e w' => ∃ ch E' S', e = .panicked ch ∧ k ch S' ∧ Sat O E' S' a w'
def panK (C : Cx) (S : St) (f : SV) (args : List SV) (k : List PanicEntry → St → Prop) : Prop :=
  match f with
  | .d (.fn (.func g) []) => stK S fun S => PanStop C S g args k
  | .d (.fn (.func g) caps) => stK S fun S => PanStop C S g (args ++ caps.map .d) k
  | .fn (.func g) caps => stK S fun S => PanStop C S g (args ++ caps) k
  | _ => False
def panOp (C : Cx) (S : St) (op : Op) (k : List PanicEntry → St → Prop) : Prop :=
  match op with
  | .call c => match c.callee with
    | .value f => evL S c.args.toList fun args => panK C S (ev S f) args k
    | _ => False
  | .panic x => match ev S x with
    | .d (.val (.iface t v)) => k [{ v := .iface t v, recovered := false }] S
    | _ => False
  | _ => False
theorem panOp_ok {C : Cx} {O : Org} {E : Env} {S : St} {a : Act} {w : World} (hs : Sat O E S a w) {o : Oper} {k : List PanicEntry → St → Prop} (h : panOp C S o.op k) {next : Act → World → Prop} {Q : Exit → Act → World → Prop}
    (hk : ∀ ch S' E' w', k ch S' → Sat O E' S' a w' → Q (.panic ch) a w') : o.wp C.P a w next Q := by
  unfold panOp at h
  split at h
  · rename_i c ho
    split at h
    · rename_i f hc
      obtain ⟨vs, h1, h2, h3⟩ := evL_ok hs _ _ h
      have hargs : ∀ (j : Nat) (hj : j < vs.length), RS E S.nx w vs[j] ((c.args.map a.eval).getD j undef) := fun j hj => by
        have hj' : j < c.args.size := by simpa [h2] using hj
        have := h3 j c.args[j] vs[j] (by simp [hj']) (by simp [hj])
        simpa [Array.getD, hj'] using this
      have hsz : (c.args.map a.eval).size = vs.length := by simp [h2]
      have hf := ev_ok hs f
      have fin : ∀ (g : Nat) (caps : Array Value) (cs : List SV), a.eval f = .func (.func g) #[] caps → caps.size = cs.length → (∀ (j : Nat) (hj : j < cs.length), RS E S.nx w cs[j] (caps.getD j undef)) → PanStop C S g (vs ++ cs) k → o.wp C.P a w next Q := by
        intro g caps cs e1 e2 e3 hcs
        unfold Oper.wp
        have hrun : (execOp a.eval o).run C.P w = .ok (.enter g (c.args.map a.eval ++ caps)) w := by
          simp [execOp, ho, resolve, hc, e1, Deferred.ofValue, invoke]
          exact hcs.ent _ _
        rw [hrun]
        have hsz2 : (c.args.map a.eval ++ caps).size = (vs ++ cs).length := by simp [h2, e2]
        refine (hcs.out O E a w _ hs hsz2 (fun j hj => ?_)).mono ?_
        · by_cases hlt : j < vs.length
          · rw [List.getElem_append_left hlt]
            have : (c.args.map a.eval ++ caps).getD j undef = (c.args.map a.eval).getD j undef := by
              simp only [Array.getD_eq_getD_getElem?]; rw [Array.getElem?_append_left (by omega)]
            rw [this]; exact hargs j hlt
          · rw [List.getElem_append_right (by omega)]
            have : (c.args.map a.eval ++ caps).getD j undef = caps.getD (j - vs.length) undef := by
              simp only [Array.getD_eq_getD_getElem?]; rw [Array.getElem?_append_right (by omega), hsz]
            rw [this]; exact e3 _ _
        · rintro e w' ⟨ch, E', S', rfl, g1, g2⟩
          exact hk ch S' E' w' g1 g2
      unfold panK at h1
      split at h1
      · rename_i g e
        rw [e] at hf
        cases hv : a.eval f <;> rw [hv] at hf <;> cases hf <;> rename_i hr <;> cases hr
        rename_i hs0 _
        exact fin g _ [] hv (by simpa using hs0) (fun j hj => by simp at hj) (by rw [List.append_nil]; exact h1)
      · rename_i g caps _ e
        rw [e] at hf
        cases hv : a.eval f <;> rw [hv] at hf <;> cases hf <;> rename_i hr <;> cases hr
        rename_i hs0 hg
        exact fin g _ (caps.map .d) hv (by simpa using hs0) (fun j hj => by
          have hj' : j < caps.length := by simpa using hj
          rw [List.getElem_map]; exact .d _ _ (hg j hj')) h1
      · rename_i g caps e
        rw [e] at hf
        cases hv : a.eval f <;> rw [hv] at hf <;> cases hf
        rename_i hs0 hg
        exact fin g _ caps hv hs0 hg h1
      · exact h1.elim
    · exact h.elim
  · rename_i x ho
    split at h
    · rename_i t v e
      have hx := ev_ok hs x
      rw [e] at hx
      have hx := hx.val_inv
      unfold Oper.wp
      rw [show (execOp a.eval o).run C.P w = .halt (.panic (.iface t v)) w by simp [execOp, ho, hx, Instr.panic, goPanic]]
      exact hk _ S E w h hs
    · exact h.elim
  · exact h.elim
def execP (C : Cx) (ops : List Oper) : List Oper → St → (List PanicEntry → St → Prop) → Prop
  | [], _, _ => False
  | o :: r, S, k => match o.op with
    | .panic x => o.guard = none ∧ panOp C S (.panic x) k
    | .call c => (o.guard = none ∧ panOp C S (.call c) k) ∨ execG C ops S o fun S' => execP C ops r S' k
    | _ => execG C ops S o fun S' => execP C ops r S' k
theorem execG_ok {C : Cx} {O : Org} {ops : List Oper} {Q : Exit → Act → World → Prop} {o : Oper} {r : List Oper} {E : Env} {S : St} {a : Act} {w : World} {k : St → Prop} (h : execG C ops S o k) (hs : Sat O E S a w)
    (hk : ∀ S' E' a' w', k S' → Sat O E' S' a' w' → wpList C.P ops.toArray Q r a' w') : wpList C.P ops.toArray Q (o :: r) a w := by
  unfold execG at h
  split at h
  · rename_i hg
    unfold wpList
    rw [if_pos (by simp [Region.wanted, hg])]
    refine Or.inl (val1_ok hs h _ _ fun v E' S' w' x h1 h2 h3 => ?_)
    obtain ⟨S'', g1, g2⟩ := putK_ok h2 h3 h1
    exact hk _ _ _ _ g1 g2
  · rename_i j want hg
    split at h
    · rename_i t ht
      split at h
      · rename_i b hb
        have hv := hs.fr t
        rw [hb] at hv
        have hv := hv.val_inv
        have hy : yielded ops.toArray a.tmps j = some b := by
          unfold yielded
          have h1 : (ops.toArray[j]?).bind (·.dst) = some t := by simpa using ht
          have h2 : a.tmps[t]? = some (.bool b) := by
            rw [Array.getD_eq_getD_getElem?] at hv
            cases hq : a.tmps[t]? with
            | none => rw [hq] at hv; simp [undef] at hv
            | some y => rw [hq] at hv; simp at hv; rw [hv]
          rw [h1]
          simp [h2]
        have hs' := hs.setSlot hv
        have run : b = want → runK C (setSlot S t b) o k → wpList C.P ops.toArray Q (o :: r) a w := fun hbw h => by
          unfold wpList
          rw [if_pos (by simp [Region.wanted, hg, hy, hbw])]
          refine Or.inl (val1_ok hs' h _ _ fun v E' S' w' x h1 h2 h3 => ?_)
          obtain ⟨S'', g1, g2⟩ := putK_ok h2 h3 h1
          exact hk _ _ _ _ g1 g2
        have skip : b ≠ want → putK (setSlot S t b) o.dst (.tup []) k → wpList C.P ops.toArray Q (o :: r) a w := fun hbw h => by
          unfold wpList
          rw [if_neg (by simp [Region.wanted, hg, hy, hbw])]
          obtain ⟨S'', g1, g2⟩ := putK_ok hs' (RS.skip _ _ _) h
          exact hk _ _ _ _ g1 g2
        cases want <;> cases b
        · exact run rfl h
        · exact skip (by simp) h
        · exact skip (by simp) h
        · exact run rfl h
      · rename_i hb
        have hv := hs.fr t
        rw [hb] at hv
        have hv := hv.skip_inv
        have hy : yielded ops.toArray a.tmps j = none := by
          unfold yielded
          have h1 : (ops.toArray[j]?).bind (·.dst) = some t := by simpa using ht
          rw [h1]
          rw [Array.getD_eq_getD_getElem?] at hv
          cases hq : a.tmps[t]? with
          | none => simp [hq]
          | some y => rw [hq] at hv; simp at hv; subst hv; simp [hq, undef]
        unfold wpList
        rw [if_neg (by simp [Region.wanted, hg, hy])]
        obtain ⟨S'', g1, g2⟩ := putK_ok hs (RS.skip _ _ _) h
        exact hk _ _ _ _ g1 g2
      · exact h.elim
    · exact h.elim
theorem execP_ok {C : Cx} {O : Org} {ops : List Oper} {Q : Exit → Act → World → Prop} : ∀ (l : List Oper) {E : Env} {S : St} {a : Act} {w : World} {k : List PanicEntry → St → Prop}, execP C ops l S k → Sat O E S a w →
    (∀ ch S' E' a' w', k ch S' → Sat O E' S' a' w' → Q (.panic ch) a' w') → wpList C.P ops.toArray Q l a w
  | [], E, S, a, w, k, h, hs, hk => h.elim
  | o :: r, E, S, a, w, k, h, hs, hk => by
    unfold execP at h
    split at h
    · rename_i x ho
      obtain ⟨hg, h⟩ := h
      unfold wpList
      rw [if_pos (by simp [Region.wanted, hg])]
      exact Or.inl (panOp_ok hs (by rw [ho]; exact h) fun ch S' E' w' h1 h2 => hk ch S' E' a w' h1 h2)
    · rename_i c ho
      rcases h with ⟨hg, h⟩ | h
      · unfold wpList
        rw [if_pos (by simp [Region.wanted, hg])]
        exact Or.inl (panOp_ok hs (by rw [ho]; exact h) fun ch S' E' w' h1 h2 => hk ch S' E' a w' h1 h2)
      · exact execG_ok h hs fun S' E' a' w' h1 h2 => execP_ok r h1 h2 hk
    · exact execG_ok h hs fun S' E' a' w' h1 h2 => execP_ok r h1 h2 hk
theorem Wp.regionP (id : Nat) {C : Cx} {l : List Oper} {S : St} {Q : Exit → St → Prop} (h : execP C l l S fun ch S' => Q (.panic ch) S') : Wp C (.region id l.toArray false) S Q :=
  ⟨fun _ _ _ _ hs => wp_region_lit (execP_ok l h hs fun ch S' E' _ _ h1 h2 => ⟨S', E', h1, h2⟩)⟩
theorem Fresh.ge {S : St} {nx' : Nat} (h : S.nx ≤ nx') (hx : ∀ m b, lkh S.hp m = some b → m < S.nx) : Fresh S (fun l => S.nx ≤ l) nx' :=
  ⟨h, fun E E' w h1 h2 n v hv => RS.mono (E := E) (fun m hm => h1 m (by omega)) (Nat.le_refl _) (fun b hb => by rw [h2]; exact hb) (fun _ _ => rfl) hv,
    fun m b hb => ⟨by have := hx m b hb; omega, fun E E' w h1 h2 hbs => BS.mono (E := E) (hx m b hb) (fun m hm => h1 m (by omega)) (Nat.le_refl _) (fun b hb => by rw [h2]; exact hb) (fun _ _ => rfl) (fun _ => rfl) hbs⟩⟩
theorem PanStop.fn {C : Cx} {nt : NT} {nx : Nat} {fr : List (Nat × SV)} {hp : List (Nat × Option Blk)} {g : Nat} {args : List SV} {k : List PanicEntry → St → Prop} {m m' : Nat} {args0 : List SV} {H H' : List (Nat × Option Blk)} {ch : List PanicEntry} (h : FunO C g m args0 H m' (.pan ch) H') (L : List Nat) (hlen : L.length = m) (hd : noDup L = true) (hlive : liveK H m = true) (hkeys : keysK H' m = true) (hlt : keysLt H' m' = true)
    (ha : ArgLes L args args0) (hh : HeapLe hp L H) (hk : k ch ⟨nt, nx + (m' - m), fr, postH (πf L nx) hp H'⟩) : PanStop C ⟨nt, nx, fr, hp⟩ g args k := by
  subst hlen
  have hle := h.le
  refine ⟨h.ent, fun O E a w vs hs hsz hargs => ?_⟩
  have hLlt : ∀ i, i < L.length → L.getD i 0 < nx := fun i hi => by
    have := hlive
    unfold liveK at this
    rw [List.all_eq_true] at this
    obtain ⟨b, hb⟩ := Option.isSome_iff_exists.1 (this i (by simpa using hi))
    obtain ⟨_, h2⟩ := hh.out i b hb
    unfold BlkLe at h2
    split at h2
    · rename_i hl; exact hs.nx _ _ hl
    · rename_i hl; exact hs.nx _ _ hl
    · obtain ⟨⟨b0, q1, _⟩, _⟩ := h2.bs (E := E) (nx := nx) (w := w) rfl fun x hx => hs.hp _ x hx
      exact hs.nx _ _ q1
    · obtain ⟨⟨b0, q1, _⟩, _⟩ := h2.bs (E := E) (nx := nx) (w := w) rfl fun x hx => hs.hp _ x hx
      exact hs.nx _ _ q1
    · exact h2.elim
  have hπ1 : ∀ i, i < L.length → πf L nx i = L.getD i 0 := fun i hi => by
    show (bif Nat.blt i L.length then L.getD i 0 else nx + (i - L.length)) = _
    have hb : Nat.blt i L.length = true := by simpa using hi
    rw [hb]; rfl
  have hπ2 : ∀ i, L.length ≤ i → πf L nx i = nx + (i - L.length) := fun i hi => by
    show (bif Nat.blt i L.length then L.getD i 0 else nx + (i - L.length)) = _
    cases hb : Nat.blt i L.length with
    | true => have : i < L.length := by simpa using hb
              omega
    | false => rfl
  have := callP hs L (Pm := fun p => Calls C.P g vs w fun e w' => e = .panicked ch ∧ p undef w') (m' := m') (H' := H') (r := .any) (args := args) (args0 := args0) (fun p q hpq hc => hc.mono fun e w' ⟨h1, h2⟩ => ⟨h1, hpq _ w' h2⟩) vs h.le
    (fun Ec hS hr => (h.out Ec w vs hS (by rw [hsz]; exact ha.out.1) hr).mono fun e w' ⟨E', ⟨h1, h2, h3, h4, h5, h6⟩, ho⟩ => by
      cases e with
      | returned v => exact ho.elim
      | panicked c => exact ⟨by have : c = ch := ho; rw [this], E', h1, h2, h3, h4, h5, h6, .any _⟩
      | outgrown => exact ho.elim)
    hd hlive hkeys hlt ha hh (F := fun l => nx ≤ l) (nx' := nx + (m' - L.length)) (Fresh.ge (by show nx ≤ _; omega) hs.nx) (fun l hl => Nat.le_trans hs.nl hl) (πf L nx) hπ1 (fun i h1 h2 => ⟨by rw [hπ2 i h1]; omega, by rw [hπ2 i h1]; omega⟩)
    (fun i j hi hj hij => by
      by_cases h1 : i < L.length <;> by_cases h2 : j < L.length
      · rw [hπ1 i h1, hπ1 j h2] at hij
        exact Classical.byContradiction fun hne => noDup_ne hd h1 h2 hne hij
      · rw [hπ1 i h1, hπ2 j (by omega)] at hij; have := hLlt i h1; omega
      · rw [hπ1 j h2, hπ2 i (by omega)] at hij; have := hLlt j h2; omega
      · rw [hπ2 i (by omega), hπ2 j (by omega)] at hij; omega) hsz hargs
  exact this.mono fun e w' ⟨h1, E', h2, _⟩ => ⟨ch, E', _, h1, hk, h2⟩
def finO (C : Cx) (rs : List ResultVar) (m m' : Nat) (o : Out) (H' : List (Nat × Option Blk)) : Exit → St → Prop
  | .normal, S => match o with
    | .ret r => resK C S rs fun vs => tupK vs fun x => FinLe m S x m' r H'
    | .pan _ => False
  | .ret, S => match o with
    | .ret r => resK C S rs fun vs => tupK vs fun x => FinLe m S x m' r H'
    | .pan _ => False
  | .panic ch, S => o = .pan ch ∧ FinLe m S .any m' .any H'
  | _, _ => False
end Go.Proofs.YteallmlkkcjblaaGreatDoor

namespace Go.Proofs.YteallmlkkcjblaaGreatDoor
open Go.RowKit
def fxB : SV → Bool
  | .any => true
  | .d (.val _) => true
  | .ptr _ _ => true
  | _ => false
def Fx (O : Org) (x : SV) (v : Value) : Prop := ∀ (E : Env) (nx : Nat) (w : World), (∀ l, l < O.nl → E.ρ l = O.ρ0 l ∧ E.κ l = O.κ0 l) → O.nl ≤ nx → RS E nx w x v
structure DT where
  g : Nat
  caps : List SV
  args : List SV
def DfOK1 (O : Org) (t : DT) (d : Deferred) : Prop := ∃ cap : Array Value, d.target = .fn (.func t.g) cap ∧ cap.size = t.caps.length ∧ d.args.size = t.args.length ∧
  (∀ j (hj : j < t.args.length), Fx O t.args[j] (d.args.getD j undef)) ∧ (∀ j (hj : j < t.caps.length), Fx O t.caps[j] (cap.getD j undef))
def DfOK (O : Org) : List DT → List Deferred → Prop
  | [], [] => True
  | t :: ts, d :: ds => DfOK1 O t d ∧ DfOK O ts ds
  | _, _ => False
structure Grow (O : Org) (ds : List DT) (O' : Org) : Prop where
  w0 : O'.w0 = O.w0
  M : O'.M = O.M
  Im0 : O'.Im0 = O.Im0
  nl : O.nl ≤ O'.nl
  lab : ∀ l, l < O.nl → O'.ρ0 l = O.ρ0 l ∧ O'.κ0 l = O.κ0 l
  df : ∃ dl, O'.df = dl ++ O.df ∧ DfOK O' ds dl
theorem Grow.refl (O : Org) : Grow O [] O := ⟨rfl, rfl, rfl, Nat.le_refl _, fun _ _ => ⟨rfl, rfl⟩, [], rfl, trivial⟩
theorem Fx.up {O O' : Org} {x : SV} {v : Value} (hn : O.nl ≤ O'.nl) (hl : ∀ l, l < O.nl → O'.ρ0 l = O.ρ0 l ∧ O'.κ0 l = O.κ0 l) (h : Fx O x v) : Fx O' x v :=
  fun E nx w h1 h2 => h E nx w (fun l q => ⟨(h1 l (by omega)).1.trans (hl l q).1, (h1 l (by omega)).2.trans (hl l q).2⟩) (by omega)
theorem DfOK.up {O O' : Org} (hn : O.nl ≤ O'.nl) (hl : ∀ l, l < O.nl → O'.ρ0 l = O.ρ0 l ∧ O'.κ0 l = O.κ0 l) : ∀ {ts : List DT} {ds : List Deferred}, DfOK O ts ds → DfOK O' ts ds
  | [], [], _ => trivial
  | _ :: _, _ :: _, ⟨⟨cap, h1, h2, h3, h4, h5⟩, h⟩ => ⟨⟨cap, h1, h2, h3, fun j hj => (h4 j hj).up hn hl, fun j hj => (h5 j hj).up hn hl⟩, h.up hn hl⟩
  | [], _ :: _, h => h.elim
  | _ :: _, [], h => h.elim
theorem DfOK.app {O : Org} : ∀ {ts us : List DT} {ds es : List Deferred}, DfOK O ts ds → DfOK O us es → DfOK O (ts ++ us) (ds ++ es)
  | [], _, [], _, _, h => h
  | _ :: _, _, _ :: _, _, ⟨h1, h2⟩, h => ⟨h1, h2.app h⟩
  | [], _, _ :: _, _, h, _ => h.elim
  | _ :: _, _, [], _, h, _ => h.elim
theorem Grow.trans {O O' O2 : Org} {ds es : List DT} (h : Grow O ds O') (h' : Grow O' es O2) : Grow O (es ++ ds) O2 := by
  obtain ⟨dl, e1, e2⟩ := h.df
  obtain ⟨el, e3, e4⟩ := h'.df
  refine ⟨h'.w0.trans h.w0, h'.M.trans h.M, h'.Im0.trans h.Im0, Nat.le_trans h.nl h'.nl, fun l hl => ?_, el ++ dl, by rw [e3, e1, List.append_assoc], e4.app (e2.up h'.nl h'.lab)⟩
  have := h.nl
  exact ⟨(h'.lab l (by omega)).1.trans (h.lab l hl).1, (h'.lab l (by omega)).2.trans (h.lab l hl).2⟩
structure WpX (C : Cx) (c : Code) (S : St) (Q : Exit → List DT → St → Prop) : Prop where
  out : ∀ O E a w, Sat O E S a w → c.wp C.P (fun e a' w' => ∃ O' E' S' ds, Grow O ds O' ∧ Q e ds S' ∧ Sat O' E' S' a' w') a w
theorem WpX.of {C : Cx} {c : Code} {S : St} {Q : Exit → List DT → St → Prop} (h : Wp C c S fun e S' => Q e [] S') : WpX C c S Q :=
  ⟨fun O E a w hs => wp_mono (h.out O E a w hs) fun e a' w' ⟨S', E', h1, h2⟩ => ⟨O, E', S', [], .refl O, h1, h2⟩⟩
def thenX (k : List DT → St → Prop) (Q : Exit → List DT → St → Prop) : Exit → List DT → St → Prop
  | .normal, ds, S => k ds S
  | e, ds, S => Q e ds S
theorem WpX.seq {C : Cx} {x y : Code} {S : St} {Q : Exit → List DT → St → Prop} (h : WpX C x S (thenX (fun ds S' => WpX C y S' fun e es S2 => Q e (es ++ ds) S2) Q)) : WpX C (.seq x y) S Q := by
  refine ⟨fun O E a w hs => wp_seq (wp_mono (h.out O E a w hs) fun e a' w' ⟨O', E', S', ds, g, h1, h2⟩ => ?_)⟩
  cases e with
  | normal =>
    have h1 : WpX C y S' fun e es S2 => Q e (es ++ ds) S2 := h1
    exact wp_mono (h1.out O' E' a' w' h2) fun e a2 w2 ⟨O2, E2, S2, es, g2, q1, q2⟩ => ⟨O2, E2, S2, es ++ ds, g.trans g2, q1, q2⟩
  | exit id => exact ⟨O', E', S', ds, g, h1, h2⟩
  | goto l => exact ⟨O', E', S', ds, g, h1, h2⟩
  | ret => exact ⟨O', E', S', ds, g, h1, h2⟩
  | panic ch => exact ⟨O', E', S', ds, g, h1, h2⟩
  | outgrown => exact ⟨O', E', S', ds, g, h1, h2⟩
def blockX (id : Nat) (Q : Exit → List DT → St → Prop) : Exit → List DT → St → Prop
  | .exit id', ds, S => bif Nat.beq id' id then Q .normal ds S else Q (.exit id') ds S
  | e, ds, S => Q e ds S
theorem WpX.block {C : Cx} {id : Nat} {c : Code} {S : St} {Q : Exit → List DT → St → Prop} (h : WpX C c S (blockX id Q)) : WpX C (.block id c) S Q := by
  refine ⟨fun O E a w hs => wp_block (wp_mono (h.out O E a w hs) fun e a' w' ⟨O', E', S', ds, g, h1, h2⟩ => ?_)⟩
  cases e with
  | exit id' =>
    show if id' = id then _ else _
    have h1 : bif Nat.beq id' id then Q .normal ds S' else Q (.exit id') ds S' := h1
    by_cases e : id' = id
    · subst e; rw [if_pos rfl]; rw [Nat.beq_refl] at h1; exact ⟨O', E', S', ds, g, h1, h2⟩
    · have e2 : Nat.beq id' id = false := by cases hq : Nat.beq id' id with | true => exact absurd (Nat.eq_of_beq_eq_true hq) e | false => rfl
      rw [if_neg e]; rw [e2] at h1; exact ⟨O', E', S', ds, g, h1, h2⟩
  | normal => exact ⟨O', E', S', ds, g, h1, h2⟩
  | goto l => exact ⟨O', E', S', ds, g, h1, h2⟩
  | ret => exact ⟨O', E', S', ds, g, h1, h2⟩
  | panic ch => exact ⟨O', E', S', ds, g, h1, h2⟩
  | outgrown => exact ⟨O', E', S', ds, g, h1, h2⟩
def WpXN (C : Cx) (c : Code) (Q : Exit → List DT → St → Prop) : Nat → List DT → St → Prop
  | 0, _, _ => False
  | n + 1, ds, S => WpX C c S (thenX (fun es S' => WpXN C c Q n (es ++ ds) S') fun e es S' => Q e (es ++ ds) S')
theorem WpXN_rounds {C : Cx} {c : Code} {Q : Exit → List DT → St → Prop} {O0 : Org} : ∀ (n : Nat) (ds : List DT) (S : St) (O : Org) (E : Env) (a : Act) (w : World), Grow O0 ds O → WpXN C c Q n ds S → Sat O E S a w →
    Code.rounds C.P c (fun e a' w' => ∃ O' E' S' ds, Grow O0 ds O' ∧ Q e ds S' ∧ Sat O' E' S' a' w') n a w
  | 0, _, _, _, _, _, _, _, h, _ => h.elim
  | n + 1, ds, S, O, E, a, w, hg, h, hs => by
    have h : WpX C c S (thenX (fun es S' => WpXN C c Q n (es ++ ds) S') fun e es S' => Q e (es ++ ds) S') := h
    refine wp_mono (h.out O E a w hs) fun e a' w' ⟨O', E', S', es, g, h1, h2⟩ => ?_
    cases e with
    | normal => exact WpXN_rounds n _ S' O' E' a' w' (hg.trans g) h1 h2
    | exit id => exact ⟨O', E', S', _, hg.trans g, h1, h2⟩
    | goto l => exact ⟨O', E', S', _, hg.trans g, h1, h2⟩
    | ret => exact ⟨O', E', S', _, hg.trans g, h1, h2⟩
    | panic ch => exact ⟨O', E', S', _, hg.trans g, h1, h2⟩
    | outgrown => exact ⟨O', E', S', _, hg.trans g, h1, h2⟩
theorem WpX.loopN {C : Cx} {c : Code} {S : St} {Q : Exit → List DT → St → Prop} (n : Nat) (h : WpXN C c Q n [] S) : WpX C (.loop c) S Q :=
  ⟨fun O E a w hs => wp_loop_rounds n (WpXN_rounds n [] S O E a w (.refl O) h hs)⟩
theorem Sat.putOff {O : Org} {E : Env} {S : St} {a : Act} {w : World} (h : Sat O E S a w) (d : Deferred) :
    Sat ⟨O.w0, O.M, O.Im0, S.nx, E.ρ, E.κ, d :: O.df⟩ E ⟨⟨S.nt.n, S.nx⟩, S.nx, S.fr, S.hp⟩ { a with defers := d :: a.defers } w :=
  ⟨h.fr, ⟨h.nt.1, rfl⟩, by show d :: a.defers = d :: O.df; rw [h.df], h.hp, h.nx, h.inj, h.im, h.own, h.kq, fun l _ => ⟨rfl, rfl⟩, Nat.le_refl _, h.imo⟩
theorem fx_of {E : Env} {nx : Nat} {w : World} {x : SV} {v : Value} (hx : fxB x = true) (h : RS E nx w x v) {O : Org} (hn : O.nl = nx) (hρ : O.ρ0 = E.ρ) : Fx O x v := by
  intro E' nx' w' h1 h2
  cases h with
  | any => exact .any _
  | d x v h =>
    cases h with
    | val u hu => exact .d _ _ (.val _ hu)
    | _ => exact absurd hx (by simp [fxB])
  | ptr l o hl =>
    have := (h1 l (by omega)).1
    rw [hρ] at this
    rw [← this]; exact .ptr _ _ (by omega)
  | _ => exact absurd hx (by simp [fxB])
def deferK (S : St) (c : Call) (k : DT → Prop) : Prop :=
  match c.callee with
  | .value f => evL S c.args.toList fun args => match ev S f with
    | .fn (.func g) caps => (args.all fxB = true ∧ caps.all fxB = true) ∧ k ⟨g, caps, args⟩
    | .d (.fn (.func g) []) => args.all fxB = true ∧ k ⟨g, [], args⟩
    | _ => False
  | _ => False
def execX (C : Cx) (ops : List Oper) : List Oper → St → List DT → (List DT → St → Prop) → Prop
  | [], S, ds, k => k ds S
  | o :: r, S, ds, k => match o.op with
    | .defer c => (o.guard = none ∧ o.dst = none) ∧ deferK S c fun d => execX C ops r ⟨⟨S.nt.n, S.nx⟩, S.nx, S.fr, S.hp⟩ (d :: ds) k
    | _ => execG C ops S o fun S' => execX C ops r S' ds k
theorem deferK_ok {O : Org} {E : Env} {S : St} {a : Act} {w : World} (hs : Sat O E S a w) {P : Program} {o : Oper} {c : Call} (ho : o.op = .defer c) {k : DT → Prop} (h : deferK S c k) :
    ∃ t d, k t ∧ (execOp a.eval o).run P w = .ok (.defer d) w ∧ DfOK1 ⟨O.w0, O.M, O.Im0, S.nx, E.ρ, E.κ, d :: O.df⟩ t d := by
  unfold deferK at h
  split at h
  · rename_i f hc
    obtain ⟨vs, h1, h2, h3⟩ := evL_ok hs _ _ h
    have hargs : ∀ (j : Nat) (hj : j < vs.length), RS E S.nx w vs[j] ((c.args.map a.eval).getD j undef) := fun j hj => by
      have hj' : j < c.args.size := by simpa [h2] using hj
      have := h3 j c.args[j] vs[j] (by simp [hj']) (by simp [hj])
      simpa [Array.getD, hj'] using this
    have hsz : (c.args.map a.eval).size = vs.length := by simp [h2]
    have hf := ev_ok hs f
    split at h1
    · rename_i g caps e
      obtain ⟨⟨p1, p2⟩, hk⟩ := h1
      rw [e] at hf
      cases hv : a.eval f <;> rw [hv] at hf <;> cases hf
      rename_i cap hs0 hg
      refine ⟨_, ⟨.fn (.func g) cap, c.args.map a.eval⟩, hk, by simp [execOp, ho, resolve, hc, hv, Deferred.ofValue], cap, rfl, hs0, hsz, fun j hj => fx_of ?_ (hargs j hj) rfl rfl, fun j hj => fx_of ?_ (hg j hj) rfl rfl⟩
      · exact List.all_eq_true.1 p1 _ (List.getElem_mem hj)
      · exact List.all_eq_true.1 p2 _ (List.getElem_mem hj)
    · rename_i g e
      obtain ⟨p1, hk⟩ := h1
      rw [e] at hf
      cases hv : a.eval f <;> rw [hv] at hf <;> cases hf <;> rename_i hr <;> cases hr
      rename_i cap hs0 _
      refine ⟨_, ⟨.fn (.func g) cap, c.args.map a.eval⟩, hk, by simp [execOp, ho, resolve, hc, hv, Deferred.ofValue], cap, rfl, by simpa using hs0, hsz, fun j hj => fx_of ?_ (hargs j hj) rfl rfl, fun j hj => absurd hj (by simp)⟩
      exact List.all_eq_true.1 p1 _ (List.getElem_mem hj)
    · exact h1.elim
  · exact h.elim
theorem execX_ok {C : Cx} {O0 : Org} {ops : List Oper} {Q : Exit → Act → World → Prop} : ∀ (l : List Oper) {O : Org} {E : Env} {S : St} {a : Act} {w : World} {ds : List DT} {k : List DT → St → Prop}, Grow O0 ds O → execX C ops l S ds k → Sat O E S a w →
    (∀ O' ds' S' E' a' w', Grow O0 ds' O' → k ds' S' → Sat O' E' S' a' w' → Q .normal a' w') → wpList C.P ops.toArray Q l a w
  | [], O, E, S, a, w, ds, k, hg, h, hs, hk => hk O ds S E a w hg h hs
  | o :: r, O, E, S, a, w, ds, k, hg, h, hs, hk => by
    unfold execX at h
    split at h
    · rename_i c ho
      obtain ⟨⟨h1, h2⟩, h3⟩ := h
      obtain ⟨t, d, q1, q2, q3⟩ := deferK_ok (P := C.P) hs ho h3
      unfold wpList
      rw [if_pos (by simp [Region.wanted, h1])]
      refine Or.inl ?_
      unfold Oper.wp
      rw [q2, Oper.upon_defer, h2]
      have hg1 : Grow O [t] ⟨O.w0, O.M, O.Im0, S.nx, E.ρ, E.κ, d :: O.df⟩ := ⟨rfl, rfl, rfl, hs.nl, fun l hl => hs.lab l hl, [d], rfl, q3, trivial⟩
      exact execX_ok r (hg.trans hg1) q1 (hs.putOff d) hk
    · exact execG_ok h hs fun S' E' a' w' h1 h2 => execX_ok r hg h1 h2 hk
theorem WpX.region {C : Cx} {id : Nat} {l : List Oper} {S : St} {Q : Exit → List DT → St → Prop} (h : execX C l l S [] fun ds S' => Q .normal ds S') : WpX C (.region id l.toArray false) S Q :=
  ⟨fun O _ _ _ hs => wp_region_lit (execX_ok l (.refl O) h hs fun O' ds S' E' _ _ h1 h2 h3 => ⟨O', E', S', ds, h1, h2, h3⟩)⟩
def condX (C : Cx) (x : SV) (S : St) (c d : Code) (Q : Exit → List DT → St → Prop) : Prop :=
  match x with
  | .d (.val (.bool b)) => bif b then WpX C c S Q else WpX C d S Q
  | _ => False
theorem WpX.cond {C : Cx} {x : Operand} {c d : Code} {S : St} {Q : Exit → List DT → St → Prop} (h : condX C (ev S x) S c d Q) : WpX C (.cond x c d) S Q :=
  ⟨fun O E a w hs => by
    have hx := ev_ok hs x
    unfold condX at h
    split at h
    · rename_i b e
      rw [e] at hx
      refine wp_cond hx.val_inv ?_
      cases b
      · exact h.out O E a w hs
      · exact h.out O E a w hs
    · exact h.elim⟩
end Go.Proofs.YteallmlkkcjblaaGreatDoor

namespace Go.Proofs.YteallmlkkcjblaaGreatDoor
open Go.RowKit
structure FunD (C : Cx) (g m : Nat) (args : List SV) (H : List (Nat × Option Blk)) (u : FrameMode) (m' : Nat) (o : Out) (u' : FrameMode) (H' : List (Nat × Option Blk)) : Prop where
  ent : Enters C.P g
  le : m ≤ m'
  out : ∀ (E : Env) (w : World) (vs : Array Value), HSat E m H w → vs.size = args.length → (∀ j (hj : j < args.length), RS E m w args[j] (vs.getD j undef)) →
    CallsD C.P g vs u w fun e u1 w' => u1 = u' ∧ ∃ E', PostH E m H w m' H' w' E' ∧ o.post E' m' w' e
theorem fin_ok {E : Env} {m : Nat} {H : List (Nat × Option Blk)} {w : World} {O : Org} {E' : Env} {S' : St} {a' : Act} {w' : World} (hs' : Sat O E' S' a' w') (h0 : O.w0 = w) (hM : O.M = HB E H) (hI : O.Im0 = E.Im) (hn : O.nl = m) (hl : ∀ l, l < m → O.ρ0 l = E.ρ l ∧ O.κ0 l = E.κ l)
    {x r : SV} {v : Value} {m' : Nat} {H' : List (Nat × Option Blk)} (g1 : FinLe m S' x m' r H') (g2 : RS E' S'.nx w' x v) : ∃ E2, PostH E m H w m' H' w' E2 ∧ RS E2 m' w' r v := by
  obtain ⟨E2, k1, k2, k3, k4, k5, k6⟩ := g1.out O E' a' w' _ hn hs' g2
  have hown : ∀ b, HB E' S'.hp b → HB E H b ∨ w.heap.size ≤ b := by
    rintro b ⟨l, x, hl, hr, rfl⟩
    have := hs'.own l x hl hr
    rwa [hM, h0] at this
  refine ⟨E2, ⟨?_, fun l hl' => ?_, k1, fun b hb => hown b (k3 b hb), fun b hb => ?_, fun b hb => ?_⟩, k6⟩
  · have := hs'.kq; rwa [hM, h0] at this
  · obtain ⟨p1, p2⟩ := hs'.lab l (by omega)
    obtain ⟨p3, p4⟩ := k2 l hl'
    obtain ⟨p5, p6⟩ := hl l hl'
    exact ⟨p3.trans (p1.trans p5), p4.trans (p2.trans p6)⟩
  · rcases k4 b hb with hb | hb
    · obtain ⟨q1, q2, -⟩ := hs'.im b hb
      rw [h0, hI, hM] at q2
      rcases q2 with q2 | q2 | q2
      · exact Or.inr (Or.inr q2)
      · exact Or.inl q2
      · exact Or.inr (Or.inl q2)
    · exact Or.inr (hown b hb)
  · exact k5 b (hs'.imo b (by rw [hI]; exact hb))
def lowS (m : Nat) (S : St) : St := ⟨⟨S.nt.n, m⟩, S.nx, S.fr, S.hp⟩
theorem Sat.lower {O : Org} {E : Env} {S : St} {a : Act} {w : World} (h : Sat O E S a w) {m : Nat} (hm : m ≤ O.nl) : Sat ⟨O.w0, O.M, O.Im0, m, O.ρ0, O.κ0, O.df⟩ E (lowS m S) a w :=
  ⟨h.fr, ⟨h.nt.1, rfl⟩, h.df, h.hp, h.nx, h.inj, h.im, h.own, h.kq, fun l hl => h.lab l (by have hl : l < m := hl; omega), Nat.le_trans hm h.nl, h.imo⟩
def Out.like : Out → Ending → Prop
  | .ret _, .returned _ => True
  | .pan c, .panicked c' => c' = c
  | _, _ => False
structure LeaveStop (C : Cx) (S : St) (d : DT) (u : FrameMode) (k : Out → FrameMode → St → Prop) : Prop where
  ent : Enters C.P d.g
  out : ∀ O E a w (vs : Array Value), Sat O E S a w → vs.size = (d.args ++ d.caps).length → (∀ j (hj : j < (d.args ++ d.caps).length), RS E S.nx w (d.args ++ d.caps)[j] (vs.getD j undef)) →
    CallsD C.P d.g vs u w fun e u' w' => ∃ o E' S', k o u' S' ∧ Sat O E' S' a w' ∧ o.like e
def nextU : Out → FrameMode → FrameMode
  | .ret _, u => settle u
  | .pan ch, u => raised u ch
def LeaveK (C : Cx) (rs : List ResultVar) (m m' : Nat) (o : Out) (H' : List (Nat × Option Blk)) : List DT → FrameMode → St → Prop
  | [], .returning, S => match o with
    | .ret r => resK C S rs fun vs => tupK vs fun x => FinLe m (lowS m S) x m' r H'
    | .pan _ => False
  | [], .panicking ch, S => o = .pan ch ∧ FinLe m (lowS m S) .any m' .any H'
  | [], .run, _ => False
  | d :: ds, u, S => u ≠ .run ∧ LeaveStop C S d u fun o' u' S' => LeaveK C rs m m' o H' ds (nextU o' u') S'
theorem leaves_of {C : Cx} {fn : Func} {E0 : Env} {m m' : Nat} {H H' : List (Nat × Option Blk)} {w0 : World} {o : Out} {O : Org} (h0 : O.w0 = w0) (hM : O.M = HB E0 H) (hI : O.Im0 = E0.Im) (hn : m ≤ O.nl) (hl : ∀ l, l < m → O.ρ0 l = E0.ρ l ∧ O.κ0 l = E0.κ l) :
    ∀ (ds : List DT) (dl : List Deferred) (u : FrameMode) (S : St) (E : Env) (a : Act) (w : World), DfOK O ds dl → LeaveK C fn.results.toList m m' o H' ds u S → Sat O E S a w →
      Leaves C.P fn a.tmps (fun e w' => ∃ E', PostH E0 m H w0 m' H' w' E' ∧ o.post E' m' w' e) dl u w
  | [], [], .returning, S, E, a, w, _, h, hs => by
    unfold LeaveK at h
    split at h
    · rename_i r
      obtain ⟨xs, us, h1, h2, h3, h4⟩ := resK_ok hs _ _ h
      obtain ⟨x, g1, g2⟩ := tupK_ok h3 h4 h1
      obtain ⟨E2, p1, p2⟩ := fin_ok (hs.lower hn) h0 hM hI rfl hl g1 g2
      refine ⟨(if h : us.toArray.size = 1 then us.toArray[0] else .tuple us.toArray), ?_, E2, p1, p2⟩
      rw [results_eq, show fn.results = fn.results.toList.toArray by simp, List.mapM_toArray]
      simp only [Sem.run_bind, Sem.run_map, h2]
      rfl
    · exact h.elim
  | [], [], .panicking ch, S, E, a, w, _, h, hs => by
    unfold LeaveK at h
    obtain ⟨rfl, h⟩ := h
    obtain ⟨E2, p1, _⟩ := fin_ok (hs.lower hn) h0 hM hI rfl hl h (.any undef)
    exact ⟨E2, p1, rfl⟩
  | [], [], .run, S, E, a, w, _, h, hs => by unfold LeaveK at h; exact h.elim
  | t :: ts, d :: dl, u, S, E, a, w, ⟨⟨cap, e1, e2, e3, e4, e5⟩, hd⟩, h, hs => by
    unfold LeaveK at h
    obtain ⟨hu, h⟩ := h
    obtain ⟨dt, da⟩ := d
    simp only at e1 e3 e4
    subst e1
    have hS : ∀ l, l < O.nl → E.ρ l = O.ρ0 l ∧ E.κ l = O.κ0 l := hs.lab
    have hsz : (da ++ cap).size = (t.args ++ t.caps).length := by simp [e2, e3]
    refine leaves_cons hu (args := da ++ cap) (f := t.g) (by simp only [invoke]; exact h.ent _ _) ((h.out O E a w (da ++ cap) hs hsz fun j hj => ?_).mono ?_)
    · by_cases hlt : j < t.args.length
      · rw [List.getElem_append_left hlt]
        have : (da ++ cap).getD j undef = da.getD j undef := by
          simp only [Array.getD_eq_getD_getElem?]; rw [Array.getElem?_append_left (by omega)]
        rw [this]; exact e4 j hlt E S.nx w hS hs.nl
      · rw [List.getElem_append_right (by omega)]
        have : (da ++ cap).getD j undef = cap.getD (j - t.args.length) undef := by
          simp only [Array.getD_eq_getD_getElem?]; rw [Array.getElem?_append_right (by omega), e3]
        rw [this]; exact e5 _ _ E S.nx w hS hs.nl
    · rintro e u' w' ⟨o', E', S', k1, k2, k3⟩
      cases o' with
      | ret r =>
        cases e with
        | returned v => exact leaves_of h0 hM hI hn hl ts dl _ S' E' a w' hd k1 k2
        | panicked c => exact k3.elim
        | outgrown => exact k3.elim
      | pan ch =>
        cases e with
        | returned v => exact k3.elim
        | panicked c => obtain rfl := k3; exact leaves_of h0 hM hI hn hl ts dl _ S' E' a w' hd k1 k2
        | outgrown => exact k3.elim
  | [], _ :: _, _, _, _, _, _, h, _, _ => h.elim
  | _ :: _, [], _, _, _, _, _, h, _, _ => h.elim
def finX (C : Cx) (rs : List ResultVar) (m m' : Nat) (o : Out) (H' : List (Nat × Option Blk)) : Exit → List DT → St → Prop
  | .normal, ds, S => LeaveK C rs m m' o H' ds .returning S
  | .ret, ds, S => LeaveK C rs m m' o H' ds .returning S
  | .panic ch, ds, S => LeaveK C rs m m' o H' ds (.panicking ch) S
  | _, _, _ => False
theorem sat_enter {C : Cx} {E : Env} {w : World} {m n : Nat} {args : List SV} {H : List (Nat × Option Blk)} {vs : Array Value} (hle : args.length ≤ n) (hS : HSat E m H w) (hsz : vs.size = args.length) (hargs : ∀ j (hj : j < args.length), RS E m w args[j] (vs.getD j undef)) :
    Sat ⟨w, HB E H, E.Im, m, E.ρ, E.κ, []⟩ E ⟨⟨n, m⟩, m, slots 0 args, H⟩ { tmps := vs ++ Array.replicate (n - vs.size) undef, defers := [] } w := by
  refine ⟨fun j => ?_, ⟨by simp; omega, rfl⟩, rfl, hS.hp, hS.nx, hS.inj, fun b hb => ⟨(hS.im b hb).1, Or.inr (Or.inl hb), (hS.im b hb).2⟩, fun l b hb hr => Or.inl ⟨l, b, hb, hr, rfl⟩, Kq.refl _ _, fun l hl => ⟨rfl, rfl⟩, Nat.le_refl _, fun b hb => hb⟩
  rw [lk_slots]
  by_cases hlt : j < args.length
  · rw [if_pos (by omega), Nat.sub_zero, List.getElem?_eq_getElem hlt]
    have := hargs j hlt
    have h2 : j < vs.size := by omega
    have h3 : (vs ++ Array.replicate (n - vs.size) undef).getD j undef = vs.getD j undef := by
      simp only [Array.getD_eq_getD_getElem?]; rw [Array.getElem?_append_left h2]
    rw [h3]; exact this
  · rw [if_neg (by omega)]; exact .any _
theorem FunO.mkX {C : Cx} {g m m' : Nat} {args : List SV} {H H' : List (Nat × Option Blk)} {o : Out} {fn : Func} {c : Code} (hf : C.P.funcs[g]? = some fn) (hb : fn.body = some c) (hn : (fn.name == "runtime.NumGoroutine") = false) (hle : args.length ≤ fn.ntmps) (hmm : m ≤ m')
    (h : WpX C c ⟨⟨fn.ntmps, m⟩, m, slots 0 args, H⟩ (finX C fn.results.toList m m' o H')) : FunO C g m args H m' o H' := by
  refine ⟨.mk hf hn (by simp [hb]), hmm, fun E w vs hS hsz hargs => calls_of_wp_defers hf hb ?_⟩
  refine wp_mono (h.out _ E _ w (sat_enter (C := C) hle hS hsz hargs)) fun e a' w' ⟨O', E', S', ds, hg, hq, hs'⟩ => ?_
  obtain ⟨dl, g1, g2⟩ := hg.df
  have hdl : a'.defers = dl := by rw [hs'.df, g1]; exact List.append_nil _
  have fin : ∀ u, LeaveK C fn.results.toList m m' o H' ds u S' → Leaves C.P fn a'.tmps (fun e w' => ∃ E', PostH E m H w m' H' w' E' ∧ o.post E' m' w' e) a'.defers u w' := fun u hk => by
    rw [hdl]
    exact leaves_of hg.w0 hg.M hg.Im0 hg.nl hg.lab ds dl u S' E' a' w' g2 hk hs'
  cases e with
  | normal => exact fin _ hq
  | ret => exact fin _ hq
  | panic ch => exact fin _ hq
  | exit id => exact hq.elim
  | goto l => exact hq.elim
  | outgrown => exact hq.elim
end Go.Proofs.YteallmlkkcjblaaGreatDoor

namespace Go.Proofs.YteallmlkkcjblaaGreatDoor
open Go.RowKit
theorem LeaveStop.fn {C : Cx} {nt : NT} {nx : Nat} {fr : List (Nat × SV)} {hp : List (Nat × Option Blk)} {d : DT} {u u' : FrameMode} {k : Out → FrameMode → St → Prop} {m m' : Nat} {args0 : List SV} {H H' : List (Nat × Option Blk)} {o : Out} (h : FunD C d.g m args0 H u m' o u' H') (L : List Nat) (hlen : L.length = m) (hd : noDup L = true) (hlive : liveK H m = true) (hkeys : keysK H' m = true) (hlt : keysLt H' m' = true)
    (ha : ArgLes L (d.args ++ d.caps) args0) (hh : HeapLe hp L H) (hk : k o u' ⟨nt, nx + (m' - m), fr, postH (πf L nx) hp H'⟩) : LeaveStop C ⟨nt, nx, fr, hp⟩ d u k := by
  subst hlen
  have hle := h.le
  refine ⟨h.ent, fun O E a w vs hs hsz hargs => ?_⟩
  have hLlt : ∀ i, i < L.length → L.getD i 0 < nx := fun i hi => by
    have := hlive
    unfold liveK at this
    rw [List.all_eq_true] at this
    obtain ⟨b, hb⟩ := Option.isSome_iff_exists.1 (this i (by simpa using hi))
    obtain ⟨_, h2⟩ := hh.out i b hb
    unfold BlkLe at h2
    split at h2
    · rename_i hl; exact hs.nx _ _ hl
    · rename_i hl; exact hs.nx _ _ hl
    · obtain ⟨⟨b0, q1, _⟩, _⟩ := h2.bs (E := E) (nx := nx) (w := w) rfl fun x hx => hs.hp _ x hx
      exact hs.nx _ _ q1
    · obtain ⟨⟨b0, q1, _⟩, _⟩ := h2.bs (E := E) (nx := nx) (w := w) rfl fun x hx => hs.hp _ x hx
      exact hs.nx _ _ q1
    · exact h2.elim
  have hπ1 : ∀ i, i < L.length → πf L nx i = L.getD i 0 := fun i hi => by
    show (bif Nat.blt i L.length then L.getD i 0 else nx + (i - L.length)) = _
    have hb : Nat.blt i L.length = true := by simpa using hi
    rw [hb]; rfl
  have hπ2 : ∀ i, L.length ≤ i → πf L nx i = nx + (i - L.length) := fun i hi => by
    show (bif Nat.blt i L.length then L.getD i 0 else nx + (i - L.length)) = _
    cases hb : Nat.blt i L.length with
    | true => have : i < L.length := by simpa using hb
              omega
    | false => rfl
  have := callP hs L (Pm := fun p => CallsD C.P d.g vs u w fun e u1 w' => (u1 = u' ∧ o.like e) ∧ p undef w') (m' := m') (H' := H') (r := .any) (args := d.args ++ d.caps) (args0 := args0) (fun p q hpq hc => hc.mono fun e u1 w' ⟨h1, h2⟩ => ⟨h1, hpq _ w' h2⟩) vs h.le
    (fun Ec hS hr => (h.out Ec w vs hS (by rw [hsz]; exact ha.out.1) hr).mono fun e u1 w' ⟨e1, E', ⟨h1, h2, h3, h4, h5, h6⟩, ho⟩ => by
      refine ⟨⟨e1, ?_⟩, E', h1, h2, h3, h4, h5, h6, .any _⟩
      cases o <;> cases e <;> first | trivial | exact ho | exact ho.elim)
    hd hlive hkeys hlt ha hh (F := fun l => nx ≤ l) (nx' := nx + (m' - L.length)) (Fresh.ge (by show nx ≤ _; omega) hs.nx) (fun l hl => Nat.le_trans hs.nl hl) (πf L nx) hπ1 (fun i h1 h2 => ⟨by rw [hπ2 i h1]; omega, by rw [hπ2 i h1]; omega⟩)
    (fun i j hi hj hij => by
      by_cases h1 : i < L.length <;> by_cases h2 : j < L.length
      · rw [hπ1 i h1, hπ1 j h2] at hij
        exact Classical.byContradiction fun hne => noDup_ne hd h1 h2 hne hij
      · rw [hπ1 i h1, hπ2 j (by omega)] at hij; have := hLlt i h1; omega
      · rw [hπ1 j h2, hπ2 i (by omega)] at hij; have := hLlt j h2; omega
      · rw [hπ2 i (by omega), hπ2 j (by omega)] at hij; omega) hsz hargs
  exact this.mono fun e u1 w' ⟨⟨h1, h1'⟩, E', h2, _⟩ => ⟨o, E', _, by rw [h1]; exact hk, h2, h1'⟩
section
variable {P : Program} {Q Q' : Exit → Act → List Frame → World → Prop} {a : Act} {cs : List Frame} {w : World}
theorem wpS_mono {c : Code} (hq : ∀ e a cs w, Q e a cs w → Q' e a cs w) (h : c.wpS P Q a cs w) : c.wpS P Q' a cs w :=
  fun b k hb hr => let ⟨e, a', cs', w', q, r⟩ := h b k hb hr; ⟨e, a', cs', w', hq _ _ _ _ q, r⟩
def inBlockS (id : Nat) (Q : Exit → Act → List Frame → World → Prop) : Exit → Act → List Frame → World → Prop
  | .exit id', a, cs, w => if id' = id then Q .normal a cs w else Q (.exit id') a cs w
  | e, a, cs, w => Q e a cs w
def roundsS (P : Program) (c : Code) (Q : Exit → Act → List Frame → World → Prop) : Nat → Act → List Frame → World → Prop
  | 0, _, _, _ => False
  | n + 1, a, cs, w => c.wpS P (Exit.thenS (roundsS P c Q n) Q) a cs w
def wpListS (P : Program) (ops : Array Oper) (Q : Exit → Act → List Frame → World → Prop) : List Oper → Act → List Frame → World → Prop
  | [], a, cs, w => Q .normal a cs w
  | o :: rest, a, cs, w =>
    if Region.wanted o (yielded ops a.tmps) then
      match (execOp a.eval o).run P w with
      | .ok .recover w' =>
        match recoverD cs with
        | some (v, cs') => wpListS P ops Q rest (a.put o.dst v) cs' w'
        | none => wpListS P ops Q rest (a.put o.dst .nilIface) cs w'
      | r => o.upon P a (fun a' w' => wpListS P ops Q rest a' cs w') (fun e a' w' => Q e a' cs w') r
    else wpListS P ops Q rest (a.put o.dst undef) cs w
theorem wpOpsS_eq {ops : Array Oper} (l : List Oper) : ∀ k, (∀ j, l[j]? = ops[k + j]?) → wpOpsS P ops Q (List.range' k l.length) = wpListS P ops Q l := by
  induction l with
  | nil => intro k _; funext a cs w; simp [wpOpsS, wpListS]
  | cons o l ih =>
    intro k h
    have h0 : ops[k]? = some o := by simpa using (h 0).symm
    have ih' := ih (k + 1) (fun j => by have := h (j + 1); simpa [Nat.add_assoc, Nat.add_comm 1 j] using this)
    funext a cs w
    simp only [List.length_cons, List.range'_succ, wpOpsS, h0, wpListS, ih']
    by_cases hw : Region.wanted o (yielded ops a.tmps) = true
    · simp only [hw, if_true]
      cases (execOp a.eval o).run P w with
      | ok n w' =>
        cases n <;> first | rfl | (cases recoverD cs <;> rfl)
      | _ => rfl
    · simp only [hw, if_false, Bool.false_eq_true]
theorem wpS_region_list {id : Nat} {l : List Oper} (h : wpListS P l.toArray Q l a cs w) : (Code.region id l.toArray false).wpS P Q a cs w :=
  wpS_region (by rw [List.range_eq_range', List.size_toArray, wpOpsS_eq l 0 (by simp)]; exact h)
theorem wpListS_op {ops : Array Oper} {o : Oper} {r : List Oper} (hw : Region.wanted o (yielded ops a.tmps) = true) (h : o.wp P a w (fun a' w' => wpListS P ops Q r a' cs w') (fun e a' w' => Q e a' cs w')) : wpListS P ops Q (o :: r) a cs w := by
  unfold wpListS
  rw [if_pos hw]
  unfold Oper.wp at h
  cases hr : (execOp a.eval o).run P w with
  | ok n w' => rw [hr] at h; cases n <;> first | exact h | exact h.elim
  | _ => rw [hr] at h; exact h
end
end Go.Proofs.YteallmlkkcjblaaGreatDoor

namespace Go.Proofs.YteallmlkkcjblaaGreatDoor
open Go.RowKit
theorem execG_okS {C : Cx} {O : Org} {ops : List Oper} {Q : Exit → Act → List Frame → World → Prop} {cs : List Frame} {o : Oper} {r : List Oper} {E : Env} {S : St} {a : Act} {w : World} {k : St → Prop} (h : execG C ops S o k) (hs : Sat O E S a w)
    (hk : ∀ S' E' a' w', k S' → Sat O E' S' a' w' → wpListS C.P ops.toArray Q r a' cs w') : wpListS C.P ops.toArray Q (o :: r) a cs w := by
  unfold execG at h
  split at h
  · rename_i hg
    refine wpListS_op (by simp [Region.wanted, hg]) (val1_ok hs h _ _ fun v E' S' w' x h1 h2 h3 => ?_)
    obtain ⟨S'', g1, g2⟩ := putK_ok h2 h3 h1
    exact hk _ _ _ _ g1 g2
  · rename_i j want hg
    split at h
    · rename_i t ht
      split at h
      · rename_i b hb
        have hv := hs.fr t
        rw [hb] at hv
        have hv := hv.val_inv
        have hy : yielded ops.toArray a.tmps j = some b := by
          unfold yielded
          have h1 : (ops.toArray[j]?).bind (·.dst) = some t := by simpa using ht
          have h2 : a.tmps[t]? = some (.bool b) := by
            rw [Array.getD_eq_getD_getElem?] at hv
            cases hq : a.tmps[t]? with
            | none => rw [hq] at hv; simp [undef] at hv
            | some y => rw [hq] at hv; simp at hv; rw [hv]
          rw [h1]
          simp [h2]
        have hs' := hs.setSlot hv
        have run : b = want → runK C (setSlot S t b) o k → wpListS C.P ops.toArray Q (o :: r) a cs w := fun hbw h => by
          refine wpListS_op (by simp [Region.wanted, hg, hy, hbw]) (val1_ok hs' h _ _ fun v E' S' w' x h1 h2 h3 => ?_)
          obtain ⟨S'', g1, g2⟩ := putK_ok h2 h3 h1
          exact hk _ _ _ _ g1 g2
        have skip : b ≠ want → putK (setSlot S t b) o.dst (.tup []) k → wpListS C.P ops.toArray Q (o :: r) a cs w := fun hbw h => by
          unfold wpListS
          rw [if_neg (by simp [Region.wanted, hg, hy, hbw])]
          obtain ⟨S'', g1, g2⟩ := putK_ok hs' (RS.skip _ _ _) h
          exact hk _ _ _ _ g1 g2
        cases want <;> cases b
        · exact run rfl h
        · exact skip (by simp) h
        · exact skip (by simp) h
        · exact run rfl h
      · rename_i hb
        have hv := hs.fr t
        rw [hb] at hv
        have hv := hv.skip_inv
        have hy : yielded ops.toArray a.tmps j = none := by
          unfold yielded
          have h1 : (ops.toArray[j]?).bind (·.dst) = some t := by simpa using ht
          rw [h1]
          rw [Array.getD_eq_getD_getElem?] at hv
          cases hq : a.tmps[t]? with
          | none => simp [hq]
          | some y => rw [hq] at hv; simp at hv; subst hv; simp [hq, undef]
        unfold wpListS
        rw [if_neg (by simp [Region.wanted, hg, hy])]
        obtain ⟨S'', g1, g2⟩ := putK_ok hs (RS.skip _ _ _) h
        exact hk _ _ _ _ g1 g2
      · exact h.elim
    · exact h.elim
def recK (u : FrameMode) (k : Value → FrameMode → Prop) : Prop :=
  match u with
  | .panicking ({ v, recovered := false, goexit := false } :: older) => v.oneCell' = true ∧ k v (.panicking ({ v, recovered := true } :: older))
  | .returning => k .nilIface .returning
  | _ => False
def execRc (C : Cx) (ops : List Oper) : List Oper → FrameMode → St → (FrameMode → St → Prop) → Prop
  | [], u, S, k => k u S
  | o :: r, u, S, k => match o.op with
    | .call c => match c.callee with
      | .builtin .recover => o.guard = none ∧ recK u fun v u' => putK S o.dst (.d (.val v)) fun S' => execRc C ops r u' S' k
      | _ => execG C ops S o fun S' => execRc C ops r u S' k
    | _ => execG C ops S o fun S' => execRc C ops r u S' k
theorem execRc_ok {C : Cx} {O : Org} {ops : List Oper} {Q : Exit → Act → List Frame → World → Prop} {c₀ : Frame} {cs : List Frame} : ∀ (l : List Oper) {u : FrameMode} {E : Env} {S : St} {a : Act} {w : World} {k : FrameMode → St → Prop}, execRc C ops l u S k → Sat O E S a w →
    (∀ u' S' E' a' w', k u' S' → Sat O E' S' a' w' → Q .normal a' ({ c₀ with mode := u' } :: cs) w') → wpListS C.P ops.toArray Q l a ({ c₀ with mode := u } :: cs) w
  | [], u, E, S, a, w, k, h, hs, hk => hk u S E a w h hs
  | o :: r, u, E, S, a, w, k, h, hs, hk => by
    unfold execRc at h
    split at h
    · rename_i c ho
      split at h
      · rename_i hc
        obtain ⟨hg, h⟩ := h
        have hr : (execOp a.eval o).run C.P w = .ok .recover w := by simp [execOp, ho, resolve, hc, invoke, builtin]
        unfold wpListS
        rw [if_pos (by simp [Region.wanted, hg]), hr]
        unfold recK at h
        split at h
        · rename_i v older
          obtain ⟨hv, h⟩ := h
          obtain ⟨S', g1, g2⟩ := putK_ok hs (RS.d _ _ (.val v hv)) h
          exact execRc_ok r g1 g2 hk
        · obtain ⟨S', g1, g2⟩ := putK_ok hs (RS.d _ _ (.val .nilIface rfl)) h
          exact execRc_ok r g1 g2 hk
        · exact h.elim
      · exact execG_okS h hs fun S' E' a' w' h1 h2 => execRc_ok r h1 h2 hk
    · exact execG_okS h hs fun S' E' a' w' h1 h2 => execRc_ok r h1 h2 hk
structure WpR (C : Cx) (c : Code) (u : FrameMode) (S : St) (Q : Exit → FrameMode → St → Prop) : Prop where
  out : ∀ O E a w (c₀ : Frame) (cs : List Frame), Sat O E S a w → c.wpS C.P (fun e a' cs' w' => ∃ u' S' E', cs' = { c₀ with mode := u' } :: cs ∧ Q e u' S' ∧ Sat O E' S' a' w') a ({ c₀ with mode := u } :: cs) w
theorem WpR.of {C : Cx} {c : Code} {u : FrameMode} {S : St} {Q : Exit → FrameMode → St → Prop} (h : Wp C c S fun e S' => Q e u S') : WpR C c u S Q :=
  ⟨fun O E a w c₀ cs hs => wpS_of_wp (wp_mono (h.out O E a w hs) fun e a' w' ⟨S', E', h1, h2⟩ => ⟨u, S', E', rfl, h1, h2⟩)⟩
def thenR (C : Cx) (y : Code) (Q : Exit → FrameMode → St → Prop) : Exit → FrameMode → St → Prop
  | .normal, u, S => WpR C y u S Q
  | e, u, S => Q e u S
theorem WpR.seq {C : Cx} {x y : Code} {u : FrameMode} {S : St} {Q : Exit → FrameMode → St → Prop} (h : WpR C x u S (thenR C y Q)) : WpR C (.seq x y) u S Q := by
  refine ⟨fun O E a w c₀ cs hs => wpS_seq (wpS_mono ?_ (h.out O E a w c₀ cs hs))⟩
  rintro e a' cs' w' ⟨u', S', E', rfl, h1, h2⟩
  cases e with
  | normal => exact h1.out O E' a' w' c₀ cs h2
  | _ => exact ⟨u', S', E', rfl, h1, h2⟩
def blockR (id : Nat) (Q : Exit → FrameMode → St → Prop) : Exit → FrameMode → St → Prop
  | .exit id', u, S => bif Nat.beq id' id then Q .normal u S else Q (.exit id') u S
  | e, u, S => Q e u S
def condR (C : Cx) (x : SV) (u : FrameMode) (S : St) (c d : Code) (Q : Exit → FrameMode → St → Prop) : Prop :=
  match x with
  | .d (.val (.bool b)) => bif b then WpR C c u S Q else WpR C d u S Q
  | _ => False
theorem WpR.cond {C : Cx} {x : Operand} {c d : Code} {u : FrameMode} {S : St} {Q : Exit → FrameMode → St → Prop} (h : condR C (ev S x) u S c d Q) : WpR C (.cond x c d) u S Q :=
  ⟨fun O E a w c₀ cs hs => by
    have hx := ev_ok hs x
    unfold condR at h
    split at h
    · rename_i b e
      rw [e] at hx
      refine wpS_cond hx.val_inv ?_
      cases b
      · exact h.out O E a w c₀ cs hs
      · exact h.out O E a w c₀ cs hs
    · exact h.elim⟩
theorem WpR.region {C : Cx} {id : Nat} {l : List Oper} {u : FrameMode} {S : St} {Q : Exit → FrameMode → St → Prop} (h : execRc C l l u S fun u' S' => Q .normal u' S') : WpR C (.region id l.toArray false) u S Q :=
  ⟨fun O E a w c₀ cs hs => wpS_region_list (execRc_ok l h hs fun u' S' E' a' w' h1 h2 => ⟨u', S', E', rfl, h1, h2⟩)⟩
def WpRN (C : Cx) (c : Code) (Q : Exit → FrameMode → St → Prop) : Nat → FrameMode → St → Prop
  | 0, _, _ => False
  | n + 1, u, S => WpR C c u S fun e u' S' => match e with
    | .normal => WpRN C c Q n u' S'
    | e => Q e u' S'
def finR (C : Cx) (rs : List ResultVar) (m m' : Nat) (o : Out) (u' : FrameMode) (H' : List (Nat × Option Blk)) : Exit → FrameMode → St → Prop :=
  fun e u1 S => u1 = u' ∧ finO C rs m m' o H' e S
theorem FunD.mkR {C : Cx} {g m m' : Nat} {args : List SV} {H H' : List (Nat × Option Blk)} {u u' : FrameMode} {o : Out} {fn : Func} {c : Code} (hf : C.P.funcs[g]? = some fn) (hb : fn.body = some c) (hn : (fn.name == "runtime.NumGoroutine") = false) (hle : args.length ≤ fn.ntmps) (hmm : m ≤ m')
    (h : WpR C c u ⟨⟨fn.ntmps, m⟩, m, slots 0 args, H⟩ (finR C fn.results.toList m m' o u' H')) : FunD C g m args H u m' o u' H' := by
  refine ⟨.mk hf hn (by simp [hb]), hmm, fun E w vs hS hsz hargs => callsD_of_wpS hf hb fun c₀ cs hu => ?_⟩
  have hc : ({ c₀ with mode := u } : Frame) = c₀ := by subst hu; rfl
  have hh := h.out _ E _ w c₀ cs (sat_enter (C := C) hle hS hsz hargs)
  rw [hc] at hh
  refine wpS_mono ?_ hh
  rintro e a' cs' w' ⟨u1, S', E', rfl, ⟨rfl, hq⟩, hs'⟩
  have fin : ∀ r, o = .ret r → (resK C S' fn.results.toList fun vs => tupK vs fun x => FinLe m S' x m' r H') → bodyPostS C.P fn c₀ cs (fun e u2 w' => u2 = u1 ∧ ∃ E', PostH E m H w m' H' w' E' ∧ o.post E' m' w' e) .normal a' ({ c₀ with mode := u1 } :: cs) w' := by
    rintro r rfl hq
    obtain ⟨xs, us, h1, h2, h3, h4⟩ := resK_ok hs' _ _ hq
    obtain ⟨x, g1, g2⟩ := tupK_ok h3 h4 h1
    obtain ⟨E2, p1, p2⟩ := fin_ok hs' rfl rfl rfl rfl (fun l hl => ⟨rfl, rfl⟩) g1 g2
    refine ⟨hs'.df, u1, rfl, (if h : us.toArray.size = 1 then us.toArray[0] else .tuple us.toArray), ?_, rfl, E2, p1, p2⟩
    rw [results_eq, show fn.results = fn.results.toList.toArray by simp, List.mapM_toArray]
    simp only [Sem.run_bind, Sem.run_map, h2]
    rfl
  cases e with
  | normal =>
    cases o with
    | ret r => exact fin r rfl hq
    | pan ch => exact hq.elim
  | ret =>
    cases o with
    | ret r => exact fin r rfl hq
    | pan ch => exact hq.elim
  | panic ch =>
    obtain ⟨rfl, hq⟩ := hq
    obtain ⟨E2, p1, _⟩ := fin_ok hs' rfl rfl rfl rfl (fun l hl => ⟨rfl, rfl⟩) hq (.any undef)
    exact ⟨hs'.df, u1, rfl, rfl, E2, p1, rfl⟩
  | exit id => exact hq.elim
  | goto l => exact hq.elim
  | outgrown => exact hq.elim
end Go.Proofs.YteallmlkkcjblaaGreatDoor

namespace Go.Proofs.YteallmlkkcjblaaGreatDoor
open Go.RowKit
end Go.Proofs.YteallmlkkcjblaaGreatDoor

namespace Go.Proofs.YteallmlkkcjblaaGreatDoor
open Go.RowKit
end Go.Proofs.YteallmlkkcjblaaGreatDoor

namespace Go.Proofs.YteallmlkkcjblaaGreatDoor
open Go.RowKit
end Go.Proofs.YteallmlkkcjblaaGreatDoor

namespace Go.Proofs.YteallmlkkcjblaaGreatDoor
open Go.RowKit
end Go.Proofs.YteallmlkkcjblaaGreatDoor

namespace Go.Proofs.YteallmlkkcjblaaGreatDoor
open Go.RowKit
def frzK (S : St) (t : Nat) (k : St → Prop) : Prop :=
  match S with
  | ⟨nt, nx, fr, hp⟩ => t < nt.n ∧ imK ⟨nt, nx, fr, hp⟩ [lk fr t] fun S' ys => S'.nt = nt ∧ S'.nx = nx ∧ k ⟨nt, nx, (t, ys.headD .any) :: S'.fr, S'.hp⟩
theorem frzK_ok {O : Org} {E : Env} {S : St} {a : Act} {w : World} (hs : Sat O E S a w) {t : Nat} {k : St → Prop} (h : frzK S t k) : ∃ E' S', k S' ∧ Sat O E' S' a w := by
  obtain ⟨nt, nx, fr, hp⟩ := S
  obtain ⟨ht, h⟩ := h
  obtain ⟨E', S', ys, ⟨e1, e2, g1⟩, g2, g3, g4, g5⟩ := imK_ok [lk fr t] (us := [a.tmps.getD t undef]) hs rfl (fun j x v hx hv => by
    cases j with
    | zero =>
      obtain rfl : lk fr t = x := Option.some.inj hx
      obtain rfl : a.tmps.getD t undef = v := Option.some.inj hv
      exact hs.fr t
    | succ j => simp at hx) h
  obtain ⟨nt', nx', fr', hp'⟩ := S'
  dsimp only at e1 e2 g1
  subst e1 e2
  have hy : ys.length = 1 := g3
  match ys, hy with
  | [y], _ =>
    have hv : RS E' 0 w y (a.tmps.getD t undef) := g5 0 y _ rfl rfl
    refine ⟨E', _, g1, ⟨fun m => ?_, g2.nt, g2.df, g2.hp, g2.nx, g2.inj, g2.im, g2.own, g2.kq, g2.lab, g2.nl, g2.imo⟩⟩
    rw [show (([y] : List SV).headD .any) = y from rfl, lk_cons]
    by_cases e : t = m
    · subst e; rw [if_pos rfl]
      exact RS.mono (E := E') (fun _ _ => ⟨rfl, rfl⟩) (Nat.zero_le _) (fun _ h => h) (fun _ _ => rfl) hv
    · rw [if_neg e]; exact g2.fr m
def execF (C : Cx) (ops : List Oper) (fz : List Nat) : List Oper → St → (St → Prop) → Prop
  | [], S, k => k S
  | o :: r, S, k => execG C ops S o fun S' => match o.dst with
    | some t => bif fz.any (Nat.beq t) then frzK S' t fun S'' => execF C ops fz r S'' k else execF C ops fz r S' k
    | none => execF C ops fz r S' k
theorem execF_ok {C : Cx} {O : Org} {ops : List Oper} {fz : List Nat} {Q : Exit → Act → World → Prop} : ∀ (l : List Oper) {E : Env} {S : St} {a : Act} {w : World} {k : St → Prop}, execF C ops fz l S k → Sat O E S a w →
    (∀ S' E' a' w', k S' → Sat O E' S' a' w' → Q .normal a' w') → wpList C.P ops.toArray Q l a w
  | [], E, S, a, w, k, h, hs, hk => hk S E a w h hs
  | o :: r, E, S, a, w, k, h, hs, hk => by
    have h : execG C ops S o fun S' => match o.dst with
      | some t => bif fz.any (Nat.beq t) then frzK S' t fun S'' => execF C ops fz r S'' k else execF C ops fz r S' k
      | none => execF C ops fz r S' k := h
    refine execG_ok h hs fun S' E' a' w' h1 h2 => ?_
    split at h1
    · rename_i t ht
      cases hz : fz.any (Nat.beq t) with
      | false => rw [hz] at h1; exact execF_ok r h1 h2 hk
      | true =>
        rw [hz, cond_true] at h1
        obtain ⟨E2, S2, g1, g2⟩ := frzK_ok h2 h1
        exact execF_ok r g1 g2 hk
    · exact execF_ok r h1 h2 hk
theorem Wp.regionF (id : Nat) (fz : List Nat) {C : Cx} {l : List Oper} {S : St} {Q : Exit → St → Prop} (h : execF C l fz l S (Q .normal)) : Wp C (.region id l.toArray false) S Q :=
  ⟨fun _ _ _ _ hs => wp_region_lit (execF_ok l h hs fun S' E' a' w' h1 h2 => ⟨S', E', h1, h2⟩)⟩
end Go.Proofs.YteallmlkkcjblaaGreatDoor

namespace Go.Proofs.YteallmlkkcjblaaGreatDoor
open Go.RowKit
@[reducible] def gho (b : Nat) (X : Obj) : Blk := .obj b 0 0 (fun o _ => o = X) (fun _ => .any)
theorem HSat.gho {E : Env} {m : Nat} {H : List (Nat × Option Blk)} {w : World} {l b : Nat} {X : Obj} (h : HSat E m H w) (hl : lkh H l = some (gho b X)) : w.heap[b]? = some X := by
  obtain ⟨e, _, o, _, h1, rfl, _⟩ := h.hp l _ hl
  rw [e] at h1; exact h1
theorem HSat.kp {E : Env} {m : Nat} {H : List (Nat × Option Blk)} {w w' : World} (h : HSat E m H w) (k : Kp w w') : HSat E m H w' :=
  ⟨fun l b hb => BS.mono (h.nx l b hb) (fun _ _ => ⟨rfl, rfl⟩) (Nat.le_refl _) (fun _ h => h) (fun b hb => k.block b (h.im b hb).1) (fun hr => k.block _ ((h.hp l b hb).lt hr)) (h.hp l b hb),
    h.nx, h.inj, fun b hb => ⟨Nat.lt_of_lt_of_le (h.im b hb).1 k.size, (h.im b hb).2⟩⟩
theorem FunO.raw {C : Cx} {g m : Nat} {args : List SV} {H : List (Nat × Option Blk)} {o : Out} (ent : Enters C.P g)
    (h : ∀ (E : Env) (w : World) (vs : Array Value), HSat E m H w → vs.size = args.length → (∀ j (hj : j < args.length), RS E m w args[j] (vs.getD j undef)) → Calls C.P g vs w fun e w' => Kp w w' ∧ o.post E m w' e) : FunO C g m args H m o H :=
  ⟨ent, Nat.le_refl _, fun E w vs hS hsz ha => (h E w vs hS hsz ha).mono fun e w' ⟨k, ho⟩ => ⟨E, ⟨k.kq _, fun _ _ => ⟨rfl, rfl⟩, hS.kp k, fun b hb => .inl hb, fun b hb => .inl hb, fun _ h => h⟩, ho⟩⟩
theorem args_eq {E : Env} {nx : Nat} {w : World} (xs : List Value) {vs : Array Value} (hsz : vs.size = (xs.map fun v => SV.d (.val v)).length)
    (hargs : ∀ j (hj : j < (xs.map fun v => SV.d (.val v)).length), RS E nx w ((xs.map fun v => SV.d (.val v))[j]) (vs.getD j undef)) : vs = xs.toArray := by
  apply Array.ext (by simpa using hsz)
  intro i h1 h2
  have h3 := hargs i (by simpa using h2)
  rw [List.getElem_map] at h3
  have := h3.val_inv
  simpa [Array.getD, h1] using this
end Go.Proofs.YteallmlkkcjblaaGreatDoor

namespace Go.Proofs.YteallmlkkcjblaaGreatDoor
open Go.Shelf Go.RowKit Go.Lib
def gs_ren : Go.Shelf.Ren := ⟨fun | 144 => 36 | 143 => 47 | 219 => 52 | 217 => 56 | 225 => 57 | 224 => 58 | 267 => 59 | 266 => 64 | 314 => 65 | n => n, fun | 9 => 9 | 4 => 4 | 3 => 3 | 5 => 5 | 46 => 139 | 146 => 158 | 51 => 157 | n => n, fun | 1 => 3 | n => n⟩
theorem gs_lays : Go.Proofs.Lays.n144 Tryz.prog gs_ren := {
  mixed := by kernel_rfl
  f143 := Tryz.func47.trans (congrArg some (by kernel_rfl))
  f144 := Tryz.func36.trans (congrArg some (by kernel_rfl))
  f217 := Tryz.func56.trans (congrArg some (by kernel_rfl))
  f219 := Tryz.func52.trans (congrArg some (by kernel_rfl))
  f224 := Tryz.func58.trans (congrArg some (by kernel_rfl))
  f225 := Tryz.func57.trans (congrArg some (by kernel_rfl))
  f266 := Tryz.func64.trans (congrArg some (by kernel_rfl))
  f267 := Tryz.func59.trans (congrArg some (by kernel_rfl))
  f314 := Tryz.func65.trans (congrArg some (by kernel_rfl))
  t3 := Tryz.underlying3
  a3 := Tryz.isAgg3
  z3 := Tryz.sizeOf3
  v3 := Tryz.zeroValue3
  t4 := Tryz.underlying4
  a4 := Tryz.isAgg4
  z4 := Tryz.sizeOf4
  v4 := Tryz.zeroValue4
  t5 := Tryz.underlying5
  a5 := Tryz.isAgg5
  z5 := Tryz.sizeOf5
  v5 := Tryz.zeroValue5
  t9 := Tryz.underlying9
  a9 := Tryz.isAgg9
  z9 := Tryz.sizeOf9
  v9 := Tryz.zeroValue9
  t46 := Tryz.underlying139
  a46 := Tryz.isAgg139
  z46 := Tryz.sizeOf139
  v46 := Tryz.zeroValue139
  t51 := Tryz.underlying157
  a51 := Tryz.isAgg157
  z51 := Tryz.sizeOf157
  v51 := Tryz.zeroValue157
  t146 := Tryz.underlying158
  a146 := Tryz.isAgg158
  z146 := Tryz.sizeOf158
  v146 := Tryz.zeroValue158
  g1 := by kernel_rfl }
theorem gs_Contains (s sub : ByteArray) (m : Int) (w : World) (hs : s.size < 4294967281) (hm : w.cell? ⟨3, 0, none⟩ = some (.int .i64 m)) :
    Calls Tryz.prog 36 #[.string s, .string sub] w fun e w' => e = .returned (.bool (Lib.contains s.data.toList sub.data.toList)) ∧ w' = w := Any.strings_Contains gs_lays s sub m w hs hm
def gs_renM : Go.Shelf.Ren := ⟨fun | 144 => 36 | 143 => 47 | 219 => 52 | 217 => 56 | 225 => 57 | 224 => 58 | 267 => 59 | 266 => 64 | 314 => 65 | n => n, fun | 9 => 9 | 4 => 4 | 3 => 3 | 5 => 5 | 46 => 139 | 146 => 158 | 51 => 157 | n => n, fun | 1 => 3 | n => n⟩
theorem gs_laysM : Go.Proofs.LaysM.n144 Tryz.prog gs_renM := {
  mixed := by kernel_rfl
  f143 := Tryz.func47.trans (congrArg some (by kernel_rfl))
  f144 := Tryz.func36.trans (congrArg some (by kernel_rfl))
  f217 := Tryz.func56.trans (congrArg some (by kernel_rfl))
  f219 := Tryz.func52.trans (congrArg some (by kernel_rfl))
  f224 := Tryz.func58.trans (congrArg some (by kernel_rfl))
  f225 := Tryz.func57.trans (congrArg some (by kernel_rfl))
  f266 := Tryz.func64.trans (congrArg some (by kernel_rfl))
  f267 := Tryz.func59.trans (congrArg some (by kernel_rfl))
  f314 := Tryz.func65.trans (congrArg some (by kernel_rfl))
  t3 := Tryz.underlying3
  a3 := Tryz.isAgg3
  z3 := Tryz.sizeOf3
  v3 := Tryz.zeroValue3
  t4 := Tryz.underlying4
  a4 := Tryz.isAgg4
  z4 := Tryz.sizeOf4
  v4 := Tryz.zeroValue4
  t5 := Tryz.underlying5
  a5 := Tryz.isAgg5
  z5 := Tryz.sizeOf5
  v5 := Tryz.zeroValue5
  t9 := Tryz.underlying9
  a9 := Tryz.isAgg9
  z9 := Tryz.sizeOf9
  v9 := Tryz.zeroValue9
  t46 := Tryz.underlying139
  a46 := Tryz.isAgg139
  z46 := Tryz.sizeOf139
  v46 := Tryz.zeroValue139
  t51 := Tryz.underlying157
  a51 := Tryz.isAgg157
  z51 := Tryz.sizeOf157
  v51 := Tryz.zeroValue157
  t146 := Tryz.underlying158
  a146 := Tryz.isAgg158
  z146 := Tryz.sizeOf158
  v146 := Tryz.zeroValue158
  g1 := by kernel_rfl
  i3 := by kernel_rfl
  i4 := by kernel_rfl
  i5 := by kernel_rfl
  i9 := by kernel_rfl
  i46 := by kernel_rfl
  i51 := by kernel_rfl
  i146 := by kernel_rfl
  m1 := by kernel_rfl
  s1_3 := fun w h => Go.Proofs.cell_of_shapedOpen_int (zero := #[.int .i64 0]) (t := 3) h (of_decide_eq_true (by kernel_rfl)) (by kernel_rfl) rfl (by kernel_rfl) (by kernel_rfl) Tryz.underlying3 }
end Go.Proofs.YteallmlkkcjblaaGreatDoor

namespace Go.Proofs.YteallmlkkcjblaaGreatDoor
open Go.RowKit Go.Extern.Stop Go.Stop Go.Extern
theorem gz_valueOf (t : Addr) (w : World) : (ReflectliteValue.unpack (.iface 87 (.pointer (some t)))).run Tryz.prog w
    = .ok (.agg #[.pointer (some ⟨14, 87, none⟩), .pointer (some ⟨w.heap.size, 0, none⟩), .int .u64 150]) (w.alloc (.cells #[.pointer (some t)] 87)) := by kernel_rfl
theorem gz_type (a : Addr) (w : World) : (ReflectliteValue.methodAny (ReflectliteValue.valueError "reflectlite.Value.Type" 0) (fun t _ _ _ => ReflectliteType.toType t) #[.agg #[.pointer (some ⟨14, 87, none⟩), .pointer (some a), .int .u64 150]]).run Tryz.prog w
    = .ok (.iface 117 (.agg #[.pointer (some ⟨14, 87, none⟩)])) w := by kernel_rfl
theorem gz_mKind (h : Value) (w : World) : (Go.method 311 117 (.agg #[h]) "Kind").run Tryz.prog w = .ok (87, h) w := by kernel_rfl
theorem gz_kindP (w : World) : ((ReflectliteType.abiMethod fun t => (fun a : Nat => Value.int IntKind.u8 (a : Int)) <$> Rtype.kind t) #[.pointer (some ⟨14, 87, none⟩)]).run Tryz.prog w = .ok (.int .u8 22) w := by kernel_rfl
theorem gz_kindI (w : World) : ((ReflectliteType.abiMethod fun t => (fun a : Nat => Value.int IntKind.u8 (a : Int)) <$> Rtype.kind t) #[.pointer (some ⟨14, 81, none⟩)]).run Tryz.prog w = .ok (.int .u8 2) w := by kernel_rfl
theorem gz_rlm (z : Sem Value) (f : TypeId → Addr → Nat → Nat → Sem Value) (v : Value) :
    ReflectliteValue.method z f #[v] = (do match ← ReflectliteValue.parts v with | none => z | some (t, a, fl) => f t a fl (fl % 32)) := rfl
theorem gz_parts (a : Addr) (w : World) : (ReflectliteValue.parts (.agg #[.pointer (some ⟨14, 87, none⟩), .pointer (some a), .int .u64 150])).run Tryz.prog w = .ok (some (87, a, 150)) w := by kernel_rfl
theorem gz_isNil (a p : Addr) (W : World) (ha : W.cell? a = some (.pointer (some p))) :
    (ReflectliteValue.method (ReflectliteValue.valueError "reflectlite.Value.IsNil" 0) ReflectliteValue.isNil #[.agg #[.pointer (some ⟨14, 87, none⟩), .pointer (some a), .int .u64 150]]).run Tryz.prog W = .ok (.bool false) W := by
  rw [gz_rlm]
  simp only [Sem.run_bind, gz_parts, Result.andThen]
  simp [ReflectliteValue.isNil, loadVar, isAgg, underlying, Tryz.underlying87, ha, Result.andThen]
theorem gz_mElem (h : Value) (w : World) : (Go.method 311 117 (.agg #[h]) "Elem").run Tryz.prog w = .ok (113, .agg #[h]) w := by kernel_rfl
theorem gz_mImpl (h : Value) (w : World) : (Go.method 311 117 (.agg #[h]) "Implements").run Tryz.prog w = .ok (114, .agg #[h]) w := by kernel_rfl
theorem gz_mAssign (h : Value) (w : World) : (Go.method 311 117 (.agg #[h]) "AssignableTo").run Tryz.prog w = .ok (111, .agg #[h]) w := by kernel_rfl
theorem gz_elem (w : World) : (ReflectliteType.method ReflectliteType.elem #[.agg #[.pointer (some ⟨14, 87, none⟩)]]).run Tryz.prog w = .ok (.iface 117 (.agg #[.pointer (some ⟨14, 81, none⟩)])) w := by kernel_rfl
theorem gz_impl (w : World) : (ReflectliteType.relation "Implements" ReflectliteType.implements_ #[.agg #[.pointer (some ⟨14, 81, none⟩)], .iface 117 (.agg #[.pointer (some ⟨14, 83, none⟩)])]).run Tryz.prog w = .ok (.bool true) w := by kernel_rfl
theorem gz_typeOf (v : Value) (w : World) : (ReflectliteType.typeOf #[.iface 10 v]).run Tryz.prog w = .ok (.iface 117 (.agg #[.pointer (some ⟨14, 10, none⟩)])) w := by kernel_rfl
theorem gz_assign (w : World) : (ReflectliteType.relation "AssignableTo" ReflectliteType.assignableTo #[.agg #[.pointer (some ⟨14, 10, none⟩)], .iface 117 (.agg #[.pointer (some ⟨14, 81, none⟩)])]).run Tryz.prog w = .ok (.bool false) w := by kernel_rfl
end Go.Proofs.YteallmlkkcjblaaGreatDoor

namespace Go.Proofs.YteallmlkkcjblaaGreatDoor
open Go.RowKit Go.Extern.Stop Go.Stop Go.Extern
theorem gz_noAs (v : Value) (w : World) : (Instr.typeAssert (.iface 10 v) 83 122 true).run Tryz.prog w = .ok (.tuple #[.nilIface, .bool false]) w := run_typeAssert_lacksB Tryz.underlying122 (by kernel_rfl) (by kernel_rfl) v 83 w
theorem gz_noUn (v : Value) (w : World) : (Instr.typeAssert (.iface 10 v) 83 125 true).run Tryz.prog w = .ok (.tuple #[.nilIface, .bool false]) w := run_typeAssert_lacksB Tryz.underlying125 (by kernel_rfl) (by kernel_rfl) v 83 w
theorem gz_noUs (v : Value) (w : World) : (Instr.typeAssert (.iface 10 v) 83 127 true).run Tryz.prog w = .ok (.tuple #[.nilIface, .bool false]) w := run_typeAssert_lacksB Tryz.underlying127 (by kernel_rfl) (by kernel_rfl) v 83 w
set_option maxHeartbeats 4000000
theorem as_in (s : ByteArray) (t a : Addr) (w : World) :
    Calls Tryz.prog 35 #[.iface 10 (.string s), .iface 87 (.pointer (some t)), .agg #[.pointer (some ⟨14, 87, none⟩), .pointer (some a), .int .u64 150], .iface 117 (.agg #[.pointer (some ⟨14, 81, none⟩)])] w
      fun ev w' => ev = .returned (.bool false) ∧ w' = w.alloc (.cells #[.pointer (some ⟨14, 87, none⟩), .pointer (some a), .int .u64 150] 95) := by
  have h44 := @run_callFunc_extern Tryz.prog 44 _ ReflectliteType.typeOf Tryz.func44 (by kernel_rfl) (by kernel_rfl) (by kernel_rfl) (by kernel_rfl)
  have h111 := @run_callFunc_extern Tryz.prog 111 _ (ReflectliteType.relation "AssignableTo" ReflectliteType.assignableTo) Tryz.func111 (by kernel_rfl) (by kernel_rfl) (by kernel_rfl) (by kernel_rfl)
  have tO := gz_typeOf
  have mA := gz_mAssign
  have aF := gz_assign
  have n1 := gz_noAs
  have n2 := gz_noUn
  have n3 := gz_noUs
  go_enter Tryz.func35, Tryz.ntmps35
  go_wp2
  refine wp_loop_rounds 1 ?_
  rw [rounds_succ]
  go_wp2
  go_ret
  exact ⟨rfl, rfl⟩
theorem as_miss (s : ByteArray) (t : Addr) (w : World) (hg : w.cell? ⟨0, 0, none⟩ = some (.iface 117 (.agg #[.pointer (some ⟨14, 83, none⟩)]))) :
    Calls Tryz.prog 27 #[.iface 10 (.string s), .iface 87 (.pointer (some t))] w
      fun ev w' => ev = .returned (.bool false) ∧ Kp w w' := by
  have h32 := @run_callFunc_extern Tryz.prog 32 _ (fun args => ReflectliteValue.unpack (args.getD 0 (.tuple #[]))) Tryz.func32 (by kernel_rfl) (by kernel_rfl) (by kernel_rfl) (by kernel_rfl)
  have h33 := @run_callFunc_extern Tryz.prog 33 _ (ReflectliteValue.methodAny (ReflectliteValue.valueError "reflectlite.Value.Type" 0) (fun t _ _ _ => ReflectliteType.toType t)) Tryz.func33 (by kernel_rfl) (by kernel_rfl) (by kernel_rfl) (by kernel_rfl)
  have h34 := @run_callFunc_extern Tryz.prog 34 _ (ReflectliteValue.method (ReflectliteValue.valueError "reflectlite.Value.IsNil" 0) ReflectliteValue.isNil) Tryz.func34 (by kernel_rfl) (by kernel_rfl) (by kernel_rfl) (by kernel_rfl)
  have h87 := @run_callFunc_extern Tryz.prog 87 _ (ReflectliteType.abiMethod fun t => do pure (.int .u8 (← Rtype.kind t))) Tryz.func87 (by kernel_rfl) (by kernel_rfl) (by kernel_rfl) (by kernel_rfl)
  have h113 := @run_callFunc_extern Tryz.prog 113 _ (ReflectliteType.method ReflectliteType.elem) Tryz.func113 (by kernel_rfl) (by kernel_rfl) (by kernel_rfl) (by kernel_rfl)
  have h114 := @run_callFunc_extern Tryz.prog 114 _ (ReflectliteType.relation "Implements" ReflectliteType.implements_) Tryz.func114 (by kernel_rfl) (by kernel_rfl) (by kernel_rfl) (by kernel_rfl)
  have f6 := gz_valueOf
  have f7 := gz_type
  have mK := gz_mKind
  have mE := gz_mElem
  have mI := gz_mImpl
  have k1 := gz_kindP
  have k2 := gz_kindI
  have e1 := gz_elem
  have i1 := gz_impl
  have n8 := gz_isNil ⟨w.heap.size, 0, none⟩ t ((w.alloc (.cells #[.pointer (some t)] 87)).alloc (.cells #[.pointer (some ⟨14, 87, none⟩), .pointer (some ⟨w.heap.size, 0, none⟩), .int .u64 150] 95)) (by simp)
  have hlt : 0 < w.heap.size := by
    rcases Nat.eq_zero_or_pos w.heap.size with h0 | h
    · simp [World.cell?, h0] at hg
    · exact h
  have hg2 : ((w.alloc (.cells #[.pointer (some t)] 87)).alloc (.cells #[.pointer (some ⟨14, 87, none⟩), .pointer (some ⟨w.heap.size, 0, none⟩), .int .u64 150] 95)).cell? ⟨0, 0, none⟩ = some (.iface 117 (.agg #[.pointer (some ⟨14, 83, none⟩)])) := by
    rw [World.cell?_alloc_lt _ _ ⟨0, 0, none⟩ (by simp), World.cell?_alloc_lt _ _ ⟨0, 0, none⟩ hlt]; exact hg
  go_enter Tryz.func27, Tryz.ntmps27
  go_wp2_with (go_at_call 35; refine (as_in _ _ _ _).mono ?_; rintro e w' ⟨rfl, rfl⟩)
  go_ret
  exact ⟨rfl, (((Kp.refl w).alloc _).alloc _).alloc _⟩
end Go.Proofs.YteallmlkkcjblaaGreatDoor

namespace Go.Proofs.YteallmlkkcjblaaGreatDoor
open Go.RowKit Go.Extern.Stop Go.Stop Go.Extern
set_option maxHeartbeats 4000000
set_option maxRecDepth 100000
def gzD : ByteArray := ⟨#[105, 110, 116, 101, 103, 101, 114, 32, 100, 105, 118, 105, 100, 101, 32, 98, 121, 32, 122, 101, 114, 111]⟩
def gzS : ByteArray := ⟨#[114, 117, 110, 116, 105, 109, 101, 32, 101, 114, 114, 111, 114, 58, 32, 105, 110, 116, 101, 103, 101, 114, 32, 100, 105, 118, 105, 100, 101, 32, 98, 121, 32, 122, 101, 114, 111]⟩
@[reducible] def gzV : Value := .iface 10 (.string gzD)
theorem gz_text (w : World) : (((fun args => do pure (.string ("runtime error: ".toUTF8 ++ (← asString (args.getD 0 (.tuple #[])))))) : Array Value → Sem Value) #[.string gzD]).run Tryz.prog w = .ok (.string gzS) w := by kernel_rfl
theorem gz_c1 (m : Int) (w : World) (hm : w.cell? ⟨3, 0, none⟩ = some (.int .i64 m)) : Calls Tryz.prog 36 #[.string gzS, .string ⟨#[112, 97, 110, 105, 99, 32, 99, 97, 108, 108, 101, 100, 32, 119, 105, 116, 104, 32, 110, 105, 108]⟩] w fun e w' => e = .returned (.bool false) ∧ w' = w :=
  (gs_Contains gzS _ m w (by decide) hm).mono fun e w' ⟨h1, h2⟩ => ⟨h1.trans (by rw [show Lib.contains gzS.data.toList _ = false from by decide +kernel]), h2⟩
theorem gz_c2 (m : Int) (w : World) (hm : w.cell? ⟨3, 0, none⟩ = some (.int .i64 m)) : Calls Tryz.prog 36 #[.string gzS, .string ⟨#[100, 105, 118, 105, 100, 101, 32, 98, 121, 32, 122, 101, 114, 111]⟩] w fun e w' => e = .returned (.bool true) ∧ w' = w :=
  (gs_Contains gzS _ m w (by decide) hm).mono fun e w' ⟨h1, h2⟩ => ⟨h1.trans (by rw [show Lib.contains gzS.data.toList _ = true from by decide +kernel]), h2⟩
theorem gz_class (m : Int) (w : World) (hm : w.cell? ⟨3, 0, none⟩ = some (.int .i64 m)) : Calls Tryz.prog 28 #[.string gzS] w fun e w' => e = .returned (.int .u8 15) ∧ Kp w w' := by
  have hlt : 3 < w.heap.size := by
    rcases Nat.lt_or_ge 3 w.heap.size with h | h
    · exact h
    · simp [World.cell?, Array.getElem?_eq_none h] at hm
  have hmm : ∀ w', Kp w w' → w'.cell? ⟨3, 0, none⟩ = some (.int .i64 m) := fun w' h => (h.cell hlt).trans hm
  go_enter Tryz.func28, Tryz.ntmps28
  go_wp2
  refine wp_loop_rounds 2 ?_
  rw [rounds_succ]
  go_wp2_with (go_at_call 36; refine (gz_c1 m _ (hmm _ (by repeat (first | exact Kp.refl _ | refine Kp.alloc ?_ _ | refine Kp.drew ?_)))).mono ?_; rintro e w' ⟨rfl, rfl⟩)
  rw [rounds_succ]
  go_wp2_with (go_at_call 36; refine (gz_c2 m _ (hmm _ (by repeat (first | exact Kp.refl _ | refine Kp.alloc ?_ _ | refine Kp.drew ?_)))).mono ?_; rintro e w' ⟨rfl, rfl⟩)
  go_ret
  exact ⟨rfl, by repeat (first | exact Kp.refl _ | refine Kp.alloc ?_ _ | refine Kp.drew ?_)⟩
theorem gz_isErr (v : Value) (w : World) : (Instr.typeAssert (.iface 10 v) 20 83 true).run Tryz.prog w = .ok (.tuple #[.iface 10 v, .bool true]) w := run_typeAssert_hasB Tryz.underlying83 (by kernel_rfl) v 20 w
theorem gz_noInt (v : Value) (w : World) : (Instr.typeAssert (.iface 10 v) 20 3 true).run Tryz.prog w = .ok (.tuple #[.int .i64 0, .bool false]) w := by kernel_rfl
theorem gz_noStr (v : Value) (w : World) : (Instr.typeAssert (.iface 10 v) 20 9 true).run Tryz.prog w = .ok (.tuple #[.string ⟨#[]⟩, .bool false]) w := by kernel_rfl
theorem gz_mErr (v : Value) (w : World) : (Go.method 311 10 v "Error").run Tryz.prog w = .ok (75, v) w := by kernel_rfl
theorem gz_callErr (w : World) : (callFunc 75 #[.string gzD]).run Tryz.prog w = .ok (.value (.string gzS)) w := by
  rw [@run_callFunc_extern Tryz.prog 75 _ (fun args => do pure (.string ("runtime error: ".toUTF8 ++ (← asString (args.getD 0 (.tuple #[])))))) Tryz.func75 (by kernel_rfl) (by kernel_rfl) (by kernel_rfl) (by kernel_rfl), gz_text]
  rfl
theorem gz_told (m : Int) (w : World) (hm : w.cell? ⟨3, 0, none⟩ = some (.int .i64 m)) (hg : w.cell? ⟨0, 0, none⟩ = some (.iface 117 (.agg #[.pointer (some ⟨14, 83, none⟩)]))) :
    Calls Tryz.prog 21 #[.iface 10 (.string gzD)] w fun e w' => e = .returned (.agg #[.int .u8 15, .int .i64 0]) ∧ Kp w w' := by
  have hlt : 3 < w.heap.size := by
    rcases Nat.lt_or_ge 3 w.heap.size with h | h
    · exact h
    · simp [World.cell?, Array.getElem?_eq_none h] at hm
  have hmm : ∀ w', Kp w w' → w'.cell? ⟨3, 0, none⟩ = some (.int .i64 m) := fun w' h => (h.cell hlt).trans hm
  have hgg : ∀ w', Kp w w' → w'.cell? ⟨0, 0, none⟩ = some (.iface 117 (.agg #[.pointer (some ⟨14, 83, none⟩)])) := fun w' h => (h.cell (p := ⟨0, 0, none⟩) (by show 0 < _; omega)).trans hg
  have mE := gz_mErr
  have cE := gz_callErr
  have iE := gz_isErr
  have nI := gz_noInt
  have nS := gz_noStr
  go_enter Tryz.func21, Tryz.ntmps21
  go_wp2_with (go_at_call 27; refine (as_miss _ _ _ (hgg _ (by repeat (first | exact Kp.refl _ | refine Kp.alloc ?_ _ | refine Kp.drew ?_)))).mono ?_; rintro e w1 ⟨rfl, k1⟩; have q0 : Kp w w1 := (((Kp.refl w).alloc _).alloc _).trans k1; have q1 := k1.cellB w.heap.size (by simp only [World.size_alloc]; omega); have q2 := k1.frozenB w.heap.size (by simp only [World.size_alloc]; omega); have q3 := k1.size; have q4 := hmm w1 q0)
  go_wp2_with (go_at_call 28; refine (gz_class m _ q4).mono ?_; rintro e w2 ⟨rfl, k2⟩; have q5 := k2.cellB w.heap.size (by simp only [World.size_alloc] at q3; omega); have q6 := k2.frozenB w.heap.size (by simp only [World.size_alloc] at q3; omega))
  (try simp only [Exit.inBlock, Exit.then])
  refine bodyPost_ret (v := .agg #[.int .u8 15, .int .i64 0]) ?_ rfl ?_
  · rw [results_eq, show (Tryz.f21).results = #[.cell 2 29] from rfl]
    have a0 : w2.cell? ⟨w.heap.size, 0, none⟩ = some (.int .u8 0) := by rw [q5, q1]; simp
    have a1 : w2.cell? ⟨w.heap.size, 1, none⟩ = some (.int .i64 0) := by rw [q5, q1]; simp
    have b0 := World.cell?_setCell_same w2 ⟨w.heap.size, 0, none⟩ (.int .u8 15) a0
    have b1 : (w2.setCell ⟨w.heap.size, 0, none⟩ (.int .u8 15)).cell? ⟨w.heap.size, 1, none⟩ = some (.int .i64 0) := by rw [World.cell?_setCell_other _ _ _ _ (by simp)]; exact a1
    have c1 := World.cell?_setCell_same _ ⟨w.heap.size, 1, none⟩ (.int .i64 0) b1
    have c0 : ((w2.setCell ⟨w.heap.size, 0, none⟩ (.int .u8 15)).setCell ⟨w.heap.size, 1, none⟩ (.int .i64 0)).cell? ⟨w.heap.size, 0, none⟩ = some (.int .u8 15) := by rw [World.cell?_setCell_other _ _ _ _ (by simp)]; exact b0
    have ld := run_loadCells (P := Tryz.prog) ((w2.setCell ⟨w.heap.size, 0, none⟩ (.int .u8 15)).setCell ⟨w.heap.size, 1, none⟩ (.int .i64 0)) ⟨w.heap.size, 0, none⟩ 2 (fun j => if j = 0 then .int .u8 15 else .int .i64 0) (fun j hj => by
      have : j = 0 ∨ j = 1 := by omega
      rcases this with rfl | rfl
      · exact c0
      · exact c1)
    simp [resS, loadVar, isAgg, underlying, Tryz.underlying29, Result.andThen, asAddr, ld, List.range, List.range.loop]
  · exact ⟨rfl, Kp.setCell (Kp.setCell (q0.trans k2) (Nat.le_refl _) _) (Nat.le_refl _) _⟩
end Go.Proofs.YteallmlkkcjblaaGreatDoor

namespace Go.Proofs.YteallmlkkcjblaaGreatDoor
open Go.RowKit Go.Extern.Stop Go.Stop Go.Extern
set_option maxHeartbeats 4000000
set_option maxRecDepth 100000
theorem gz_mk (w : World) : (Instr.makeChan 134 (.int .i64 1)).run Tryz.prog w = .ok (.chan (some w.heap.size)) (w.alloc (.chan 1 #[] false 0 0 false)) := by kernel_rfl
theorem gz_cl (w : World) (ats : Array TypeId) (ty : TypeId) : ∃ W, (Builtin.close_ ats ty #[.chan (some w.heap.size)]).run Tryz.prog (w.alloc (.chan 1 #[] false 0 0 false)) = .ok (.tuple #[]) W ∧ Kp w W := by
  have h : (w.alloc (.chan 1 #[] false 0 0 false)).heap[w.heap.size]? = some (.chan 1 #[] false 0 0 false) := heap_alloc_new w _
  refine ⟨{ (w.alloc (.chan 1 #[] false 0 0 false)) with heap := (w.alloc (.chan 1 #[] false 0 0 false)).heap.setIfInBounds w.heap.size (.chan 1 #[] true 0 0 false) }, ?_, ?_⟩
  · exact run_close_open ats ty h
  · refine ⟨rfl, rfl, rfl, by simp, fun k hk => ?_⟩
    show ((w.heap.push _).setIfInBounds w.heap.size _)[k]? = _
    rw [Array.getElem?_setIfInBounds_ne (by omega), Array.getElem?_push_lt hk, Array.getElem?_eq_getElem hk]
theorem gz_nought (w : World) : Calls Tryz.prog 38 #[.int .u8 15, .int .i64 0, .slice none 0 0, .map none, .pointer none] w fun e w' => e = .panicked [{ v := gzV, recovered := false }] ∧ Kp w w' := by
  have mk := gz_mk
  obtain ⟨W, cl, kW⟩ := gz_cl w #[134] 0
  go_enter Tryz.func38, Tryz.ntmps38
  go_wp2
  exact ⟨rfl, rfl, kW⟩
end Go.Proofs.YteallmlkkcjblaaGreatDoor

namespace Go.Proofs.YteallmlkkcjblaaGreatDoor
open Go.RowKit
end Go.Proofs.YteallmlkkcjblaaGreatDoor

namespace Go.Proofs.YteallmlkkcjblaaGreatDoor
open Go.RowKit
end Go.Proofs.YteallmlkkcjblaaGreatDoor

namespace Go.Proofs.YteallmlkkcjblaaGreatDoor
open Go.RowKit
set_option maxRecDepth 100000
end Go.Proofs.YteallmlkkcjblaaGreatDoor

namespace Go.Proofs.YteallmlkkcjblaaGreatDoor
open Go.RowKit
set_option maxRecDepth 100000
set_option maxHeartbeats 4000000
structure GH (X Y : Obj) (m : Int) : Prop where
  x : ∀ w : World, w.heap[0]? = some X → w.cell? ⟨0, 0, none⟩ = some (.iface 117 (.agg #[.pointer (some ⟨14, 83, none⟩)]))
  y : ∀ w : World, w.heap[3]? = some Y → w.cell? ⟨3, 0, none⟩ = some (.int .i64 m)
@[reducible] def actD (a : Int × Int) : List D := [.val (.int .u8 a.1), .val (.int .i64 a.2)]
@[reducible] def gzP : D := .sl 1 1 fun _ => [.sl 2 1 fun _ => actD (15, 0)]
@[reducible] def gzC (r : Bool) : List PanicEntry := [{ v := .iface 10 (.string gzD), recovered := r }]
theorem told_div {X Y : Obj} {m : Int} (h : GH X Y m) : Fun TC 21 2 [.d (.val (.iface 10 (.string gzD)))] [(0, some (gho 0 X)), (1, some (gho 3 Y))] 2 (.agg [.i .u8 15, .i .i64 0]) [(0, some (gho 0 X)), (1, some (gho 3 Y))] := by
  refine (FunO.raw (o := .ret (.agg [.i .u8 15, .i .i64 0])) (.mk Tryz.func21 rfl rfl) fun E w vs hS hsz ha => ?_).fun
  obtain rfl := args_eq [.iface 10 (.string gzD)] hsz ha
  refine (gz_told m w (h.y w (hS.gho (l := 1) rfl)) (h.x w (hS.gho (l := 0) rfl))).mono ?_
  rintro e w' ⟨rfl, k⟩
  refine ⟨k, .agg _ _ rfl (fun j hj => ?_) fun j hj => ?_⟩
  · have : j = 0 ∨ j = 1 := by simp at hj; omega
    rcases this with rfl | rfl <;> rfl
  · have : j = 0 ∨ j = 1 := by simp at hj; omega
    rcases this with rfl | rfl
    · exact .d _ _ (.val _ rfl)
    · exact .d _ _ (.val _ rfl)
theorem nought_div : FunO TC 38 0 [.i .u8 15, .i .i64 0, .d (.val (.slice none 0 0)), .d (.val (.map none)), .d (.val (.pointer none))] [] 0 (.pan (gzC false)) [] := by
  refine FunO.raw (.mk Tryz.func38 rfl rfl) fun E w vs hS hsz ha => ?_
  obtain rfl := args_eq [.int .u8 15, .int .i64 0, .slice none 0 0, .map none, .pointer none] hsz ha
  refine (gz_nought w).mono ?_
  rintro e w' ⟨rfl, k⟩
  exact ⟨k, rfl⟩
theorem raise_div : FunO TC 29 0 [.agg [.i .u8 15, .i .i64 0]] [] 0 (.pan (gzC false)) [] := by
  refine FunO.mkX Tryz.func29 rfl rfl (Nat.le_of_ble_eq_true rfl) (Nat.le_refl _) (WpX.of ?_)
  (repeat' (first
    | ((refine Wp.regionP 10 ?_); conv => whnf)
    | ((with_reducible refine And.intro (show Oper.guard _ = none from rfl) ?_); conv => whnf)
    | with_reducible refine Wp.seq ?_
    | with_reducible refine Wp.block ?_
    | ((with_reducible first | refine Wp.region ?_ | refine Wp.drawL TC_mixed ?_ | refine Wp.cond ?_ | refine Wp.ret ?_ | refine Wp.skip ?_ | refine Wp.exit ?_ | refine Go.mk ?_ | apply Eff1.of); conv => whnf)
    | with_reducible exact rfl
    | ((with_reducible refine Ov.ok zO ?_); conv => whnf)
    | (with_reducible refine Ov.sh1 (by with_unfolding_all exact rfl) ?_)
    | ((with_reducible refine Ov.quo (by omega) (by omega) (by omega) (fun _ _ => ?_)); conv => whnf)
    | ((with_reducible refine And.intro (show drawOK _ _ _ _ = true by kernel_rfl) ?_); conv => whnf)
    | ((with_reducible refine And.intro zC ?_); conv => whnf)
    | ((with_reducible refine And.intro ?hb ?_); (case hb => exact bytes_bd (Nat.le_of_ble_eq_true rfl) (by omega)); (conv => whnf))
    | ((refine DApp.a rfl rfl rfl rfl rfl rfl ?hb ?_); (case hb => exact zB); (conv => whnf))
    | ((refine DApp.b rfl rfl rfl rfl rfl rfl rfl rfl ?hb ?ho ?_); (case hb => exact zB); (case ho => omega); (conv => whnf))
    | ((refine DApp.c rfl rfl rfl rfl rfl ?hb ?_); (case hb => exact zB); (conv => whnf))
    | ((refine DApp.d rfl rfl rfl rfl rfl rfl ?hb ?ho ?_); (case hb => exact zB); (case ho => omega); (conv => whnf))
    | (with_reducible refine Or.inl ?_)
    | ((with_reducible refine IxA.ptr ?_); conv => whnf)
    | ((with_reducible refine nil_no (by omega) ?_); (conv => whnf))
    | ((with_reducible refine nil_any ?_ (fun hn0 => ?_)) <;> (conv => whnf))
    | ((refine PanStop.fn nought_div [] rfl rfl rfl rfl rfl ?ha ?hh ?_); (case ha => exact zA); (case hh => exact zH); (conv => whnf))
    | ((refine ways (fun hc => ?_) (fun hc => ?_)) <;> (try simp only [decide_eq_true_eq, decide_eq_false_iff_not, Bool.and_eq_true, Bool.or_eq_true, Bool.and_eq_false_iff, Bool.or_eq_false_iff, Bool.not_eq_true', Bool.not_eq_false', beq_iff_eq, bne_iff_ne, ne_eq, beq_eq_false_iff_ne, bne_eq_false_iff_eq, Bool.not_eq_true, Bool.not_eq_false] at hc) <;> (try (exfalso; omega)) <;> (conv => whnf))))
  exact ⟨rfl, FinLe.of [] rfl (fun i hi => absurd hi (Nat.not_lt_zero _)) rfl (.rfl _) trivial⟩
theorem frame_div : FunO TC 22 1 [.ptr 0 0, .i .i64 0] [(0, some (.cells [.d gzP, .i .i64 4096, .d (.val (.slice none 0 0))]))]
    1 (.pan (gzC false)) [(0, some (.cells [.d gzP, .i .i64 4095, .d (.val (.slice none 0 0))]))] := by
  refine FunO.mkX Tryz.func22 rfl rfl (Nat.le_of_ble_eq_true rfl) (by decide) ?_
  (repeat' (first
    | ((with_reducible refine And.intro (show Oper.guard _ = none from rfl) ?_); conv => whnf)
    | ((with_reducible refine And.intro (show Oper.guard _ = none ∧ Oper.dst _ = none from ⟨rfl, rfl⟩) ?_); conv => whnf)
    | ((with_reducible refine And.intro (show List.all _ _ = true from rfl) ?_); conv => whnf)
    | ((with_reducible refine And.intro (show List.all _ _ = true ∧ List.all _ _ = true from ⟨rfl, rfl⟩) ?_); conv => whnf)
    | ((with_reducible refine And.intro (show _ ≤ _ ∧ _ < _ by decide) ?_); conv => whnf)
    | with_reducible refine WpX.seq ?_
    | with_reducible refine WpX.block ?_
    | ((with_reducible refine WpX.of (Wp.regionP 6 ?_)); conv => whnf)
    | ((with_reducible refine WpX.region ?_); conv => whnf)
    | ((with_reducible refine WpX.cond ?_); conv => whnf)
    | ((with_reducible refine WpX.loopN 5 ?_); conv => whnf)
    | ((with_reducible refine WpX.of (Wp.drawL TC_mixed ?_)); conv => whnf)
    | ((with_reducible refine WpX.of (Wp.exit ?_)); conv => whnf)
    | ((with_reducible refine WpX.of (Wp.ret ?_)); conv => whnf)
    | ((with_reducible refine WpX.of (Wp.skip ?_)); conv => whnf)
    | with_reducible refine Wp.seq ?_
    | with_reducible refine Wp.block ?_
    | ((with_reducible first | refine Wp.region ?_ | refine Wp.drawL TC_mixed ?_ | refine Wp.cond ?_ | refine Wp.ret ?_ | refine Wp.skip ?_ | refine Wp.exit ?_ | refine Go.mk ?_ | apply Eff1.of); conv => whnf)
    | with_reducible exact rfl
    | ((with_reducible refine Ov.ok zO ?_); conv => whnf)
    | (with_reducible refine Ov.sh1 (by with_unfolding_all exact rfl) ?_)
    | ((with_reducible refine Ov.quo (by omega) (by omega) (by omega) (fun _ _ => ?_)); conv => whnf)
    | ((with_reducible refine And.intro (show drawOK _ _ _ _ = true by kernel_rfl) ?_); conv => whnf)
    | ((with_reducible refine And.intro zC ?_); conv => whnf)
    | ((with_reducible refine And.intro ?hb ?_); (case hb => exact bytes_bd (Nat.le_of_ble_eq_true rfl) (by omega)); (conv => whnf))
    | ((refine DApp.a rfl rfl rfl rfl rfl rfl ?hb ?_); (case hb => exact zB); (conv => whnf))
    | ((refine DApp.b rfl rfl rfl rfl rfl rfl rfl rfl ?hb ?ho ?_); (case hb => exact zB); (case ho => omega); (conv => whnf))
    | ((refine DApp.c rfl rfl rfl rfl rfl ?hb ?_); (case hb => exact zB); (conv => whnf))
    | ((refine DApp.d rfl rfl rfl rfl rfl rfl ?hb ?ho ?_); (case hb => exact zB); (case ho => omega); (conv => whnf))
    | (with_reducible refine Or.inl ?_)
    | ((with_reducible refine IxA.ptr ?_); conv => whnf)
    | ((with_reducible refine nil_no (by omega) ?_); (conv => whnf))
    | ((with_reducible refine nil_any ?_ (fun hn0 => ?_)) <;> (conv => whnf))
    | ((refine PanStop.fn raise_div [] rfl rfl rfl rfl rfl ?ha ?hh ?_); (case ha => exact zA); (case hh => exact zH); (conv => whnf))
    | ((refine ways (fun hc => ?_) (fun hc => ?_)) <;> (try simp only [decide_eq_true_eq, decide_eq_false_iff_not, Bool.and_eq_true, Bool.or_eq_true, Bool.and_eq_false_iff, Bool.or_eq_false_iff, Bool.not_eq_true', Bool.not_eq_false', beq_iff_eq, bne_iff_ne, ne_eq, beq_eq_false_iff_ne, bne_eq_false_iff_eq, Bool.not_eq_true, Bool.not_eq_false] at hc) <;> (try (exfalso; omega)) <;> (conv => whnf))))
  refine ⟨rfl, ?_⟩
  (conv => whnf)
  refine FinLe.of [0] rfl (fun i hi => by have : i = 0 := (by omega); subst this; rfl) rfl (.rfl _) ?_
  (conv => whnf)
  refine ⟨?_, trivial⟩
  (conv => whnf)
  repeat' (first | exact trivial | exact SV.Le.rfl _ | refine And.intro ?_ ?_)
theorem run1_div {X Y : Obj} {m : Int} (h : GH X Y m) : FunD TC 20 6 [.ptr 0 0, .ptr 1 0, .ptr 2 0] [(0, some (.cells [.i .u8 0, .i .i64 0])), (1, some (.cells [.ptr 3 0])), (2, some (.cells [.d (.val (.slice none 0 0))])), (3, some (.cells [.d gzP, .i .i64 4095, .d (.val (.slice none 0 0))])), (4, some (gho 0 X)), (5, some (gho 3 Y))] (.panicking (gzC false))
    6 (.ret (.tup [])) (.panicking (gzC true)) [(0, some (.cells [.i .u8 15, .i .i64 0])), (1, some (.cells [.ptr 3 0])), (2, some (.cells [.d (.val (.slice none 0 0))])), (3, some (.cells [.d gzP, .i .i64 4095, .d (.val (.slice none 0 0))])), (4, some (gho 0 X)), (5, some (gho 3 Y))] := by
  have hT := told_div h
  refine FunD.mkR Tryz.func20 rfl rfl (Nat.le_of_ble_eq_true rfl) (by decide) ?_
  have u20 := Tryz.underlying20
  (repeat' (first
    | ((with_reducible refine And.intro (show Oper.guard _ = none from rfl) ?_); conv => whnf)
    | ((with_reducible refine And.intro (show Value.oneCell' _ = true from rfl) ?_); conv => whnf)
    | ((with_reducible refine And.intro (show _ ≤ _ ∧ _ < _ by decide) ?_); conv => whnf)
    | with_reducible refine WpR.seq ?_
    | with_reducible refine WpR.block ?_
    | ((with_reducible refine WpR.region ?_); conv => whnf)
    | ((with_reducible refine WpR.cond ?_); conv => whnf)
    | ((with_reducible refine WpR.loopN 3 ?_); conv => whnf)
    | ((with_reducible refine WpR.of (Wp.drawL TC_mixed ?_)); conv => whnf)
    | ((with_reducible refine WpR.of (Wp.exit ?_)); conv => whnf)
    | ((with_reducible refine WpR.of (Wp.ret ?_)); conv => whnf)
    | ((with_reducible refine WpR.of (Wp.skip ?_)); conv => whnf)
    | with_reducible refine Wp.seq ?_
    | with_reducible refine Wp.block ?_
    | ((with_reducible first | refine Wp.region ?_ | refine Wp.drawL TC_mixed ?_ | refine Wp.cond ?_ | refine Wp.ret ?_ | refine Wp.skip ?_ | refine Wp.exit ?_ | refine Go.mk ?_ | apply Eff1.of); conv => whnf)
    | with_reducible exact rfl
    | ((with_reducible refine Ov.ok zO ?_); conv => whnf)
    | (with_reducible refine Ov.sh1 (by with_unfolding_all exact rfl) ?_)
    | ((with_reducible refine Ov.quo (by omega) (by omega) (by omega) (fun _ _ => ?_)); conv => whnf)
    | ((with_reducible refine And.intro (show drawOK _ _ _ _ = true by kernel_rfl) ?_); conv => whnf)
    | ((with_reducible refine And.intro zC ?_); conv => whnf)
    | ((with_reducible refine And.intro ?hb ?_); (case hb => exact bytes_bd (Nat.le_of_ble_eq_true rfl) (by omega)); (conv => whnf))
    | ((refine DApp.a rfl rfl rfl rfl rfl rfl ?hb ?_); (case hb => exact zB); (conv => whnf))
    | ((refine DApp.b rfl rfl rfl rfl rfl rfl rfl rfl ?hb ?ho ?_); (case hb => exact zB); (case ho => omega); (conv => whnf))
    | ((refine DApp.c rfl rfl rfl rfl rfl ?hb ?_); (case hb => exact zB); (conv => whnf))
    | ((refine DApp.d rfl rfl rfl rfl rfl rfl ?hb ?ho ?_); (case hb => exact zB); (case ho => omega); (conv => whnf))
    | (with_reducible refine Or.inl ?_)
    | ((with_reducible refine IxA.ptr ?_); conv => whnf)
    | ((with_reducible refine nil_no (by omega) ?_); (conv => whnf))
    | ((with_reducible refine nil_any ?_ (fun hn0 => ?_)) <;> (conv => whnf))
    | ((refine CallStop.fn (hT) [4,5] rfl rfl rfl rfl rfl ?ha ?hh ?_); (case ha => exact zA); (case hh => exact zH); (conv => whnf))
    | ((refine DCall.fn (hT) [4,5] [4,5] rfl rfl rfl rfl rfl ?ha ?hh ?hs ?_); (case ha => exact zA); (case hh => exact zH); (case hs => exact zK); (conv => whnf)) | ((refine DCall.new (hT) [4,5] [4,5] rfl rfl rfl rfl rfl rfl ?ha ?hh ?hs ?_); (case ha => exact zA); (case hh => exact zH); (case hs => exact zK); (conv => whnf))
    | ((refine DCall.fn (hT) [4,5] [] rfl rfl rfl rfl rfl ?ha ?hh ?hs ?_); (case ha => exact zA); (case hh => exact zH); (case hs => exact zK); (conv => whnf)) | ((refine DCall.new (hT) [4,5] [] rfl rfl rfl rfl rfl rfl ?ha ?hh ?hs ?_); (case ha => exact zA); (case hh => exact zH); (case hs => exact zK); (conv => whnf))
    | ((refine BinStop.ifNil u20 ?_); conv => whnf)
    | ((refine BinStop.nilNil u20 ?_); conv => whnf)
    | ((refine ways (fun hc => ?_) (fun hc => ?_)) <;> (try simp only [decide_eq_true_eq, decide_eq_false_iff_not, Bool.and_eq_true, Bool.or_eq_true, Bool.and_eq_false_iff, Bool.or_eq_false_iff, Bool.not_eq_true', Bool.not_eq_false', beq_iff_eq, bne_iff_ne, ne_eq, beq_eq_false_iff_ne, bne_eq_false_iff_eq, Bool.not_eq_true, Bool.not_eq_false] at hc) <;> (try (exfalso; omega)) <;> (conv => whnf))))
  refine ⟨rfl, ?_⟩
  conv => whnf
  refine FinLe.of [0, 1, 2, 3, 4, 5] rfl (fun i hi => by have : i = 0 ∨ i = 1 ∨ i = 2 ∨ i = 3 ∨ i = 4 ∨ i = 5 := (by omega); rcases this with h | h | h | h | h | h <;> subst h <;> rfl) rfl (.rfl _) ?_
  conv => whnf
  refine ⟨?_, ?_, ?_, ?_, ?_, ?_, trivial⟩ <;> (conv => whnf)
  all_goals repeat' (first | exact trivial | exact SV.Le.rfl _ | exact ⟨rfl, rfl, rfl⟩ | refine And.intro ?_ ?_)
theorem known_div : Pure TC 25 [.i .u8 15] (.b true) := by
  refine Pure.mk' Tryz.func25 rfl rfl (Nat.le_of_ble_eq_true rfl) ?_
  (repeat' (first
    | with_reducible refine Wp.seq ?_
    | with_reducible refine Wp.block ?_
    | ((with_reducible first | refine Wp.region ?_ | refine Wp.drawL TC_mixed ?_ | refine Wp.cond ?_ | refine Wp.ret ?_ | refine Wp.skip ?_ | refine Wp.exit ?_ | refine Go.mk ?_ | apply Eff1.of); conv => whnf)
    | with_reducible exact rfl
    | ((with_reducible refine Ov.ok zO ?_); conv => whnf)
    | (with_reducible refine Ov.sh1 (by with_unfolding_all exact rfl) ?_)
    | ((with_reducible refine Ov.quo (by omega) (by omega) (by omega) (fun _ _ => ?_)); conv => whnf)
    | ((with_reducible refine And.intro (show drawOK _ _ _ _ = true by kernel_rfl) ?_); conv => whnf)
    | ((with_reducible refine And.intro zC ?_); conv => whnf)
    | ((with_reducible refine And.intro ?hb ?_); (case hb => exact bytes_bd (Nat.le_of_ble_eq_true rfl) (by omega)); (conv => whnf))
    | ((refine DApp.a rfl rfl rfl rfl rfl rfl ?hb ?_); (case hb => exact zB); (conv => whnf))
    | ((refine DApp.b rfl rfl rfl rfl rfl rfl rfl rfl ?hb ?ho ?_); (case hb => exact zB); (case ho => omega); (conv => whnf))
    | ((refine DApp.c rfl rfl rfl rfl rfl ?hb ?_); (case hb => exact zB); (conv => whnf))
    | ((refine DApp.d rfl rfl rfl rfl rfl rfl ?hb ?ho ?_); (case hb => exact zB); (case ho => omega); (conv => whnf))
    | (with_reducible refine Or.inl ?_)
    | ((with_reducible refine IxA.ptr ?_); conv => whnf)
    | ((with_reducible refine nil_no (by omega) ?_); (conv => whnf))
    | ((with_reducible refine nil_any ?_ (fun hn0 => ?_)) <;> (conv => whnf))
    
    | ((refine ways (fun hc => ?_) (fun hc => ?_)) <;> (try simp only [decide_eq_true_eq, decide_eq_false_iff_not, Bool.and_eq_true, Bool.or_eq_true, Bool.and_eq_false_iff, Bool.or_eq_false_iff, Bool.not_eq_true', Bool.not_eq_false', beq_iff_eq, bne_iff_ne, ne_eq, beq_eq_false_iff_ne, bne_eq_false_iff_eq, Bool.not_eq_true, Bool.not_eq_false] at hc) <;> (try (exfalso; omega)) <;> (conv => whnf))))
  all_goals first | exact .rfl _ | (exfalso; omega) | (refine .b ?_; simp; omega)
theorem check_div : Pure TC 19 [.d gzP] (.i .i64 0) := by
  refine Pure.mk' Tryz.func19 rfl rfl (Nat.le_of_ble_eq_true rfl) ?_
  (repeat' (first
    | with_reducible refine Wp.seq ?_
    | with_reducible refine Wp.block ?_
    | ((with_reducible first | refine Wp.region ?_ | refine Wp.drawL TC_mixed ?_ | refine Wp.cond ?_ | refine Wp.ret ?_ | refine Wp.skip ?_ | refine Wp.exit ?_ | refine Go.mk ?_ | apply Eff1.of); conv => whnf)
    | with_reducible exact rfl
    | ((with_reducible refine Ov.ok zO ?_); conv => whnf)
    | (with_reducible refine Ov.sh1 (by with_unfolding_all exact rfl) ?_)
    | ((with_reducible refine Ov.quo (by omega) (by omega) (by omega) (fun _ _ => ?_)); conv => whnf)
    | ((with_reducible refine And.intro (show drawOK _ _ _ _ = true by kernel_rfl) ?_); conv => whnf)
    | ((with_reducible refine And.intro zC ?_); conv => whnf)
    | ((with_reducible refine And.intro ?hb ?_); (case hb => exact bytes_bd (Nat.le_of_ble_eq_true rfl) (by omega)); (conv => whnf))
    | ((refine DApp.a rfl rfl rfl rfl rfl rfl ?hb ?_); (case hb => exact zB); (conv => whnf))
    | ((refine DApp.b rfl rfl rfl rfl rfl rfl rfl rfl ?hb ?ho ?_); (case hb => exact zB); (case ho => omega); (conv => whnf))
    | ((refine DApp.c rfl rfl rfl rfl rfl ?hb ?_); (case hb => exact zB); (conv => whnf))
    | ((refine DApp.d rfl rfl rfl rfl rfl rfl ?hb ?ho ?_); (case hb => exact zB); (case ho => omega); (conv => whnf))
    | (with_reducible refine Or.inl ?_)
    | ((with_reducible refine IxA.ptr ?_); conv => whnf)
    | ((with_reducible refine nil_no (by omega) ?_); (conv => whnf))
    | ((with_reducible refine nil_any ?_ (fun hn0 => ?_)) <;> (conv => whnf))
    | ((with_reducible refine Wp.loopN 5 ?_); conv => whnf)
    | ((with_reducible refine CallStop.pure (known_div) rfl rfl ?_); conv => whnf) | ((with_reducible refine DCall.pure (known_div) rfl rfl ?_); conv => whnf)
    | ((refine ways (fun hc => ?_) (fun hc => ?_)) <;> (try simp only [decide_eq_true_eq, decide_eq_false_iff_not, Bool.and_eq_true, Bool.or_eq_true, Bool.and_eq_false_iff, Bool.or_eq_false_iff, Bool.not_eq_true', Bool.not_eq_false', beq_iff_eq, bne_iff_ne, ne_eq, beq_eq_false_iff_ne, bne_eq_false_iff_eq, Bool.not_eq_true, Bool.not_eq_false] at hc) <;> (try (exfalso; omega)) <;> (conv => whnf))))
  exact .rfl _
theorem Run_div {X Y : Obj} {m : Int} (h : GH X Y m) : Fun TC 16 2 [.d gzP] [(0, some (gho 0 X)), (1, some (gho 3 Y))] 2 (.tup [.d (.val (.slice none 0 0)), .agg [.i .u8 15, .i .i64 0], .i .i64 0]) [(0, some (gho 0 X)), (1, some (gho 3 Y))] := by
  refine FunO.fun (FunO.mkX Tryz.func16 rfl rfl (Nat.le_of_ble_eq_true rfl) (by decide) ?_)
  (repeat' (first
    | ((with_reducible refine And.intro (show Oper.guard _ = none from rfl) ?_); conv => whnf)
    | ((with_reducible refine And.intro (show Oper.guard _ = none ∧ Oper.dst _ = none from ⟨rfl, rfl⟩) ?_); conv => whnf)
    | ((with_reducible refine And.intro (show List.all _ _ = true from rfl) ?_); conv => whnf)
    | ((with_reducible refine And.intro (show List.all _ _ = true ∧ List.all _ _ = true from ⟨rfl, rfl⟩) ?_); conv => whnf)
    | ((with_reducible refine And.intro (show _ ≤ _ ∧ _ < _ by decide) ?_); conv => whnf)
    | with_reducible refine WpX.seq ?_
    | with_reducible refine WpX.block ?_
    | ((with_reducible refine WpX.of (Wp.regionP 6 ?_)); conv => whnf)
    | ((with_reducible refine WpX.region ?_); conv => whnf)
    | ((with_reducible refine WpX.cond ?_); conv => whnf)
    | ((with_reducible refine WpX.loopN 5 ?_); conv => whnf)
    | ((with_reducible refine WpX.of (Wp.drawL TC_mixed ?_)); conv => whnf)
    | ((with_reducible refine WpX.of (Wp.exit ?_)); conv => whnf)
    | ((with_reducible refine WpX.of (Wp.ret ?_)); conv => whnf)
    | ((with_reducible refine WpX.of (Wp.skip ?_)); conv => whnf)
    | with_reducible refine Wp.seq ?_
    | with_reducible refine Wp.block ?_
    | ((with_reducible first | refine Wp.region ?_ | refine Wp.drawL TC_mixed ?_ | refine Wp.cond ?_ | refine Wp.ret ?_ | refine Wp.skip ?_ | refine Wp.exit ?_ | refine Go.mk ?_ | apply Eff1.of); conv => whnf)
    | with_reducible exact rfl
    | ((with_reducible refine Ov.ok zO ?_); conv => whnf)
    | (with_reducible refine Ov.sh1 (by with_unfolding_all exact rfl) ?_)
    | ((with_reducible refine Ov.quo (by omega) (by omega) (by omega) (fun _ _ => ?_)); conv => whnf)
    | ((with_reducible refine And.intro (show drawOK _ _ _ _ = true by kernel_rfl) ?_); conv => whnf)
    | ((with_reducible refine And.intro zC ?_); conv => whnf)
    | ((with_reducible refine And.intro ?hb ?_); (case hb => exact bytes_bd (Nat.le_of_ble_eq_true rfl) (by omega)); (conv => whnf))
    | ((refine DApp.a rfl rfl rfl rfl rfl rfl ?hb ?_); (case hb => exact zB); (conv => whnf))
    | ((refine DApp.b rfl rfl rfl rfl rfl rfl rfl rfl ?hb ?ho ?_); (case hb => exact zB); (case ho => omega); (conv => whnf))
    | ((refine DApp.c rfl rfl rfl rfl rfl ?hb ?_); (case hb => exact zB); (conv => whnf))
    | ((refine DApp.d rfl rfl rfl rfl rfl rfl ?hb ?ho ?_); (case hb => exact zB); (case ho => omega); (conv => whnf))
    | (with_reducible refine Or.inl ?_)
    | ((with_reducible refine IxA.ptr ?_); conv => whnf)
    | ((with_reducible refine nil_no (by omega) ?_); (conv => whnf))
    | ((with_reducible refine nil_any ?_ (fun hn0 => ?_)) <;> (conv => whnf))
    | ((with_reducible refine CallStop.pure (check_div) rfl rfl ?_); conv => whnf) | ((with_reducible refine DCall.pure (check_div) rfl rfl ?_); conv => whnf)
    | ((refine PanStop.fn frame_div [4] rfl rfl rfl rfl rfl ?ha ?hh ?_); (case ha => exact zA); (case hh => exact zH); (conv => whnf))
    | ((refine ways (fun hc => ?_) (fun hc => ?_)) <;> (try simp only [decide_eq_true_eq, decide_eq_false_iff_not, Bool.and_eq_true, Bool.or_eq_true, Bool.and_eq_false_iff, Bool.or_eq_false_iff, Bool.not_eq_true', Bool.not_eq_false', beq_iff_eq, bne_iff_ne, ne_eq, beq_eq_false_iff_ne, bne_eq_false_iff_eq, Bool.not_eq_true, Bool.not_eq_false] at hc) <;> (try (exfalso; omega)) <;> (conv => whnf))))
  refine ⟨nofun, LeaveStop.fn (run1_div h) [3, 5, 2, 4, 0, 1] rfl rfl rfl rfl rfl ?_ ?_ ?_⟩
  · exact zA
  · exact zH
  · (conv => whnf)
    refine FinLe.of [0, 1] rfl (fun i hi => by have : i = 0 ∨ i = 1 := (by omega); rcases this with h | h <;> subst h <;> rfl) rfl ?_ ?_
    · (conv => whnf)
      exact .rfl _
    · (conv => whnf)
      exact ⟨⟨rfl, rfl, rfl⟩, ⟨rfl, rfl, rfl⟩, trivial⟩
end Go.Proofs.YteallmlkkcjblaaGreatDoor

namespace Go.Proofs.YteallmlkkcjblaaGreatDoor
open Go.RowKit
def Env.pi (E : Env) (π : Nat → Nat) : Env := ⟨fun i => E.ρ (π i), fun i => E.κ (π i), E.Im⟩
structure PiLe (π : Nat → Nat) (nx' : Nat) (x y : SV) : Prop where
  out : ∀ E nx w v, RS E nx w x v → RS (E.pi π) nx' w y v
theorem PiLe.any {π : Nat → Nat} {nx' : Nat} {x : SV} : PiLe π nx' x .any := ⟨fun _ _ _ _ _ => .any _⟩
theorem PiLe.sl {π : Nat → Nat} {nx' l l' z o n : Nat} (h : π l' = l) (hl : l' < nx') : PiLe π nx' (.sl l z o n) (.sl l' z o n) := ⟨fun E nx w v hv => by
  subst h
  cases hv with
  | sl _ _ _ _ a cap hlx hc hm ha h0 => exact .sl _ _ _ _ a cap hl hc hm ha h0⟩
theorem PiLe.mono {π : Nat → Nat} {nx' : Nat} {x y z : SV} (h : SV.Le x y) (k : PiLe π nx' y z) : PiLe π nx' x z := ⟨fun E nx w v hv => k.out E nx w v (h.out E nx w v hv)⟩
structure PiBlk (π : Nat → Nat) (nx nx' : Nat) (l k : Nat) (b b' : Blk) : Prop where
  real : ∀ κ, b'.real κ → b.real κ
  bs : ∀ E w, BS E nx w l b → BS (E.pi π) nx' w k b'
theorem PiBlk.row {π : Nat → Nat} {nx nx' k e z n : Nat} {f : Nat → List D} : PiBlk π nx nx' (π k) k (.row e z n f) (.row e z n f) :=
  ⟨fun _ h => h, fun E w hb => by
    obtain ⟨h1, h2, h3, h4, h5⟩ := hb
    exact ⟨h1, h2, h3, h4, h5⟩⟩
def PiLes (π : Nat → Nat) (nx' : Nat) : List SV → List SV → Prop
  | [], [] => True
  | x :: r, y :: s => PiLe π nx' x y ∧ PiLes π nx' r s
  | _, _ => False
theorem PiLes.out {π : Nat → Nat} {nx' : Nat} : ∀ {xs ys : List SV}, PiLes π nx' xs ys → xs.length = ys.length ∧ ∀ (j : Nat) (hx : j < xs.length) (hy : j < ys.length), PiLe π nx' xs[j] ys[j]
  | [], [], _ => ⟨rfl, fun j hx => by simp at hx⟩
  | x :: r, y :: s, ⟨h1, h2⟩ => by
    obtain ⟨g1, g2⟩ := PiLes.out h2
    refine ⟨by simp [g1], fun j hx hy => ?_⟩
    cases j with
    | zero => exact h1
    | succ j => exact g2 j (by simpa using hx) (by simpa using hy)
  | [], _ :: _, h => h.elim
  | _ :: _, [], h => h.elim
end Go.Proofs.YteallmlkkcjblaaGreatDoor
