/- Parts of the proof, one behind the other: Sx6n, Sx7, Sx8, Sx9, Sx10, Sx11. Lemmas and contracts of functions; no condition of its own. -/
import Derived.Test.YteallmlkkcjblaaGreatDoorMR1
set_option linter.unusedVariables false
set_option linter.unusedSimpArgs false
namespace Go.Proofs.YteallmlkkcjblaaGreatDoor
open Go.RowKit
def makeSliceF (C : Cx) (t : Nat) (x y : SV) (k : TypeId → Nat → Nat → (Nat → List D) → Prop) : Prop :=
  match C.tt t with
  | some i => match i.k with
    | .slice e => match C.tt e with
      | some j => bif j.zero.all Value.oneCell' && Nat.ble j.bytes 1024 && Nat.blt 0 j.size && Nat.beq j.zero.length j.size then
          (match x, y with
          | .d (.val (.int .i64 n)), .d (.val (.int .i64 m)) => (0 ≤ n ∧ n ≤ 1048576 ∧ m = n) ∧ k e j.size n.toNat (fun _ => j.zero.map .val)
          | _, _ => False) else False
      | none => False
    | _ => False
  | none => False
theorem makeSliceF_ok {C : Cx} {E : Env} {S : St} {w : World} {t : Nat} {x y : SV} {u v : Value} (hu : RS E S.nx w x u) (hv : RS E S.nx w y v) {k : TypeId → Nat → Nat → (Nat → List D) → Prop} (h : makeSliceF C t x y k) :
    ∃ (e : TypeId) (z n : Nat) (f : Nat → List D) (us' : Array Value), k e z n f ∧ (Instr.makeSlice t u v).run C.P w = .ok (.slice (some ⟨w.heap.size, 0, none⟩) n n) (w.alloc (.cells us' e)) ∧
      n ≤ maxLen ∧ 0 < z ∧ (∀ i, i < n → (f i).length = z) ∧ us'.size = n * z ∧ (∀ j, j < n * z → (us'.getD j undef).oneCell' = true) ∧ (∀ i j (_ : i < n) (hj : j < (f i).length), RD w E.Im ((f i)[j]) (us'.getD (i * z + j) undef)) := by
  unfold makeSliceF at h
  split at h
  · rename_i i hi
    split at h
    · rename_i e hk
      have ht := (C.ok _ _ hi).slice hk
      split at h
      · rename_i j hj
        obtain ⟨jj, z, q1, q2, q3, q4, q5⟩ := (C.ok _ _ hj).info
        have hsz := (C.ok _ _ hj).sizeOf w
        cases hall : (j.zero.all Value.oneCell' && Nat.ble j.bytes 1024 && Nat.blt 0 j.size && Nat.beq j.zero.length j.size) with
        | false => simp [hall] at h
        | true =>
          simp only [hall, cond_true] at h
          simp only [Bool.and_eq_true] at hall
          obtain ⟨⟨⟨a1, a2⟩, a3⟩, a4⟩ := hall
          have a2 : j.bytes ≤ 1024 := Nat.le_of_ble_eq_true a2
          have a3 : 0 < j.size := by simpa using a3
          have a4 : j.zero.length = j.size := Nat.eq_of_beq_eq_true a4
          rw [List.all_eq_true] at a1
          split at h
          · rename_i n m
            obtain rfl := hu.val_inv
            obtain rfl := hv.val_inv
            obtain ⟨⟨n0, n1, rfl⟩, h⟩ := h
            obtain ⟨n, rfl⟩ := Int.eq_ofNat_of_zero_le n0
            rw [Int.toNat_natCast] at h
            have hzs : z.cells.size = j.size := by rw [← a4, ← q3]; simp
            let us : Array Value := (Array.range (n * j.size)).map (z.cells[· % z.cells.size]!)
            have hus : us.size = n * j.size := by simp [us]
            have hget : ∀ q, q < n * j.size → us.getD q undef = z.cells[q % z.cells.size]'(Nat.mod_lt _ (by omega)) := fun q hq => by
              have hm : q % z.cells.size < z.cells.size := Nat.mod_lt _ (by omega)
              simp [us, Array.getD, hq, hm]
            have hnm : n ≤ 1048576 := by omega
            have hw : IntKind.i64.wrap (n : Int) = n := IntWalk.i64_in _ (by omega)
            refine ⟨e, j.size, n, _, us, h, ?_, by unfold maxLen; omega, a3, fun i hi => by simp [a4], hus, fun q hq => by rw [hget q hq]; exact a1 _ (by rw [← q3]; simp), fun p q hp hq => ?_⟩
            · have hb : ((j.bytes : Int) * (n : Int)) = ((j.bytes * n : Nat) : Int) := by simp
              have hbn : j.bytes * n ≤ 1024 * 1048576 := Nat.mul_le_mul a2 hnm
              have hbm : n * j.bytes ≤ 1024 * 1048576 := by rw [Nat.mul_comm]; exact hbn
              have hbig : ¬ (281474976710656 < (j.bytes : Int) * (n : Int)) := by rw [hb]; omega
              have hbig2 : ¬ (roomBytes < n * j.bytes) := by unfold roomBytes; omega
              simp only [Instr.makeSlice]
              by_cases hl0 : n * j.size = 0
              · have hu0 : us = #[] := by apply Array.eq_empty_of_size_eq_zero; omega
                have hl1 : n = 0 := by rcases Nat.mul_eq_zero.1 hl0 with h9 | h9 <;> omega
                subst hl1
                rw [hu0]
                have hw0 : IntKind.i64.wrap 0 = 0 := by decide
                simp [run_underlying ht, hsz, asInt, asIntOf, hw0, typeInfo, q1, q5, askRoom, newRow]
                rw [show (Array.map (fun _ => default) (Array.range 0) : Array Value) = #[] by simp [Array.range_zero']]
              · have hn0 : ¬ (n : Int) < 0 := by omega
                simp [run_underlying ht, hsz, asInt, asIntOf, hw, typeInfo, q1, q5, askRoom, hbig, hbig2, hl0, hn0, zeroValue, q2, newRow]
                try rfl
            · have hq1 : q < j.size := by simpa [a4] using hq
              have hlt : p * j.size + q < n * j.size := by
                have : (p + 1) * j.size ≤ n * j.size := Nat.mul_le_mul_right _ hp
                rw [Nat.add_mul] at this; omega
              have hmod : (p * j.size + q) % z.cells.size = q := by rw [hzs, Nat.mul_comm, Nat.mul_add_mod, Nat.mod_eq_of_lt hq1]
              have e1 : z.cells[(p * j.size + q) % z.cells.size]'(Nat.mod_lt _ (by omega)) = j.zero[q]'(by omega) := by
                simp only [hmod, ← q3, Array.getElem_toList]
              have e2 : (j.zero.map D.val)[q]'(by simpa using hq) = .val (j.zero[q]'(by omega)) := by simp
              rw [hget _ hlt, e1]
              simp only [List.getElem_map]
              exact .val _ (a1 _ (by simp))
          · exact h.elim
      · exact h.elim
    · exact h.elim
  · exact h.elim
end Go.Proofs.YteallmlkkcjblaaGreatDoor

namespace Go.Proofs.YteallmlkkcjblaaGreatDoor
open Go.RowKit
def force1 : SV → (SV → Prop) → Prop
  | .any, k => k .any
  | .d x, k => k (.d x)
  | .ptr l o, k => k (.ptr l o)
  | .rp l z i o, k => k (.rp l z i o)
  | .sl l z o n, k => k (.sl l z o n)
  | .agg vs, k => k (.agg vs)
  | .tup vs, k => k (.tup vs)
  | .fn f c, k => k (.fn f c)
  | .iref c o, k => k (.iref c o)
theorem force1_ok {x : SV} {k : SV → Prop} (h : force1 x k) : k x := by cases x <;> exact h
def forceL : List SV → (List SV → Prop) → Prop
  | [], k => k []
  | v :: r, k => force1 v fun v' => forceL r fun r' => k (v' :: r')
theorem forceL_ok : ∀ (vs : List SV) (k : List SV → Prop), forceL vs k → k vs
  | [], k, h => h
  | v :: r, k, h => forceL_ok r _ (force1_ok (k := fun v' => forceL r fun r' => k (v' :: r')) h)
def forceK : SV → (SV → Prop) → Prop
  | .agg vs, k => forceL vs fun vs' => k (.agg vs')
  | .tup vs, k => forceL vs fun vs' => k (.tup vs')
  | .fn f c, k => k (.fn f c)
  | .iref c o, k => k (.iref c o)
  | .any, k => k .any
  | .d x, k => k (.d x)
  | .ptr l o, k => k (.ptr l o)
  | .rp l z i o, k => k (.rp l z i o)
  | .sl l z o n, k => k (.sl l z o n)
theorem forceK_ok {x : SV} {k : SV → Prop} (h : forceK x k) : k x := by
  cases x with
  | agg vs => exact forceL_ok vs (fun vs' => k (.agg vs')) h
  | tup vs => exact forceL_ok vs (fun vs' => k (.tup vs')) h
  | _ => exact h
def putK (S : St) (dst : Option Nat) (x : SV) (k : St → Prop) : Prop :=
  match dst with
  | none => k S
  | some n => forceK x fun x' => match S with
    | ⟨nt, nx, fr, hp⟩ => bif Nat.blt n nt.n then k ⟨nt, nx, (n, x') :: fr, hp⟩ else False
theorem putK_ok {O : Org} {E : Env} {S : St} {a : Act} {w : World} (hs : Sat O E S a w) {dst : Option Nat} {x : SV} {v : Value} (hv : RS E S.nx w x v) {k : St → Prop} (h : putK S dst x k) : ∃ S', k S' ∧ Sat O E S' (a.put dst v) w := by
  cases dst with
  | none => exact ⟨S, h, hs⟩
  | some n =>
    have h := forceK_ok h
    obtain ⟨nt, nx, fr, hp⟩ := S
    dsimp only at h
    cases hb : Nat.blt n nt.n with
    | false => simp [hb] at h
    | true =>
      simp only [hb, cond_true] at h
      exact ⟨_, h, hs.put (by simpa using hb) hv⟩
def evL (S : St) : List Operand → (List SV → Prop) → Prop
  | [], k => k []
  | x :: r, k => forceK (ev S x) fun v => evL S r fun vs => k (v :: vs)
theorem evL_ok {O : Org} {E : Env} {S : St} {a : Act} {w : World} (hs : Sat O E S a w) : ∀ (xs : List Operand) (k : List SV → Prop), evL S xs k →
    ∃ vs : List SV, k vs ∧ vs.length = xs.length ∧ ∀ (j : Nat) (x : Operand) (v : SV), xs[j]? = some x → vs[j]? = some v → RS E S.nx w v (a.eval x)
  | [], k, h => ⟨[], h, rfl, fun j x v hx => by simp at hx⟩
  | x :: r, k, h => by
    have h := forceK_ok h
    obtain ⟨vs, h1, h2, h3⟩ := evL_ok hs r _ h
    refine ⟨_, h1, by simp [h2], fun j y v hx hv => ?_⟩
    cases j with
    | zero => simp at hx hv; subst hx hv; exact ev_ok hs x
    | succ j => simp at hx hv; exact h3 j y v hx hv
def Enters (P : Program) (g : Nat) : Prop := ∀ vs w, (callFunc g vs).run P w = .ok (.enter g vs) w
structure CallStop (C : Cx) (S : St) (g : Nat) (args : List SV) (k : St → SV → Prop) : Prop where
  ent : Enters C.P g
  out : ∀ O E a w (vs : Array Value), Sat O E S a w → vs.size = args.length → (∀ j (hj : j < args.length), RS E S.nx w args[j] (vs.getD j undef)) →
    Calls C.P g vs w fun e w' => ∃ v E' S' x, e = .returned v ∧ k S' x ∧ Sat O E' S' a w' ∧ RS E' S'.nx w' x v
def stK (S : St) (k : St → Prop) : Prop := match S with | ⟨nt, nx, fr, hp⟩ => k ⟨nt, nx, fr, hp⟩
def callK (C : Cx) (S : St) (f : SV) (args : List SV) (k : St → SV → Prop) : Prop :=
  match f with
  | .d (.fn (.func g) []) => stK S fun S => CallStop C S g args k
  | .d (.fn (.func g) caps) => stK S fun S => CallStop C S g (args ++ caps.map .d) k
  | .fn (.func g) caps => stK S fun S => CallStop C S g (args ++ caps) k
  | _ => False
def slice3K (C : Cx) (S : St) (t : Nat) (x : SV) (lo hi mx : Option SV) (k : St → SV → Prop) : Prop :=
  match lo, hi, mx with
  | none, some (.d (.val (.int _ h))), some (.d (.val (.int _ m))) => match C.tt t with
    | some i => match i.k with
      | .slice e => match C.tt e with
        | some j => bif Nat.blt 0 j.size then (h = 0 ∧ m = 0) ∧ match x, S with
          | .d (.sl _ _ _), ⟨nt, nx, fr, hp⟩ => k ⟨nt, nx + 1, fr, (nx, some (.row e j.size 0 fun _ => [])) :: hp⟩ (.sl nx j.size 0 0)
          | .sl _ _ _ _, ⟨nt, nx, fr, hp⟩ => k ⟨nt, nx + 1, fr, (nx, some (.row e j.size 0 fun _ => [])) :: hp⟩ (.sl nx j.size 0 0)
          | .d (.val (.slice none 0 0)), ⟨nt, nx, fr, hp⟩ => k ⟨nt, nx + 1, fr, (nx, some (.row e j.size 0 fun _ => [])) :: hp⟩ (.sl nx j.size 0 0)
          | _, _ => False
          else False
        | none => False
      | _ => False
    | none => False
  | _, _, _ => False
theorem slice3K_ok {C : Cx} {O : Org} {E : Env} {S : St} {a : Act} {w : World} (hs : Sat O E S a w) {t : Nat} {sx : SV} {u : Value} {lo hi mx : Option SV} {l h m : Option Value} {k : St → SV → Prop} (hu : RS E S.nx w sx u)
    (hl0 : lo = none → l = none) (hh : ∀ x, hi = some x → ∃ v, h = some v ∧ RS E S.nx w x v) (hm : ∀ x, mx = some x → ∃ v, m = some v ∧ RS E S.nx w x v) (hk : slice3K C S t sx lo hi mx k) :
    YieldsS C O a w (Instr.sliceAt t u l h m) k := by
  unfold slice3K at hk
  split at hk
  · rename_i k1 hv k2 mv
    obtain ⟨_, rfl, h1⟩ := hh _ rfl
    obtain rfl := h1.val_inv
    obtain ⟨_, rfl, h2⟩ := hm _ rfl
    obtain rfl := h2.val_inv
    rw [hl0 rfl]
    split at hk
    · rename_i i hi
      split at hk
      · rename_i e hke
        have ht := (C.ok _ _ hi).slice hke
        split at hk
        · rename_i j hj
          have hz := (C.ok _ _ hj).sizeOf w
          cases hb : Nat.blt 0 j.size with
          | false => simp [hb] at hk
          | true =>
            simp only [hb, cond_true] at hk
            have hpos : 0 < j.size := by simpa using hb
            obtain ⟨⟨rfl, rfl⟩, hk⟩ := hk
            have fin : ∀ (ad : Option Addr) (n cap : Nat), u = .slice ad n cap → (match S with | ⟨nt, nx, fr, hp⟩ => k ⟨nt, nx + 1, fr, (nx, some (.row e j.size 0 fun _ => [])) :: hp⟩ (.sl nx j.size 0 0)) →
                YieldsS C O a w (Instr.sliceAt t u none (some (.int k1 0)) (some (.int k2 0))) k := by
              intro ad n cap hue hk
              subst hue
              obtain ⟨nt, nx, fr, hp⟩ := S
              have := hs.virt (e := e) (f := fun _ => []) hpos
              refine ⟨.slice ad 0 0, w, _, _, _, ?_, hk, this, .sl _ _ _ _ _ _ (by simp) (Nat.le_refl _) (by unfold maxLen; omega) (fun h => by omega) (fun _ => ⟨by simp [Env.newrow], fun h => by omega⟩)⟩
              simp [Instr.sliceAt, run_underlying ht, Instr.slice, Instr.sliceBounds, Instr.sliceBound, asIntOf, hz]
            split at hk
            · cases hu with | d _ _ hu => cases hu with | sl => exact fin _ _ _ rfl hk
            · cases hu with | sl => exact fin _ _ _ rfl hk
            · obtain rfl := hu.val_inv
              exact fin _ _ _ rfl hk
            · exact hk.elim
        · exact hk.elim
      · exact hk.elim
    · exact hk.elim
  · exact hk.elim
def builtinK (C : Cx) (S : St) (b : Builtin) (ts : List Nat) (args : List SV) (k : St → SV → Prop) : Prop :=
  match b, ts, args with
  | .len, [t], [x] => lenK C t x (k S)
  | .min, _, [x, y] => minK x y (k S)
  | .max, _, [x, y] => maxK x y (k S)
  | .append, [t, t2], [x, y] => bif Nat.beq t t2 then appendK C S t x y k else False
  | .clear, [t], [x] => clearK C S t x k
  | _, _, _ => False
def Comes1 (C : Cx) (O : Org) (o : Oper) (a : Act) (w : World) (k : St → SV → Prop) : Prop :=
  ∀ (next : Act → World → Prop) (Q : Exit → Act → World → Prop), (∀ v E' S' w' x, k S' x → Sat O E' S' a w' → RS E' S'.nx w' x v → next (a.put o.dst v) w') → o.wp C.P a w next Q
structure OpStop (C : Cx) (S : St) (op : Op) (k : St → SV → Prop) : Prop where
  out : ∀ O E a w (o : Oper), o.op = op → Sat O E S a w → Comes1 C O o a w k
def val1 (C : Cx) (S : St) (op : Op) (k : St → SV → Prop) : Prop :=
  match op with
  | .move x => k S (ev S x)
  | .assign x => k S (ev S x)
  | .pick c x y => match ev S c with
    | .d (.val (.bool b)) => bif b then k S (ev S x) else k S (ev S y)
    | _ => False
  | .alloc t => allocK C S t k
  | .box _ x => boxK S (ev S x) k
  | .load t a => loadK C S t (ev S a) (k S)
  | .store t a x => storeK C S t (ev S a) (ev S x) fun S' => stK S' fun S'' => k S'' .any
  | .binOp op t x y _ => binX C op t (ev S x) (ev S y) (k S)
  | .unOp op _ x => unK op (ev S x) (k S)
  | .convert s d x => cvK C S s d (ev S x) k
  | .fieldAddr t x f => fieldAddrK C t f (ev S x) (k S)
  | .field t x f => fieldK C t f (ev S x) (k S)
  | .indexAddr t x i => indexAddrK C t (ev S x) (ev S i) (k S)
  | .index t x i => indexK C t (ev S x) (ev S i) (k S)
  | .extract x i => extractK i (ev S x) (k S)
  | .slice t x lo hi none => sliceK C t (ev S x) (lo.map (ev S)) (hi.map (ev S)) (k S)
  | .slice t x lo hi (some m) => slice3K C S t (ev S x) (lo.map (ev S)) (hi.map (ev S)) (some (ev S m)) k
  | .build t parts => buildK C S t parts.toList (k S)
  | .buildSlice t n parts => buildSliceK C S t n parts.toList k
  | .makeSlice t l c => makeSliceK C S t (ev S l) (ev S c) k
  | .nilCheck x => nilCheckK (ev S x) (k S)
  | .makeFunc fn first caps => match first.toList with
    | [] => evL S caps.toList fun cs => k S (.fn fn cs)
    | _ => False
  | .call c => match c.callee with
    | .value f => evL S c.args.toList fun args => callK C S (ev S f) args k
    | .builtin b => evL S c.args.toList fun args => builtinK C S b c.argTypes.toList args k
    | _ => False
  | op => OpStop C S op k
theorem Comes1.val {C : Cx} {O : Org} {o : Oper} {a : Act} {w : World} {m : Sem Value} {k : St → SV → Prop} (h : YieldsS C O a w m k) (ho : (execOp a.eval o).run C.P w = (m.run C.P w).andThen fun v w' => .ok (.value v) w') : Comes1 C O o a w k := by
  intro next Q hk
  obtain ⟨v, w', E', S', x, h1, h2, h3, h4⟩ := h
  unfold Oper.wp
  rw [ho, h1]
  exact hk v E' S' w' x h2 h3 h4
theorem listToArray {α : Type} {a : Array α} {l : List α} (h : a.toList = l) : a = l.toArray := by rw [← h, Array.toArray_toList]
theorem val1_ok {C : Cx} {O : Org} {E : Env} {S : St} {a : Act} {w : World} (hs : Sat O E S a w) {o : Oper} {k : St → SV → Prop} (h : val1 C S o.op k) : Comes1 C O o a w k := by
  unfold val1 at h
  split at h
  · rename_i x ho
    exact .val (m := pure (a.eval x)) ⟨_, _, _, _, _, rfl, h, hs, ev_ok hs x⟩ (by simp [execOp, ho])
  · rename_i x ho
    exact .val (m := pure (a.eval x)) ⟨_, _, _, _, _, rfl, h, hs, ev_ok hs x⟩ (by simp [execOp, ho])
  · rename_i c x y ho
    split at h
    · rename_i b e
      have hc := ev_ok hs c
      rw [e] at hc
      have hc := hc.val_inv
      cases b with
      | true => exact .val (m := pure (a.eval x)) ⟨_, _, _, _, _, rfl, h, hs, ev_ok hs x⟩ (by simp [execOp, ho, hc, asBool])
      | false => exact .val (m := pure (a.eval y)) ⟨_, _, _, _, _, rfl, h, hs, ev_ok hs y⟩ (by simp [execOp, ho, hc, asBool])
    · exact h.elim
  · rename_i t ho
    exact .val (allocK_ok hs h) (by simp [execOp, ho])
  · rename_i t x ho
    exact .val (boxK_ok (C := C) (t := t) hs (ev_ok hs x) h) (by simp [execOp, ho])
  · rename_i t x ho
    exact .val ((loadK_ok hs (ev_ok hs x) h).s hs fun _ hx => hx) (by simp [execOp, ho])
  · rename_i t x y ho
    obtain ⟨w', S', h1, h2, h3⟩ := storeK_ok hs (ev_ok hs x) (ev_ok hs y) h
    have h2 : k S' .any := by cases S'; exact h2
    intro next Q hk
    unfold Oper.wp
    rw [show (execOp a.eval o).run C.P w = .ok .skip w' by simp [execOp, ho, h1]]
    exact hk undef E S' w' .any h2 h3 (.any _)
  · rename_i op t x y _ ho
    refine .val ((binX_ok (x := x) (y := y) (ev_ok hs x) (ev_ok hs y) h).s hs fun _ hx => hx) ?_
    simp [execOp, ho]
    generalize Sem.run C.P (eqGuard op t x y (a.eval x) (a.eval y)) w = r
    cases r <;> simp
  · rename_i op t x ho
    exact .val ((unK_ok (ev_ok hs x) h).s hs fun _ hx => hx) (by simp [execOp, ho])
  · rename_i s d x ho
    exact .val (cvK_ok hs (ev_ok hs x) h) (by simp [execOp, ho])
  · rename_i t x f ho
    exact .val ((fieldAddrK_ok (ev_ok hs x) h).s hs fun _ hx => hx) (by simp [execOp, ho])
  · rename_i t x f ho
    exact .val ((fieldK_ok (ev_ok hs x) h).s hs fun _ hx => hx) (by simp [execOp, ho])
  · rename_i t x i ho
    exact .val ((indexAddrK_ok (ev_ok hs x) (ev_ok hs i) h).s hs fun _ hx => hx) (by simp [execOp, ho])
  · rename_i t x i ho
    exact .val ((indexK_ok (ev_ok hs x) (ev_ok hs i) h).s hs fun _ hx => hx) (by simp [execOp, ho])
  · rename_i x i ho
    exact .val ((extractK_ok (ev_ok hs x) h).s hs fun _ hx => hx) (by simp [execOp, ho])
  · rename_i t x lo hi ho
    refine .val ((sliceK_ok (l := lo.map a.eval) (h := hi.map a.eval) (ev_ok hs x) ?_ ?_ ?_ ?_ h).s hs fun _ hx => hx) (by simp [execOp, ho])
    · intro y hy; cases lo with
      | none => simp at hy
      | some z => simp at hy; subst hy; exact ⟨_, rfl, ev_ok hs z⟩
    · intro e; cases lo <;> simp at e ⊢
    · intro y hy; cases hi with
      | none => simp at hy
      | some z => simp at hy; subst hy; exact ⟨_, rfl, ev_ok hs z⟩
    · intro e; cases hi <;> simp at e ⊢
  · rename_i t x lo hi m ho
    refine .val (slice3K_ok (l := lo.map a.eval) (h := hi.map a.eval) (m := some (a.eval m)) hs (ev_ok hs x) ?_ ?_ ?_ h) (by simp [execOp, ho])
    · intro e; cases lo <;> simp at e ⊢
    · intro y hy; cases hi with
      | none => simp at hy
      | some z => simp at hy; subst hy; exact ⟨_, rfl, ev_ok hs z⟩
    · intro y hy; simp at hy; subst hy; exact ⟨_, rfl, ev_ok hs m⟩
  · rename_i t parts ho
    exact .val ((buildK_ok hs h).s hs fun _ hx => hx) (by simp [execOp, ho])
  · rename_i t n parts ho
    exact .val (buildSliceK_ok hs h) (by simp [execOp, ho])
  · rename_i t l c ho
    exact .val (makeSliceK_ok hs (ev_ok hs l) (ev_ok hs c) h) (by simp [execOp, ho])
  · rename_i x ho
    have hx := ev_ok hs x
    unfold nilCheckK at h
    split at h
    · rename_i l off e
      rw [e] at hx
      cases hv : a.eval x <;> rw [hv] at hx <;> cases hx
      exact .val (m := pure (a.eval x)) ⟨_, _, _, _, _, rfl, h, hs, by rw [hv]; exact .ptr _ _ (by assumption)⟩ (by simp [execOp, ho, hv])
    · rename_i l z i off e
      rw [e] at hx
      cases hv : a.eval x <;> rw [hv] at hx <;> cases hx
      exact .val (m := pure (a.eval x)) ⟨_, _, _, _, _, rfl, h, hs, by rw [hv]; exact .rp _ _ _ _ (by assumption)⟩ (by simp [execOp, ho, hv])
    · rename_i cs off e
      rw [e] at hx
      have hx' := hx
      cases hv : a.eval x <;> rw [hv] at hx <;> cases hx <;> rename_i hr <;> cases hr
      exact .val (m := pure (a.eval x)) ⟨_, _, _, _, _, rfl, h, hs, hx'⟩ (by simp [execOp, ho, hv])
    · rename_i f c e
      rw [e] at hx
      have hx' := hx
      cases hv : a.eval x <;> rw [hv] at hx <;> cases hx <;> rename_i hr <;> cases hr
      exact .val (m := pure (a.eval x)) ⟨_, _, _, _, _, rfl, h, hs, hx'⟩ (by simp [execOp, ho, hv])
    · rename_i f c e
      rw [e] at hx
      have hx' := hx
      cases hv : a.eval x <;> rw [hv] at hx <;> cases hx
      exact .val (m := pure (a.eval x)) ⟨_, _, _, _, _, rfl, h, hs, hx'⟩ (by simp [execOp, ho, hv])
    · rename_i cs o e
      rw [e] at hx
      have hx' := hx
      cases hv : a.eval x <;> rw [hv] at hx <;> cases hx
      exact .val (m := pure (a.eval x)) ⟨_, _, _, _, _, rfl, h, hs, hx'⟩ (by simp [execOp, ho, hv])
    · exact h.elim
  · rename_i fn first caps ho
    split at h
    · rename_i e
      obtain ⟨vs, h1, h2, h3⟩ := evL_ok hs _ _ h
      have e' : first = #[] := by simpa using listToArray e
      refine .val (m := pure (.func fn #[] (caps.map a.eval))) ⟨_, _, _, _, _, rfl, h1, hs, .fn _ _ _ (by simpa using h2.symm) (fun j hj => ?_)⟩ (by simp [execOp, ho, e', Instr.makeFunc])
      have hj' : j < caps.size := by simpa [h2] using hj
      have := h3 j caps[j] vs[j] (by simp [hj']) (by simp [hj])
      simpa [Array.getD, hj'] using this
    · exact h.elim
  · rename_i c ho
    split at h
    · rename_i f hc
      obtain ⟨vs, h1, h2, h3⟩ := evL_ok hs _ _ h
      have hargs : ∀ (j : Nat) (hj : j < vs.length), RS E S.nx w vs[j] ((c.args.map a.eval).getD j undef) := fun j hj => by
        have hj' : j < c.args.size := by simpa [h2] using hj
        have := h3 j c.args[j] vs[j] (by simp [hj']) (by simp [hj])
        simpa [Array.getD, hj'] using this
      have hsz : (c.args.map a.eval).size = vs.length := by simp [h2]
      have hf := ev_ok hs f
      have fin : ∀ (g : Nat) (caps : Array Value) (cs : List SV), a.eval f = .func (.func g) #[] caps → caps.size = cs.length → (∀ (j : Nat) (hj : j < cs.length), RS E S.nx w cs[j] (caps.getD j undef)) → CallStop C S g (vs ++ cs) k → Comes1 C O o a w k := by
        intro g caps cs e1 e2 e3 hcs next Q hk
        unfold Oper.wp
        have hrun : (execOp a.eval o).run C.P w = .ok (.enter g (c.args.map a.eval ++ caps)) w := by
          simp [execOp, ho, resolve, hc, e1, Deferred.ofValue, invoke]
          exact hcs.ent _ _
        rw [hrun]
        have hsz2 : (c.args.map a.eval ++ caps).size = (vs ++ cs).length := by simp [h2, e2]
        refine (hcs.out O E a w _ hs hsz2 (fun j hj => ?_)).mono ?_
        · by_cases hlt : j < vs.length
          · rw [List.getElem_append_left hlt]
            have : (c.args.map a.eval ++ caps).getD j undef = (c.args.map a.eval).getD j undef := by
              simp only [Array.getD_eq_getD_getElem?]; rw [Array.getElem?_append_left (by omega)]
            rw [this]; exact hargs j hlt
          · rw [List.getElem_append_right (by omega)]
            have : (c.args.map a.eval ++ caps).getD j undef = caps.getD (j - vs.length) undef := by
              simp only [Array.getD_eq_getD_getElem?]; rw [Array.getElem?_append_right (by omega), hsz]
            rw [this]; exact e3 _ _
        · rintro e w' ⟨v, E', S', x, rfl, g1, g2, g3⟩
          exact hk v E' S' w' x g1 g2 g3
      unfold callK at h1
      split at h1
      · rename_i g e
        rw [e] at hf
        cases hv : a.eval f <;> rw [hv] at hf <;> cases hf <;> rename_i hr <;> cases hr
        rename_i hs0 _
        exact fin g _ [] hv (by simpa using hs0) (fun j hj => by simp at hj) (by rw [List.append_nil]; exact h1)
      · rename_i g caps _ e
        rw [e] at hf
        cases hv : a.eval f <;> rw [hv] at hf <;> cases hf <;> rename_i hr <;> cases hr
        rename_i hs0 hg
        exact fin g _ (caps.map .d) hv (by simpa using hs0) (fun j hj => by
          have hj' : j < caps.length := by simpa using hj
          rw [List.getElem_map]; exact .d _ _ (hg j hj')) h1
      · rename_i g caps e
        rw [e] at hf
        cases hv : a.eval f <;> rw [hv] at hf <;> cases hf
        rename_i hs0 hg
        exact fin g _ caps hv hs0 hg h1
      · exact h1.elim
    · rename_i b hc
      obtain ⟨vs, h1, h2, h3⟩ := evL_ok hs _ _ h
      unfold builtinK at h1
      split at h1
      · rename_i t x e1
        have ht := listToArray e1
        match hca : c.args.toList, h2, h3 with
        | [y], h2, h3 =>
          have hca' := listToArray hca
          have hy := h3 0 y x rfl rfl
          exact .val ((lenK_ok (ty := o.type) hy h1).s hs fun _ hx => hx) (by simp [execOp, ho, resolve, hc, invoke, builtin, ht, hca'])
        | [], h2, h3 => simp at h2
        | _ :: _ :: _, h2, h3 => simp at h2
      · rename_i x z
        match hca : c.args.toList, h2, h3 with
        | [y, u], h2, h3 =>
          have hca' := listToArray hca
          have hy := h3 0 y x rfl rfl
          have hu := h3 1 u z rfl rfl
          exact .val ((minK_ok (ts := c.argTypes) (t := o.type) hy hu h1).s hs fun _ hx => hx) (by simp [execOp, ho, resolve, hc, invoke, builtin, hca'])
        | [], h2, h3 => simp at h2
        | [_], h2, h3 => simp at h2
        | _ :: _ :: _ :: _, h2, h3 => simp at h2
      · rename_i x z
        match hca : c.args.toList, h2, h3 with
        | [y, u], h2, h3 =>
          have hca' := listToArray hca
          have hy := h3 0 y x rfl rfl
          have hu := h3 1 u z rfl rfl
          exact .val ((maxK_ok (ts := c.argTypes) (t := o.type) hy hu h1).s hs fun _ hx => hx) (by simp [execOp, ho, resolve, hc, invoke, builtin, hca'])
        | [], h2, h3 => simp at h2
        | [_], h2, h3 => simp at h2
        | _ :: _ :: _ :: _, h2, h3 => simp at h2
      · rename_i t t2 x z e1
        cases hb : Nat.beq t t2 with
        | false => simp [hb] at h1
        | true =>
          simp only [hb, cond_true] at h1
          obtain rfl := Nat.eq_of_beq_eq_true hb
          have ht := listToArray e1
          match hca : c.args.toList, h2, h3 with
          | [y, u], h2, h3 =>
            have hca' := listToArray hca
            have hy := h3 0 y x rfl rfl
            have hu := h3 1 u z rfl rfl
            exact .val (appendK_ok (ty := o.type) hs hy hu h1) (by simp [execOp, ho, resolve, hc, invoke, builtin, ht, hca'])
          | [], h2, h3 => simp at h2
          | [_], h2, h3 => simp at h2
          | _ :: _ :: _ :: _, h2, h3 => simp at h2
      · rename_i t x e1
        have ht := listToArray e1
        match hca : c.args.toList, h2, h3 with
        | [y], h2, h3 =>
          have hca' := listToArray hca
          have hy := h3 0 y x rfl rfl
          exact .val (clearK_ok (ty := o.type) hs hy h1) (by simp [execOp, ho, resolve, hc, invoke, builtin, ht, hca'])
        | [], h2, h3 => simp at h2
        | _ :: _ :: _, h2, h3 => simp at h2
      · exact h1.elim
    · exact h.elim
  · exact h.out O E a w o rfl hs
end Go.Proofs.YteallmlkkcjblaaGreatDoor

namespace Go.Proofs.YteallmlkkcjblaaGreatDoor
open Go.RowKit
theorem ways {b : Bool} {A B : Prop} (h1 : b = true → A) (h2 : b = false → B) : bif b then A else B := by cases b <;> simp_all
def runK (C : Cx) (S : St) (o : Oper) (k : St → Prop) : Prop := val1 C S o.op fun S' x => putK S' o.dst x k
def setSlot : St → Nat → Bool → St
  | ⟨nt, nx, fr, hp⟩, t, b => ⟨nt, nx, (t, .b b) :: fr, hp⟩
theorem RS.skip (E : Env) (nx : Nat) (w : World) : RS E nx w (.tup []) undef := .tup [] #[] rfl fun j hj => by simp at hj
theorem RS.skip_inv {E : Env} {nx : Nat} {w : World} {v : Value} (h : RS E nx w (.tup []) v) : v = undef := by
  cases h with
  | tup _ us hs _ =>
    have : us = #[] := Array.eq_empty_of_size_eq_zero (by simpa using hs)
    subst this; rfl
def execG (C : Cx) (ops : List Oper) (S : St) (o : Oper) (k : St → Prop) : Prop :=
  match o.guard with
  | none => runK C S o k
  | some (j, want) => match (ops[j]?).bind (·.dst) with
    | some t => match lk S.fr t with
      | .d (.val (.bool b)) => match want with
        | true => bif b then runK C (setSlot S t true) o k else putK (setSlot S t false) o.dst (.tup []) k
        | false => bif b then putK (setSlot S t true) o.dst (.tup []) k else runK C (setSlot S t false) o k
      | .tup [] => putK S o.dst (.tup []) k
      | _ => False
    | none => False
theorem Sat.setSlot {O : Org} {E : Env} {S : St} {a : Act} {w : World} (h : Sat O E S a w) {t : Nat} {b : Bool} (hv : a.tmps.getD t undef = .bool b) : Sat O E (setSlot S t b) a w := by
  obtain ⟨nt, nx, fr, hp⟩ := S
  refine ⟨fun n => ?_, h.nt, h.df, h.hp, h.nx, h.inj, h.im, h.own, h.kq, h.lab, h.nl, h.imo⟩
  simp only [_root_.Go.Proofs.YteallmlkkcjblaaGreatDoor.setSlot, lk_cons]
  by_cases e : t = n
  · subst e; rw [if_pos rfl, hv]; exact RS.bool _ _ _ b
  · rw [if_neg e]; exact h.fr n
def execL (C : Cx) (ops : List Oper) : List Oper → St → (St → Prop) → Prop
  | [], S, k => k S
  | o :: r, S, k => execG C ops S o fun S' => execL C ops r S' k
theorem execL_ok {C : Cx} {O : Org} {ops : List Oper} {Q : Exit → Act → World → Prop} : ∀ (l : List Oper) {E : Env} {S : St} {a : Act} {w : World} {k : St → Prop}, execL C ops l S k → Sat O E S a w →
    (∀ S' E' a' w', k S' → Sat O E' S' a' w' → Q .normal a' w') → wpList C.P ops.toArray Q l a w
  | [], E, S, a, w, k, h, hs, hk => hk S E a w h hs
  | o :: r, E, S, a, w, k, h, hs, hk => by
    have h : execG C ops S o fun S' => execL C ops r S' k := h
    unfold execG at h
    split at h
    · rename_i hg
      unfold wpList
      rw [if_pos (by simp [Region.wanted, hg])]
      refine Or.inl (val1_ok hs h _ _ fun v E' S' w' x h1 h2 h3 => ?_)
      obtain ⟨S'', g1, g2⟩ := putK_ok h2 h3 h1
      exact execL_ok r g1 g2 hk
    · rename_i j want hg
      split at h
      · rename_i t ht
        split at h
        · rename_i b hb
          have hv := hs.fr t
          rw [hb] at hv
          have hv := hv.val_inv
          have hy : yielded ops.toArray a.tmps j = some b := by
            unfold yielded
            have h1 : (ops.toArray[j]?).bind (·.dst) = some t := by simpa using ht
            have h2 : a.tmps[t]? = some (.bool b) := by
              rw [Array.getD_eq_getD_getElem?] at hv
              cases hq : a.tmps[t]? with
              | none => rw [hq] at hv; simp [undef] at hv
              | some y => rw [hq] at hv; simp at hv; rw [hv]
            rw [h1]
            simp [h2]
          have hs' := hs.setSlot hv
          have run : b = want → runK C (setSlot S t b) o (fun S' => execL C ops r S' k) → wpList C.P ops.toArray Q (o :: r) a w := fun hbw h => by
            unfold wpList
            rw [if_pos (by simp [Region.wanted, hg, hy, hbw])]
            refine Or.inl (val1_ok hs' h _ _ fun v E' S' w' x h1 h2 h3 => ?_)
            obtain ⟨S'', g1, g2⟩ := putK_ok h2 h3 h1
            exact execL_ok r g1 g2 hk
          have skip : b ≠ want → putK (setSlot S t b) o.dst (.tup []) (fun S' => execL C ops r S' k) → wpList C.P ops.toArray Q (o :: r) a w := fun hbw h => by
            unfold wpList
            rw [if_neg (by simp [Region.wanted, hg, hy, hbw])]
            obtain ⟨S'', g1, g2⟩ := putK_ok hs' (RS.skip _ _ _) h
            exact execL_ok r g1 g2 hk
          cases want <;> cases b
          · exact run rfl h
          · exact skip (by simp) h
          · exact skip (by simp) h
          · exact run rfl h
        · rename_i hb
          have hv := hs.fr t
          rw [hb] at hv
          have hv := hv.skip_inv
          have hy : yielded ops.toArray a.tmps j = none := by
            unfold yielded
            have h1 : (ops.toArray[j]?).bind (·.dst) = some t := by simpa using ht
            rw [h1]
            rw [Array.getD_eq_getD_getElem?] at hv
            cases hq : a.tmps[t]? with
            | none => simp [hq]
            | some y => rw [hq] at hv; simp at hv; subst hv; simp [hq, undef]
          unfold wpList
          rw [if_neg (by simp [Region.wanted, hg, hy])]
          obtain ⟨S'', g1, g2⟩ := putK_ok hs (RS.skip _ _ _) h
          exact execL_ok r g1 g2 hk
        · exact h.elim
      · exact h.elim
structure Wp (C : Cx) (c : Code) (S : St) (Q : Exit → St → Prop) : Prop where
  out : ∀ O E a w, Sat O E S a w → c.wp C.P (fun e a' w' => ∃ S' E', Q e S' ∧ Sat O E' S' a' w') a w
def thenQ (C : Cx) (c : Code) (Q : Exit → St → Prop) : Exit → St → Prop
  | .normal, S => Wp C c S Q
  | e, S => Q e S
def blockQ (id : Nat) (Q : Exit → St → Prop) : Exit → St → Prop
  | .exit i, S => if i = id then Q .normal S else Q (.exit i) S
  | e, S => Q e S
structure SV.Le (x y : SV) : Prop where
  out : ∀ E nx w v, RS E nx w x v → RS E nx w y v
theorem SV.Le.rfl (x : SV) : SV.Le x x := ⟨fun _ _ _ _ h => h⟩
theorem SV.Le.of_eq {x y : SV} (h : x = y) : SV.Le x y := by subst h; exact .rfl x
theorem SV.Le.b {x y : Bool} (h : x = y) : SV.Le (.b x) (.b y) := .of_eq (by rw [h])
theorem SV.Le.i {k : IntKind} {x y : Int} (h : x = y) : SV.Le (.i k x) (.i k y) := .of_eq (by rw [h])
structure Le (S S' : St) : Prop where
  out : ∀ O E a w, Sat O E S a w → ∃ E', Sat O E' S' a w
theorem Le.refl (S : St) : Le S S := ⟨fun _ E _ _ h => ⟨E, h⟩⟩
theorem Le.trans {S S' S'' : St} (h : Le S S') (k : Le S' S'') : Le S S'' := ⟨fun O E a w hs => let ⟨E', h1⟩ := h.out O E a w hs; k.out O E' a w h1⟩
theorem Wp.mono {C : Cx} {c : Code} {S : St} {Q Q' : Exit → St → Prop} (hw : Wp C c S Q) (h : ∀ e S, Q e S → Q' e S) : Wp C c S Q' :=
  ⟨fun O E a w hs => wp_mono (hw.out O E a w hs) fun _ _ _ ⟨S', E', h1, h2⟩ => ⟨S', E', h _ _ h1, h2⟩⟩
theorem Wp.seq {C : Cx} {x y : Code} {S : St} {Q : Exit → St → Prop} (h : Wp C x S (thenQ C y Q)) : Wp C (.seq x y) S Q :=
  ⟨fun O E a w hs => wp_seq (wp_mono (h.out O E a w hs) fun e a' w' ⟨S', E', h1, h2⟩ => by
    cases e with
    | normal => exact h1.out O E' a' w' h2
    | _ => exact ⟨S', E', h1, h2⟩)⟩
theorem Wp.block {C : Cx} {id : Nat} {c : Code} {S : St} {Q : Exit → St → Prop} (h : Wp C c S (blockQ id Q)) : Wp C (.block id c) S Q :=
  ⟨fun O E a w hs => wp_block (wp_mono (h.out O E a w hs) fun e a' w' ⟨S', E', h1, h2⟩ => by
    cases e with
    | exit i =>
      simp only [blockQ] at h1
      by_cases hi : i = id
      · rw [if_pos hi] at h1; simp only [Exit.inBlock, hi, if_true]; exact ⟨S', E', h1, h2⟩
      · rw [if_neg hi] at h1; simp only [Exit.inBlock, hi, if_false]; exact ⟨S', E', h1, h2⟩
    | _ => exact ⟨S', E', h1, h2⟩)⟩
theorem Wp.skip {C : Cx} {S : St} {Q : Exit → St → Prop} (h : Q .normal S) : Wp C .skip S Q := ⟨fun _ E _ _ hs => wp_skip ⟨S, E, h, hs⟩⟩
theorem Wp.ret {C : Cx} {S : St} {Q : Exit → St → Prop} (h : Q .ret S) : Wp C .ret S Q := ⟨fun _ E _ _ hs => wp_ret ⟨S, E, h, hs⟩⟩
theorem Wp.exit {C : Cx} {id : Nat} {S : St} {Q : Exit → St → Prop} (h : Q (.exit id) S) : Wp C (.exit id) S Q := ⟨fun _ E _ _ hs => wp_exit ⟨S, E, h, hs⟩⟩
theorem Wp.region {C : Cx} {id : Nat} {l : List Oper} {S : St} {Q : Exit → St → Prop} (h : execL C l l S (Q .normal)) : Wp C (.region id l.toArray false) S Q :=
  ⟨fun O E a w hs => wp_region_lit (execL_ok l h hs fun S' E' a' w' h1 h2 => ⟨S', E', h1, h2⟩)⟩
def condK (C : Cx) (x : SV) (S : St) (c d : Code) (Q : Exit → St → Prop) : Prop :=
  match x with
  | .d (.val (.bool b)) => bif b then Wp C c S Q else Wp C d S Q
  | _ => False
theorem Wp.cond {C : Cx} {x : Operand} {c d : Code} {S : St} {Q : Exit → St → Prop} (h : condK C (ev S x) S c d Q) : Wp C (.cond x c d) S Q :=
  ⟨fun O E a w hs => by
    have hx := ev_ok hs x
    unfold condK at h
    split at h
    · rename_i b e
      rw [e] at hx
      exact wp_cond_split hx.val_inv (fun hb => by subst hb; exact h.out O E a w hs) (fun hb => by subst hb; exact h.out O E a w hs)
    · exact h.elim⟩
def roundQ {ι : Type} (I : ι → St) (μ : ι → Nat) (n : Nat) (Q : Exit → St → Prop) : Exit → St → Prop
  | .normal, S => ∃ i, μ i < n ∧ Le S (I i)
  | e, S => Q e S
def SV.free : SV → Bool
  | .any | .d _ => true
  | .agg vs => vs.all fun | .any | .d _ => true | _ => false
  | .tup vs => vs.all fun | .any | .d _ => true | .agg us => us.all (fun | .any | .d _ => true | _ => false) | _ => false
  | _ => false
theorem free1 {E E' : Env} {nx nx' : Nat} {w : World} {x : SV} {v : Value} (hE : E'.Im = E.Im) (hf : (match x with | .any | .d _ => true | _ => false) = true) (h : RS E nx w x v) : RS E' nx' w x v := by
  cases h with
  | any => exact .any _
  | d x v h => exact .d x v (by rw [hE]; exact h)
  | _ => simp at hf
theorem free2 {E E' : Env} {nx nx' : Nat} {w : World} {us : List SV} {v : Value} (hE : E'.Im = E.Im) (hf : us.all (fun | .any | .d _ => true | _ => false) = true) (h : RS E nx w (.agg us) v) : RS E' nx' w (.agg us) v := by
  rw [List.all_eq_true] at hf
  cases h with
  | agg _ vs hs h1 hh => exact .agg _ _ hs h1 fun j hj => free1 hE (hf _ (List.getElem_mem hj)) (hh j hj)
theorem RS.free {E E' : Env} {nx nx' : Nat} {w : World} {x : SV} {v : Value} (hE : E'.Im = E.Im) (hf : x.free = true) (h : RS E nx w x v) : RS E' nx' w x v := by
  cases x with
  | any => exact .any v
  | d x => exact free1 (x := .d x) hE rfl h
  | agg us => exact free2 hE hf h
  | tup us =>
    simp only [SV.free] at hf
    rw [List.all_eq_true] at hf
    cases h with
    | tup _ vs hs hh =>
      refine .tup _ _ hs fun j hj => ?_
      have h1 := hf _ (List.getElem_mem hj)
      have h2 := hh j hj
      revert h1 h2
      cases us[j] with
      | any => intro _ _; exact .any _
      | d y => intro _ h2; exact free1 (x := .d y) hE rfl h2
      | agg ws => intro h1 h2; exact free2 hE h1 h2
      | _ => intro h1; simp at h1
  | _ => simp [SV.free] at hf
structure Pure (C : Cx) (g : Nat) (args : List SV) (r : SV) : Prop where
  ent : Enters C.P g
  out : ∀ (E : Env) (w : World) (vs : Array Value), (∀ b, E.Im b → b < w.heap.size) → vs.size = args.length → (∀ j (hj : j < args.length), RS E 0 w args[j] (vs.getD j undef)) →
    Calls C.P g vs w fun e w' => ∃ v, e = .returned v ∧ Kp w w' ∧ RS ⟨E.ρ, E.κ, fun b => E.Im b ∨ (w.heap.size ≤ b ∧ b < w'.heap.size)⟩ 0 w' r v
theorem Sat.after {O : Org} {E : Env} {S : St} {a : Act} {w w' : World} (h : Sat O E S a w) (hk : Kp w w') : Sat O ⟨E.ρ, E.κ, fun b => E.Im b ∨ (w.heap.size ≤ b ∧ b < w'.heap.size)⟩ S a w' := by
  have hwi : ∀ b, E.Im b → w'.heap[b]? = w.heap[b]? := fun b hb => hk.block b (h.im b hb).1
  refine ⟨fun n => RS.mono (E := E) (fun _ _ => ⟨rfl, rfl⟩) (Nat.le_refl _) (fun _ hb => Or.inl hb) hwi (h.fr n), h.nt, h.df, fun l b hb => ?_, h.nx, h.inj, ?_, h.own, ?_, h.lab, h.nl, fun b hb => Or.inl (h.imo b hb)⟩
  · exact BS.mono (E := E) (h.nx l b hb) (fun _ _ => ⟨rfl, rfl⟩) (Nat.le_refl _) (fun _ hb => Or.inl hb) hwi (fun hr => hk.block _ ((h.hp l b hb).lt hr)) (h.hp l b hb)
  · intro b hb
    rcases hb with hb | ⟨h1, h2⟩
    · obtain ⟨g1, g2, g3⟩ := h.im b hb
      exact ⟨by have := hk.size; omega, g2, g3⟩
    · refine ⟨h2, Or.inl (by have := h.kq.size; omega), fun l x hl hr e => ?_⟩
      have := (h.hp l x hl).lt hr
      simp only at e
      omega
  · exact h.kq.trans (hk.kq _)
theorem CallStop.pure {C : Cx} {S : St} {g : Nat} {args : List SV} {r : SV} {k : St → SV → Prop} (h : Pure C g args r) (hf : args.all SV.free = true) (hr : r.free = true) (hk : k S r) : CallStop C S g args k := by
  refine ⟨h.ent, fun O E a w vs hs hsz hargs => ?_⟩
  rw [List.all_eq_true] at hf
  refine (h.out E w vs (fun b hb => (hs.im b hb).1) hsz fun j hj => (hargs j hj).free rfl (hf _ (List.getElem_mem hj))).mono ?_
  rintro e w' ⟨v, rfl, hkp, hv⟩
  exact ⟨v, _, S, r, rfl, hk, hs.after hkp, hv.free rfl hr⟩
def resK (C : Cx) (S : St) : List ResultVar → (List SV → Prop) → Prop
  | [], k => k []
  | .tmp t :: r, k => forceK (lk S.fr t) fun v => resK C S r fun vs => k (v :: vs)
  | .cell t ty :: r, k => loadK C S ty (lk S.fr t) fun v => forceK v fun v' => resK C S r fun vs => k (v' :: vs)
def tupK : List SV → (SV → Prop) → Prop
  | [v], k => k v
  | vs, k => k (.tup vs)
def sealD (S : St) : SV → (SV → Prop) → Prop
  | .d x, k => k (.d x)
  | .any, k => k .any
  | .sl l esz off n, k => match lkh S.hp l with
    | some (.row _ z m f) => bif Nat.beq z esz then off + n ≤ m ∧ k (.d (.sl esz n fun i => f (off + i))) else False
    | _ => False
  | .ptr l off, k => match lkh S.hp l with
    | some (.cells cs) => allD cs fun ds => k (.d (.ref ds off))
    | _ => False
  | _, _ => False
def sealL (S : St) : List SV → (List SV → Prop) → Prop
  | [], k => k []
  | v :: r, k => sealD S v fun v' => sealL S r fun r' => k (v' :: r')
def seal2 (S : St) : SV → (SV → Prop) → Prop
  | .agg vs, k => sealL S vs fun vs' => k (.agg vs')
  | .d x, k => k (.d x)
  | .any, k => k .any
  | .sl l z o n, k => sealD S (.sl l z o n) k
  | .ptr l o, k => sealD S (.ptr l o) k
  | _, _ => False
def sealL2 (S : St) : List SV → (List SV → Prop) → Prop
  | [], k => k []
  | v :: r, k => seal2 S v fun v' => sealL2 S r fun r' => k (v' :: r')
def seal3 (S : St) : SV → (SV → Prop) → Prop
  | .tup vs, k => sealL2 S vs fun vs' => k (.tup vs')
  | v, k => seal2 S v k
end Go.Proofs.YteallmlkkcjblaaGreatDoor

namespace Go.Proofs.YteallmlkkcjblaaGreatDoor
open Go.RowKit
theorem Enters.mk {P : Program} {g : Nat} {fn : Func} (hf : P.funcs[g]? = some fn) (hn : (fn.name == "runtime.NumGoroutine") = false) (hb : fn.body.isNone = false) : Enters P g := by
  intro vs w
  have hb' : fn.body ≠ none := fun e => by rw [e] at hb; simp at hb
  have hn' : fn.name ≠ "runtime.NumGoroutine" := by simpa using hn
  simp [callFunc, program, hf, hn', hb', Sem.run, bind, Sem.bind]
def Env.all (E : Env) (S : St) : Nat → Prop := fun b => E.Im b ∨ ∃ l x, lkh S.hp l = some x ∧ x.real (E.κ l) ∧ E.ρ l = b
theorem sealD_ok {O : Org} {E : Env} {S : St} {a : Act} {w : World} (hs : Sat O E S a w) {x : SV} {v : Value} {k : SV → Prop} (hv : RS E S.nx w x v) (h : sealD S x k) :
    ∃ y, k y ∧ RS ⟨E.ρ, E.κ, E.all S⟩ 0 w y v := by
  unfold sealD at h
  split at h
  · rename_i d
    cases hv with | d _ _ hv => exact ⟨_, h, .d _ _ (hv.mono (fun b hb => Or.inl hb) fun _ _ => rfl)⟩
  · exact ⟨_, h, .any _⟩
  · rename_i l esz off n
    split at h
    · rename_i e z m f hl
      cases hz : Nat.beq z esz with
      | false => simp [hz] at h
      | true =>
        simp only [hz, cond_true] at h
        obtain rfl := Nat.eq_of_beq_eq_true hz
        obtain ⟨h1, h2⟩ := h
        cases hv with
        | sl _ _ _ _ a' cap hlx hc hm ha h0 =>
          obtain ⟨k1, k2, k3, k4, k5⟩ := hs.hp l _ hl
          by_cases hn : n = 0
          · subst hn
            exact ⟨_, h2, .d _ _ (.sl z 0 _ a' cap (fun _ _ => undef) hc hm (fun i hi => by omega) (fun h9 => by simp at h9) (fun i j hi => by omega))⟩
          · obtain ⟨vs, g1, g2, g3, g4⟩ := k5 (by omega)
            refine ⟨_, h2, .d _ _ (.sl z n _ a' cap (fun i j => vs.getD ((off + i) * z + j) undef) hc hm (fun i hi => k4 _ (by omega)) (fun _ => ⟨E.ρ l, off * z, ha (by omega), Or.inr ⟨l, _, hl, by show 0 < E.κ l; omega, rfl⟩, fun i j hi hj => ?_⟩) (fun i j hi hj => ?_))⟩
            · have h5 : (off + i + 1) * z ≤ E.κ l * z := Nat.mul_le_mul_right _ (by omega)
              rw [Nat.add_mul, Nat.one_mul, Nat.add_mul] at h5
              have h6 : off * z + i * z + j < vs.size := by omega
              have h7 : (off + i) * z + j < vs.size := by rw [Nat.add_mul]; exact h6
              simp only [World.cell?, g1, Array.getD, h7, dif_pos]
              rw [← Nat.add_mul]
              simp [h7]
            · exact (g4 (off + i) j (by omega) hj).mono (fun b hb => Or.inl hb) fun _ _ => rfl
    · exact h.elim
  · rename_i l off
    split at h
    · rename_i cs hl
      obtain ⟨ds, hds, h2⟩ := allD_ok _ _ h
      obtain ⟨vs, T, g1, g2, g3⟩ := hs.hp l _ hl
      cases hv with
      | ptr _ _ hlx =>
        subst hds
        have hr := RD.ref (w := w) (Im := E.all S) ds off (E.ρ l) 0 (fun q => vs.getD q undef) (Or.inr ⟨l, _, hl, trivial, rfl⟩) (fun j hj => by
            have : j < vs.size := by simpa [g2] using hj
            simp [World.cell?, g1, Array.getD, this]) (fun j hj => by
            have := (g3 j (by simpa using hj)).1
            rw [List.getElem_map] at this
            cases this with | d _ _ h9 => exact h9.mono (fun b hb => Or.inl hb) fun _ _ => rfl)
        rw [Nat.zero_add] at hr
        exact ⟨_, h2, .d _ _ hr⟩
    · exact h.elim
  · exact h.elim
theorem sealL_ok {O : Org} {E : Env} {S : St} {a : Act} {w : World} (hs : Sat O E S a w) : ∀ (vs : List SV) (us : List Value) (k : List SV → Prop), us.length = vs.length → (∀ (j : Nat) (x : SV) (v : Value), vs[j]? = some x → us[j]? = some v → RS E S.nx w x v) → sealL S vs k →
    ∃ ys : List SV, k ys ∧ ys.length = vs.length ∧ ∀ (j : Nat) (y : SV) (v : Value), ys[j]? = some y → us[j]? = some v → RS ⟨E.ρ, E.κ, E.all S⟩ 0 w y v
  | [], us, k, hl, hh, h => ⟨[], h, rfl, fun j y v hj => by simp at hj⟩
  | x :: r, [], k, hl, hh, h => by simp at hl
  | x :: r, u :: us, k, hl, hh, h => by
    obtain ⟨y, h1, h2⟩ := sealD_ok hs (hh 0 x u rfl rfl) h
    obtain ⟨ys, h3, h4, h5⟩ := sealL_ok hs r us _ (by simpa using hl) (fun j x v hx hv => hh (j + 1) x v (by simpa using hx) (by simpa using hv)) h1
    refine ⟨_, h3, by simp [h4], fun j z v hz hv => ?_⟩
    cases j with
    | zero => simp at hz hv; subst hz hv; exact h2
    | succ j => simp at hz hv; exact h5 j z v hz hv
theorem arr_get {us : Array Value} {j : Nat} {v : Value} (h : us.toList[j]? = some v) : us.getD j undef = v := by
  rw [getD_toList, h]; rfl
theorem seal2_ok {O : Org} {E : Env} {S : St} {a : Act} {w : World} (hs : Sat O E S a w) {x : SV} {v : Value} {k : SV → Prop} (hv : RS E S.nx w x v) (h : seal2 S x k) :
    ∃ y, k y ∧ RS ⟨E.ρ, E.κ, E.all S⟩ 0 w y v := by
  unfold seal2 at h
  split at h
  · rename_i vs
    cases hv with
    | agg _ us hsz h1 hh =>
      obtain ⟨ys, g1, g2, g3⟩ := sealL_ok hs vs us.toList _ (by simpa using hsz) (fun j x v hx hv => by
        obtain ⟨q1, q2⟩ := List.getElem?_eq_some_iff.1 hx
        subst q2; rw [← arr_get hv]; exact hh j q1) h
      refine ⟨_, g1, .agg _ _ (by omega) h1 fun j hj => ?_⟩
      have hj2 : j < us.size := by omega
      refine g3 j _ _ (List.getElem?_eq_getElem hj) ?_
      simp [Array.getD, hj2]
  · exact sealD_ok hs hv h
  · exact sealD_ok hs hv h
  · exact sealD_ok hs hv h
  · exact sealD_ok hs hv h
  · exact h.elim
theorem sealL2_ok {O : Org} {E : Env} {S : St} {a : Act} {w : World} (hs : Sat O E S a w) : ∀ (vs : List SV) (us : List Value) (k : List SV → Prop), us.length = vs.length → (∀ (j : Nat) (x : SV) (v : Value), vs[j]? = some x → us[j]? = some v → RS E S.nx w x v) → sealL2 S vs k →
    ∃ ys : List SV, k ys ∧ ys.length = vs.length ∧ ∀ (j : Nat) (y : SV) (v : Value), ys[j]? = some y → us[j]? = some v → RS ⟨E.ρ, E.κ, E.all S⟩ 0 w y v
  | [], us, k, hl, hh, h => ⟨[], h, rfl, fun j y v hj => by simp at hj⟩
  | x :: r, [], k, hl, hh, h => by simp at hl
  | x :: r, u :: us, k, hl, hh, h => by
    obtain ⟨y, h1, h2⟩ := seal2_ok hs (hh 0 x u rfl rfl) h
    obtain ⟨ys, h3, h4, h5⟩ := sealL2_ok hs r us _ (by simpa using hl) (fun j x v hx hv => hh (j + 1) x v (by simpa using hx) (by simpa using hv)) h1
    refine ⟨_, h3, by simp [h4], fun j z v hz hv => ?_⟩
    cases j with
    | zero => simp at hz hv; subst hz hv; exact h2
    | succ j => simp at hz hv; exact h5 j z v hz hv
theorem seal3_ok {O : Org} {E : Env} {S : St} {a : Act} {w : World} (hs : Sat O E S a w) {x : SV} {v : Value} {k : SV → Prop} (hv : RS E S.nx w x v) (h : seal3 S x k) :
    ∃ y, k y ∧ RS ⟨E.ρ, E.κ, E.all S⟩ 0 w y v := by
  unfold seal3 at h
  split at h
  · rename_i vs
    cases hv with
    | tup _ us hsz hh =>
      obtain ⟨ys, g1, g2, g3⟩ := sealL2_ok hs vs us.toList _ (by simpa using hsz) (fun j x v hx hv => by
        obtain ⟨q1, q2⟩ := List.getElem?_eq_some_iff.1 hx
        subst q2; rw [← arr_get hv]; exact hh j q1) h
      refine ⟨_, g1, .tup _ _ (by omega) fun j hj => ?_⟩
      have hj2 : j < us.size := by omega
      refine g3 j _ _ (List.getElem?_eq_getElem hj) ?_
      simp [Array.getD, hj2]
  · exact seal2_ok hs hv h
def resS (tmps : Array Value) : ResultVar → Sem Value
  | .tmp t => Pure.pure (tmps.getD t undef)
  | .cell q t => do loadVar t (← asAddr (tmps.getD q undef))
theorem results_eq (fn : Func) (tmps : Array Value) : results fn tmps = (do let vs ← fn.results.mapM (resS tmps); Pure.pure (if h : vs.size = 1 then vs[0] else .tuple vs)) := by
  unfold results
  congr
theorem resK_ok {C : Cx} {O : Org} {E : Env} {S : St} {a : Act} {w : World} (hs : Sat O E S a w) : ∀ (l : List ResultVar) (k : List SV → Prop), resK C S l k →
    ∃ (vs : List SV) (us : List Value), k vs ∧ (l.mapM (resS a.tmps)).run C.P w = .ok us w ∧ us.length = vs.length ∧
      ∀ (j : Nat) (x : SV) (v : Value), vs[j]? = some x → us[j]? = some v → RS E S.nx w x v
  | [], k, h => ⟨[], [], h, by simp [List.mapM_nil], rfl, fun j x v hx => by simp at hx⟩
  | .tmp t :: r, k, h => by
    obtain ⟨vs, us, h1, h2, h3, h4⟩ := resK_ok hs r _ (forceK_ok h)
    refine ⟨_, a.tmps.getD t undef :: us, h1, by simp [List.mapM_cons, resS, h2], by simp [h3], fun j x v hx hv => ?_⟩
    cases j with
    | zero => simp at hx; cases hv; subst hx; exact hs.fr t
    | succ j => simp at hx hv; exact h4 j x v hx hv
  | .cell q t :: r, k, h => by
    obtain ⟨u, x, h1, h2, h3⟩ := loadK_ok hs (hs.fr q) h
    obtain ⟨vs, us, g1, g2, g3, g4⟩ := resK_ok hs r _ (forceK_ok h2)
    have hrun : (resS a.tmps (.cell q t)).run C.P w = .ok u w := by
      unfold resS
      cases hq : a.tmps.getD q undef with
      | pointer p => cases p with
        | none => rw [hq] at h1; simp [Instr.loadAt, Instr.sureAddr, stuck, Sem.run] at h1
        | some p => rw [hq] at h1; simp only [Instr.loadAt, Instr.sureAddr] at h1; simp only [Sem.run_bind, asAddr, hq]; simpa using h1
      | _ => rw [hq] at h1; simp [Instr.loadAt, Instr.sureAddr, stuck, Sem.run] at h1
    refine ⟨_, u :: us, g1, ?_, by simp [g3], fun j y v hy hv => ?_⟩
    · rw [List.mapM_cons]
      simp [hrun, g2]
    · cases j with
      | zero => simp at hy; cases hv; subst hy; exact h3
      | succ j => simp at hy hv; exact g4 j y v hy hv
def finQ (C : Cx) (rs : List ResultVar) (r : SV) : Exit → St → Prop
  | .normal, S => resK C S rs fun vs => tupK vs fun x => seal3 S x fun y => SV.Le y r
  | .ret, S => resK C S rs fun vs => tupK vs fun x => seal3 S x fun y => SV.Le y r
  | _, _ => False
def slots : Nat → List SV → List (Nat × SV)
  | _, [] => []
  | n, v :: r => (n, v) :: slots (n + 1) r
theorem lk_slots : ∀ (l : List SV) (n j : Nat), lk (slots n l) j = if n ≤ j ∧ j < n + l.length then (l[j - n]?).getD .any else .any
  | [], n, j => by simp [slots, lk]
  | v :: r, n, j => by
    simp only [slots, lk_cons, lk_slots r (n + 1) j]
    by_cases h : n = j
    · subst h; simp
    · rw [if_neg h]
      by_cases h2 : n + 1 ≤ j ∧ j < n + 1 + r.length
      · rw [if_pos h2, if_pos (by simp; omega), show j - n = (j - (n + 1)) + 1 by omega]; simp
      · rw [if_neg h2, if_neg (by simp; omega)]
theorem tupK_ok {E : Env} {nx : Nat} {w : World} {vs : List SV} {us : List Value} {k : SV → Prop} (hl : us.length = vs.length) (hh : ∀ (j : Nat) (x : SV) (v : Value), vs[j]? = some x → us[j]? = some v → RS E nx w x v) (h : tupK vs k) :
    ∃ x, k x ∧ RS E nx w x (if h : us.toArray.size = 1 then us.toArray[0] else .tuple us.toArray) := by
  unfold tupK at h
  split at h
  · rename_i v
    obtain ⟨u, rfl⟩ := List.length_eq_one_iff.1 (show us.length = 1 by simpa using hl)
    exact ⟨v, h, by simpa using hh 0 v u rfl rfl⟩
  · rename_i hne
    have : us.toArray.size ≠ 1 := by
      intro e
      simp at e
      obtain ⟨v, rfl⟩ := List.length_eq_one_iff.1 (show vs.length = 1 by omega)
      exact hne v rfl
    rw [dif_neg this]
    refine ⟨_, h, .tup _ _ (by simpa using hl) fun j hj => ?_⟩
    have hj2 : j < us.length := by omega
    exact hh j _ _ (List.getElem?_eq_getElem hj) (by simp [Array.getD, hj2])
theorem Pure.mk' {C : Cx} {g : Nat} {args : List SV} {r : SV} {fn : Func} {c : Code} (hf : C.P.funcs[g]? = some fn) (hb : fn.body = some c) (hn : (fn.name == "runtime.NumGoroutine") = false) (hle : args.length ≤ fn.ntmps)
    (h : Wp C c ⟨⟨fn.ntmps, 0⟩, 0, slots 0 args, []⟩ (finQ C fn.results.toList r)) : Pure C g args r := by
  refine ⟨.mk hf hn (by simp [hb]), fun E w vs hIm hsz hargs => calls_of_wp hf hb ?_⟩
  let O : Org := ⟨w, fun _ => False, E.Im, 0, E.ρ, E.κ, []⟩
  have hs : Sat O E ⟨⟨fn.ntmps, 0⟩, 0, slots 0 args, []⟩ { tmps := vs ++ Array.replicate (fn.ntmps - vs.size) undef, defers := [] } w := by
    refine ⟨fun n => ?_, ⟨by simp; omega, rfl⟩, rfl, fun l b hb => by simp [lkh] at hb, fun l b hb => by simp [lkh] at hb, fun l l' b b' hb => by simp [lkh] at hb, fun b hb => ⟨hIm b hb, Or.inr (Or.inl hb), fun l x hl => by simp [lkh] at hl⟩, fun l b hb => by simp [lkh] at hb, Kq.refl _ _, fun l hl => by simp [O] at hl, Nat.le_refl _, fun b hb => hb⟩
    rw [lk_slots]
    by_cases hlt : n < args.length
    · rw [if_pos (by omega), Nat.sub_zero, List.getElem?_eq_getElem hlt]
      have := hargs n hlt
      have h2 : n < vs.size := by omega
      have h3 : (vs ++ Array.replicate (fn.ntmps - vs.size) undef).getD n undef = vs.getD n undef := by
        simp only [Array.getD_eq_getD_getElem?]; rw [Array.getElem?_append_left h2]
      rw [h3]; exact this
    · rw [if_neg (by omega)]; exact .any _
  refine wp_mono (h.out O E _ w hs) fun e a' w' ⟨S', E', hq, hs'⟩ => ?_
  have fin : (resK C S' fn.results.toList fun vs => tupK vs fun x => seal3 S' x fun y => SV.Le y r) → bodyPost C.P fn (fun e w' => ∃ v, e = .returned v ∧ Kp w w' ∧ RS ⟨E.ρ, E.κ, fun b => E.Im b ∨ (w.heap.size ≤ b ∧ b < w'.heap.size)⟩ 0 w' r v) .normal a' w' := by
    intro hq
    obtain ⟨xs, us, h1, h2, h3, h4⟩ := resK_ok hs' _ _ hq
    obtain ⟨x, g1, g2⟩ := tupK_ok h3 h4 h1
    obtain ⟨y, k1, k2⟩ := seal3_ok hs' g2 g1
    refine ⟨hs'.df, (if h : us.toArray.size = 1 then us.toArray[0] else .tuple us.toArray), ?_, _, rfl, hs'.kq.kp (fun i hi => hi.elim), ?_⟩
    · rw [results_eq, show fn.results = fn.results.toList.toArray by simp, List.mapM_toArray]
      simp only [Sem.run_bind, Sem.run_map, h2]
      rfl
    · have hI : ∀ b, E'.all S' b → E.Im b ∨ (w.heap.size ≤ b ∧ b < w'.heap.size) := by
        rintro b (hb | ⟨l, x, hl, hr, rfl⟩)
        · obtain ⟨q1, q2, -⟩ := hs'.im b hb
          rcases q2 with q2 | q2 | q2
          · exact Or.inr ⟨q2, q1⟩
          · exact Or.inl q2
          · exact q2.elim
        · rcases hs'.own l x hl hr with q | q
          · exact q.elim
          · exact Or.inr ⟨q, (hs'.hp l x hl).lt hr⟩
      have k3 := k1.out _ _ _ _ k2
      exact RS.mono (E := ⟨E'.ρ, E'.κ, E'.all S'⟩) (fun l hl => by omega) (Nat.le_refl _) hI (fun _ _ => rfl) k3
  cases e with
  | normal => exact fin hq
  | ret => exact fin hq
  | _ => exact hq.elim
inductive TyTree where
  | leaf
  | node (l : TyTree) (t : Nat) (i : TI) (r : TyTree)
def TyTree.look : TyTree → Nat → Option TI
  | .leaf, _ => none
  | .node l t i r, k => bif Nat.beq k t then some i else bif Nat.blt k t then l.look k else r.look k
def TyTree.allP (p : Nat → TI → Prop) : TyTree → Prop
  | .leaf => True
  | .node l t i r => l.allP p ∧ p t i ∧ r.allP p
theorem TyTree.look_ok {p : Nat → TI → Prop} : ∀ {tr : TyTree}, tr.allP p → ∀ t i, tr.look t = some i → p t i
  | .leaf, _, t, i, h => by simp [TyTree.look] at h
  | .node l q j r, ⟨h1, h2, h3⟩, t, i, h => by
    unfold TyTree.look at h
    cases hb : Nat.beq t q with
    | true =>
      simp only [hb, cond_true, Option.some.injEq] at h
      obtain rfl := Nat.eq_of_beq_eq_true hb
      subst h; exact h2
    | false =>
      simp only [hb, cond_false] at h
      cases hc : Nat.blt t q with
      | true => simp only [hc, cond_true] at h; exact TyTree.look_ok h1 t i h
      | false => simp only [hc, cond_false] at h; exact TyTree.look_ok h3 t i h
end Go.Proofs.YteallmlkkcjblaaGreatDoor

namespace Go.Proofs.YteallmlkkcjblaaGreatDoor
open Go.RowKit
structure HSat (E : Env) (nx : Nat) (H : List (Nat × Option Blk)) (w : World) : Prop where
  hp : ∀ l b, lkh H l = some b → BS E nx w l b
  nx : ∀ l b, lkh H l = some b → l < nx
  inj : ∀ l l' b b', lkh H l = some b → lkh H l' = some b' → b.real (E.κ l) → b'.real (E.κ l') → l ≠ l' → E.ρ l ≠ E.ρ l'
  im : ∀ b, E.Im b → b < w.heap.size ∧ ∀ l x, lkh H l = some x → x.real (E.κ l) → E.ρ l ≠ b
def HB (E : Env) (H : List (Nat × Option Blk)) (b : Nat) : Prop := ∃ l x, lkh H l = some x ∧ x.real (E.κ l) ∧ E.ρ l = b
structure Fun (C : Cx) (g m : Nat) (args : List SV) (H : List (Nat × Option Blk)) (m' : Nat) (r : SV) (H' : List (Nat × Option Blk)) : Prop where
  ent : Enters C.P g
  le : m ≤ m'
  out : ∀ (E : Env) (w : World) (vs : Array Value), HSat E m H w → vs.size = args.length → (∀ j (hj : j < args.length), RS E m w args[j] (vs.getD j undef)) →
    Calls C.P g vs w fun e w' => ∃ v E', e = .returned v ∧ Kq (HB E H) w w' ∧ (∀ l, l < m → E'.ρ l = E.ρ l ∧ E'.κ l = E.κ l) ∧ HSat E' m' H' w' ∧ (∀ b, HB E' H' b → HB E H b ∨ w.heap.size ≤ b) ∧
      (∀ b, E'.Im b → E.Im b ∨ HB E H b ∨ w.heap.size ≤ b) ∧ (∀ b, E.Im b → E'.Im b) ∧ RS E' m' w' r v
structure FinLe (m : Nat) (S : St) (x : SV) (m' : Nat) (r : SV) (H' : List (Nat × Option Blk)) : Prop where
  out : ∀ O E a w v, O.nl = m → Sat O E S a w → RS E S.nx w x v → ∃ E', HSat E' m' H' w ∧ (∀ l, l < m → E'.ρ l = E.ρ l ∧ E'.κ l = E.κ l) ∧ (∀ b, HB E' H' b → HB E S.hp b) ∧
    (∀ b, E'.Im b → E.Im b ∨ HB E S.hp b) ∧ (∀ b, E.Im b → E'.Im b) ∧ RS E' m' w r v
def finF (C : Cx) (rs : List ResultVar) (m m' : Nat) (r : SV) (H' : List (Nat × Option Blk)) : Exit → St → Prop
  | .normal, S => resK C S rs fun vs => tupK vs fun x => FinLe m S x m' r H'
  | .ret, S => resK C S rs fun vs => tupK vs fun x => FinLe m S x m' r H'
  | _, _ => False
theorem Fun.mk' {C : Cx} {g m m' : Nat} {args : List SV} {H H' : List (Nat × Option Blk)} {r : SV} {fn : Func} {c : Code} (hf : C.P.funcs[g]? = some fn) (hb : fn.body = some c) (hn : (fn.name == "runtime.NumGoroutine") = false) (hle : args.length ≤ fn.ntmps) (hmm : m ≤ m')
    (h : Wp C c ⟨⟨fn.ntmps, m⟩, m, slots 0 args, H⟩ (finF C fn.results.toList m m' r H')) : Fun C g m args H m' r H' := by
  refine ⟨.mk hf hn (by simp [hb]), hmm, fun E w vs hS hsz hargs => calls_of_wp hf hb ?_⟩
  let O : Org := ⟨w, HB E H, E.Im, m, E.ρ, E.κ, []⟩
  have hs : Sat O E ⟨⟨fn.ntmps, m⟩, m, slots 0 args, H⟩ { tmps := vs ++ Array.replicate (fn.ntmps - vs.size) undef, defers := [] } w := by
    refine ⟨fun n => ?_, ⟨by simp; omega, rfl⟩, rfl, hS.hp, hS.nx, hS.inj, fun b hb => ⟨(hS.im b hb).1, Or.inr (Or.inl hb), (hS.im b hb).2⟩, fun l b hb hr => Or.inl ⟨l, b, hb, hr, rfl⟩, Kq.refl _ _, fun l hl => ⟨rfl, rfl⟩, Nat.le_refl _, fun b hb => hb⟩
    rw [lk_slots]
    by_cases hlt : n < args.length
    · rw [if_pos (by omega), Nat.sub_zero, List.getElem?_eq_getElem hlt]
      have := hargs n hlt
      have h2 : n < vs.size := by omega
      have h3 : (vs ++ Array.replicate (fn.ntmps - vs.size) undef).getD n undef = vs.getD n undef := by
        simp only [Array.getD_eq_getD_getElem?]; rw [Array.getElem?_append_left h2]
      rw [h3]; exact this
    · rw [if_neg (by omega)]; exact .any _
  refine wp_mono (h.out O E _ w hs) fun e a' w' ⟨S', E', hq, hs'⟩ => ?_
  have fin : (resK C S' fn.results.toList fun vs => tupK vs fun x => FinLe m S' x m' r H') → bodyPost C.P fn (fun e w' => ∃ v E', e = .returned v ∧ Kq (HB E H) w w' ∧ (∀ l, l < m → E'.ρ l = E.ρ l ∧ E'.κ l = E.κ l) ∧ HSat E' m' H' w' ∧
      (∀ b, HB E' H' b → HB E H b ∨ w.heap.size ≤ b) ∧ (∀ b, E'.Im b → E.Im b ∨ HB E H b ∨ w.heap.size ≤ b) ∧ (∀ b, E.Im b → E'.Im b) ∧ RS E' m' w' r v) .normal a' w' := by
    intro hq
    obtain ⟨xs, us, h1, h2, h3, h4⟩ := resK_ok hs' _ _ hq
    obtain ⟨x, g1, g2⟩ := tupK_ok h3 h4 h1
    obtain ⟨E2, k1, k2, k3, k4, k5, k6⟩ := g1.out O E' a' w' _ rfl hs' g2
    have hown : ∀ b, HB E' S'.hp b → HB E H b ∨ w.heap.size ≤ b := by
      rintro b ⟨l, x, hl, hr, rfl⟩
      exact hs'.own l x hl hr
    refine ⟨hs'.df, (if h : us.toArray.size = 1 then us.toArray[0] else .tuple us.toArray), ?_, _, E2, rfl, hs'.kq, fun l hl => ?_, k1, fun b hb => hown b (k3 b hb), fun b hb => ?_, fun b hb => ?_, k6⟩
    · rw [results_eq, show fn.results = fn.results.toList.toArray by simp, List.mapM_toArray]
      simp only [Sem.run_bind, Sem.run_map, h2]
      rfl
    · obtain ⟨p1, p2⟩ := hs'.lab l hl
      obtain ⟨p3, p4⟩ := k2 l hl
      exact ⟨p3.trans p1, p4.trans p2⟩
    · rcases k4 b hb with hb | hb
      · obtain ⟨q1, q2, -⟩ := hs'.im b hb
        rcases q2 with q2 | q2 | q2
        · exact Or.inr (Or.inr q2)
        · exact Or.inl q2
        · exact Or.inr (Or.inl q2)
      · exact Or.inr (hown b hb)
    · exact k5 b (hs'.imo b hb)
  cases e with
  | normal => exact fin hq
  | ret => exact fin hq
  | _ => exact hq.elim
end Go.Proofs.YteallmlkkcjblaaGreatDoor

namespace Go.Proofs.YteallmlkkcjblaaGreatDoor
open Go.RowKit
def idxG : List Nat → Nat → Nat → Option Nat
  | [], _, _ => none
  | x :: r, l, i => bif Nat.beq x l then some i else idxG r l (i + 1)
def idxK (L : List Nat) (l : Nat) : Option Nat := idxG L l 0
theorem idxG_some : ∀ (L : List Nat) (l i j : Nat), idxG L l i = some j → i ≤ j ∧ L[j - i]? = some l
  | [], l, i, j, h => by simp [idxG] at h
  | x :: r, l, i, j, h => by
    unfold idxG at h
    cases hb : Nat.beq x l with
    | true =>
      simp only [hb, cond_true, Option.some.injEq] at h
      subst h
      exact ⟨Nat.le_refl _, by simp [Nat.eq_of_beq_eq_true hb]⟩
    | false =>
      simp only [hb, cond_false] at h
      obtain ⟨h1, h2⟩ := idxG_some r l (i + 1) j h
      exact ⟨by omega, by rw [show j - i = (j - (i + 1)) + 1 by omega]; simpa using h2⟩
theorem idxG_none : ∀ (L : List Nat) (l i : Nat), idxG L l i = none → l ∉ L
  | [], l, i, h => by simp
  | x :: r, l, i, h => by
    unfold idxG at h
    cases hb : Nat.beq x l with
    | true => simp [hb] at h
    | false =>
      simp only [hb, cond_false] at h
      have := idxG_none r l (i + 1) h
      have hne : x ≠ l := fun e => by subst e; simp at hb
      simp only [List.mem_cons, not_or]
      exact ⟨fun e => hne e.symm, this⟩
theorem idxK_some {L : List Nat} {l i : Nat} (h : idxK L l = some i) : i < L.length ∧ L.getD i 0 = l := by
  obtain ⟨_, h2⟩ := idxG_some L l 0 i h
  rw [Nat.sub_zero] at h2
  exact ⟨(List.getElem?_eq_some_iff.1 h2).1, by simp [List.getD, h2]⟩
theorem idxK_none {L : List Nat} {l : Nat} (h : idxK L l = none) : l ∉ L := idxG_none L l 0 h
def noDup : List Nat → Bool
  | [] => true
  | x :: r => bif r.any (Nat.beq x) then false else noDup r
theorem noDup_ne : ∀ {L : List Nat}, noDup L = true → ∀ {i j : Nat}, i < L.length → j < L.length → i ≠ j → L.getD i 0 ≠ L.getD j 0
  | [], h, i, j, hi, hj, hne => by simp at hi
  | x :: r, h, i, j, hi, hj, hne => by
    unfold noDup at h
    cases hb : r.any (Nat.beq x) with
    | true => simp [hb] at h
    | false =>
      simp only [hb, cond_false] at h
      have hx : ∀ k, k < r.length → x ≠ r.getD k 0 := fun k hk e => by
        rw [List.any_eq_false] at hb
        have := hb (r.getD k 0) (by simp [List.getD, List.getElem?_eq_getElem hk])
        apply this; rw [← e]; simp
      cases i with
      | zero => cases j with
        | zero => exact absurd rfl hne
        | succ j => simpa using hx j (by simpa using hj)
      | succ i => cases j with
        | zero => have := hx i (by simpa using hi); simpa using fun e => this e.symm
        | succ j => simpa using noDup_ne h (by simpa using hi) (by simpa using hj) (fun e => hne (by rw [e]))
def SV.lab : SV → Option Nat
  | .sl l _ _ _ => some l
  | .ptr l _ => some l
  | _ => none
theorem sealD_fine {O : Org} {E : Env} {S : St} {a : Act} {w : World} {Im' : Nat → Prop} {ρ' κ' : Nat → Nat} {m' : Nat} (hs : Sat O E S a w) (hI : ∀ b, E.Im b → Im' b) {x : SV} {v : Value} {k : SV → Prop} (hv : RS E S.nx w x v)
    (hlab : ∀ l b, x.lab = some l → lkh S.hp l = some b → b.real (E.κ l) → Im' (E.ρ l)) (h : sealD S x k) :
    ∃ y, k y ∧ RS ⟨ρ', κ', Im'⟩ m' w y v := by
  unfold sealD at h
  split at h
  · rename_i d
    cases hv with | d _ _ hv => exact ⟨_, h, .d _ _ (hv.mono hI fun _ _ => rfl)⟩
  · exact ⟨_, h, .any _⟩
  · rename_i l esz off n
    split at h
    · rename_i e z m f hl
      cases hz : Nat.beq z esz with
      | false => simp [hz] at h
      | true =>
        simp only [hz, cond_true] at h
        obtain rfl := Nat.eq_of_beq_eq_true hz
        obtain ⟨h1, h2⟩ := h
        cases hv with
        | sl _ _ _ _ a' cap hlx hc hm ha h0 =>
          obtain ⟨k1, k2, k3, k4, k5⟩ := hs.hp l _ hl
          by_cases hn : n = 0
          · subst hn
            exact ⟨_, h2, .d _ _ (.sl z 0 _ a' cap (fun _ _ => undef) hc hm (fun i hi => by omega) (fun h9 => by simp at h9) (fun i j hi => by omega))⟩
          · obtain ⟨vs, g1, g2, g3, g4⟩ := k5 (by omega)
            refine ⟨_, h2, .d _ _ (.sl z n _ a' cap (fun i j => vs.getD ((off + i) * z + j) undef) hc hm (fun i hi => k4 _ (by omega)) (fun _ => ⟨E.ρ l, off * z, ha (by omega), hlab l _ rfl hl (show 0 < E.κ l by omega), fun i j hi hj => ?_⟩) (fun i j hi hj => ?_))⟩
            · have h5 : (off + i + 1) * z ≤ E.κ l * z := Nat.mul_le_mul_right _ (by omega)
              rw [Nat.add_mul, Nat.one_mul, Nat.add_mul] at h5
              have h7 : (off + i) * z + j < vs.size := by rw [Nat.add_mul]; omega
              rw [← Nat.add_mul]
              simp [World.cell?, g1, Array.getD, h7]
            · exact (g4 (off + i) j (by omega) hj).mono hI fun _ _ => rfl
    · exact h.elim
  · rename_i l off
    split at h
    · rename_i cs hl
      obtain ⟨ds, hds, h2⟩ := allD_ok _ _ h
      obtain ⟨vs, T, g1, g2, g3⟩ := hs.hp l _ hl
      cases hv with
      | ptr _ _ hlx =>
        subst hds
        have hr := RD.ref (w := w) (Im := Im') ds off (E.ρ l) 0 (fun q => vs.getD q undef) (hlab l _ rfl hl trivial) (fun j hj => by
            have : j < vs.size := by simpa [g2] using hj
            simp [World.cell?, g1, Array.getD, this]) (fun j hj => by
            have := (g3 j (by simpa using hj)).1
            rw [List.getElem_map] at this
            cases this with | d _ _ h9 => exact h9.mono hI fun _ _ => rfl)
        rw [Nat.zero_add] at hr
        exact ⟨_, h2, .d _ _ hr⟩
    · exact h.elim
  · exact h.elim
def rs0 (S : St) (L : List Nat) : SV → (SV → Prop) → Prop
  | .d x, k => k (.d x)
  | .any, k => k .any
  | .ptr l o, k => match idxK L l with
    | some i => k (.ptr i o)
    | none => sealD S (.ptr l o) k
  | .sl l z o n, k => match idxK L l with
    | some i => k (.sl i z o n)
    | none => sealD S (.sl l z o n) k
  | .rp l z q o, k => match idxK L l with
    | some i => k (.rp i z q o)
    | none => False
  | .fn f c, k => allD c fun ds => k (.d (.fn f ds))
  | _, _ => False
def rsL0 (S : St) (L : List Nat) : List SV → (List SV → Prop) → Prop
  | [], k => k []
  | v :: r, k => rs0 S L v fun v' => rsL0 S L r fun r' => k (v' :: r')
def rs1 (S : St) (L : List Nat) : SV → (SV → Prop) → Prop
  | .agg vs, k => rsL0 S L vs fun vs' => k (.agg vs')
  | .d x, k => k (.d x)
  | .any, k => k .any
  | .ptr l o, k => rs0 S L (.ptr l o) k
  | .sl l z o n, k => rs0 S L (.sl l z o n) k
  | .rp l z q o, k => rs0 S L (.rp l z q o) k
  | .fn f c, k => rs0 S L (.fn f c) k
  | _, _ => False
def rsL1 (S : St) (L : List Nat) : List SV → (List SV → Prop) → Prop
  | [], k => k []
  | v :: r, k => rs1 S L v fun v' => rsL1 S L r fun r' => k (v' :: r')
def rs2 (S : St) (L : List Nat) : SV → (SV → Prop) → Prop
  | .tup vs, k => rsL1 S L vs fun vs' => k (.tup vs')
  | v, k => rs1 S L v k
def Env.end (E : Env) (S : St) (L : List Nat) : Env := ⟨fun i => E.ρ (L.getD i 0), fun i => E.κ (L.getD i 0), fun b => E.Im b ∨ ∃ l x, lkh S.hp l = some x ∧ x.real (E.κ l) ∧ E.ρ l = b ∧ l ∉ L⟩
theorem rs0_ok {O : Org} {E : Env} {S : St} {a : Act} {w : World} (hs : Sat O E S a w) (L : List Nat) {x : SV} {v : Value} {k : SV → Prop} (hv : RS E S.nx w x v) (h : rs0 S L x k) : ∃ y, k y ∧ RS (E.end S L) L.length w y v := by
  have hI : ∀ b, E.Im b → (E.end S L).Im b := fun b hb => Or.inl hb
  have hseal : ∀ (x : SV) (l : Nat), x.lab = some l → idxK L l = none → RS E S.nx w x v → sealD S x k → ∃ y, k y ∧ RS (E.end S L) L.length w y v := fun x l hx hn hv h =>
    sealD_fine (ρ' := (E.end S L).ρ) (κ' := (E.end S L).κ) hs hI hv (fun l' b hl' hb hr => by rw [hx] at hl'; cases hl'; exact Or.inr ⟨l, b, hb, hr, rfl, idxK_none hn⟩) h
  unfold rs0 at h
  split at h
  · cases hv with | d _ _ hv => exact ⟨_, h, .d _ _ (hv.mono hI fun _ _ => rfl)⟩
  · exact ⟨_, h, .any _⟩
  · rename_i l o
    split at h
    · rename_i i hi
      obtain ⟨h1, h2⟩ := idxK_some hi
      cases hv with
      | ptr _ _ hl =>
        have := RS.ptr (E := E.end S L) (nx := L.length) (w := w) i o h1
        simp only [Env.end, h2] at this ⊢
        exact ⟨_, h, this⟩
    · rename_i hn
      exact hseal _ l rfl hn hv h
  · rename_i l z o n
    split at h
    · rename_i i hi
      obtain ⟨h1, h2⟩ := idxK_some hi
      cases hv with
      | sl _ _ _ _ ad cap hl hc hm ha h0 =>
        refine ⟨_, h, .sl i z o n ad cap h1 hc hm ?_ ?_⟩
        · simp only [Env.end, h2]; exact ha
        · simp only [Env.end, h2]; exact h0
    · rename_i hn
      exact hseal _ l rfl hn hv h
  · rename_i l z q o
    split at h
    · rename_i i hi
      obtain ⟨h1, h2⟩ := idxK_some hi
      cases hv with
      | rp _ _ _ _ hl =>
        have := RS.rp (E := E.end S L) (nx := L.length) (w := w) i z q o h1
        simp only [Env.end, h2] at this ⊢
        exact ⟨_, h, this⟩
    · exact h.elim
  · rename_i f c
    obtain ⟨ds, hds, h2⟩ := allD_ok _ _ h
    subst hds
    cases hv with
    | fn _ _ us hs0 hh =>
      refine ⟨_, h2, .d _ _ (.fn f ds us (by simpa using hs0) fun j hj => ?_)⟩
      have := hh j (by simpa using hj)
      rw [List.getElem_map] at this
      cases this with | d _ _ h9 => exact h9.mono hI fun _ _ => rfl
  · exact h.elim
theorem rsL0_ok {O : Org} {E : Env} {S : St} {a : Act} {w : World} (hs : Sat O E S a w) (L : List Nat) : ∀ (vs : List SV) (us : List Value) (k : List SV → Prop), us.length = vs.length → (∀ (j : Nat) (x : SV) (v : Value), vs[j]? = some x → us[j]? = some v → RS E S.nx w x v) → rsL0 S L vs k →
    ∃ ys : List SV, k ys ∧ ys.length = vs.length ∧ ∀ (j : Nat) (y : SV) (v : Value), ys[j]? = some y → us[j]? = some v → RS (E.end S L) L.length w y v
  | [], us, k, hl, hh, h => ⟨[], h, rfl, fun j y v hj => by simp at hj⟩
  | x :: r, [], k, hl, hh, h => by simp at hl
  | x :: r, u :: us, k, hl, hh, h => by
    obtain ⟨y, h1, h2⟩ := rs0_ok hs L (hh 0 x u rfl rfl) h
    obtain ⟨ys, h3, h4, h5⟩ := rsL0_ok hs L r us _ (by simpa using hl) (fun j x v hx hv => hh (j + 1) x v (by simpa using hx) (by simpa using hv)) h1
    refine ⟨_, h3, by simp [h4], fun j z v hz hv => ?_⟩
    cases j with
    | zero => simp at hz hv; subst hz hv; exact h2
    | succ j => simp at hz hv; exact h5 j z v hz hv
theorem rs1_ok {O : Org} {E : Env} {S : St} {a : Act} {w : World} (hs : Sat O E S a w) (L : List Nat) {x : SV} {v : Value} {k : SV → Prop} (hv : RS E S.nx w x v) (h : rs1 S L x k) : ∃ y, k y ∧ RS (E.end S L) L.length w y v := by
  unfold rs1 at h
  split at h
  · rename_i vs
    cases hv with
    | agg _ us hsz h1 hh =>
      obtain ⟨ys, g1, g2, g3⟩ := rsL0_ok hs L vs us.toList _ (by simpa using hsz) (fun j x v hx hv => by
        obtain ⟨q1, q2⟩ := List.getElem?_eq_some_iff.1 hx
        subst q2; rw [← arr_get hv]; exact hh j q1) h
      refine ⟨_, g1, .agg _ _ (by omega) h1 fun j hj => ?_⟩
      have hj2 : j < us.size := by omega
      refine g3 j _ _ (List.getElem?_eq_getElem hj) ?_
      simp [Array.getD, hj2]
  · exact rs0_ok hs L hv h
  · exact rs0_ok hs L hv h
  · exact rs0_ok hs L hv h
  · exact rs0_ok hs L hv h
  · exact rs0_ok hs L hv h
  · exact rs0_ok hs L hv h
  · exact h.elim
theorem rsL1_ok {O : Org} {E : Env} {S : St} {a : Act} {w : World} (hs : Sat O E S a w) (L : List Nat) : ∀ (vs : List SV) (us : List Value) (k : List SV → Prop), us.length = vs.length → (∀ (j : Nat) (x : SV) (v : Value), vs[j]? = some x → us[j]? = some v → RS E S.nx w x v) → rsL1 S L vs k →
    ∃ ys : List SV, k ys ∧ ys.length = vs.length ∧ ∀ (j : Nat) (y : SV) (v : Value), ys[j]? = some y → us[j]? = some v → RS (E.end S L) L.length w y v
  | [], us, k, hl, hh, h => ⟨[], h, rfl, fun j y v hj => by simp at hj⟩
  | x :: r, [], k, hl, hh, h => by simp at hl
  | x :: r, u :: us, k, hl, hh, h => by
    obtain ⟨y, h1, h2⟩ := rs1_ok hs L (hh 0 x u rfl rfl) h
    obtain ⟨ys, h3, h4, h5⟩ := rsL1_ok hs L r us _ (by simpa using hl) (fun j x v hx hv => hh (j + 1) x v (by simpa using hx) (by simpa using hv)) h1
    refine ⟨_, h3, by simp [h4], fun j z v hz hv => ?_⟩
    cases j with
    | zero => simp at hz hv; subst hz hv; exact h2
    | succ j => simp at hz hv; exact h5 j z v hz hv
theorem rs2_ok {O : Org} {E : Env} {S : St} {a : Act} {w : World} (hs : Sat O E S a w) (L : List Nat) {x : SV} {v : Value} {k : SV → Prop} (hv : RS E S.nx w x v) (h : rs2 S L x k) : ∃ y, k y ∧ RS (E.end S L) L.length w y v := by
  unfold rs2 at h
  split at h
  · rename_i vs
    cases hv with
    | tup _ us hsz hh =>
      obtain ⟨ys, g1, g2, g3⟩ := rsL1_ok hs L vs us.toList _ (by simpa using hsz) (fun j x v hx hv => by
        obtain ⟨q1, q2⟩ := List.getElem?_eq_some_iff.1 hx
        subst q2; rw [← arr_get hv]; exact hh j q1) h
      refine ⟨_, g1, .tup _ _ (by omega) fun j hj => ?_⟩
      have hj2 : j < us.size := by omega
      refine g3 j _ _ (List.getElem?_eq_getElem hj) ?_
      simp [Array.getD, hj2]
  · exact rs1_ok hs L hv h
def SVLes : List SV → List SV → Prop
  | [], [] => True
  | x :: xs, y :: ys => SV.Le x y ∧ SVLes xs ys
  | _, _ => False
theorem SVLes.out : ∀ {xs ys : List SV}, SVLes xs ys → xs.length = ys.length ∧ ∀ (j : Nat) (y : SV), ys[j]? = some y → ∃ x, xs[j]? = some x ∧ SV.Le x y
  | [], [], _ => ⟨rfl, fun j y h => by simp at h⟩
  | x :: xs, y :: ys, ⟨h1, h2⟩ => by
    obtain ⟨g1, g2⟩ := SVLes.out h2
    refine ⟨by simp [g1], fun j z hz => ?_⟩
    cases j with
    | zero => simp at hz; subst hz; exact ⟨x, rfl, h1⟩
    | succ j => simp at hz; exact g2 j z hz
  | [], _ :: _, h => h.elim
  | _ :: _, [], h => h.elim
structure ArgLe (L : List Nat) (x x0 : SV) : Prop where
  out : ∀ E nx w v, RS E nx w x v → RS ⟨fun i => E.ρ (L.getD i 0), fun i => E.κ (L.getD i 0), E.Im⟩ L.length w x0 v
def ArgLes (L : List Nat) : List SV → List SV → Prop
  | [], [] => True
  | x :: xs, y :: ys => ArgLe L x y ∧ ArgLes L xs ys
  | _, _ => False
theorem ArgLes.out {L : List Nat} : ∀ {xs ys : List SV}, ArgLes L xs ys → xs.length = ys.length ∧ ∀ (j : Nat) (y : SV), ys[j]? = some y → ∃ x, xs[j]? = some x ∧ ArgLe L x y
  | [], [], _ => ⟨rfl, fun j y h => by simp at h⟩
  | x :: xs, y :: ys, ⟨h1, h2⟩ => by
    obtain ⟨g1, g2⟩ := ArgLes.out h2
    refine ⟨by simp [g1], fun j z hz => ?_⟩
    cases j with
    | zero => simp at hz; subst hz; exact ⟨x, rfl, h1⟩
    | succ j => simp at hz; exact g2 j z hz
  | [], _ :: _, h => h.elim
  | _ :: _, [], h => h.elim
def cfLe (L : List Nat) : Option Blk → Blk → Prop
  | some (.cf _ n g), .cf m' n' g' => (n = n' ∧ m' ≤ L.length) ∧ ∀ j, j < n' → ArgLe L (g j) (g' j) ∧ SV.Lt m' (g' j)
  | some (.cells cs), .cf m' n' g' => m' ≤ L.length ∧ ArgLes L cs ((List.range n').map g') ∧ ∀ j, j < n' → SV.Lt m' (g' j)
  | some (.obj b _ 0 p _), .obj b' 0 0 p' _ => b = b' ∧ p = p' ∧ (0 : Nat) = 0
  | _, _ => False
theorem cfLe.bs {L : List Nat} {E : Env} {nx l i : Nat} {w : World} {ob : Option Blk} {b : Blk} (h : cfLe L ob b) (hl : L.getD i 0 = l) (hb : ∀ x, ob = some x → BS E nx w l x) :
    (∃ b0, ob = some b0 ∧ ∀ κ κ', b.real κ → b0.real κ') ∧ BS ⟨fun i => E.ρ (L.getD i 0), fun i => E.κ (L.getD i 0), E.Im⟩ L.length w i b := by
  subst hl
  unfold cfLe at h
  split at h
  · rename_i m n g m' n' g'
    obtain ⟨⟨rfl, hm⟩, h⟩ := h
    refine ⟨⟨_, rfl, fun _ _ h => h⟩, ?_⟩
    obtain ⟨h0, hh⟩ := hb _ rfl
    refine ⟨hm, fun hp => ?_⟩
    obtain ⟨vs, T, h1, h2, h3⟩ := hh hp
    exact ⟨vs, T, h1, h2, fun j hj => ⟨(h j hj).2, (h j hj).1.out _ _ _ _ (h3 j hj).2.1, (h3 j hj).2.2⟩⟩
  · rename_i cs m' n' g'
    obtain ⟨hm, ha, hlt⟩ := h
    obtain ⟨p1, p2⟩ := ha.out
    refine ⟨⟨_, rfl, fun _ _ _ => trivial⟩, ?_⟩
    obtain ⟨vs, T, h1, h2, h3⟩ := hb _ rfl
    refine ⟨hm, fun _ => ⟨vs, T, h1, by simp at p1; omega, fun j hj => ?_⟩⟩
    obtain ⟨z, q1, q2⟩ := p2 j (g' j) (by simp [hj])
    obtain ⟨q3, q4⟩ := List.getElem?_eq_some_iff.1 q1
    have := h3 j q3
    rw [q4] at this
    exact ⟨hlt j hj, q2.out _ _ _ _ this.1, this.2⟩
  · obtain ⟨rfl, rfl, _⟩ := h
    obtain ⟨e0, _, o, u, h1, h2, _⟩ := hb _ rfl
    exact ⟨⟨_, rfl, fun _ _ _ => trivial⟩, e0, Nat.zero_le _, o, u, h1, h2, fun j hj => absurd hj (Nat.not_lt_zero _)⟩
  · exact h.elim
def blkK (S : St) (L : List Nat) : Option Blk → Blk → Prop
  | some (.cells cs), .cells cs' => rsL0 S L cs fun ys => SVLes ys cs'
  | some (.row e z n f), .row e' z' n' f' => (e = e' ∧ z = z' ∧ n = n') ∧ ∀ i, i < n → f i = f' i
  | ob, .cf m n g => cfLe L ob (.cf m n g)
  | ob, .obj c m n p g => cfLe L ob (.obj c m n p g)
  | _, _ => False
def heapK (S : St) (L : List Nat) : List (Nat × Option Blk) → Prop
  | [] => True
  | (_, none) :: r => heapK S L r
  | (i, some b) :: r => bif Nat.blt i L.length then blkK S L (lkh S.hp (L.getD i 0)) b ∧ heapK S L r else False
theorem heapK_out {S : St} {L : List Nat} : ∀ {H : List (Nat × Option Blk)}, heapK S L H → ∀ i b, lkh H i = some b → i < L.length ∧ blkK S L (lkh S.hp (L.getD i 0)) b
  | [], _, i, b, h => by simp [lkh] at h
  | (j, none) :: r, hk, i, b, h => heapK_out (H := r) hk i b (lkh_dead h).2
  | (j, some b') :: r, hk, i, b, h => by
    unfold heapK at hk
    cases hb : Nat.blt j L.length with
    | false => simp [hb] at hk
    | true =>
      simp only [hb, cond_true] at hk
      rw [lkh_cons] at h
      by_cases e : j = i
      · subst e; rw [if_pos rfl] at h; cases h; exact ⟨by simpa using hb, hk.1⟩
      · rw [if_neg e] at h; exact heapK_out hk.2 i b h
theorem FinLe.of {m m' : Nat} {S : St} {x r : SV} {H' : List (Nat × Option Blk)} (L : List Nat) (hlen : L.length = m') (hm : ∀ i, i < m → L.getD i 0 = i) (hd : noDup L = true) (hx : rs2 S L x fun y => SV.Le y r) (hH : heapK S L H') : FinLe m S x m' r H' := by
  refine ⟨fun O E a w v hO hs hv => ?_⟩
  obtain ⟨y, h1, h2⟩ := rs2_ok hs L hv hx
  subst hlen
  have hblk : ∀ i b, lkh H' i = some b → i < L.length ∧ (∃ b0, lkh S.hp (L.getD i 0) = some b0 ∧ (b.real (E.κ (L.getD i 0)) → b0.real (E.κ (L.getD i 0)))) ∧ BS (E.end S L) L.length w i b := by
    intro i b hb
    obtain ⟨g1, g2⟩ := heapK_out hH i b hb
    unfold blkK at g2
    split at g2
    · rename_i cs cs' hl
      refine ⟨g1, ⟨_, hl, fun _ => trivial⟩, ?_⟩
      obtain ⟨vs, T, k1, k2, k3⟩ := hs.hp _ _ hl
      obtain ⟨ys, k4, k5, k6⟩ := rsL0_ok hs L cs vs.toList _ (by simpa using k2) (fun j x v hx hv => by
        obtain ⟨q1, q2⟩ := List.getElem?_eq_some_iff.1 hx
        subst q2; rw [← arr_get hv]; exact (k3 j q1).1) g2
      obtain ⟨p1, p2⟩ := k4.out
      refine ⟨vs, T, k1, by omega, fun j hj => ?_⟩
      obtain ⟨z, q1, q2⟩ := p2 j _ (List.getElem?_eq_getElem hj)
      have hj2 : j < vs.size := by omega
      refine ⟨q2.out _ _ _ _ (k6 j z _ q1 ?_), (k3 j (by omega)).2⟩
      simp [Array.getD, hj2]
    · rename_i e z n f e' z' n' f' hl
      obtain ⟨⟨rfl, rfl, rfl⟩, g3⟩ := g2
      refine ⟨g1, ⟨_, hl, fun h => h⟩, ?_⟩
      obtain ⟨k1, k2, k3, k4, k5⟩ := hs.hp _ _ hl
      refine ⟨k1, k2, k3, fun i hi => by rw [← g3 i hi]; exact k4 i hi, fun hk => ?_⟩
      obtain ⟨vs, q1, q2, q3, q4⟩ := k5 hk
      refine ⟨vs, q1, q2, q3, fun i j hi hj => ?_⟩
      have key : ∀ c : List D, c = f i → ∀ hj' : j < c.length, RD w E.Im c[j] (vs.getD (i * z + j) undef) := by
        intro c hc hj'; subst hc; exact q4 i j hi hj'
      exact (key _ (g3 i hi).symm hj).mono (fun b hb => Or.inl hb) fun _ _ => rfl
    · rename_i m n g
      obtain ⟨⟨b0, q1, q2⟩, q3⟩ := g2.bs rfl fun x hx => hs.hp _ x hx
      refine ⟨g1, ⟨b0, q1, fun hr => q2 _ _ hr⟩, ?_⟩
      exact BS.mono (E := ⟨fun i => E.ρ (L.getD i 0), fun i => E.κ (L.getD i 0), E.Im⟩) (E' := E.end S L) g1 (fun _ _ => ⟨rfl, rfl⟩) (Nat.le_refl _) (fun b hb => Or.inl hb) (fun _ _ => rfl) (fun _ => rfl) q3
    · rename_i m n g
      obtain ⟨⟨b0, q1, q2⟩, q3⟩ := g2.bs rfl fun x hx => hs.hp _ x hx
      refine ⟨g1, ⟨b0, q1, fun hr => q2 _ _ hr⟩, ?_⟩
      exact BS.mono (E := ⟨fun i => E.ρ (L.getD i 0), fun i => E.κ (L.getD i 0), E.Im⟩) (E' := E.end S L) g1 (fun _ _ => ⟨rfl, rfl⟩) (Nat.le_refl _) (fun b hb => Or.inl hb) (fun _ _ => rfl) (fun _ => rfl) q3
    · exact g2.elim
  have hmem : ∀ i, i < L.length → L.getD i 0 ∈ L := fun i hi => by simp [List.getD, List.getElem?_eq_getElem hi]
  refine ⟨E.end S L, ⟨fun i b hb => (hblk i b hb).2.2, fun i b hb => (hblk i b hb).1, ?_, ?_⟩, fun l hl => by simp only [Env.end]; rw [hm l hl]; exact ⟨rfl, rfl⟩, ?_, ?_, fun b hb => Or.inl hb, h1.out _ _ _ _ h2⟩
  · intro i j b b' hi hj hr hr' hne
    obtain ⟨g1, ⟨b0, g2, g3⟩, _⟩ := hblk i b hi
    obtain ⟨g4, ⟨b1, g5, g6⟩, _⟩ := hblk j b' hj
    exact hs.inj _ _ _ _ g2 g5 (g3 hr) (g6 hr') (noDup_ne hd g1 g4 hne)
  · intro b hb
    rcases hb with hb | ⟨l, y, hl, hr, rfl, hn⟩
    · obtain ⟨k1, _, k3⟩ := hs.im b hb
      refine ⟨k1, fun i z hz hzr => ?_⟩
      obtain ⟨g1, ⟨b0, g2, g3⟩, _⟩ := hblk i z hz
      exact k3 _ _ g2 (g3 hzr)
    · refine ⟨(hs.hp _ _ hl).lt hr, fun i z hz hzr => ?_⟩
      obtain ⟨g1, ⟨b0, g2, g3⟩, _⟩ := hblk i z hz
      exact hs.inj _ _ _ _ g2 hl (g3 hzr) hr (fun e => hn (e ▸ hmem i g1))
  · rintro b ⟨i, z, hz, hzr, rfl⟩
    obtain ⟨g1, ⟨b0, g2, g3⟩, _⟩ := hblk i z hz
    exact ⟨_, _, g2, g3 hzr, rfl⟩
  · rintro b (hb | ⟨l, y, hl, hr, rfl, hn⟩)
    · exact Or.inl hb
    · exact Or.inr ⟨l, y, hl, hr, rfl⟩
end Go.Proofs.YteallmlkkcjblaaGreatDoor
