/- Lemmas of Hi6, Hi7, Hi8, Hi9, Hi10, Hi11, Hi12, Br12, Br13. No condition. -/
import Derived.Test.YtpdhdnhkhidmpaaMI9
set_option linter.unusedVariables false
set_option linter.unusedSimpArgs false
set_option maxHeartbeats 80000000
set_option maxRecDepth 100000
namespace Go.Proofs.Ytpdhdnhkhidmpaa
open Go.RowKit
section
open Hist
structure Reg (n : Nat) (p : Prop) : Prop where
  out : p
theorem Wp.reg (n : Nat) {C : Cx} {b : Array Oper} {d : Bool} {y : Code} {S : St} {Q : Exit → St → Prop} (h : Reg n (Wp C (.seq (.region n b d) y) S Q)) : Wp C (.seq (.region n b d) y) S Q := h.out
structure Tl (ps : List Pol) (l : List HD) (T : List (Nat × Option Blk)) : Prop where
  at_ : ∀ j, j < (ids ps l).length → lkh T (1000 + j) = some (.row 39 13 (grp ps l ((ids ps l).getD j default)).length fun q => HD.D ((grp ps l ((ids ps l).getD j default)).getD q default))
  rows : bK 1000 100000000000000000000 T
@[reducible] def mpG (ps : List Pol) (l : List HD) (j : Nat) : SV := .sl (1000 + j) 13 0 (grp ps l ((ids ps l).getD j default)).length
@[reducible] noncomputable def ckH (ps : List Pol) (calls : List HD) (b : Nat) (k : Nat × List (Nat × Option Blk)) : List (Nat × Option Blk) :=
  (0, some (.cells [.i .i64 (bQ ps calls.length (calls.take k.1))])) :: (1, some (mpB b 100000000000000000000 (ids ps (calls.take k.1)) (mpG ps (calls.take k.1)))) :: k.2
@[reducible] noncomputable def ckI (ps : List Pol) (calls : List HD) (b : Nat) (k : Nat × List (Nat × Option Blk)) : St :=
  ⟨⟨Try.f15.ntmps, 0⟩, 100000000000000000000, [(0, .d (ap 4 Pol.D ps)), (6, .ptr 0 0), (7, .b (bA ps == 0)), (8, .fn (.func 32) [.ptr 0 0]), (9, mpV b), (25, .d (ap 13 HD.D calls)), (26, .i .i64 calls.length), (27, .i .i64 k.1)], ckH ps calls b k⟩
noncomputable def ckB : Code := (lpO 0 (Try.f15.body.getD .skip)).getD .skip
def ckP (ps : List Pol) (calls : List HD) (k : Nat × List (Nat × Option Blk)) : Prop := k.1 ≤ calls.length ∧ Tl ps (calls.take k.1) k.2
def ckQ (ps : List Pol) (calls : List HD) (b : Nat) (e : Exit) (S : St) : Prop := e = .exit 0 ∧ ∃ T, Tl ps calls T ∧ Le S (ckI ps calls b (calls.length, T))
theorem Wp.midAt {C : Cx} (id : Nat) {b : Array Oper} {d : Bool} {z y : Code} {S : St} {Q : Exit → St → Prop} (S1 : St) (h1 : Wp C (.seq (.region id b d) z) S (fun e S' => match e with | .normal => Le S' S1 | e => Q e S')) (h2 : Wp C y S1 Q) : Wp C (.seq (.seq (.region id b d) z) y) S Q :=
  Wp.seq (h1.mono fun e S' h => by
    cases e with
    | normal => exact Wp.le h h2
    | _ => exact h)
theorem Le.blks {nt : NT} {nx : Nat} {fr : List (Nat × SV)} {hp hp' : List (Nat × Option Blk)} (hhp : ∀ l b, lkh hp' l = some b → lkh hp l = some b) : Le ⟨nt, nx, fr, hp⟩ ⟨nt, nx, fr, hp'⟩ :=
  ⟨fun O E a w hs => ⟨E, hs.fr, hs.nt, hs.df, fun l b hb => hs.hp l b (hhp l b hb), fun l b hb => hs.nx l b (hhp l b hb), fun l l' b b' hb hb' => hs.inj l l' b b' (hhp l b hb) (hhp l' b' hb'), fun b hb => ⟨(hs.im b hb).1, (hs.im b hb).2.1, fun l x hl => (hs.im b hb).2.2 l x (hhp l x hl)⟩, fun l b hb => hs.own l b (hhp l b hb), hs.kq, hs.lab, hs.nl, hs.imo⟩⟩
def KFr (fr : List (Nat × SV)) : List (Nat × SV) → Prop
  | [] => True
  | p :: r => SV.Le (lk fr p.1) p.2 ∧ KFr fr r
theorem KFr.out {fr : List (Nat × SV)} : ∀ {l : List (Nat × SV)}, KFr fr l → ∀ p ∈ l, SV.Le (lk fr p.1) p.2
  | [], _, p, h => by cases h
  | q :: r, h, p, hp => by
    rcases Q22 hp with rfl | hp
    · exact h.1
    · exact KFr.out h.2 p hp
theorem Le.keep {nt : NT} {nx nx' : Nat} {fr fr' : List (Nat × SV)} {hp hp' : List (Nat × Option Blk)} (hn : nx ≤ nx') (hfr : KFr fr fr') (hhp : ∀ l b, lkh hp' l = some b → lkh hp l = some b) : Le ⟨nt, nx, fr, hp⟩ ⟨nt, nx', fr', hp'⟩ :=
  (Le.slots hfr.out).trans ((Le.blks hhp).trans (Le.nx hn))
@[reducible] noncomputable def ckF (ps : List Pol) (calls : List HD) (b k : Nat) : List (Nat × SV) := [(0, .d (ap 4 Pol.D ps)), (6, .ptr 0 0), (7, .b (bA ps == 0)), (8, .fn (.func 32) [.ptr 0 0]), (9, mpV b), (25, .d (ap 13 HD.D calls)), (26, .i .i64 calls.length), (27, .i .i64 k)]
@[reducible] noncomputable def ckM (ps : List Pol) (calls : List HD) (b k : Nat) (E1 : Int) (mp : Blk) (T : List (Nat × Option Blk)) : St :=
  ⟨⟨Try.f15.ntmps, 0⟩, 100000000000000000001, (11, .ptr 100000000000000000000 0) :: ckF ps calls b k, (0, some (.cells [.i .i64 E1])) :: (100000000000000000000, some (.cells ((calls.getD (k : Int).toNat default).D.map .d))) :: (1, some mp) :: T⟩
theorem qn {calls : List HD} {k : Nat} (hlt : k < calls.length) : calls.take (k + 1) = calls.take k ++ [calls.getD (k : Int).toNat default] := by
  rw [Q13, List.take_add_one, Q0 hlt, Q1, Q0 hlt]; rfl
theorem qx {ps : List Pol} {l : List HD} {d : HD} (h : b9 ps d = false) : ids ps (l ++ [d]) = ids ps l := by
  rw [cZ, if_neg (by rw [h]; rintro ⟨h, _⟩; cases h)]
theorem qz {ps : List Pol} {l : List HD} {d : HD} (h : b9 ps d = false) (k : ByteArray) : grp ps (l ++ [d]) k = grp ps l k := by
  rw [a9, if_neg (by rw [h]; rintro ⟨h, _⟩; cases h)]
theorem Tl.no {ps : List Pol} {l : List HD} {d : HD} {T : List (Nat × Option Blk)} (h : b9 ps d = false) (hT : Tl ps l T) : Tl ps (l ++ [d]) T :=
  ⟨fun j hj => by
    rw [qx h] at hj ⊢
    rw [qz h]
    exact hT.at_ j hj, hT.rows⟩
theorem jC {ps : List Pol} {calls : List HD} {b k nx mm : Nat} {T hp : List (Nat × Option Blk)} {fr : List (Nat × SV)} {E' : Int} (hl : calls.length ≤ 1048576) (hlt : k < calls.length) (hinc : b9 ps (calls.getD (k : Int).toNat default) = false) (hT : Tl ps (calls.take k) T)
    (hE : bC ps (bQ ps calls.length (calls.take k)) (calls.take k) (calls.getD (k : Int).toNat default) = E') (hfr : oh id 100000000000000000000 fr (ckF ps calls b (k + 1))) (h0 : lkh hp 0 = some (.cells [.i .i64 E'])) (h1 : lkh hp 1 = some (mpB b mm (ids ps (calls.take k)) (mpG ps (calls.take k))))
    (ht : ∀ l, 1000 ≤ l → l < 100000000000000000000 → lkh hp l = lkh T l) : ∃ i, ckP ps calls i ∧ (fun k => calls.length - k.1) i < calls.length - k ∧ Le ⟨⟨Try.f15.ntmps, 0⟩, nx, fr, hp⟩ (ckI ps calls b i) := by
  have hk1 := qn hlt
  refine ⟨(k + 1, T), ⟨hlt, by dsimp only; rw [hk1]; exact hT.no hinc⟩, by dsimp only; omega, ?_⟩
  have hi := qx (ps := ps) (l := calls.take k) hinc
  show Le _ ⟨_, 100000000000000000000, ckF ps calls b (k + 1), (0, some (.cells [.i .i64 (bQ ps calls.length (calls.take (k + 1)))])) :: (1, some (mpB b 100000000000000000000 (ids ps (calls.take (k + 1))) (mpG ps (calls.take (k + 1))))) :: T⟩
  rw [hk1, hi, dD, hE]
  refine Le.maps id rfl (by decide) hfr rfl rfl h0 (aK.free rfl) h1 (fun j hj => ?_) hT.rows (fun k b hb => ?_) fun k k' _ _ _ _ e => e
  · have hl : (ids ps (calls.take k)).length ≤ calls.length := Nat.le_trans (ii ps (calls.take k) []) (by rw [Q10, List.length_nil]; omega)
    dsimp only [mpG]
    rw [hi, qz hinc]
    exact ⟨.sl _ _ _ _ (by omega), .sl rfl (by omega)⟩
  · obtain ⟨r1, r2, _⟩ := hT.rows k b hb
    refine ⟨b, by rw [id, ht k r1 r2]; exact hb, .inl rfl, ?_, ?_⟩ <;> (show k ≠ _; omega)
def qq (id : Nat) : Code → Option Code
  | .seq (.region i b d) y => if i = id then some (.seq (.region i b d) y) else qq id y
  | .seq a b => (qq id a).or (qq id b)
  | .cond _ a b => (qq id a).or (qq id b)
  | .block _ b => qq id b
  | .loop b => qq id b
  | _ => none
noncomputable def ck16 : Code := (qq 16 (Try.f15.body.getD .skip)).getD .skip
@[reducible] noncomputable def ck6 (ps : List Pol) (calls : List HD) (b k : Nat) (E1 : Int) (T : List (Nat × Option Blk)) : St :=
  ⟨⟨Try.f15.ntmps, 0⟩, 100000000000000000001, (11, .ptr 100000000000000000000 0) :: (12, .d (ap 1 (aQ .u8) (aT (calls.getD (k : Int).toNat default).pol (calls.getD (k : Int).toNat default).key))) :: ckF ps calls b k,
    (0, some (.cells [.i .i64 E1])) :: (100000000000000000000, some (.cells ((calls.getD (k : Int).toNat default).D.map .d))) :: (1, some (mpB b 100000000000000000000 (ids ps (calls.take k)) (mpG ps (calls.take k)))) :: T⟩
def ckR (ps : List Pol) (calls : List HD) (b k : Nat) (e : Exit) (S : St) : Prop := e = .normal ∧ ∃ T, Tl ps (calls.take (k + 1)) T ∧ Le S ⟨⟨Try.f15.ntmps, 0⟩, 100000000000000000000, ckF ps calls b k, ckH ps calls b (k + 1, T)⟩
theorem pH {l : List ByteArray} (h : l.Nodup) {j j' : Nat} (hj : j < l.length) (hj' : j' < l.length) (e : l.getD j' default = l.getD j default) : j' = j := by
  rw [Q1, Q1, Q0 hj, Q0 hj'] at e
  have e : l[j'] = l[j] := e
  have hp := List.pairwise_iff_getElem.1 h
  rcases Nat.lt_trichotomy j' j with g | g | g
  · exact absurd e (hp j' j hj' hj g)
  · exact g
  · exact absurd e.symm (hp j j' hj hj' g)
theorem qt {l : List ByteArray} {k : ByteArray} (h : k ∈ l) : ∃ j, j < l.length ∧ l.getD j default = k := by
  obtain ⟨j, hj, e⟩ := List.getElem_of_mem h
  exact ⟨j, hj, by rw [Q1, Q0 hj]; exact e⟩
theorem dN.at_ {C : Cx} {t kt et b mm : Nat} (l : Nat) {keys : List ByteArray} {g : Nat → SV} {s : ByteArray} {hp : List (Nat × Option Blk)} {k : SV → Nat → Prop} {v : SV} (h1 : C.P.underlying t = some (.map kt et)) (h2 : C.P.underlying kt = some .string) (h3 : ∀ w, (zeroValue et).run C.P w = .ok (.slice none 0 0) w)
    (hl : lkh hp l = some (mpB b mm keys g)) (j : Nat) (hj : j < keys.length) (hs : keys.getD j default = s) (hn : ∀ j', j' < keys.length → keys.getD j' default = s → j' = j) (hv : g j = v) (h : k v l) : dN C t (mpV b) (.d (.val (.string s))) hp k :=
  dN.hit h1 h2 h3 hl j hj hs hn (by rw [hv]; exact h)
theorem jT (K : List ByteArray) (s : ByteArray) : (K ++ [s]).getD K.length default = s := by
  rw [Q1, Q12 (Q4 _), Nat.sub_self]; rfl
theorem snoc_un {K : List ByteArray} {s : ByteArray} (h : ∀ j, j < K.length → K.getD j default ≠ s) (j : Nat) (hj : j < (K ++ [s]).length) (e : (K ++ [s]).getD j default = s) : j = K.length := by
  by_cases hl : j < K.length
  · rw [Q1, Q11 hl, ← Q1] at e
    exact absurd e (h j hl)
  · rw [Q9, List.length_singleton] at hj; omega
theorem u53 : TC.P.underlying 53 = some (.map 9 24) := rfl
theorem u9 : TC.P.underlying 9 = some .string := rfl
theorem z24 (w : World) : (zeroValue 24).run TC.P w = .ok (.slice none 0 0) w := rfl
theorem kV {ps : List Pol} {d : HD} (h : b9 ps d = true) : dO ps d = false := by
  unfold b9 at h
  rw [Q5, Bool.not_eq_true'] at h
  exact h.1
theorem Tl.miss {ps : List Pol} {l : List HD} {d : HD} {T : List (Nat × Option Blk)} (hT : Tl ps l T) (hi : b9 ps d = true) (hm : ¬ kb d ∈ ids ps l) (hl : (ids ps l).length ≤ 1048576) :
    Tl ps (l ++ [d]) ((1000 + (ids ps l).length, some (.row 39 13 1 fun q => HD.D (([d] : List HD).getD q default))) :: T) := by
  refine ⟨fun j hj => ?_, fun k b h => ?_⟩
  · rw [cZ, if_pos ⟨hi, hm⟩] at hj ⊢
    rw [Q9, List.length_singleton] at hj
    rw [ah]
    by_cases e : j = (ids ps l).length
    · subst e
      rw [if_pos rfl, jT, a9, if_pos ⟨hi, rfl⟩, il ps l _ hm]
      rfl
    · have hj' : j < (ids ps l).length := by omega
      rw [if_neg (by omega), hT.at_ j hj']
      have e2 : (ids ps l ++ [kb d]).getD j default = (ids ps l).getD j default := by
        rw [Q1, Q11 hj', ← Q1]
      rw [e2, a9, if_neg]
      rintro ⟨_, h⟩
      refine hm ?_
      rw [h, Q1, Q0 hj']
      exact Q14 hj'
  · rw [ah] at h
    by_cases e : 1000 + (ids ps l).length = k
    · rw [if_pos e] at h
      cases h
      exact ⟨by omega, by omega, _, _, _, _, rfl⟩
    · rw [if_neg e] at h
      exact hT.rows k b h
theorem pJ {ps : List Pol} {l : List HD} {d : HD} (hi : b9 ps d = true) (hm : ¬ kb d ∈ ids ps l) : mpG ps (l ++ [d]) (ids ps l).length = .sl (1000 + (ids ps l).length) 13 0 1 ∧ ∀ j, j < (ids ps l).length → mpG ps (l ++ [d]) j = .sl (1000 + j) 13 0 (grp ps l ((ids ps l).getD j default)).length := by
  have e2 : ids ps (l ++ [d]) = ids ps l ++ [kb d] := by rw [cZ, if_pos ⟨hi, hm⟩]
  refine ⟨?_, fun j hj => ?_⟩
  · dsimp only [mpG]
    rw [e2, jT, a9, if_pos (show b9 ps d = true ∧ kb d = kb d from ⟨hi, rfl⟩), il ps l _ hm]
    rfl
  · dsimp only [mpG]
    rw [e2, Q1, Q11 hj, ← Q1, a9, if_neg]
    rintro ⟨_, h⟩
    refine hm ?_
    rw [h, Q1, Q0 hj]
    exact Q14 hj
theorem bK.off {lo hi : Nat} {T : List (Nat × Option Blk)} (h : bK lo hi T) (l : Nat) : bK lo hi ((l, Option.none) :: T) := fun k b hb => by
  rw [ah] at hb
  by_cases e : l = k
  · rw [if_pos e] at hb; cases hb
  · rw [if_neg e] at hb; exact h k b hb
theorem iF.freeD {π : Nat → Nat} {nx' : Nat} : ∀ ds : List D, iF π nx' (ds.map .d) (ds.map .d)
  | [] => trivial
  | _ :: r => ⟨aK.free rfl, iF.freeD r⟩
theorem qb {ps : List Pol} {calls : List HD} {b k : Nat} {E1 : Int} {T : List (Nat × Option Blk)} {d : HD} (hT : Tl ps (calls.take k) T) (hl : (ids ps (calls.take k)).length ≤ 1048576) {j : Nat} (hj : j < (ids ps (calls.take k)).length) :
    Le ⟨⟨Try.f15.ntmps, 0⟩, 100000000000000000001, (11, .ptr 100000000000000000000 0) :: (12, .d (ap 1 (aQ .u8) (aT d.pol d.key))) :: ckF ps calls b k,
      (0, some (.cells [.i .i64 E1])) :: (100000000000000000000, some (.cells (d.D.map .d))) :: (1, some (mpB b 100000000000000000000 (ids ps (calls.take k)) (mpG ps (calls.take k)))) :: T⟩
      ⟨⟨Try.f15.ntmps, 0⟩, 100000000000000000001, (11, .ptr 100000000000000000000 0) :: (12, .d (ap 1 (aQ .u8) (aT d.pol d.key))) :: ckF ps calls b k,
      (0, some (.cells [.i .i64 E1])) :: (100000000000000000000, some (.cells (d.D.map .d))) :: (1, some (mpB b 100000000000000000000 (ids ps (calls.take k)) fun q => if q = j then .sl 98 13 0 (grp ps (calls.take k) ((ids ps (calls.take k)).getD j default)).length else mpG ps (calls.take k) q)) ::
        (98, some (.row 39 13 (grp ps (calls.take k) ((ids ps (calls.take k)).getD j default)).length fun q => HD.D ((grp ps (calls.take k) ((ids ps (calls.take k)).getD j default)).getD q default))) :: (1000 + j, none) :: T⟩ := by
  have p0 : (fun l => if l = 98 then 1000 + j else l) 0 = 0 := rfl
  have p1 : (fun l => if l = 98 then 1000 + j else l) 1 = 1 := rfl
  have pN : (fun l => if l = 98 then 1000 + j else l) 100000000000000000000 = 100000000000000000000 := rfl
  have p98 : (fun l => if l = 98 then 1000 + j else l) 98 = 1000 + j := rfl
  have pn : ∀ l, ¬ 98 = l → (fun l => if l = 98 then 1000 + j else l) l = l := fun l h => if_neg (Ne.symm h)
  have key : ∀ {l b'}, lkh ((0, some (Blk.cells [.i .i64 E1])) :: (100000000000000000000, some (.cells (d.D.map .d))) :: (1, some (mpB b 100000000000000000000 (ids ps (calls.take k)) fun q => if q = j then .sl 98 13 0 (grp ps (calls.take k) ((ids ps (calls.take k)).getD j default)).length else mpG ps (calls.take k) q)) ::
        (98, some (.row 39 13 (grp ps (calls.take k) ((ids ps (calls.take k)).getD j default)).length fun q => HD.D ((grp ps (calls.take k) ((ids ps (calls.take k)).getD j default)).getD q default))) :: (1000 + j, none) :: T) l = some b' →
      l = 0 ∨ l = 100000000000000000000 ∨ l = 1 ∨ l = 98 ∨ (1000 ≤ l ∧ l < 100000000000000000000 ∧ ¬ l = 1000 + j ∧ lkh T l = some b') := fun {l b'} h => by
    by_cases e0 : 0 = l
    · exact .inl e0.symm
    by_cases eN : 100000000000000000000 = l
    · exact .inr (.inl eN.symm)
    by_cases e1 : 1 = l
    · exact .inr (.inr (.inl e1.symm))
    by_cases e98 : 98 = l
    · exact .inr (.inr (.inr (.inl e98.symm)))
    by_cases ej : 1000 + j = l
    · simp only [ah, if_neg e0, if_neg e1, if_neg eN, if_neg e98, if_pos ej] at h; cases h
    simp only [ah, if_neg e0, if_neg e1, if_neg eN, if_neg e98, if_neg ej] at h
    obtain ⟨r1, r2, _⟩ := hT.rows l b' h
    exact .inr (.inr (.inr (.inr ⟨r1, r2, Ne.symm ej, h⟩)))
  refine Le.pi (fun l => if l = 98 then 1000 + j else l) rfl (oh.out (by ((conv => whnf); repeat' (first | exact trivial | exact aK.free rfl | exact aK.ptr p0 (by decide) | exact aK.ptr pN (by decide) | exact aK.fn1 (aK.ptr p0 (by decide)) | ((with_reducible refine And.intro ?_ ?_) <;> (conv => whnf)))))) (fun l b' h => ?_) fun l l' b1 b2 h h' e => ?_
  · rcases key h with rfl | rfl | rfl | rfl | ⟨r1, r2, r3, h3⟩
    · obtain rfl := Option.some.inj (show some _ = some b' from h)
      exact ⟨by omega, _, rfl, co.cells ⟨aK.free rfl, trivial⟩⟩
    · obtain rfl := Option.some.inj (show some _ = some b' from h)
      exact ⟨by omega, _, rfl, co.cells (iF.freeD _)⟩
    · obtain rfl := Option.some.inj (show some _ = some b' from h)
      refine ⟨by omega, _, rfl, co.obj (by omega) fun q hq => ?_⟩
      by_cases e : q = j
      · rw [if_pos e, e]
        exact ⟨.sl _ _ _ _ (by omega), .sl p98 (by omega)⟩
      · rw [if_neg e]
        exact ⟨.sl _ _ _ _ (by omega), .sl (pn _ (by omega)) (by omega)⟩
    · obtain rfl := Option.some.inj (show some _ = some b' from h)
      refine ⟨by omega, _, (congrArg (lkh _) p98).trans ?_, co.row⟩
      simp only [ah, if_neg (show ¬ 0 = 1000 + j by omega), if_neg (show ¬ 100000000000000000000 = 1000 + j by omega), if_neg (show ¬ 1 = 1000 + j by omega)]
      exact hT.at_ j hj
    · obtain ⟨_, _, e, z, n, f, rfl⟩ := hT.rows l b' h3
      refine ⟨by omega, _, (congrArg (lkh _) (pn l (by omega))).trans ?_, co.row⟩
      simp only [ah, if_neg (show ¬ 0 = l by omega), if_neg (show ¬ 100000000000000000000 = l by omega), if_neg (show ¬ 1 = l by omega)]
      exact h3
  · rcases key h with rfl | rfl | rfl | rfl | ⟨r1, r2, r3, h3⟩ <;> rcases key h' with rfl | rfl | rfl | rfl | ⟨r1', r2', r3', h3'⟩ <;> first | rfl | (exfalso; split at e <;> first | omega | (split at e <;> omega)) | (split at e <;> split at e <;> omega)
theorem Tl.hit {ps : List Pol} {l : List HD} {d : HD} {T : List (Nat × Option Blk)} (hT : Tl ps l T) (hi : b9 ps d = true) {j : Nat} (hj : j < (ids ps l).length) (hjk : (ids ps l).getD j default = kb d) (hn : ∀ j', j' < (ids ps l).length → (ids ps l).getD j' default = kb d → j' = j) (hl : (ids ps l).length ≤ 1048576) :
    Tl ps (l ++ [d]) ((1000 + j, some (.row 39 13 ((grp ps l (kb d)).length + 1) fun q => HD.D ((grp ps l (kb d) ++ [d]).getD q default))) :: T) := by
  have hm : kb d ∈ ids ps l := by
    rw [← hjk, Q1, Q0 hj]
    exact Q14 hj
  have e2 : ids ps (l ++ [d]) = ids ps l := by rw [cZ, if_neg (fun h => h.2 hm)]
  refine ⟨fun q hq => ?_, fun k b h => ?_⟩
  · rw [e2] at hq ⊢
    rw [ah]
    by_cases e : q = j
    · subst e
      rw [if_pos rfl, hjk, a9, if_pos (show b9 ps d = true ∧ kb d = kb d from ⟨hi, rfl⟩), Q9, List.length_singleton]
    · rw [if_neg (by omega), hT.at_ q hq, a9, if_neg (fun h => e (hn q hq h.2.symm))]
  · rw [ah] at h
    by_cases e : 1000 + j = k
    · rw [if_pos e] at h
      cases h
      exact ⟨by omega, by omega, _, _, _, _, rfl⟩
    · rw [if_neg e] at h
      exact hT.rows k b h
theorem lu {ps : List Pol} {calls : List HD} {b k nx mm : Nat} {E1 E' : Int} {T hp : List (Nat × Option Blk)} {fr : List (Nat × SV)} {d : HD} {j : Nat} {g : Nat → SV} {f : Nat → List D} (hT : Tl ps (calls.take k) T) (hinc : b9 ps d = true) (hj : j < (ids ps (calls.take k)).length) (hjk : (ids ps (calls.take k)).getD j default = kb d)
    (hn : ∀ j', j' < (ids ps (calls.take k)).length → (ids ps (calls.take k)).getD j' default = kb d → j' = j) (hl : (ids ps (calls.take k)).length ≤ 1048576) (hk1 : calls.take (k + 1) = calls.take k ++ [d]) (hE1 : (if d.last < d.first then bL (bQ ps calls.length (calls.take k)) 1 else bQ ps calls.length (calls.take k)) = E1)
    (hE : (if 8 < (grp ps (calls.take k) (kb d)).length + 1 then bL E1 2 else E1) = E') (hfr : oh (fun l => if l = 1000 + j then 100000000000000000010 else l) 100000000000000000000 fr (ckF ps calls b k)) (h0 : lkh hp 0 = some (.cells [.i .i64 E'])) (h1 : lkh hp 1 = some (mpB b mm (ids ps (calls.take k)) g))
    (hg : ∀ q, g q = if q = j then .sl 100000000000000000010 13 0 ((grp ps (calls.take k) (kb d)).length + 1) else mpG ps (calls.take k) q) (hr : lkh hp 100000000000000000010 = some (.row 39 13 ((grp ps (calls.take k) (kb d)).length + 1) f)) (hf : ∀ i, i < (grp ps (calls.take k) (kb d)).length + 1 → f i = HD.D ((grp ps (calls.take k) (kb d) ++ [d]).getD i default))
    (ho : outB 1000 100000000000000000000 hp = true) : ckR ps calls b k .normal ⟨⟨Try.f15.ntmps, 0⟩, nx, fr, hp ++ ((1000 + j, none) :: T)⟩ := by
  have hm : kb d ∈ ids ps (calls.take k) := by
    rw [← hjk, Q1, Q0 hj]
    exact Q14 hj
  have hH := hT.hit hinc hj hjk hn hl
  have e2 : ids ps (calls.take (k + 1)) = ids ps (calls.take k) := by rw [hk1, cZ, if_neg (fun h => h.2 hm)]
  have eg : grp ps (calls.take k ++ [d]) (kb d) = grp ps (calls.take k) (kb d) ++ [d] := by rw [a9, if_pos (show b9 ps d = true ∧ kb d = kb d from ⟨hinc, rfl⟩)]
  have e1 : bQ ps calls.length (calls.take (k + 1)) = E' := by
    rw [hk1, dD]
    unfold bC
    rw [hE1, if_neg (by rw [kV hinc]; decide), if_pos hinc, eg, Q9, List.length_singleton]
    exact hE
  refine ⟨rfl, _, by rw [hk1]; exact hH, ?_⟩
  show Le _ ⟨_, 100000000000000000000, ckF ps calls b k, (0, some (.cells [.i .i64 (bQ ps calls.length (calls.take (k + 1)))])) :: (1, some (mpB b 100000000000000000000 (ids ps (calls.take (k + 1))) (mpG ps (calls.take (k + 1))))) :: _⟩
  rw [e1, e2]
  have hA : ∀ l bb, lkh hp l = some bb → lkh (hp ++ ((1000 + j, none) :: T)) l = some bb := fun l bb h => av h
  refine Le.maps (fun l => if l = 1000 + j then 100000000000000000010 else l) rfl (by decide) hfr (if_neg (by omega)) (if_neg (by omega)) (hA _ _ h0) (aK.free rfl) (hA _ _ h1) (fun q hq => ?_) hH.rows (fun l bb hb => ?_) (fun l l' bb bb' hb hb' e => ?_)
  · rw [hg q]
    by_cases e : q = j
    · rw [if_pos e, e]
      have : mpG ps (calls.take (k + 1)) j = .sl (1000 + j) 13 0 ((grp ps (calls.take k) (kb d)).length + 1) := by
        dsimp only [mpG]
        rw [e2, hjk, hk1, eg, Q9, List.length_singleton]
      rw [this]
      exact ⟨.sl _ _ _ _ (by omega), .sl (if_pos rfl) (by omega)⟩
    · rw [if_neg e]
      have : mpG ps (calls.take (k + 1)) q = mpG ps (calls.take k) q := by
        dsimp only [mpG]
        rw [e2, hk1, a9, if_neg (fun h => e (hn q hq h.2.symm))]
      rw [this]
      exact ⟨.sl _ _ _ _ (by omega), .sl (if_neg (by omega)) (by omega)⟩
  · rw [ah] at hb
    by_cases e : 1000 + j = l
    · rw [if_pos e] at hb
      cases hb
      refine ⟨_, (congrArg (lkh _) (if_pos e.symm)).trans (hA _ _ hr), .inr ⟨_, _, _, _, _, rfl, rfl, hf⟩, by rw [if_pos e.symm]; decide, by rw [if_pos e.symm]; decide⟩
    · rw [if_neg e] at hb
      obtain ⟨r1, r2, _⟩ := hT.rows l bb hb
      refine ⟨bb, ?_, .inl rfl, ?_, ?_⟩
      · rw [if_neg (Ne.symm e), (cG ho r1 r2).2, ah, if_neg e]
        exact hb
      all_goals (rw [if_neg (Ne.symm e)]; omega)
  · obtain ⟨r1, r2, _⟩ := hH.rows l bb hb
    obtain ⟨r3, r4, _⟩ := hH.rows l' bb' hb'
    split at e <;> split at e <;> omega
theorem ck_16 {ps : List Pol} {calls : List HD} (hk : ∀ d ∈ calls, IsB d.key) (hl : calls.length ≤ 1048576) {b k : Nat} {E1 : Int} {T : List (Nat × Option Blk)} (hlt : k < calls.length) (hinc : b9 ps (calls.getD (k : Int).toNat default) = true)
    (hE1 : (if (calls.getD (k : Int).toNat default).last < (calls.getD (k : Int).toNat default).first then bL (bQ ps calls.length (calls.take k)) 1 else bQ ps calls.length (calls.take k)) = E1) (hT : Tl ps (calls.take k) T) : Wp TC ck16 (ck6 ps calls b k E1 T) (ckR ps calls b k) := by
  conv => (arg 2; whnf)
  have hk1 := qn hlt
  unfold ck6
  generalize hd : calls.getD (k : Int).toNat default = d at *
  have hKl : (ids ps (calls.take k)).length ≤ 1048576 := Nat.le_trans (ii ps (calls.take k) []) (by rw [Q10, List.length_nil]; omega)
  by_cases hm : kb d ∈ ids ps (calls.take k)
  · obtain ⟨j, hj, hjk⟩ := qt hm
    have hn : ∀ j', j' < (ids ps (calls.take k)).length → (ids ps (calls.take k)).getD j' default = kb d → j' = j := fun j' hj' e => pH (nd ps _) hj hj' (e.trans hjk.symm)
    have hgl := ni ps (calls.take k) ((ids ps (calls.take k)).getD j default)
    rw [Q10] at hgl
    refine Wp.le (qb hT hKl hj) ?_
    refine Wp.frame (nx := 100000000000000000001) (lo := 1000) (m := 100000000000000000000) (T := (1000 + j, none) :: T) (hp := [(0, some (.cells [.i .i64 E1])), (100000000000000000000, some (.cells (d.D.map .d))), (1, some (mpB b 100000000000000000000 (ids ps (calls.take k)) fun q => if q = j then .sl 98 13 0 (grp ps (calls.take k) ((ids ps (calls.take k)).getD j default)).length else mpG ps (calls.take k) q)),
        (98, some (.row 39 13 (grp ps (calls.take k) ((ids ps (calls.take k)).getD j default)).length fun q => HD.D ((grp ps (calls.take k) ((ids ps (calls.take k)).getD j default)).getD q default)))]) (by decide) (hT.rows.off _) rfl ?_
    rw [hjk] at hgl ⊢
    (repeat' (first
    | ((with_reducible refine Wp.drawTailL ac rfl rfl (by kernel_rfl) ?_); conv => whnf)
    | ((refine n8.mk' (aT d.pol d.key) rfl (fun i hi => rfl) ?_); (conv => whnf))
    | ((refine dN.at_ 1 u53 u9 z24 rfl j hj hjk hn (if_pos rfl) ?_); (conv => whnf))
    | with_reducible refine Wp.seq ?_
    | with_reducible refine Wp.block ?_
    | ((with_reducible first | refine Wp.region ?_ | refine Wp.drawL ac ?_ | refine Wp.cond ?_ | refine Wp.ret ?_ | refine Wp.skip ?_ | refine Wp.exit ?_ | refine Go.mk ?_ | apply aA.of); conv => whnf)
    | with_reducible exact rfl
    | ((with_reducible refine Ov.ok zO ?_); conv => whnf)
    | (with_reducible refine Ov.sh1 (by with_unfolding_all exact rfl) ?_)
    | ((with_reducible refine Ov.quo (by omega) (by omega) (by omega) (fun _ _ => ?_)); conv => whnf)
    | ((with_reducible refine And.intro (show aj _ _ _ _ = true by kernel_rfl) ?_); conv => whnf)
    | ((with_reducible refine And.intro zC ?_); conv => whnf)
    | ((with_reducible refine And.intro ?hb ?_); (case hb => exact ae (zzb rfl) (by omega)); (conv => whnf))
    | ((refine af.a rfl rfl rfl rfl rfl rfl ?hb ?_); (case hb => exact zB); (conv => whnf))
    | ((refine af.b rfl rfl rfl rfl rfl rfl rfl rfl ?hb ?ho ?_); (case hb => exact zB); (case ho => omega); (conv => whnf))
    | ((refine af.c rfl rfl rfl rfl rfl ?hb ?_); (case hb => exact zB); (conv => whnf))
    | ((refine af.d rfl rfl rfl rfl rfl rfl ?hb ?ho ?_); (case hb => exact zB); (case ho => omega); (conv => whnf))
    | (with_reducible refine Or.inl ?_)
    | ((with_reducible refine nil_no (by omega) ?_); (conv => whnf))
    | ((with_reducible refine ag ?_ (fun hn0 => ?_)) <;> (conv => whnf))
    | ((refine a7.mapUp (l := 1) u53 u9 rfl rfl rfl rfl (.sl _ _ _ _ (by omega)) rfl (Or.inl ⟨j, hj, hjk, hn, ?_⟩)); (conv => whnf))
    | ((refine a7.look (dN.at_ 1 u53 u9 z24 rfl j hj hjk hn (if_pos rfl) ?_)); (conv => whnf))
    | (with_reducible refine aa.inline Try.func32 rfl rfl rfl (zzb rfl) ?_)
    | ((refine aB (fun hc => ?_) (fun hc => ?_)) <;> (try simp only [decide_eq_true_eq, decide_eq_false_iff_not, Q5, Q20, Bool.and_eq_false_iff, Bool.or_eq_false_iff, Bool.not_eq_true', Bool.not_eq_false', beq_iff_eq, bne_iff_ne, ne_eq, beq_eq_false_iff_ne, bne_eq_false_iff_eq, Bool.not_eq_true, Bool.not_eq_false] at hc) <;> (try (exfalso; omega)) <;> (conv => whnf))))
    all_goals have p0 : (fun l => if l = 1000 + j then 100000000000000000010 else l) 0 = 0 := if_neg (by omega)
    · refine ⟨_, _, _, rfl, rfl, lu hT hinc hj hjk hn hKl hk1 hE1 (E' := 2) ?_ (by ((conv => whnf); repeat' (first | exact trivial | exact aK.free rfl | exact aK.ptr p0 (by decide) | exact aK.fn1 (aK.ptr p0 (by decide)) | ((with_reducible refine And.intro ?_ ?_) <;> (conv => whnf))))) rfl rfl (fun q => ?_) rfl (fun i hi => ?_) rfl⟩
      · unfold bL; (repeat' split) <;> omega
      · by_cases e : q = j
        · rw [if_pos e]; exact (if_pos e).symm
        · rw [if_neg e]; exact (if_neg e).trans (if_neg e).symm
      · exact bo HD.D 13 (grp ps (calls.take k) (kb d)) d _ rfl i hi
    · refine ⟨_, _, _, rfl, rfl, lu hT hinc hj hjk hn hKl hk1 hE1 (E' := 2) ?_ (by ((conv => whnf); repeat' (first | exact trivial | exact aK.free rfl | exact aK.ptr p0 (by decide) | exact aK.fn1 (aK.ptr p0 (by decide)) | ((with_reducible refine And.intro ?_ ?_) <;> (conv => whnf))))) rfl rfl (fun q => ?_) rfl (fun i hi => ?_) rfl⟩
      · unfold bL; (repeat' split) <;> omega
      · by_cases e : q = j
        · rw [if_pos e]; exact (if_pos e).symm
        · rw [if_neg e]; exact (if_neg e).trans (if_neg e).symm
      · exact bo HD.D 13 (grp ps (calls.take k) (kb d)) d _ rfl i hi
    · refine ⟨_, _, _, rfl, rfl, lu hT hinc hj hjk hn hKl hk1 hE1 (E' := E1) ?_ (by ((conv => whnf); repeat' (first | exact trivial | exact aK.free rfl | exact aK.ptr p0 (by decide) | exact aK.fn1 (aK.ptr p0 (by decide)) | ((with_reducible refine And.intro ?_ ?_) <;> (conv => whnf))))) rfl rfl (fun q => ?_) rfl (fun i hi => ?_) rfl⟩
      · unfold bL; (repeat' split) <;> omega
      · by_cases e : q = j
        · rw [if_pos e]; exact (if_pos e).symm
        · rw [if_neg e]; exact (if_neg e).trans (if_neg e).symm
      · exact bo HD.D 13 (grp ps (calls.take k) (kb d)) d _ rfl i hi
    · refine ⟨_, _, _, rfl, rfl, lu hT hinc hj hjk hn hKl hk1 hE1 (E' := E1) ?_ (by ((conv => whnf); repeat' (first | exact trivial | exact aK.free rfl | exact aK.ptr p0 (by decide) | exact aK.fn1 (aK.ptr p0 (by decide)) | ((with_reducible refine And.intro ?_ ?_) <;> (conv => whnf))))) rfl rfl (fun q => ?_) rfl (fun i hi => ?_) rfl⟩
      · unfold bL; (repeat' split) <;> omega
      · by_cases e : q = j
        · rw [if_pos e]; exact (if_pos e).symm
        · rw [if_neg e]; exact (if_neg e).trans (if_neg e).symm
      · exact bo HD.D 13 (grp ps (calls.take k) (kb d)) d _ rfl i hi
  · have hno : ∀ j, j < (ids ps (calls.take k)).length → (ids ps (calls.take k)).getD j default ≠ kb d := fun j hj e => hm (by rw [← e, Q1, Q0 hj]; exact Q14 hj)
    refine Wp.frame (nx := 100000000000000000001) (lo := 1000) (m := 100000000000000000000) (T := T) (hp := [(0, some (.cells [.i .i64 E1])), (100000000000000000000, some (.cells (d.D.map .d))), (1, some (mpB b 100000000000000000000 (ids ps (calls.take k)) (mpG ps (calls.take k))))]) (by decide) hT.rows rfl ?_
    have a1 : (ids ps (calls.take k)).length < (ids ps (calls.take k) ++ [kb d]).length := by rw [Q9, List.length_singleton]; omega
    have a2 := jT (ids ps (calls.take k)) (kb d)
    have a3 := snoc_un hno
    (repeat' (first
    | ((with_reducible refine Wp.drawTailL ac rfl rfl (by kernel_rfl) ?_); conv => whnf)
    | ((refine n8.mk' (aT d.pol d.key) rfl (fun i hi => rfl) ?_); (conv => whnf))
    | ((refine dN.miss (l := 1) u53 u9 z24 rfl hno ?_); (conv => whnf))
    | with_reducible refine Wp.seq ?_
    | with_reducible refine Wp.block ?_
    | ((with_reducible first | refine Wp.region ?_ | refine Wp.drawL ac ?_ | refine Wp.cond ?_ | refine Wp.ret ?_ | refine Wp.skip ?_ | refine Wp.exit ?_ | refine Go.mk ?_ | apply aA.of); conv => whnf)
    | with_reducible exact rfl
    | ((with_reducible refine Ov.ok zO ?_); conv => whnf)
    | (with_reducible refine Ov.sh1 (by with_unfolding_all exact rfl) ?_)
    | ((with_reducible refine Ov.quo (by omega) (by omega) (by omega) (fun _ _ => ?_)); conv => whnf)
    | ((with_reducible refine And.intro (show aj _ _ _ _ = true by kernel_rfl) ?_); conv => whnf)
    | ((with_reducible refine And.intro zC ?_); conv => whnf)
    | ((with_reducible refine And.intro ?hb ?_); (case hb => exact ae (zzb rfl) (by omega)); (conv => whnf))
    | ((refine af.a rfl rfl rfl rfl rfl rfl ?hb ?_); (case hb => exact zB); (conv => whnf))
    | ((refine af.b rfl rfl rfl rfl rfl rfl rfl rfl ?hb ?ho ?_); (case hb => exact zB); (case ho => omega); (conv => whnf))
    | ((refine af.c rfl rfl rfl rfl rfl ?hb ?_); (case hb => exact zB); (conv => whnf))
    | ((refine af.d rfl rfl rfl rfl rfl rfl ?hb ?ho ?_); (case hb => exact zB); (case ho => omega); (conv => whnf))
    | (with_reducible refine Or.inl ?_)
    | ((with_reducible refine nil_no (by omega) ?_); (conv => whnf))
    | ((with_reducible refine ag ?_ (fun hn0 => ?_)) <;> (conv => whnf))
    | ((refine a7.mapUp (l := 1) u53 u9 rfl rfl rfl rfl (.sl _ _ _ _ (by omega)) rfl (Or.inr ⟨hno, ?_⟩)); (conv => whnf))
    | ((refine a7.look (dN.at_ 1 u53 u9 z24 rfl _ a1 a2 a3 (if_pos rfl) ?_)); (conv => whnf))
    | (with_reducible refine aa.inline Try.func32 rfl rfl rfl (zzb rfl) ?_)
    | ((refine aB (fun hc => ?_) (fun hc => ?_)) <;> (try simp only [decide_eq_true_eq, decide_eq_false_iff_not, Q5, Q20, Bool.and_eq_false_iff, Bool.or_eq_false_iff, Bool.not_eq_true', Bool.not_eq_false', beq_iff_eq, bne_iff_ne, ne_eq, beq_eq_false_iff_ne, bne_eq_false_iff_eq, Bool.not_eq_true, Bool.not_eq_false] at hc) <;> (try (exfalso; omega)) <;> (conv => whnf))))
    refine ⟨_, _, _, rfl, rfl, rfl, (1000 + (ids ps (calls.take k)).length, some (.row 39 13 1 fun q => HD.D (([d] : List HD).getD q default))) :: T, ?_, ?_⟩
    · rw [hk1]
      exact hT.miss hinc hm hKl
    · have p0 : (fun l => if l = 1000 + (ids ps (calls.take k)).length then 100000000000000000010 else l) 0 = 0 := if_neg (by omega)
      have eg : grp ps (calls.take k ++ [d]) (kb d) = [d] := by rw [a9, if_pos (show b9 ps d = true ∧ kb d = kb d from ⟨hinc, rfl⟩), il ps _ _ hm]; rfl
      have e1 : bQ ps calls.length (calls.take (k + 1)) = E1 := by
        rw [hk1, dD]
        unfold bC
        rw [hE1, if_neg (by rw [kV hinc]; decide), if_pos hinc, eg]
        exact if_neg (by show ¬ 8 < 1; decide)
      have e2 : ids ps (calls.take (k + 1)) = ids ps (calls.take k) ++ [kb d] := by rw [hk1, cZ, if_pos ⟨hinc, hm⟩]
      show Le _ ⟨_, 100000000000000000000, ckF ps calls b k, (0, some (.cells [.i .i64 (bQ ps calls.length (calls.take (k + 1)))])) :: (1, some (mpB b 100000000000000000000 (ids ps (calls.take (k + 1))) (mpG ps (calls.take (k + 1))))) :: _⟩
      rw [e1, e2]
      refine Le.maps (fun l => if l = 1000 + (ids ps (calls.take k)).length then 100000000000000000010 else l) rfl (by decide) (by ((conv => whnf); repeat' (first | exact trivial | exact aK.free rfl | exact aK.ptr p0 (by decide) | exact aK.fn1 (aK.ptr p0 (by decide)) | ((with_reducible refine And.intro ?_ ?_) <;> (conv => whnf))))) p0 (if_neg (by omega)) rfl (aK.free rfl) rfl (fun j hj => ?_) ?_ (fun l bb hb => ?_) (fun l l' bb bb' hb hb' e => ?_)
      · rw [Q9, List.length_singleton] at hj
        obtain ⟨m1, m2⟩ := pJ (ps := ps) (l := calls.take k) hinc hm
        by_cases e : j = (ids ps (calls.take k)).length
        · rw [e, hk1, m1]
          refine ⟨.sl _ _ _ _ (by omega), ?_⟩
          show aK _ _ (if _ = _ then _ else _) _
          rw [if_pos rfl]
          exact .sl (if_pos rfl) (by omega)
        · rw [hk1, m2 j (by omega)]
          refine ⟨.sl _ _ _ _ (by omega), ?_⟩
          show aK _ _ (if _ = _ then _ else _) _
          rw [if_neg e]
          exact .sl (if_neg (by omega)) (by omega)
      · exact (hT.miss hinc hm hKl).rows
      · rw [ah] at hb
        by_cases e : 1000 + (ids ps (calls.take k)).length = l
        · rw [if_pos e] at hb
          cases hb
          refine ⟨_, (congrArg (lkh _) (if_pos e.symm)).trans rfl, .inr ⟨_, _, _, _, _, rfl, rfl, fun i hi => ?_⟩, by rw [if_pos e.symm]; decide, by rw [if_pos e.symm]; decide⟩
          obtain rfl : i = 0 := by omega
          rfl
        · rw [if_neg e] at hb
          obtain ⟨r1, r2, _⟩ := hT.rows l bb hb
          refine ⟨bb, ?_, .inl rfl, ?_, ?_⟩
          · rw [if_neg (Ne.symm e)]
            exact (cG (lo := 1000) (hi := 100000000000000000000) (by rfl) r1 r2).2.trans hb
          all_goals (rw [if_neg (Ne.symm e)]; omega)
      · obtain ⟨r1, r2, _⟩ := (hT.miss hinc hm hKl).rows l bb hb
        obtain ⟨r3, r4, _⟩ := (hT.miss hinc hm hKl).rows l' bb' hb'
        split at e <;> split at e <;> omega
end
section
open Hist
theorem qa {ps : List Pol} {calls : List HD} (hk : ∀ d ∈ calls, IsB d.key) (hl : calls.length ≤ 1048576) (b : Nat) (k) (hp : ckP ps calls k) :
    Wp TC ckB (ckI ps calls b k) (qp (ckP ps calls) (ckI ps calls b) (fun k => calls.length - k.1) (calls.length - k.1) (ckQ ps calls b)) := by
  obtain ⟨k, T⟩ := k
  obtain ⟨hk1, hT⟩ := hp
  dsimp only at hk1 hT ⊢
  conv => (arg 2; whnf)
  dsimp only [ckI, ckH]
  by_cases hlt : k < calls.length
  · generalize hE : bQ ps calls.length (calls.take k) = E
    have hC := eo ps (calls.getD (k : Int).toNat default).op (calls.getD (k : Int).toNat default).pol (calls.getD (k : Int).toNat default).key (calls.getD (k : Int).toNat default).n
    have hN := ke (calls.getD (k : Int).toNat default)
    have hI := ea (calls.getD (k : Int).toNat default).pol (calls.getD (k : Int).toNat default).key
    obtain ⟨E1, hE1⟩ : ∃ E1, (if (calls.getD (k : Int).toNat default).last < (calls.getD (k : Int).toNat default).first then bL E 1 else E) = E1 := ⟨_, rfl⟩
    generalize hz : mpB b 100000000000000000000 (ids ps (calls.take k)) (mpG ps (calls.take k)) = mp
    (repeat' (first
    | (with_reducible refine Wp.midAt 10 (ckM ps calls b k E1 mp T) ?_ ?_)
    | (with_reducible refine Wp.reg 16 ?_)
    | with_reducible refine Wp.seq ?_
    | with_reducible refine Wp.block ?_
    | ((with_reducible first | refine Wp.region ?_ | refine Wp.drawL ac ?_ | refine Wp.cond ?_ | refine Wp.ret ?_ | refine Wp.skip ?_ | refine Wp.exit ?_ | refine Go.mk ?_ | apply aA.of); conv => whnf)
    | with_reducible exact rfl
    | ((with_reducible refine Ov.ok zO ?_); conv => whnf)
    | (with_reducible refine Ov.sh1 (by with_unfolding_all exact rfl) ?_)
    | ((with_reducible refine Ov.quo (by omega) (by omega) (by omega) (fun _ _ => ?_)); conv => whnf)
    | ((with_reducible refine And.intro (show aj _ _ _ _ = true by kernel_rfl) ?_); conv => whnf)
    | ((with_reducible refine And.intro zC ?_); conv => whnf)
    | ((with_reducible refine And.intro ?hb ?_); (case hb => exact ae (zzb rfl) (by omega)); (conv => whnf))
    | ((refine af.a rfl rfl rfl rfl rfl rfl ?hb ?_); (case hb => exact zB); (conv => whnf))
    | ((refine af.b rfl rfl rfl rfl rfl rfl rfl rfl ?hb ?ho ?_); (case hb => exact zB); (case ho => omega); (conv => whnf))
    | ((refine af.c rfl rfl rfl rfl rfl ?hb ?_); (case hb => exact zB); (conv => whnf))
    | ((refine af.d rfl rfl rfl rfl rfl rfl ?hb ?ho ?_); (case hb => exact zB); (case ho => omega); (conv => whnf))
    | (with_reducible refine Or.inl ?_)
    | ((with_reducible refine nil_no (by omega) ?_); (conv => whnf))
    | ((with_reducible refine ag ?_ (fun hn0 => ?_)) <;> (conv => whnf))
    | ((with_reducible refine aa.pure (hC) rfl rfl ?_); conv => whnf) | ((with_reducible refine ai.pure (hC) rfl rfl ?_); conv => whnf)
    | ((with_reducible refine aa.pure (hI) rfl rfl ?_); conv => whnf) | ((with_reducible refine ai.pure (hI) rfl rfl ?_); conv => whnf)
    | ((with_reducible refine aa.pure (hN) rfl rfl ?_); conv => whnf) | ((with_reducible refine ai.pure (hN) rfl rfl ?_); conv => whnf)
    | (with_reducible refine aa.inline Try.func32 rfl rfl rfl (zzb rfl) ?_)
    | ((refine aB (fun hc => ?_) (fun hc => ?_)) <;> (try simp only [decide_eq_true_eq, decide_eq_false_iff_not, Q5, Q20, Bool.and_eq_false_iff, Bool.or_eq_false_iff, Bool.not_eq_true', Bool.not_eq_false', beq_iff_eq, bne_iff_ne, ne_eq, beq_eq_false_iff_ne, bne_eq_false_iff_eq, Bool.not_eq_true, Bool.not_eq_false] at hc) <;> (try (exfalso; omega)) <;> (conv => whnf))))
    · refine Le.keep (Q4 _) (by ((conv => whnf); repeat' (first | exact trivial | exact SV.Le.rfl _ | ((with_reducible refine And.intro ?_ ?_) <;> (conv => whnf))))) (fun l bb hb => ?_)
      have e9 : E1 = 1 := (by rw [← hE1]; unfold bL; (repeat' split) <;> omega)
      rw [e9] at hb
      by_cases e0 : 0 = l
      · subst e0; exact hb
      by_cases e1 : 1 = l
      · subst e1; exact hb
      by_cases e2 : 100000000000000000000 = l
      · subst e2; exact hb
      simp only [ah, if_neg e0, if_neg e1, if_neg e2] at hb ⊢
      exact hb
    · refine Le.keep (Q4 _) (by ((conv => whnf); repeat' (first | exact trivial | exact SV.Le.rfl _ | ((with_reducible refine And.intro ?_ ?_) <;> (conv => whnf))))) (fun l bb hb => ?_)
      have e9 : E1 = 1 := (by rw [← hE1]; unfold bL; (repeat' split) <;> omega)
      rw [e9] at hb
      by_cases e0 : 0 = l
      · subst e0; exact hb
      by_cases e1 : 1 = l
      · subst e1; exact hb
      by_cases e2 : 100000000000000000000 = l
      · subst e2; exact hb
      simp only [ah, if_neg e0, if_neg e1, if_neg e2] at hb ⊢
      exact hb
    · refine Le.keep (Q4 _) (by ((conv => whnf); repeat' (first | exact trivial | exact SV.Le.rfl _ | ((with_reducible refine And.intro ?_ ?_) <;> (conv => whnf))))) (fun l bb hb => ?_)
      have e9 : E1 = E := (by rw [← hE1]; unfold bL; (repeat' split) <;> omega)
      rw [e9] at hb
      by_cases e0 : 0 = l
      · subst e0; exact hb
      by_cases e1 : 1 = l
      · subst e1; exact hb
      by_cases e2 : 100000000000000000000 = l
      · subst e2; exact hb
      simp only [ah, if_neg e0, if_neg e1, if_neg e2] at hb ⊢
      exact hb
    · refine Le.keep (Q4 _) (by ((conv => whnf); repeat' (first | exact trivial | exact SV.Le.rfl _ | ((with_reducible refine And.intro ?_ ?_) <;> (conv => whnf))))) (fun l bb hb => ?_)
      have e9 : E1 = E := (by rw [← hE1]; unfold bL; (repeat' split) <;> omega)
      rw [e9] at hb
      by_cases e0 : 0 = l
      · subst e0; exact hb
      by_cases e1 : 1 = l
      · subst e1; exact hb
      by_cases e2 : 100000000000000000000 = l
      · subst e2; exact hb
      simp only [ah, if_neg e0, if_neg e1, if_neg e2] at hb ⊢
      exact hb
    · subst hz
      subst hE
      refine jC (E' := 3) hl hlt ?a hT ?b (by ((conv => whnf); repeat' (first | exact trivial | exact aK.free rfl | exact aK.ptr rfl (by decide) | exact aK.fn1 (aK.ptr rfl (by decide)) | ((with_reducible refine And.intro ?_ ?_) <;> (conv => whnf))))) rfl rfl ?c
      case a => generalize calls.getD (k : Int).toNat default = d at *; unfold b9 dO; simp [*]
      case b => generalize calls.getD (k : Int).toNat default = d at *; unfold bC; rw [hE1, if_pos (by unfold dO; simp [*])]; unfold bL; (repeat' split) <;> first | rfl | (exfalso; omega)
      case c => intro l h1 h2; simp only [ah, if_neg (show ¬ 0 = l by omega), if_neg (show ¬ 1 = l by omega), if_neg (show ¬ 100000000000000000000 = l by omega)]
    · subst hz
      subst hE
      refine jC (E' := 3) hl hlt ?a hT ?b (by ((conv => whnf); repeat' (first | exact trivial | exact aK.free rfl | exact aK.ptr rfl (by decide) | exact aK.fn1 (aK.ptr rfl (by decide)) | ((with_reducible refine And.intro ?_ ?_) <;> (conv => whnf))))) rfl rfl ?c
      case a => generalize calls.getD (k : Int).toNat default = d at *; unfold b9 dO; simp [*]
      case b => generalize calls.getD (k : Int).toNat default = d at *; unfold bC; rw [hE1, if_pos (by unfold dO; simp [*])]; unfold bL; (repeat' split) <;> first | rfl | (exfalso; omega)
      case c => intro l h1 h2; simp only [ah, if_neg (show ¬ 0 = l by omega), if_neg (show ¬ 1 = l by omega), if_neg (show ¬ 100000000000000000000 = l by omega)]
    · subst hz
      subst hE
      refine jC (E' := E1) hl hlt ?a hT ?b (by ((conv => whnf); repeat' (first | exact trivial | exact aK.free rfl | exact aK.ptr rfl (by decide) | exact aK.fn1 (aK.ptr rfl (by decide)) | ((with_reducible refine And.intro ?_ ?_) <;> (conv => whnf))))) rfl rfl ?c
      case a => generalize calls.getD (k : Int).toNat default = d at *; unfold b9 dO; simp [*]
      case b => generalize calls.getD (k : Int).toNat default = d at *; unfold bC; rw [hE1, if_pos (by unfold dO; simp [*])]; unfold bL; (repeat' split) <;> first | rfl | (exfalso; omega)
      case c => intro l h1 h2; simp only [ah, if_neg (show ¬ 0 = l by omega), if_neg (show ¬ 1 = l by omega), if_neg (show ¬ 100000000000000000000 = l by omega)]
    iterate 2
      · subst hz
        subst hE
        refine jC (E' := E1) hl hlt ?a hT ?b (by ((conv => whnf); repeat' (first | exact trivial | exact aK.free rfl | exact aK.ptr rfl (by decide) | exact aK.fn1 (aK.ptr rfl (by decide)) | ((with_reducible refine And.intro ?_ ?_) <;> (conv => whnf))))) rfl rfl ?c
        case a => generalize calls.getD (k : Int).toNat default = d at *; unfold b9 dO; simp [*]
        case b => generalize calls.getD (k : Int).toNat default = d at *; unfold bC; rw [hE1, if_neg (by unfold dO; simp [*]), if_neg (by unfold b9 dO; simp [*])]
        case c => intro l h1 h2; simp only [ah, if_neg (show ¬ 0 = l by omega), if_neg (show ¬ 1 = l by omega), if_neg (show ¬ 100000000000000000000 = l by omega)]
    · subst hE
      subst hz
      refine ⟨Wp.le (S' := ck6 ps calls b k E1 T) ?_ ((ck_16 hk hl (b := b) hlt ?_ hE1 hT).mono ?_)⟩
      · exact Le.keep (Q4 _) (by ((conv => whnf); repeat' (first | exact trivial | exact SV.Le.rfl _ | ((with_reducible refine And.intro ?_ ?_) <;> (conv => whnf))))) (fun l bb hb => hb)
      · generalize calls.getD (k : Int).toNat default = d at *; unfold b9 dO; simp [*]
      · rintro e S' ⟨rfl, T', h1, h2⟩
        refine (show Wp _ _ _ _ from Wp.le h2 ?_)
        (repeat' (first
    | with_reducible refine Wp.seq ?_
    | with_reducible refine Wp.block ?_
    | ((with_reducible first | refine Wp.region ?_ | refine Wp.drawL ac ?_ | refine Wp.cond ?_ | refine Wp.ret ?_ | refine Wp.skip ?_ | refine Wp.exit ?_ | refine Go.mk ?_ | apply aA.of); conv => whnf)
    | with_reducible exact rfl
    | ((with_reducible refine Ov.ok zO ?_); conv => whnf)
    | (with_reducible refine Ov.sh1 (by with_unfolding_all exact rfl) ?_)
    | ((with_reducible refine Ov.quo (by omega) (by omega) (by omega) (fun _ _ => ?_)); conv => whnf)
    | ((with_reducible refine And.intro (show aj _ _ _ _ = true by kernel_rfl) ?_); conv => whnf)
    | ((with_reducible refine And.intro zC ?_); conv => whnf)
    | ((with_reducible refine And.intro ?hb ?_); (case hb => exact ae (zzb rfl) (by omega)); (conv => whnf))
    | ((refine af.a rfl rfl rfl rfl rfl rfl ?hb ?_); (case hb => exact zB); (conv => whnf))
    | ((refine af.b rfl rfl rfl rfl rfl rfl rfl rfl ?hb ?ho ?_); (case hb => exact zB); (case ho => omega); (conv => whnf))
    | ((refine af.c rfl rfl rfl rfl rfl ?hb ?_); (case hb => exact zB); (conv => whnf))
    | ((refine af.d rfl rfl rfl rfl rfl rfl ?hb ?ho ?_); (case hb => exact zB); (case ho => omega); (conv => whnf))
    | (with_reducible refine Or.inl ?_)
    | ((with_reducible refine nil_no (by omega) ?_); (conv => whnf))
    | ((with_reducible refine ag ?_ (fun hn0 => ?_)) <;> (conv => whnf))
    
    | ((refine aB (fun hc => ?_) (fun hc => ?_)) <;> (try simp only [decide_eq_true_eq, decide_eq_false_iff_not, Q5, Q20, Bool.and_eq_false_iff, Bool.or_eq_false_iff, Bool.not_eq_true', Bool.not_eq_false', beq_iff_eq, bne_iff_ne, ne_eq, beq_eq_false_iff_ne, bne_eq_false_iff_eq, Bool.not_eq_true, Bool.not_eq_false] at hc) <;> (try (exfalso; omega)) <;> (conv => whnf))))
        exact ⟨(k + 1, T'), ⟨hlt, h1⟩, by dsimp only; omega, Le.keep (Q4 _) (by ((conv => whnf); repeat' (first | exact trivial | exact SV.Le.rfl _ | ((with_reducible refine And.intro ?_ ?_) <;> (conv => whnf))))) fun l b h => h⟩
    iterate 2
      · subst hz
        subst hE
        refine jC (E' := E1) hl hlt ?a hT ?b (by ((conv => whnf); repeat' (first | exact trivial | exact aK.free rfl | exact aK.ptr rfl (by decide) | exact aK.fn1 (aK.ptr rfl (by decide)) | ((with_reducible refine And.intro ?_ ?_) <;> (conv => whnf))))) rfl rfl ?c
        case a => generalize calls.getD (k : Int).toNat default = d at *; unfold b9 dO; simp [*]
        case b => generalize calls.getD (k : Int).toNat default = d at *; unfold bC; rw [hE1, if_neg (by unfold dO; simp [*]), if_neg (by unfold b9 dO; simp [*])]
        case c => intro l h1 h2; simp only [ah, if_neg (show ¬ 0 = l by omega), if_neg (show ¬ 1 = l by omega), if_neg (show ¬ 100000000000000000000 = l by omega)]
    · subst hE
      subst hz
      refine ⟨Wp.le (S' := ck6 ps calls b k E1 T) ?_ ((ck_16 hk hl (b := b) hlt ?_ hE1 hT).mono ?_)⟩
      · exact Le.keep (Q4 _) (by ((conv => whnf); repeat' (first | exact trivial | exact SV.Le.rfl _ | ((with_reducible refine And.intro ?_ ?_) <;> (conv => whnf))))) (fun l bb hb => hb)
      · generalize calls.getD (k : Int).toNat default = d at *; unfold b9 dO; simp [*]
      · rintro e S' ⟨rfl, T', h1, h2⟩
        refine (show Wp _ _ _ _ from Wp.le h2 ?_)
        (repeat' (first
    | with_reducible refine Wp.seq ?_
    | with_reducible refine Wp.block ?_
    | ((with_reducible first | refine Wp.region ?_ | refine Wp.drawL ac ?_ | refine Wp.cond ?_ | refine Wp.ret ?_ | refine Wp.skip ?_ | refine Wp.exit ?_ | refine Go.mk ?_ | apply aA.of); conv => whnf)
    | with_reducible exact rfl
    | ((with_reducible refine Ov.ok zO ?_); conv => whnf)
    | (with_reducible refine Ov.sh1 (by with_unfolding_all exact rfl) ?_)
    | ((with_reducible refine Ov.quo (by omega) (by omega) (by omega) (fun _ _ => ?_)); conv => whnf)
    | ((with_reducible refine And.intro (show aj _ _ _ _ = true by kernel_rfl) ?_); conv => whnf)
    | ((with_reducible refine And.intro zC ?_); conv => whnf)
    | ((with_reducible refine And.intro ?hb ?_); (case hb => exact ae (zzb rfl) (by omega)); (conv => whnf))
    | ((refine af.a rfl rfl rfl rfl rfl rfl ?hb ?_); (case hb => exact zB); (conv => whnf))
    | ((refine af.b rfl rfl rfl rfl rfl rfl rfl rfl ?hb ?ho ?_); (case hb => exact zB); (case ho => omega); (conv => whnf))
    | ((refine af.c rfl rfl rfl rfl rfl ?hb ?_); (case hb => exact zB); (conv => whnf))
    | ((refine af.d rfl rfl rfl rfl rfl rfl ?hb ?ho ?_); (case hb => exact zB); (case ho => omega); (conv => whnf))
    | (with_reducible refine Or.inl ?_)
    | ((with_reducible refine nil_no (by omega) ?_); (conv => whnf))
    | ((with_reducible refine ag ?_ (fun hn0 => ?_)) <;> (conv => whnf))
    
    | ((refine aB (fun hc => ?_) (fun hc => ?_)) <;> (try simp only [decide_eq_true_eq, decide_eq_false_iff_not, Q5, Q20, Bool.and_eq_false_iff, Bool.or_eq_false_iff, Bool.not_eq_true', Bool.not_eq_false', beq_iff_eq, bne_iff_ne, ne_eq, beq_eq_false_iff_ne, bne_eq_false_iff_eq, Bool.not_eq_true, Bool.not_eq_false] at hc) <;> (try (exfalso; omega)) <;> (conv => whnf))))
        exact ⟨(k + 1, T'), ⟨hlt, h1⟩, by dsimp only; omega, Le.keep (Q4 _) (by ((conv => whnf); repeat' (first | exact trivial | exact SV.Le.rfl _ | ((with_reducible refine And.intro ?_ ?_) <;> (conv => whnf))))) fun l b h => h⟩
  · obtain rfl : k = calls.length := by omega
    (repeat' (first
    | with_reducible refine Wp.seq ?_
    | with_reducible refine Wp.block ?_
    | ((with_reducible first | refine Wp.region ?_ | refine Wp.drawL ac ?_ | refine Wp.cond ?_ | refine Wp.ret ?_ | refine Wp.skip ?_ | refine Wp.exit ?_ | refine Go.mk ?_ | apply aA.of); conv => whnf)
    | with_reducible exact rfl
    | ((with_reducible refine Ov.ok zO ?_); conv => whnf)
    | (with_reducible refine Ov.sh1 (by with_unfolding_all exact rfl) ?_)
    | ((with_reducible refine Ov.quo (by omega) (by omega) (by omega) (fun _ _ => ?_)); conv => whnf)
    | ((with_reducible refine And.intro (show aj _ _ _ _ = true by kernel_rfl) ?_); conv => whnf)
    | ((with_reducible refine And.intro zC ?_); conv => whnf)
    | ((with_reducible refine And.intro ?hb ?_); (case hb => exact ae (zzb rfl) (by omega)); (conv => whnf))
    | ((refine af.a rfl rfl rfl rfl rfl rfl ?hb ?_); (case hb => exact zB); (conv => whnf))
    | ((refine af.b rfl rfl rfl rfl rfl rfl rfl rfl ?hb ?ho ?_); (case hb => exact zB); (case ho => omega); (conv => whnf))
    | ((refine af.c rfl rfl rfl rfl rfl ?hb ?_); (case hb => exact zB); (conv => whnf))
    | ((refine af.d rfl rfl rfl rfl rfl rfl ?hb ?ho ?_); (case hb => exact zB); (case ho => omega); (conv => whnf))
    | (with_reducible refine Or.inl ?_)
    | ((with_reducible refine nil_no (by omega) ?_); (conv => whnf))
    | ((with_reducible refine ag ?_ (fun hn0 => ?_)) <;> (conv => whnf))
    
    | ((refine aB (fun hc => ?_) (fun hc => ?_)) <;> (try simp only [decide_eq_true_eq, decide_eq_false_iff_not, Q5, Q20, Bool.and_eq_false_iff, Bool.or_eq_false_iff, Bool.not_eq_true', Bool.not_eq_false', beq_iff_eq, bne_iff_ne, ne_eq, beq_eq_false_iff_ne, bne_eq_false_iff_eq, Bool.not_eq_true, Bool.not_eq_false] at hc) <;> (try (exfalso; omega)) <;> (conv => whnf))))
    refine ⟨rfl, T, by rw [List.take_length] at hT; exact hT, Le.keep (Q4 _) (by ((conv => whnf); repeat' (first | exact trivial | exact SV.Le.rfl _ | ((with_reducible refine And.intro ?_ ?_) <;> (conv => whnf))))) fun l b h => h⟩
theorem pZ (ps : List Pol) (n : Nat) : bQ ps n [] = err0 ps n := rfl
theorem p9 {ps : List Pol} {calls : List HD} {b nx mm : Nat} {V : Int} {fr : List (Nat × SV)} {hp : List (Nat × Option Blk)} {g : Nat → SV} (hE : err0 ps calls.length = V) (hfr : oh id 100000000000000000000 fr (ckF ps calls b 0)) (h0 : lkh hp 0 = some (.cells [.i .i64 V])) (h1 : lkh hp 1 = some (mpB b mm [] g)) :
    Le ⟨⟨Try.f15.ntmps, 0⟩, nx, fr, hp⟩ (ckI ps calls b (0, [])) := by
  show Le _ ⟨_, 100000000000000000000, ckF ps calls b 0, (0, some (.cells [.i .i64 (bQ ps calls.length [])])) :: (1, some (mpB b 100000000000000000000 [] (mpG ps []))) :: []⟩
  rw [pZ, hE]
  exact Le.maps id rfl (by decide) hfr rfl rfl h0 (aK.free rfl) h1 (fun j hj => absurd hj (Nat.not_lt_zero _)) (fun k b h => by cases h) (fun k b h => by cases h) fun k k' _ _ h => by cases h
@[reducible] noncomputable def ckD (ps : List Pol) (calls : List HD) (b : Nat) : Blk := mpB b 0 (ids ps calls) fun j => .d (ap 13 HD.D (grp ps calls ((ids ps calls).getD j default)))
theorem ck_stop {ps : List Pol} {calls : List HD} {b : Nat} {T : List (Nat × Option Blk)} (hl : calls.length ≤ 1048576) (hT : Tl ps calls T) : Le (ckI ps calls b (calls.length, T)) ⟨⟨Try.f15.ntmps, 0⟩, 100000000000000000000, [(6, .ptr 0 0), (9, mpV b)], [(0, some (.cells [.i .i64 (bQ ps calls.length calls)])), (1, some (ckD ps calls b))]⟩ := by
  have hz := Nat.le_trans (ii ps calls []) (show _ ≤ calls.length by rw [List.length_nil]; omega)
  have h := Le.frzT (nt := ⟨Try.f15.ntmps, 0⟩) (nx := 100000000000000000000) (lm := 1) (b := b) (mm := 100000000000000000000) (z := 13) (hi := 100000000000000000000) (e := 39) (fr := ckF ps calls b calls.length) (hp := [(0, some (.cells [.i .i64 (bQ ps calls.length calls)])), (1, some (mpB b 100000000000000000000 (ids ps calls) (mpG ps calls)))]) (T := T) (keys := ids ps calls) (g := mpG ps calls)
    (fun j => (grp ps calls ((ids ps calls).getD j default)).length) (fun j q => HD.D ((grp ps calls ((ids ps calls).getD j default)).getD q default)) hT.at_ rfl (by unfold ids; omega) rfl (fun j _ => rfl)
  have e : ckI ps calls b (calls.length, T) = ⟨⟨Try.f15.ntmps, 0⟩, 100000000000000000000, ckF ps calls b calls.length, [(0, some (.cells [.i .i64 (bQ ps calls.length calls)])), (1, some (mpB b 100000000000000000000 (ids ps calls) (mpG ps calls)))] ++ T⟩ := by
    show (⟨_, _, _, (0, some (.cells [.i .i64 (bQ ps calls.length (calls.take calls.length))])) :: (1, some (mpB b 100000000000000000000 (ids ps (calls.take calls.length)) (mpG ps (calls.take calls.length)))) :: T⟩ : St) = _
    rw [List.take_length]; rfl
  rw [e]
  refine h.trans (Le.keep (Q4 _) (by ((conv => whnf); repeat' (first | exact trivial | exact SV.Le.rfl _ | ((with_reducible refine And.intro ?_ ?_) <;> (conv => whnf))))) fun l bb hb => ?_)
  by_cases e0 : 0 = l
  · subst e0; exact hb
  by_cases e1 : 1 = l
  · subst e1; exact hb
  simp only [ah, if_neg e0, if_neg e1] at hb ⊢
  exact hb
theorem l6 {ps : List Pol} {calls : List HD} (hk : ∀ d ∈ calls, IsB d.key) (hl : calls.length ≤ 1048576) {nt : NT} {fr : List (Nat × SV)} {k : St → SV → Prop}
    (h : ∀ b, k ⟨nt, 100000000000000000000 + 1 + 1 + 1 + 1, fr, [(0, some (.cells [.i .i64 (bQ ps calls.length calls)])), (1, some (ckD ps calls b))]⟩ (.tup [mpV b, .i .i64 (bQ ps calls.length calls)])) :
    aa TC ⟨nt, 0, fr, []⟩ 15 [.d (ap 4 Pol.D ps), .d (ap 13 HD.D calls)] k := by
  refine aa.inline Try.func15 rfl rfl rfl (zzb rfl) ?_
  have hP := bn ps
  (repeat' (first
    | with_reducible refine Wp.seq ?_
    | with_reducible refine Wp.block ?_
    | ((with_reducible first | refine Wp.region ?_ | refine Wp.drawL ac ?_ | refine Wp.cond ?_ | refine Wp.ret ?_ | refine Wp.skip ?_ | refine Wp.exit ?_ | refine Go.mk ?_ | apply aA.of); conv => whnf)
    | with_reducible exact rfl
    | ((with_reducible refine Ov.ok zO ?_); conv => whnf)
    | (with_reducible refine Ov.sh1 (by with_unfolding_all exact rfl) ?_)
    | ((with_reducible refine Ov.quo (by omega) (by omega) (by omega) (fun _ _ => ?_)); conv => whnf)
    | ((with_reducible refine And.intro (show aj _ _ _ _ = true by kernel_rfl) ?_); conv => whnf)
    | ((with_reducible refine And.intro zC ?_); conv => whnf)
    | ((with_reducible refine And.intro ?hb ?_); (case hb => exact ae (zzb rfl) (by omega)); (conv => whnf))
    | ((refine af.a rfl rfl rfl rfl rfl rfl ?hb ?_); (case hb => exact zB); (conv => whnf))
    | ((refine af.b rfl rfl rfl rfl rfl rfl rfl rfl ?hb ?ho ?_); (case hb => exact zB); (case ho => omega); (conv => whnf))
    | ((refine af.c rfl rfl rfl rfl rfl ?hb ?_); (case hb => exact zB); (conv => whnf))
    | ((refine af.d rfl rfl rfl rfl rfl rfl ?hb ?ho ?_); (case hb => exact zB); (case ho => omega); (conv => whnf))
    | (with_reducible refine Or.inl ?_)
    | ((with_reducible refine nil_no (by omega) ?_); (conv => whnf))
    | ((with_reducible refine ag ?_ (fun hn0 => ?_)) <;> (conv => whnf))
    | ((with_reducible refine aa.pure (hP) rfl rfl ?_); conv => whnf) | ((with_reducible refine ai.pure (hP) rfl rfl ?_); conv => whnf)
    | (with_reducible refine aa.inline Try.func32 rfl rfl rfl (zzb rfl) ?_)
    | ((with_reducible refine a7.makeMap (fun b => ?_)); conv => whnf)
    | ((refine aB (fun hc => ?_) (fun hc => ?_)) <;> (try simp only [decide_eq_true_eq, decide_eq_false_iff_not, Q5, Q20, Bool.and_eq_false_iff, Bool.or_eq_false_iff, Bool.not_eq_true', Bool.not_eq_false', beq_iff_eq, bne_iff_ne, ne_eq, beq_eq_false_iff_ne, bne_eq_false_iff_eq, Bool.not_eq_true, Bool.not_eq_false] at hc) <;> (try (exfalso; omega)) <;> (conv => whnf))))
  all_goals
    refine Wp.midE 0 (ι := List (Nat × Option Blk)) (fun T => Tl ps calls T) (fun T => ckI ps calls b (calls.length, T)) (Wp.le (S' := ckI ps calls b (0, [])) (p9 ?_ (by ((conv => whnf); repeat' (first | exact trivial | exact aK.free rfl | exact aK.ptr rfl (by decide) | exact aK.fn1 (aK.ptr rfl (by decide)) | ((with_reducible refine And.intro ?_ ?_) <;> (conv => whnf))))) rfl rfl) (Wp.loopP (c := ckB) (ckP ps calls) (ckI ps calls b) (fun k => calls.length - k.1) (0, []) ?_ (Le.blks fun _ _ h => h) fun k hp => qa hk hl b k hp)) ?_
  all_goals first
    | (unfold err0 bL; (repeat' split) <;> omega)
    | exact ⟨Nat.zero_le _, ⟨fun j hj => absurd hj (Nat.not_lt_zero j), fun k b h => by cases h⟩⟩
    | skip
  all_goals
    intro T hT
    refine Wp.le (ck_stop hl hT) ?_
    (repeat' (first
    | with_reducible refine Wp.seq ?_
    | with_reducible refine Wp.block ?_
    | ((with_reducible first | refine Wp.region ?_ | refine Wp.drawL ac ?_ | refine Wp.cond ?_ | refine Wp.ret ?_ | refine Wp.skip ?_ | refine Wp.exit ?_ | refine Go.mk ?_ | apply aA.of); conv => whnf)
    | with_reducible exact rfl
    | ((with_reducible refine Ov.ok zO ?_); conv => whnf)
    | (with_reducible refine Ov.sh1 (by with_unfolding_all exact rfl) ?_)
    | ((with_reducible refine Ov.quo (by omega) (by omega) (by omega) (fun _ _ => ?_)); conv => whnf)
    | ((with_reducible refine And.intro (show aj _ _ _ _ = true by kernel_rfl) ?_); conv => whnf)
    | ((with_reducible refine And.intro zC ?_); conv => whnf)
    | ((with_reducible refine And.intro ?hb ?_); (case hb => exact ae (zzb rfl) (by omega)); (conv => whnf))
    | ((refine af.a rfl rfl rfl rfl rfl rfl ?hb ?_); (case hb => exact zB); (conv => whnf))
    | ((refine af.b rfl rfl rfl rfl rfl rfl rfl rfl ?hb ?ho ?_); (case hb => exact zB); (case ho => omega); (conv => whnf))
    | ((refine af.c rfl rfl rfl rfl rfl ?hb ?_); (case hb => exact zB); (conv => whnf))
    | ((refine af.d rfl rfl rfl rfl rfl rfl ?hb ?ho ?_); (case hb => exact zB); (case ho => omega); (conv => whnf))
    | (with_reducible refine Or.inl ?_)
    | ((with_reducible refine nil_no (by omega) ?_); (conv => whnf))
    | ((with_reducible refine ag ?_ (fun hn0 => ?_)) <;> (conv => whnf))
    
    | ((refine aB (fun hc => ?_) (fun hc => ?_)) <;> (try simp only [decide_eq_true_eq, decide_eq_false_iff_not, Q5, Q20, Bool.and_eq_false_iff, Bool.or_eq_false_iff, Bool.not_eq_true', Bool.not_eq_false', beq_iff_eq, bne_iff_ne, ne_eq, beq_eq_false_iff_ne, bne_eq_false_iff_eq, Bool.not_eq_true, Bool.not_eq_false] at hc) <;> (try (exfalso; omega)) <;> (conv => whnf))))
  all_goals exact h b
end
section
namespace Hist
def qK (ps : List Pol) (l : List HD) : Bool := srch ps l (spI l) l.length (2 ^ l.length - 1) []
def ij (ps : List Pol) (calls : List HD) : Bool := decide (bQ ps calls.length calls = 0) && (ids ps calls).all fun k => qK ps (grp ps calls k)
theorem cp {e f : Int} (h : f ≠ 0) : bL e f ≠ 0 := by unfold bL; split <;> omega
theorem stepE_0 {ps : List Pol} {e : Int} {pre : List HD} {d : HD} (h : bC ps e pre d = 0) : e = 0 ∧ ¬ d.last < d.first ∧ dO ps d = false ∧ (b9 ps d = true → (grp ps (pre ++ [d]) (kb d)).length ≤ 8) := by
  unfold bC at h
  by_cases h1 : d.last < d.first
  · rw [if_pos h1] at h
    dsimp only at h
    split at h
    · exact absurd h (cp (by decide))
    · split at h
      · split at h
        · exact absurd h (cp (by decide))
        · exact absurd h (cp (by decide))
      · exact absurd h (cp (by decide))
  · rw [if_neg h1] at h
    dsimp only at h
    split at h
    · exact absurd h (cp (by decide))
    · rename_i hb
      split at h
      · split at h
        · exact absurd h (cp (by decide))
        · exact ⟨h, h1, by simpa using hb, fun _ => by omega⟩
      · rename_i hi
        exact ⟨h, h1, by simpa using hb, fun h9 => absurd h9 hi⟩
theorem nB {ps : List Pol} {n : Nat} (l : List HD) : ∀ m, m ≤ l.length → bQ ps n (l.take m) = 0 → err0 ps n = 0 ∧ (∀ d ∈ l.take m, ¬ d.last < d.first ∧ dO ps d = false) ∧ ∀ k, (grp ps (l.take m) k).length ≤ 8
  | 0, _, h => ⟨h, fun d hd => by simp at hd, fun k => by simp [grp]⟩
  | m + 1, hm, h => by
    have ht : l.take (m + 1) = l.take m ++ [l[m]] := by rw [List.take_add_one, Q0 (by omega)]; rfl
    rw [ht, dD] at h
    obtain ⟨h1, h2, h3, h4⟩ := stepE_0 h
    obtain ⟨g1, g2, g3⟩ := nB l m (by omega) h1
    rw [ht]
    refine ⟨g1, fun d hd => ?_, fun k => ?_⟩
    · rcases List.mem_append.1 hd with hd | hd
      · exact g2 d hd
      · rw [List.mem_singleton.1 hd]; exact ⟨h2, h3⟩
    · rw [a9]
      split
      · rename_i hi
        have := h4 hi.1
        rw [a9, if_pos (show b9 ps l[m] = true ∧ kb l[m] = kb l[m] from ⟨hi.1, rfl⟩), hi.2] at this
        exact this
      · exact g3 k
theorem errE_0 {ps : List Pol} {l : List HD} (h : bQ ps l.length l = 0) : bA ps = 0 ∧ l.length ≤ 4096 ∧ (∀ d ∈ l, ¬ d.last < d.first ∧ dO ps d = false) ∧ ∀ k, (grp ps l k).length ≤ 8 := by
  have := nB (ps := ps) (n := l.length) l l.length (Q4 _)
  rw [List.take_length] at this
  obtain ⟨h1, h2, h3⟩ := this h
  unfold err0 at h1
  split at h1
  · exact absurd h1 (cp (by decide))
  · exact ⟨h1, by omega, h2, h3⟩
def lf (n : Nat) (seen : List Nat) : Nat := ((List.range n).filter fun j => !seen.contains j).length
theorem qC {p q : Nat → Bool} (h : ∀ x, p x = true → q x = true) : ∀ l : List Nat, (l.filter p).length ≤ (l.filter q).length
  | [] => Q4 _
  | x :: l => by
    have := qC h l
    rw [List.filter_cons, List.filter_cons]
    by_cases hp : p x = true
    · rw [if_pos hp, if_pos (h x hp), List.length_cons, List.length_cons]; omega
    · rw [if_neg hp]; split
      · rw [List.length_cons]; omega
      · exact this
theorem qB {p q : Nat → Bool} (h : ∀ x, p x = true → q x = true) {j : Nat} (hp : p j = false) (hq : q j = true) : ∀ l : List Nat, j ∈ l → (l.filter p).length < (l.filter q).length
  | x :: l, hj => by
    have hle := qC h l
    rw [List.filter_cons, List.filter_cons]
    by_cases e : x = j
    · rw [e, if_neg (by rw [hp]; decide), if_pos hq, List.length_cons]; omega
    · have hj' : j ∈ l := by
        rcases Q22 hj with hj | hj
        · exact absurd hj.symm e
        · exact hj
      have := qB h hp hq l hj'
      by_cases hp' : p x = true
      · rw [if_pos hp', if_pos (h x hp'), List.length_cons, List.length_cons]; omega
      · rw [if_neg hp']; split
        · rw [List.length_cons]; omega
        · exact this
theorem lf_lt {n j : Nat} {seen : List Nat} (hj : j < n) (hs : ¬ j ∈ seen) : lf n (seen ++ [j]) < lf n seen := by
  refine qB (j := j) (fun x hx => ?_) ?_ ?_ _ (List.mem_range.2 hj)
  · simp at hx ⊢; exact hx.1
  · simp
  · simpa using hs
end Hist
open Hist
theorem i6 : ∀ n : Nat, n ≤ 8 → IntKind.i64.wrap (1 * 2 ^ min (n : Int).toNat IntKind.i64.bits) - 1 = ((2 ^ n - 1 : Nat) : Int) ∧ popc (2 ^ n - 1) ≤ n ∧ 2 ^ n - 1 < 256 := by decide +kernel
theorem grp_mem {ps : List Pol} {l : List HD} {k : ByteArray} {d : HD} (h : d ∈ grp ps l k) : d ∈ l := (List.mem_filter.1 h).1
theorem hk_end {ps : List Pol} {calls : List HD} {b r nx : Nat} {seen : List Nat} {fr : List (Nat × SV)} {hp : List (Nat × Option Blk)} (hfr : oh id 100000000000000000005 fr [(0, .d (ap 4 Pol.D ps)), (21, itV r)]) (h0 : lkh hp 100000000000000000004 = some (itB r b (ids ps calls).length seen)) (h1 : lkh hp 1 = some (ckD ps calls b)) :
    Le ⟨⟨Try.f8.ntmps, 0⟩, nx, fr, hp⟩ ⟨⟨Try.f8.ntmps, 0⟩, 100000000000000000005, [(0, .d (ap 4 Pol.D ps)), (21, itV r)], [(100000000000000000004, some (itB r b (ids ps calls).length seen)), (1, some (ckD ps calls b))]⟩ := by
  refine Le.pi id rfl hfr.out (fun l b' h => ?_) fun l l' _ _ _ _ e => e
  by_cases e0 : 100000000000000000004 = l
  · subst e0
    obtain rfl := Option.some.inj (show some _ = some b' from h)
    exact ⟨by omega, _, h0, co.obj (Nat.zero_le _) fun j hj => absurd hj (Nat.not_lt_zero j)⟩
  by_cases e1 : 1 = l
  · subst e1
    obtain rfl := Option.some.inj (show some _ = some b' from h)
    exact ⟨by omega, _, h1, co.obj (Nat.zero_le _) fun j hj => ⟨.d _, aK.free rfl⟩⟩
  simp only [ah, if_neg e0, if_neg e1] at h
  cases h
theorem d9 {ps : List Pol} {calls : List HD} (hk : ∀ d ∈ calls, IsB d.key) (hl : calls.length ≤ 1048576) :
    Pure TC 8 [.d (ap 4 Pol.D ps), .d (ap 13 HD.D calls)] (.tup [.b (ij ps calls), .i .i64 (bQ ps calls.length calls)]) := by
  refine Pure.mk' Try.func8 rfl rfl (zzb rfl) ?_
  (repeat' (first
    | with_reducible refine Wp.seq ?_
    | with_reducible refine Wp.block ?_
    | ((with_reducible first | refine Wp.region ?_ | refine Wp.drawL ac ?_ | refine Wp.cond ?_ | refine Wp.ret ?_ | refine Wp.skip ?_ | refine Wp.exit ?_ | refine Go.mk ?_ | apply aA.of); conv => whnf)
    | with_reducible exact rfl
    | ((with_reducible refine Ov.ok zO ?_); conv => whnf)
    | (with_reducible refine Ov.sh1 (by with_unfolding_all exact rfl) ?_)
    | ((with_reducible refine Ov.quo (by omega) (by omega) (by omega) (fun _ _ => ?_)); conv => whnf)
    | ((with_reducible refine And.intro (show aj _ _ _ _ = true by kernel_rfl) ?_); conv => whnf)
    | ((with_reducible refine And.intro zC ?_); conv => whnf)
    | ((with_reducible refine And.intro ?hb ?_); (case hb => exact ae (zzb rfl) (by omega)); (conv => whnf))
    | ((refine af.a rfl rfl rfl rfl rfl rfl ?hb ?_); (case hb => exact zB); (conv => whnf))
    | ((refine af.b rfl rfl rfl rfl rfl rfl rfl rfl ?hb ?ho ?_); (case hb => exact zB); (case ho => omega); (conv => whnf))
    | ((refine af.c rfl rfl rfl rfl rfl ?hb ?_); (case hb => exact zB); (conv => whnf))
    | ((refine af.d rfl rfl rfl rfl rfl rfl ?hb ?ho ?_); (case hb => exact zB); (case ho => omega); (conv => whnf))
    | (with_reducible refine Or.inl ?_)
    | ((with_reducible refine nil_no (by omega) ?_); (conv => whnf))
    | ((with_reducible refine ag ?_ (fun hn0 => ?_)) <;> (conv => whnf))
    | ((refine l6 hk hl (fun b => ?_)); conv => whnf)
    | ((refine a7.range (l := 1) u53 rfl rfl (fun r => ?_)); conv => whnf)
    | ((refine aB (fun hc => ?_) (fun hc => ?_)) <;> (try simp only [decide_eq_true_eq, decide_eq_false_iff_not, Q5, Q20, Bool.and_eq_false_iff, Bool.or_eq_false_iff, Bool.not_eq_true', Bool.not_eq_false', beq_iff_eq, bne_iff_ne, ne_eq, beq_eq_false_iff_ne, bne_eq_false_iff_eq, Bool.not_eq_true, Bool.not_eq_false] at hc) <;> (try (exfalso; omega)) <;> (conv => whnf))))
  · unfold ij; rw [decide_eq_false hc]; exact .rfl _
  obtain ⟨hp, h4096, hord, h8⟩ := errE_0 hc
  have hF : ∀ j : Nat, Pure TC 17 [sesS ps (grp ps calls ((ids ps calls).getD j default)) (spI (grp ps calls ((ids ps calls).getD j default))), .i .i64 (IntKind.i64.wrap (1 * 2 ^ min ((grp ps calls ((ids ps calls).getD j default)).length : Int).toNat IntKind.i64.bits) - 1), .d (.val (.slice none 0 0))] (.b (qK ps (grp ps calls ((ids ps calls).getD j default)))) := fun j => by
    have h9 := h8 ((ids ps calls).getD j default)
    obtain ⟨g1, g2, g3⟩ := i6 _ h9
    exact (jm hp _ (spI (grp ps calls ((ids ps calls).getD j default))) h9 (fun e he => hk e (grp_mem he)) _ _ [] g3 g2 (by rw [List.length_nil]; omega) (fun e he => by cases he)).leX (.cons (.rfl _) (.cons (.i g1) (.cons .nil .nil)))
  have hS : ∀ j : Nat, Pure TC 16 [.d (ap 13 HD.D (grp ps calls ((ids ps calls).getD j default)))] (.i .i64 (spI (grp ps calls ((ids ps calls).getD j default)))) := fun j => lT _ (Nat.le_trans (ni _ _ _) h4096)
  have hO : ∀ j : Nat, IntKind.i64.wrap (1 * 2 ^ min ((grp ps calls ((ids ps calls).getD j default)).length : Int).toNat IntKind.i64.bits) - 1 = ((2 ^ (grp ps calls ((ids ps calls).getD j default)).length - 1 : Nat) : Int) ∧ 2 ^ (grp ps calls ((ids ps calls).getD j default)).length - 1 < 256 := fun j => ⟨(i6 _ (h8 _)).1, (i6 _ (h8 _)).2.2⟩
  refine Wp.loopP (ι := List Nat) (fun seen => ∀ j ∈ seen, j < (ids ps calls).length ∧ qK ps (grp ps calls ((ids ps calls).getD j default)) = true)
    (fun seen => ⟨⟨Try.f8.ntmps, 0⟩, 100000000000000000005, [(0, .d (ap 4 Pol.D ps)), (21, itV r)], [(100000000000000000004, some (itB r b (ids ps calls).length seen)), (1, some (ckD ps calls b))]⟩) (fun seen => lf (ids ps calls).length seen) [] (fun j hj => by cases hj) ?_ ?_
  · refine Le.keep (Q4 _) (by ((conv => whnf); repeat' (first | exact trivial | exact SV.Le.rfl _ | ((with_reducible refine And.intro ?_ ?_) <;> (conv => whnf))))) fun l bb hb => ?_
    by_cases e0 : 100000000000000000004 = l
    · subst e0; exact hb
    by_cases e1 : 1 = l
    · subst e1; exact hb
    simp only [ah, if_neg e0, if_neg e1] at hb
    cases hb
  · intro seen hseen
    (repeat' (first
    | with_reducible refine Wp.seq ?_
    | with_reducible refine Wp.block ?_
    | ((with_reducible first | refine Wp.region ?_ | refine Wp.drawL ac ?_ | refine Wp.cond ?_ | refine Wp.ret ?_ | refine Wp.skip ?_ | refine Wp.exit ?_ | refine Go.mk ?_ | apply aA.of); conv => whnf)
    | with_reducible exact rfl
    | ((with_reducible refine Ov.ok zO ?_); conv => whnf)
    | (with_reducible refine Ov.sh1 (by with_unfolding_all exact rfl) ?_)
    | ((with_reducible refine Ov.quo (by omega) (by omega) (by omega) (fun _ _ => ?_)); conv => whnf)
    | ((with_reducible refine And.intro (show aj _ _ _ _ = true by kernel_rfl) ?_); conv => whnf)
    | ((with_reducible refine And.intro zC ?_); conv => whnf)
    | ((with_reducible refine And.intro ?hb ?_); (case hb => exact ae (zzb rfl) (by omega)); (conv => whnf))
    | ((refine af.a rfl rfl rfl rfl rfl rfl ?hb ?_); (case hb => exact zB); (conv => whnf))
    | ((refine af.b rfl rfl rfl rfl rfl rfl rfl rfl ?hb ?ho ?_); (case hb => exact zB); (case ho => omega); (conv => whnf))
    | ((refine af.c rfl rfl rfl rfl rfl ?hb ?_); (case hb => exact zB); (conv => whnf))
    | ((refine af.d rfl rfl rfl rfl rfl rfl ?hb ?ho ?_); (case hb => exact zB); (case ho => omega); (conv => whnf))
    | (with_reducible refine Or.inl ?_)
    | ((with_reducible refine nil_no (by omega) ?_); (conv => whnf))
    | ((with_reducible refine ag ?_ (fun hn0 => ?_)) <;> (conv => whnf))
    | ((refine a7.next (li := 100000000000000000004) (lm := 1) rfl rfl rfl rfl (by decide) (fun j hj hjs => ?_) (fun hall => ?_)) <;> (conv => whnf))
    | ((refine a7.entry (li := 100000000000000000004) (lm := 1) rfl rfl rfl rfl (by assumption) ?_); conv => whnf)
    | ((with_reducible refine aa.pure (hS _) rfl rfl ?_); conv => whnf) | ((with_reducible refine ai.pure (hS _) rfl rfl ?_); conv => whnf)
    | ((with_reducible refine aa.pure (hF _) rfl rfl ?_); conv => whnf) | ((with_reducible refine ai.pure (hF _) rfl rfl ?_); conv => whnf)
    | ((with_reducible refine Ov.ok (IntWalk.i64_in _ (by have := hO j; omega)) ?_); (conv => whnf))
    | ((refine aB (fun hc => ?_) (fun hc => ?_)) <;> (try simp only [decide_eq_true_eq, decide_eq_false_iff_not, Q5, Q20, Bool.and_eq_false_iff, Bool.or_eq_false_iff, Bool.not_eq_true', Bool.not_eq_false', beq_iff_eq, bne_iff_ne, ne_eq, beq_eq_false_iff_ne, bne_eq_false_iff_eq, Bool.not_eq_true, Bool.not_eq_false] at hc) <;> (try (exfalso; omega)) <;> (conv => whnf))))
    · have hf : ij ps calls = false := by
        unfold ij
        rw [Bool.and_eq_false_iff]
        right
        rw [List.all_eq_false]
        refine ⟨_, ?_, by rw [‹qK ps (grp ps calls ((ids ps calls).getD _ default)) = false›]; decide⟩
        rw [Q1, Q0 ‹_ < (ids ps calls).length›]
        exact Q14 _
      rw [hf, ‹bQ ps calls.length calls = 0›]; exact .rfl _
    · refine ⟨seen ++ [_], fun q hq => ?_, lf_lt ‹_› ‹_›, hk_end (by ((conv => whnf); repeat' (first | exact trivial | exact aK.free rfl | ((with_reducible refine And.intro ?_ ?_) <;> (conv => whnf))))) rfl rfl⟩
      rcases List.mem_append.1 hq with hq | hq
      · exact hseen q hq
      · rw [List.mem_singleton.1 hq]
        exact ⟨‹_›, ‹_›⟩
    · have hf : ij ps calls = true := by
        unfold ij
        rw [Q5, Q23]
        refine ⟨decide_eq_true ‹_›, fun k hk => ?_⟩
        obtain ⟨j, hj, e⟩ := qt hk
        rw [← e]
        exact (hseen j (hall j hj)).2
      rw [hf, ‹bQ ps calls.length calls = 0›]; exact .rfl _
end
namespace Hist
structure Sm (d e : HD) : Prop where
  who : e.who = d.who
  op : e.op = d.op
  pol : e.pol = d.pol
  key : e.key = d.key
  n : e.n = d.n
  r : e.r = d.r
inductive bZ (P : HD → HD → Prop) : List HD → List HD → Prop
  | nil : bZ P [] []
  | cons {d e : HD} {l w : List HD} (h : P d e) (t : bZ P l w) : bZ P (d :: l) (e :: w)
theorem bZ.len {P : HD → HD → Prop} {l w : List HD} (h : bZ P l w) : w.length = l.length := by
  induction h with
  | nil => rfl
  | cons _ _ ih => rw [List.length_cons, List.length_cons, ih]
theorem bZ.mono {P Q : HD → HD → Prop} (hPQ : ∀ d e, P d e → Q d e) {l w : List HD} (h : bZ P l w) : bZ Q l w := by
  induction h with
  | nil => exact .nil
  | cons h _ ih => exact .cons (hPQ _ _ h) ih
theorem bZ.app {P : HD → HD → Prop} {l w l' w' : List HD} (h : bZ P l w) (h' : bZ P l' w') : bZ P (l ++ l') (w ++ w') := by
  induction h with
  | nil => exact h'
  | cons h _ ih => exact .cons h ih
theorem bZ.at_ {P : HD → HD → Prop} {l w : List HD} (h : bZ P l w) : ∀ i, i < l.length → P (l.getD i default) (w.getD i default) := by
  induction h with
  | nil => intro i hi; exact absurd hi (Nat.not_lt_zero i)
  | cons h _ ih =>
    intro i hi
    cases i with
    | zero => exact h
    | succ i => exact ih i (by rw [List.length_cons] at hi; omega)
theorem Sm.bad {d e : HD} (h : Sm d e) (ps : List Pol) : dO ps e = dO ps d := by unfold dO; rw [h.op, h.pol, h.key, h.n]
theorem Sm.cnt {d e : HD} (h : Sm d e) : fL e = fL d := by unfold fL; rw [h.op, h.r]
theorem Sm.inc {d e : HD} (h : Sm d e) (ps : List Pol) : b9 ps e = b9 ps d := by unfold b9; rw [h.bad, h.cnt, h.pol, h.key]
theorem Sm.kb {d e : HD} (h : Sm d e) : kb e = kb d := by unfold Hist.kb; rw [h.pol, h.key]
theorem bZ.ids {l w : List HD} (h : bZ Sm l w) (ps : List Pol) : ids ps w = ids ps l := by
  unfold Hist.ids
  have : ∀ ks, kc ps ks w = kc ps ks l := by
    induction h with
    | nil => intro ks; rfl
    | cons h _ ih => intro ks; unfold kc; rw [ih, h.inc ps, h.kb]
  exact this []
theorem bZ.grp {P : HD → HD → Prop} (hP : ∀ d e, P d e → Sm d e) {l w : List HD} (h : bZ P l w) (ps : List Pol) (k : ByteArray) : bZ P (grp ps l k) (grp ps w k) := by
  unfold Hist.grp
  induction h with
  | nil => exact .nil
  | cons h _ ih =>
    have h' := hP _ _ h
    rw [List.filter_cons, List.filter_cons, h'.inc ps, h'.kb]
    split
    · exact .cons h ih
    · exact ih
theorem bZ.used {l w : List HD} (h : bZ Sm l w) (n : Int) : aR w n = aR l n := by
  unfold aR
  induction h with
  | nil => rfl
  | cons h _ ih => rw [List.any_cons, List.any_cons, ih, h.r, h.n]
theorem bZ.maps {α : Type} {f : HD → α} (hf : ∀ d e, Sm d e → f e = f d) {l w : List HD} (h : bZ Sm l w) : w.map f = l.map f := by
  induction h with
  | nil => rfl
  | cons h _ ih => rw [List.map_cons, List.map_cons, ih, hf _ _ h]
theorem bZ.mu {l w : List HD} (h : bZ Sm l w) (n : Int) : mu w n = mu l n := by
  unfold Hist.mu
  rw [h.maps (f := fun d => d.r.serial) (fun d e h => by rw [h.r]), h.maps (f := fun d => d.n) (fun d e h => h.n)]
theorem bZ.spF {l w : List HD} (h : bZ Sm l w) : ∀ (f : Nat) (n : Int), spF w f n = spF l f n
  | 0, _ => rfl
  | f + 1, n => by unfold Hist.spF; rw [h.used, h.spF f]
theorem Sm.doH {d e : HD} (h : Sm d e) (ps : List Pol) (spare : Int) (xs : List Cel) : doH ps spare xs e = doH ps spare xs d := by
  unfold Hist.doH ser
  rw [h.op, h.pol, h.key, h.n, h.r]
theorem bZ.play {l w : List HD} (h : bZ Sm l w) (ps : List Pol) (spare : Int) : play ps spare w = play ps spare l := by
  unfold Hist.play
  have : ∀ xs, w.foldl (fun xs d => (Hist.doH ps spare xs d).2) xs = l.foldl (fun xs d => (Hist.doH ps spare xs d).2) xs := by
    induction h with
    | nil => intro xs; rfl
    | cons h _ ih => intro xs; rw [List.foldl_cons, List.foldl_cons, h.doH, ih]
  exact this []
theorem bZ.rpl {done done' : List HD} (h : bZ Sm done done') {d e : HD} (hd : Sm d e) (ps : List Pol) (spare : Int) : jN ps spare done' e = jN ps spare done d := by
  unfold jN
  rw [h.play, hd.doH, hd.r]
theorem bZ.try_ {P : HD → HD → Prop} (hP : ∀ d e, P d e → Sm d e) (hT : ∀ d d' e e', P d d' → P e e' → d'.last < e'.first → d.last < e.first) {l w : List HD} (h : bZ P l w) {done done' : List HD} (hd : bZ Sm done done') {ps : List Pol} {spare : Int} {left i : Nat} (hi : i < l.length) (ht : lI ps l spare left done i = true) : lI ps w spare left done' i = true := by
  unfold lI at ht ⊢
  rw [Q5, Q5, Q23] at ht ⊢
  obtain ⟨⟨h1, h2⟩, h3⟩ := ht
  refine ⟨⟨h1, fun j hj => ?_⟩, by rw [hd.rpl (hP _ _ (h.at_ i hi))]; exact h3⟩
  rw [h.len] at hj
  have h4 := h2 j hj
  rw [Bool.not_eq_true', Bool.and_eq_false_iff] at h4 ⊢
  rcases h4 with h4 | h4
  · exact .inl h4
  · right
    rw [decide_eq_false_iff_not] at h4 ⊢
    exact fun h5 => h4 (hT _ _ _ _ (h.at_ j (List.mem_range.1 hj)) (h.at_ i hi) h5)
theorem bZ.srch {P : HD → HD → Prop} (hP : ∀ d e, P d e → Sm d e) (hT : ∀ d d' e e', P d d' → P e e' → d'.last < e'.first → d.last < e.first) {l w : List HD} (h : bZ P l w) {ps : List Pol} {spare : Int} : ∀ (f left : Nat) {done done' : List HD}, bZ Sm done done' → srch ps l spare f left done = true → srch ps w spare f left done' = true
  | 0, left, _, _, _, hs => hs
  | f + 1, left, done, done', hd, hs => by
    unfold Hist.srch at hs ⊢
    rw [Q20] at hs ⊢
    rcases hs with hs | hs
    · exact .inl hs
    · right
      rw [List.any_eq_true] at hs ⊢
      obtain ⟨i, hi, hs⟩ := hs
      rw [Q5] at hs
      refine ⟨i, by rw [h.len]; exact hi, ?_⟩
      rw [Q5]
      have hi' := List.mem_range.1 hi
      exact ⟨h.try_ hP hT hd hi' hs.1, h.srch hP hT f _ (hd.app (.cons (hP _ _ (h.at_ i hi')) .nil)) hs.2⟩
theorem bZ.step {P : HD → HD → Prop} (hP : ∀ d e, P d e → Sm d e) {l w : List HD} (h : bZ P l w) {d e : HD} (hd : P d e) {ps : List Pol} {v : Int} (ht : e.last < e.first ↔ d.last < d.first) : bC ps v w e = bC ps v l d := by
  have hS := hP _ _ hd
  have hg := ((h.app (.cons hd .nil)).grp hP ps (kb d)).len
  unfold bC
  rw [hS.bad, hS.inc, hS.kb, hg]
  by_cases h1 : d.last < d.first
  · rw [if_pos h1, if_pos (ht.2 h1)]
  · rw [if_neg h1, if_neg (fun h2 => h1 (ht.1 h2))]
theorem bZ.err0 {P : HD → HD → Prop} (hP : ∀ d e, P d e → Sm d e) (ht : ∀ d e, P d e → e.last < e.first → d.last < d.first) {ps : List Pol} {l w : List HD} (h : bZ P l w) : ∀ {pre pre' : List HD} {v : Int}, bZ P pre pre' → (∀ d ∈ l, ¬ d.last < d.first) → lZ ps v pre' w = lZ ps v pre l := by
  induction h with
  | nil => intro _ _ _ _ _; rfl
  | cons h _ ih =>
    intro pre pre' v hp hl
    unfold lZ
    rw [hp.step hP h ⟨ht _ _ h, fun h9 => absurd h9 (hl _ (List.mem_cons_self ..))⟩]
    exact ih (hp.app (.cons h .nil)) fun d hd => hl d (List.mem_cons_of_mem _ hd)
end Hist
section
open Hist
def au : List Pol := [⟨1, 10, 20, 0⟩, ⟨2, 0, 0, 2⟩]
theorem am : Pure TC 9 [] (.d (ap 4 Pol.D au)) := by
  refine Pure.mk' Try.func9 rfl rfl (zzb rfl) ?_
  (repeat' (first
    | with_reducible refine Wp.seq ?_
    | with_reducible refine Wp.block ?_
    | ((with_reducible first | refine Wp.region ?_ | refine Wp.drawL ac ?_ | refine Wp.cond ?_ | refine Wp.ret ?_ | refine Wp.skip ?_ | refine Wp.exit ?_ | refine Go.mk ?_ | apply aA.of); conv => whnf)
    | with_reducible exact rfl
    | ((with_reducible refine Ov.ok zO ?_); conv => whnf)
    | (with_reducible refine Ov.sh1 (by with_unfolding_all exact rfl) ?_)
    | ((with_reducible refine Ov.quo (by omega) (by omega) (by omega) (fun _ _ => ?_)); conv => whnf)
    | ((with_reducible refine And.intro (show aj _ _ _ _ = true by kernel_rfl) ?_); conv => whnf)
    | ((with_reducible refine And.intro zC ?_); conv => whnf)
    | ((with_reducible refine And.intro ?hb ?_); (case hb => exact ae (zzb rfl) (by omega)); (conv => whnf))
    | ((refine af.a rfl rfl rfl rfl rfl rfl ?hb ?_); (case hb => exact zB); (conv => whnf))
    | ((refine af.b rfl rfl rfl rfl rfl rfl rfl rfl ?hb ?ho ?_); (case hb => exact zB); (case ho => omega); (conv => whnf))
    | ((refine af.c rfl rfl rfl rfl rfl ?hb ?_); (case hb => exact zB); (conv => whnf))
    | ((refine af.d rfl rfl rfl rfl rfl rfl ?hb ?ho ?_); (case hb => exact zB); (case ho => omega); (conv => whnf))
    | (with_reducible refine Or.inl ?_)
    | ((with_reducible refine nil_no (by omega) ?_); (conv => whnf))
    | ((with_reducible refine ag ?_ (fun hn0 => ?_)) <;> (conv => whnf))
    
    | ((refine aB (fun hc => ?_) (fun hc => ?_)) <;> (try simp only [decide_eq_true_eq, decide_eq_false_iff_not, Q5, Q20, Bool.and_eq_false_iff, Bool.or_eq_false_iff, Bool.not_eq_true', Bool.not_eq_false', beq_iff_eq, bne_iff_ne, ne_eq, beq_eq_false_iff_ne, bne_eq_false_iff_eq, Bool.not_eq_true, Bool.not_eq_false] at hc) <;> (try (exfalso; omega)) <;> (conv => whnf))))
  exact SV.Le.sl fun i hi => by
    have hi2 : i < 2 := hi
    have : i = 0 ∨ i = 1 := by omega
    rcases this with rfl | rfl <;> rfl
theorem kI (a : List Int) (hl : a.length ≤ 140737488355328) : Pure TC 10 [.d (ap 1 (aQ .u8) a)] (.d (ap 1 (aQ .u8) a)) := by
  refine Pure.mk' Try.func10 rfl rfl (zzb rfl) ?_
  (repeat' (first
    | with_reducible refine Wp.seq ?_
    | with_reducible refine Wp.block ?_
    | ((with_reducible first | refine Wp.region ?_ | refine Wp.drawL ac ?_ | refine Wp.cond ?_ | refine Wp.ret ?_ | refine Wp.skip ?_ | refine Wp.exit ?_ | refine Go.mk ?_ | apply aA.of); conv => whnf)
    | with_reducible exact rfl
    | ((with_reducible refine Ov.ok zO ?_); conv => whnf)
    | (with_reducible refine Ov.sh1 (by with_unfolding_all exact rfl) ?_)
    | ((with_reducible refine Ov.quo (by omega) (by omega) (by omega) (fun _ _ => ?_)); conv => whnf)
    | ((with_reducible refine And.intro (show aj _ _ _ _ = true by kernel_rfl) ?_); conv => whnf)
    | ((with_reducible refine And.intro zC ?_); conv => whnf)
    | ((with_reducible refine And.intro ?hb ?_); (case hb => exact ae (zzb rfl) (by omega)); (conv => whnf))
    | ((refine af.a rfl rfl rfl rfl rfl rfl ?hb ?_); (case hb => exact zB); (conv => whnf))
    | ((refine af.b rfl rfl rfl rfl rfl rfl rfl rfl ?hb ?ho ?_); (case hb => exact zB); (case ho => omega); (conv => whnf))
    | ((refine af.c rfl rfl rfl rfl rfl ?hb ?_); (case hb => exact zB); (conv => whnf))
    | ((refine af.d rfl rfl rfl rfl rfl rfl ?hb ?ho ?_); (case hb => exact zB); (case ho => omega); (conv => whnf))
    | (with_reducible refine Or.inl ?_)
    | ((with_reducible refine nil_no (by omega) ?_); (conv => whnf))
    | ((with_reducible refine ag ?_ (fun hn0 => ?_)) <;> (conv => whnf))
    | ((with_reducible refine And.intro ?hb ?_); (case hb => (show (0 + a.length) * 1 ≤ 140737488355328; omega)); (conv => whnf))
    | ((refine aB (fun hc => ?_) (fun hc => ?_)) <;> (try simp only [decide_eq_true_eq, decide_eq_false_iff_not, Q5, Q20, Bool.and_eq_false_iff, Bool.or_eq_false_iff, Bool.not_eq_true', Bool.not_eq_false', beq_iff_eq, bne_iff_ne, ne_eq, beq_eq_false_iff_ne, bne_eq_false_iff_eq, Bool.not_eq_true, Bool.not_eq_false] at hc) <;> (try (exfalso; omega)) <;> (conv => whnf))))
  refine fd (Q19 _) fun i hi => ?_
  unfold cO
  rw [if_neg (by omega)]
  show aQ .u8 (a.getD (0 + i - 0) default) = _
  rw [Q19, Nat.sub_zero]
namespace Hist
def awA : HD := ⟨0, 2, 1, [107], 0, 1, 2, ⟨0, true, 1, 0, 5, 0⟩⟩
def awB : HD := ⟨0, 3, 1, [107], 5, 3, 4, ⟨0, true, 2, 0, 0, 0⟩⟩
def awB0 : HD := ⟨0, 3, 1, [107], 5, 0, 0, ⟨0, true, 2, 0, 0, 0⟩⟩
theorem aw_1 : ij au [awB, awA] = true ∧ bQ au 2 [awB, awA] = 0 := by decide +kernel
theorem aw_2 : ij au [awA, awB0] = false ∧ bQ au 2 [awA, awB0] = 0 := by decide +kernel
end Hist
theorem aw_c1 : Pure TC 8 [.d (ap 4 Pol.D au), .d (ap 13 HD.D [awB, awA])] (.tup [.b true, .i .i64 0]) := by
  have h := d9 (ps := au) (calls := [awB, awA]) (by unfold IsB; decide) (by decide)
  rw [aw_1.1, show bQ au [awB, awA].length [awB, awA] = 0 from aw_1.2] at h
  exact h
theorem aw_c2 : Pure TC 8 [.d (ap 4 Pol.D au), .d (ap 13 HD.D [awA, awB0])] (.tup [.b false, .i .i64 0]) := by
  have h := d9 (ps := au) (calls := [awA, awB0]) (by unfold IsB; decide) (by decide)
  rw [aw_2.1, show bQ au [awA, awB0].length [awA, awB0] = 0 from aw_2.2] at h
  exact h
@[reducible] def awK : D := .sl 1 1 fun i => cM [.val (.int .u8 107)] 1 (0 + i)
@[reducible] def awD (op n first last left ser : Int) : List D := [.val (.int .i64 0), .val (.int .u8 op), .val (.int .i64 1), awK, .val (.int .i64 n), .val (.int .i64 first), .val (.int .i64 last), .val (.int .i64 0), .val (.bool true), .val (.int .i64 left), .val (.int .i64 0), .val (.int .i64 ser), .val (.int .i64 0)]
theorem qh (op n first last left ser : Int) : mh (awD op n first last left ser) (HD.D ⟨0, op, 1, [107], n, first, last, ⟨0, true, left, 0, ser, 0⟩⟩) := by
  have hk : TLe awK (ap 1 (aQ .u8) [107]) := TLe.sl fun i hi => by
    obtain rfl : i = 0 := by omega
    exact .cons (.rfl _) .nil
  exact .cons (.rfl _) (.cons (.rfl _) (.cons (.rfl _) (.cons hk (.cons (.rfl _) (.cons (.rfl _) (.cons (.rfl _) (.cons (.rfl _) (.cons (.rfl _) (.cons (.rfl _) (.cons (.rfl _) (.cons (.rfl _) (.cons (.rfl _) .nil))))))))))))
theorem iD : Pure TC 6 [] (.b true) := by
  refine Pure.mk' Try.func6 rfl rfl (zzb rfl) ?_
  have h1 : Pure TC 8 [.d (ap 4 Pol.D au), .d (.sl 13 2 (cM (awD 3 5 3 4 2 0 ++ awD 2 0 1 2 1 5) 13))] (.tup [.b true, .i .i64 0]) := aw_c1.leX (.cons (.rfl _) (.cons (TLe.sv (TLe.sl fun i hi => by
    have : i = 0 ∨ i = 1 := by omega
    rcases this with rfl | rfl
    · exact qh 3 5 3 4 2 0
    · exact qh 2 0 1 2 1 5)) .nil))
  have h2 : Pure TC 8 [.d (ap 4 Pol.D au), .d (.sl 13 2 (cM (awD 2 0 1 2 1 5 ++ awD 3 5 0 0 2 0) 13))] (.tup [.b false, .i .i64 0]) := aw_c2.leX (.cons (.rfl _) (.cons (TLe.sv (TLe.sl fun i hi => by
    have : i = 0 ∨ i = 1 := by omega
    rcases this with rfl | rfl
    · exact qh 2 0 1 2 1 5
    · exact qh 3 5 0 0 2 0)) .nil))
  (repeat' (first
    | ((with_reducible refine Or.inr (And.intro rfl ?_)); conv => whnf)
    | ((refine ai.pure h1 rfl rfl ?_); conv => whnf)
    | ((refine ai.pure h2 rfl rfl ?_); conv => whnf)
    | with_reducible refine Wp.seq ?_
    | with_reducible refine Wp.block ?_
    | ((with_reducible first | refine Wp.region ?_ | refine Wp.drawL ac ?_ | refine Wp.cond ?_ | refine Wp.ret ?_ | refine Wp.skip ?_ | refine Wp.exit ?_ | refine Go.mk ?_ | apply aA.of); conv => whnf)
    | with_reducible exact rfl
    | ((with_reducible refine Ov.ok zO ?_); conv => whnf)
    | (with_reducible refine Ov.sh1 (by with_unfolding_all exact rfl) ?_)
    | ((with_reducible refine Ov.quo (by omega) (by omega) (by omega) (fun _ _ => ?_)); conv => whnf)
    | ((with_reducible refine And.intro (show aj _ _ _ _ = true by kernel_rfl) ?_); conv => whnf)
    | ((with_reducible refine And.intro zC ?_); conv => whnf)
    | ((with_reducible refine And.intro ?hb ?_); (case hb => exact ae (zzb rfl) (by omega)); (conv => whnf))
    | ((refine af.a rfl rfl rfl rfl rfl rfl ?hb ?_); (case hb => exact zB); (conv => whnf))
    | ((refine af.b rfl rfl rfl rfl rfl rfl rfl rfl ?hb ?ho ?_); (case hb => exact zB); (case ho => omega); (conv => whnf))
    | ((refine af.c rfl rfl rfl rfl rfl ?hb ?_); (case hb => exact zB); (conv => whnf))
    | ((refine af.d rfl rfl rfl rfl rfl rfl ?hb ?ho ?_); (case hb => exact zB); (case ho => omega); (conv => whnf))
    | (with_reducible refine Or.inl ?_)
    | ((with_reducible refine nil_no (by omega) ?_); (conv => whnf))
    | ((with_reducible refine ag ?_ (fun hn0 => ?_)) <;> (conv => whnf))
    | ((with_reducible refine aa.pure (am) rfl rfl ?_); conv => whnf) | ((with_reducible refine ai.pure (am) rfl rfl ?_); conv => whnf)
    | ((refine aB (fun hc => ?_) (fun hc => ?_)) <;> (try simp only [decide_eq_true_eq, decide_eq_false_iff_not, Q5, Q20, Bool.and_eq_false_iff, Bool.or_eq_false_iff, Bool.not_eq_true', Bool.not_eq_false', beq_iff_eq, bne_iff_ne, ne_eq, beq_eq_false_iff_ne, bne_eq_false_iff_eq, Bool.not_eq_true, Bool.not_eq_false] at hc) <;> (try (exfalso; omega)) <;> (conv => whnf))))
  exact .b rfl
end
section
open Hist
end
section
namespace Hist
end Hist
open Hist
theorem gG {ps : List Pol} {l : List HD} (hk : ∀ d ∈ l, IsB d.key) (hl : l.length ≤ 1048576) : Pure TC 8 [.d (ap 4 Pol.D ps), .d (.sl 13 l.length fun i => (fun i => HD.D (l.getD i default)) (0 + i))] (.tup [.b (ij ps l), .i .i64 (bQ ps l.length l)]) :=
  (d9 hk hl).leX (.cons (.rfl _) (.cons (fd rfl fun i _ => by dsimp only; rw [Q19]) .nil))
end
section
inductive oj (N : Nat) : D → Prop
  | val (v : Value) : oj N (.val v)
  | sl {z n : Nat} {f : Nat → List D} (hn : n ≤ N) (h : ∀ i, i < n → ∀ d, d ∈ f i → oj N d) : oj N (.sl z n f)
theorem qe {H : Type} (d : DataW H) : 1 ≤ Rows.uptoBulk d := by
  cases d with
  | lit l => cases l <;> simp [Rows.uptoBulk]
  | _ => simp [Rows.uptoBulk]
theorem lz {H : Type} : ∀ l : List (DataW H), l.length ≤ Rows.uptoBulkAll l
  | [] => Nat.zero_le _
  | d :: r => by
    have := lz r
    have := qe d
    simp only [Rows.uptoBulkAll, List.length_cons]
    omega
theorem eZ {H : Type} {d : DataW H} : ∀ {l : List (DataW H)}, d ∈ l → Rows.uptoBulk d ≤ Rows.uptoBulkAll l
  | e :: r, h => by
    simp only [Rows.uptoBulkAll]
    rcases Q22 h with rfl | h
    · omega
    · have := eZ h; omega
theorem l7 {H : Type} {len N : Nat} {Dd : Nat → DataW H} {sp : List (DataW H)} {pl : List MemPlace} (h : Rows.uptoBulk (DataW.slice ((List.range len).map Dd) sp, pl).1 ≤ N) : len ≤ N ∧ ∀ i, i < len → Rows.uptoBulk (Dd i, pl).1 ≤ N := by
  simp only [Rows.uptoBulk] at h
  have h1 := lz ((List.range len).map Dd)
  rw [List.length_map, List.length_range] at h1
  refine ⟨by omega, fun i hi => ?_⟩
  have := eZ (d := Dd i) (l := (List.range len).map Dd) (List.mem_map_of_mem (List.mem_range.2 hi))
  show Rows.uptoBulk (Dd i) ≤ N
  omega
theorem qf {H : Type} {N : Nat} {xs : List (DataW H × List MemPlace)} {pl : List MemPlace} (h : Rows.uptoBulk (DataW.agg (xs.map (·.1)), pl).1 ≤ N) {y : DataW H × List MemPlace} (hy : y ∈ xs) : Rows.uptoBulk y.1 ≤ N := by
  simp only [Rows.uptoBulk] at h
  have := eZ (d := y.1) (l := xs.map (·.1)) (List.mem_map_of_mem hy)
  omega
section
variable {H : Type} {enc : TypeId × Value → H} {P : Program} {w : World} {spare : Nat → Bool} {N : Nat}
theorem fG {r : TypeId → Option (List Sh)} {c : TypeId → Nat} {cs : List Value} : ∀ (fs : List Field) (o : Nat) (a : List Sh), shF r c fs o = some a → o + a.length ≤ cs.length →
    (∀ f ∈ fs, ∀ b, r f.type = some b → ∃ ds, eJ b ds ∧ (∀ d ∈ ds, oj N d) ∧ RLs w ds ((cs.drop f.offset).take (c f.type))) → ∃ ds, eJ a ds ∧ (∀ d ∈ ds, oj N d) ∧ RLs w ds ((cs.drop o).take a.length)
  | [], o, a, h, hl, hr => by
    simp only [shF, Option.some.injEq] at h; subst h
    exact ⟨[], .nil, fun d hd => by simp at hd, by simpa using RLs.nil w⟩
  | f :: fs, o, a, h, hl, hr => by
    unfold shF at h
    split at h
    · rename_i ho
      obtain ⟨b, hb, h⟩ := Option.bind_eq_some_iff.1 h
      split at h
      · rename_i hc
        obtain ⟨a', ha', rfl⟩ := Option.map_eq_some_iff.1 h
        rw [Q9] at hl
        obtain ⟨ds, h1, hN1, h2⟩ := hr f (by simp) b hb
        obtain ⟨ds', h3, hN2, h4⟩ := fG fs _ a' ha' (by omega) (fun g hg => hr g (by simp [hg]))
        refine ⟨ds ++ ds', h1.append h3, fun d hd => (List.mem_append.1 hd).elim (hN1 d) (hN2 d), ?_⟩
        rw [ho, ← hc] at h2
        have := h2.append h4
        rw [show (cs.drop o).take (b ++ a').length = (cs.drop o).take b.length ++ (cs.drop (o + b.length)).take a'.length by
          rw [Q9, List.take_add, List.drop_drop]]
        exact this
      · cases h
    · cases h
theorem mX : ∀ (m fuel : Nat) (t : TypeId) (cs : List Value) (x : DataW H × List MemPlace) (shs : List Sh), DataW.trod enc P w 0 spare true fuel t cs = some x → shT P m t = some shs → Rows.uptoBulk x.1 ≤ N → ∃ ds, eJ shs ds ∧ (∀ d ∈ ds, oj N d) ∧ RLs w ds cs
  | 0, fuel, t, cs, x, shs, h, hs => by simp [shT] at hs
  | m + 1, 0, t, cs, x, shs, h, hs => by simp [DataW.trod] at h
  | m + 1, fuel + 1, t, cs, x, shs, h, hs => by
    have ih := fun fuel t cs x shs h hs => mX m fuel t cs x shs h hs
    unfold shT at hs
    split at hs
    · rename_i hu
      cases hs
      unfold DataW.trod at h
      rw [hu] at h
      split at h <;> simp_all
      exact fun _ => ⟨_, .cons (.bool _) .nil, fun d hd => by obtain rfl := List.mem_singleton.1 hd; exact .val _, .one (.val _ rfl)⟩
    · rename_i k hu
      cases hs
      unfold DataW.trod at h
      rw [hu] at h
      split at h <;> simp_all
      rename_i n _ _
      obtain ⟨⟨rfl, hw⟩, _⟩ := h
      exact fun _ => ⟨_, .cons (.int hw) .nil, fun d hd => by obtain rfl := List.mem_singleton.1 hd; exact .val _, .one (.val _ rfl)⟩
    · rename_i hu
      cases hs
      unfold DataW.trod at h
      rw [hu] at h
      split at h <;> simp_all
      exact fun _ => ⟨_, .cons (.str _ h.1) .nil, fun d hd => by obtain rfl := List.mem_singleton.1 hd; exact .val _, .one (.val _ rfl)⟩
    · rename_i e hu
      obtain ⟨es, he, hs⟩ := Option.bind_eq_some_iff.1 hs
      split at hs
      case isFalse => cases hs
      rename_i hz
      cases hs
      intro hB
      rcases Go.Deep.open_slice hu h with ⟨rfl, _⟩ | ⟨a, len, cap, mm, n, Dd, Pl, rfl, _, hl, hm, hmm, hx1, hel⟩
      · refine ⟨[.sl (P.cellsOf e) 0 fun _ => []], .cons (.sl (by unfold maxLen; omega) fun i hi => by omega) .nil, fun d hd => by (obtain rfl := List.mem_singleton.1 hd; exact .sl (Nat.zero_le _) fun i hi => by omega), .one (.sl _ 0 _ none 0 (fun _ _ => undef) (Q4 _) (by unfold maxLen; omega) (fun i hi => by omega) (fun h => by omega) (fun i j hi => by omega))⟩
      · have hle : len ≤ mm := by rw [hmm]; split <;> omega
        rw [hx1] at hB
        obtain ⟨hB1, hB2⟩ := l7 hB
        have hx : ∀ i, ∃ p : List Value × List D, i < len → w.cells? 0 (a.add (i * P.cellsOf e)) (P.cellsOf e) = some p.1 ∧ eJ es p.2 ∧ RLs w p.2 p.1 ∧ ∀ d ∈ p.2, oj N d := fun i => by
          by_cases hi : i < len
          · obtain ⟨cs', h1, h2⟩ := hel i (by omega)
            obtain ⟨ds, h3, hN, h4⟩ := ih _ _ _ _ _ h2 he (hB2 i hi)
            exact ⟨(cs', ds), fun _ => ⟨h1, h3, h4, hN⟩⟩
          · exact ⟨([], []), fun h => absurd h hi⟩
        obtain ⟨F, hF⟩ := Classical.axiomOfChoice hx
        refine ⟨[.sl (P.cellsOf e) len fun i => (F i).2], .cons (.sl (by omega) fun i hi => (hF i hi).2.1) .nil, fun d hd => by (obtain rfl := List.mem_singleton.1 hd; exact .sl hB1 fun i hi => (hF i hi).2.2.2), .one (.sl _ len _ (some a) cap (fun i j => ((F i).1[j]?).getD undef) hl hm (fun i hi => by rw [(hF i hi).2.1.len, hz]) (fun h0 => ?_) (fun i j hi hj => ?_))⟩
        · have h0' : 0 < len ∧ 0 < P.cellsOf e := ⟨Nat.pos_of_ne_zero fun h => by subst h; simp at h0, Nat.pos_of_ne_zero fun h => by rw [h] at h0; simp at h0⟩
          have hcell : ∀ i j, i < len → j < P.cellsOf e → ∃ v, (F i).1[j]? = some v ∧ w.cell? ((a.add (i * P.cellsOf e)).add j) = some v := fun i j hi hj => by
            obtain ⟨_, k2, k3⟩ := World.cells?_some (hF i hi).1
            have hj' : j < (F i).1.length := by omega
            refine ⟨_, Q0 hj', ?_⟩
            rw [k3 j hj, Q0 hj']
          obtain ⟨v0, _, c0⟩ := hcell 0 0 h0'.1 h0'.2
          rw [Nat.zero_mul] at c0
          have hsp : a.spot = none := iV (by
            have := World.cell?_spot c0
            have e1 : (a.add 0) = a := by unfold Addr.add; simp
            rw [e1] at c0; exact c0)
          obtain ⟨b, o, sp⟩ := a
          simp only at hsp
          subst hsp
          refine ⟨b, o, rfl, ?_, fun i j hi hj => ?_⟩
          · rw [Addr.add_mid, Addr.add_mid] at c0
            exact World.block_lt_of_cell? w _ c0
          · obtain ⟨v, k1, k2⟩ := hcell i j hi hj
            rw [Addr.add_mid, Addr.add_mid] at k2
            rw [k2, k1]; rfl
        · have h9 := (hF i hi).2.2.1
          have hl9 := h9.len
          have hj' : j < (F i).1.length := by rw [← hl9]; exact hj
          exact h9.out j _ _ (Q0 hj) (by rw [Q0 hj']; rfl)
    · rename_i fs hu
      obtain ⟨a, ha, hs⟩ := Option.bind_eq_some_iff.1 hs
      split at hs
      case isFalse => cases hs
      rename_i hz
      cases hs
      intro hB
      obtain ⟨xs, n, _, hx1, hl, _, hf⟩ := DataW.trod_struct hu h
      rw [hx1] at hB
      obtain ⟨ds, h1, hN, h2⟩ := fG (N := N) (w := w) (cs := cs) fs.toList 0 shs ha (by omega) (fun f hf' b hb => by
        obtain ⟨i, hi, e⟩ := List.getElem_of_mem hf'
        have hi' : i < fs.size := by simpa using hi
        have hfi : fs[i]? = some f := by rw [Array.getElem?_eq_getElem hi']; rw [← e]; simp
        have hq := hf i f hfi
        rename_i hxl _
        have hxi : ∃ y, xs[i]? = some y := ⟨xs[i]'(by omega), Q0 _⟩
        obtain ⟨y, hy⟩ := hxi
        rw [hy] at hq
        exact ih _ _ _ _ _ hq hb (qf hB (Q3 hy |>.elim fun h9 e9 => e9 ▸ Q14 h9)))
      refine ⟨ds, h1, hN, ?_⟩
      rw [List.drop_zero, hz, ← hl, List.take_length] at h2
      exact h2
    · cases hs
end
end
section
open Go.ChangeShapes Go.WideShapes Go.ChangeAt Go.RowKit
theorem nu {α : Type} [Inhabited α] {enc : α → List D} {p : α → Prop} {z N : Nat} {es : List Sh} {d : D} (h : mb (.sl z es) d) (hN : oj N d) (hp : ∀ ds, eJ es ds → (∀ d ∈ ds, oj N d) → ∃ x, mh ds (enc x) ∧ p x) :
    ∃ xs : List α, TLe d (ap z enc xs) ∧ xs.length ≤ N ∧ ∀ x ∈ xs, p x := by
  obtain ⟨n, f, rfl, hn, hf⟩ := qD h
  cases hN with
  | sl h1 h2 =>
    obtain ⟨xs, g1, g2, g3⟩ := m9 (enc := enc) (p := p) fun i hi => hp _ (hf i hi) (h2 i hi)
    subst g1
    exact ⟨xs, TLe.sl fun i hi => g2 i hi, h1, g3⟩
theorem arg1N {H : Type} {enc : TypeId × Value → H} {W : World} {t : TypeId} {v : Value} {d : DataW H} {p : List MemPlace} {s : Sh} {N : Nat} (h : DataW.Trod enc Try.prog W 0 (fun _ => true) true t v d p) (hs : shT Try.prog 8 t = some [s]) (hv : v.cells.toList = [v]) (hN : Rows.uptoBulk d ≤ N) :
    ∃ x, mb s x ∧ oj N x ∧ RD W (fun b => b < W.heap.size) x v := by
  obtain ⟨n, h⟩ := h
  obtain ⟨ds, h1, hl, h2⟩ := mX 8 n t _ _ _ h hs hN
  obtain ⟨x, r, rfl, h3, h4⟩ := bm h1
  obtain rfl := iq h4
  rw [hv] at h2
  exact ⟨x, h3, hl x (by simp), h2.out 0 x v rfl rfl⟩
end
end Go.Proofs.Ytpdhdnhkhidmpaa
