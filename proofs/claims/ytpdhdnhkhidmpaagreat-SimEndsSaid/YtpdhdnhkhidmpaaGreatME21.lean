/- Lemmas of Ct2, Ct3, Ct4, Pl8a, Ct9, Sm4. No condition. -/
import Derived.Test.YtpdhdnhkhidmpaaGreatME20
set_option linter.unusedVariables false
set_option linter.unusedSimpArgs false
set_option maxHeartbeats 80000000
set_option maxRecDepth 100000
namespace Go.Proofs.YtpdhdnhkhidmpaaGreat
open Go.RowKit
section
namespace Core
open Dir (FZ plc upd upW Iw okW dq upd_same upd_ne pow_pos2)
open Hm (a6)
variable {sm : List Int → Int} {P : Ops}
def hel (P : Ops) (M : Mc) : List Int := (allE P M).flatMap (·.held)
theorem bl (hP : OpsOk sm P) {M : Mc} {B : Int} (h : Iw M.W B) (hI : Ih sm M) : (allE P M).Nodup := by
 rw [List.nodup_iff_pairwise_ne]
 exact (all_ok hP h hI).1.imp fun {a b} hab e => hab (by rw [e])
theorem vA (hP : OpsOk sm P) {M M' : Mc} {B B' : Int} (h : Iw M.W B) (hI : Ih sm M) (h' : Iw M'.W B') (hI' : Ih sm M') (ho : ∀ k, own sm M' k = own sm M k) : (allE P M').Perm (allE P M) := by
 refine (List.perm_ext_iff_of_nodup (bl hP h' hI') (bl hP h hI)).2 fun c => ?_
 rw [(all_ok hP h' hI').2, (all_ok hP h hI).2, ho]
theorem all_put (hP : OpsOk sm P) {M M' : Mc} {B B' : Int} (h : Iw M.W B) (hI : Ih sm M) (h' : Iw M'.W B') (hI' : Ih sm M') {k0 : List Int} {c : Cel} (ho : ∀ k, own sm M' k = if k = k0 then some c else own sm M k) :
  ∃ F, (allE P M').Perm (c :: F) ∧ (allE P M).Perm ((own sm M k0).toList ++ F) := by
 have hk : idn c = k0 := fD (by rw [ho, if_pos rfl] : own sm M' k0 = some c)
 have hF : ((allE P M).filter fun e => decide (idn e ≠ k0)).Nodup := (bl hP h hI).filter _
 have hm : ∀ e, e ∈ (allE P M).filter (fun e => decide (idn e ≠ k0)) ↔ own sm M (idn e) = some e ∧ idn e ≠ k0 := fun e => by
  rw [List.mem_filter, (all_ok hP h hI).2, decide_eq_true_eq]
 refine ⟨_, (List.perm_ext_iff_of_nodup (bl hP h' hI') (List.nodup_cons.2 ⟨fun h9 => ((hm c).1 h9).2 hk, hF⟩)).2 fun e => ?_, (List.perm_ext_iff_of_nodup (bl hP h hI) (List.nodup_append.2 ⟨?_, hF, fun a ha b hb e => ?_⟩)).2 fun e => ?_⟩
 ·rw [(all_ok hP h' hI').2, ho, List.mem_cons, hm]
  by_cases e1 : idn e = k0
  ·rw [if_pos e1]
   constructor
   ·intro h9; cases h9; exact .inl rfl
   ·rintro (h9 | h9)
    ·rw [h9]
    ·exact absurd e1 h9.2
  ·rw [if_neg e1]
   constructor
   ·exact fun h9 => .inr ⟨h9, e1⟩
   ·rintro (h9 | h9)
    ·rw [h9] at e1; exact absurd hk e1
    ·exact h9.1
 ·cases own sm M k0 <;> simp
 ·subst e
  have h1 := (hm a).1 hb
  cases e2 : own sm M k0 with
  | none => rw [e2] at ha; simp at ha
  | some d =>
   rw [e2] at ha
   obtain rfl : a = d := by simpa using ha
   exact h1.2 (fD e2)
 ·rw [(all_ok hP h hI).2, List.mem_append, hm]
  constructor
  ·intro h9
   by_cases e1 : idn e = k0
   ·left; rw [← e1, h9]; simp
   ·exact .inr ⟨h9, e1⟩
  ·rintro (h9 | h9)
   ·cases e2 : own sm M k0 with
    | none => rw [e2] at h9; simp at h9
    | some d =>
     rw [e2] at h9
     obtain rfl : e = d := by simpa using h9
     rw [fD e2, e2]
   ·exact h9.1
theorem tx (hP : OpsOk sm P) {M M' : Mc} {B B' : Int} (h : Iw M.W B) (hI : Ih sm M) (h' : Iw M'.W B') (hI' : Ih sm M') {w : Nat} (hw : 1 ≤ w ∧ w < 32) {t : Int}
  (ho : ∀ k, own sm M' k = if a6 M.W (sm k) = w then look (gl P (M.Hd w) t) k else own sm M k) :
  ∃ G, (allE P M).Perm (allE P M' ++ G) ∧ ∀ c ∈ G, own sm M (idn c) = some c ∧ P.idle c t = true := by
 have hs : Srt (M.Hd w) := hI.word hw
 have hr : Srt (gl P (M.Hd w) t) := hs.filter _
 have hb : ∀ e, own sm M' (idn e) = some e ↔ own sm M (idn e) = some e ∧ ¬ (a6 M.W (sm (idn e)) = w ∧ P.idle e t = true) := fun e => by
  rw [ho]
  by_cases e1 : a6 M.W (sm (idn e)) = w
  ·rw [if_pos e1]
   have : own sm M (idn e) = look (M.Hd w) (idn e) := by unfold own; rw [e1]
   rw [this, dB hr, dB hs]
   show e ∈ (M.Hd w).filter _ ↔ _
   rw [List.mem_filter]
   simp [e1]
  ·rw [if_neg e1]; simp [e1]
 refine ⟨(allE P M).filter fun e => decide (a6 M.W (sm (idn e)) = w) && P.idle e t, (List.perm_ext_iff_of_nodup (bl hP h hI) (List.nodup_append.2 ⟨bl hP h' hI', (bl hP h hI).filter _, fun a ha b hb2 e => ?_⟩)).2 fun e => ?_, fun c hc => ?_⟩
 ·subst e
  rw [(all_ok hP h' hI').2, hb] at ha
  have := (List.mem_filter.1 hb2).2
  simp only [Q5, decide_eq_true_eq] at this
  exact ha.2 this
 ·rw [List.mem_append, (all_ok hP h' hI').2, hb, List.mem_filter, (all_ok hP h hI).2]
  simp only [Q5, decide_eq_true_eq]
  constructor
  ·intro h9
   by_cases e1 : a6 M.W (sm (idn e)) = w ∧ P.idle e t = true
   ·exact .inr ⟨h9, e1⟩
   ·exact .inl ⟨h9, e1⟩
  ·rintro (h9 | h9) <;> exact h9.1
 ·obtain ⟨h1, h2⟩ := List.mem_filter.1 hc
  simp only [Q5, decide_eq_true_eq] at h2
  exact ⟨((all_ok hP h hI).2 c).1 h1, h2.2⟩
structure OpsPm (P : Ops) (V : Cel → Prop) (Q : Int → Int → List Int → Prop) : Prop where
 new : ∀ op pol key, op = 1 ∨ op = 2 ∨ op = 3 → Q op pol key → V ⟨pol, key, 0, []⟩
 allow : ∀ p c t n, V c → V (P.allow p c t n).2 ∧ (P.allow p c t n).2.held = c.held
 acq : ∀ key c n, Q 2 c.pol key → V c → n ∉ c.held → 1 ≤ n → n ≤ MAX → (c.held.length : Int) ≠ (P.pol c.pol).permits →
  (P.acq (P.pol c.pol) c n).1.e = 0 ∧ (P.acq (P.pol c.pol) c n).1.g = true ∧ V (P.acq (P.pol c.pol) c n).2 ∧ (P.acq (P.pol c.pol) c n).2.held.Perm (n :: c.held)
 rel : ∀ key c n, Q 3 c.pol key → V c → (P.rel (P.pol c.pol) c n).1.e = 0 → V (P.rel (P.pol c.pol) c n).2 ∧ c.held.Perm (n :: (P.rel (P.pol c.pol) c n).2.held)
 idle : ∀ c t, V c → P.idle c t = true → c.held = []
variable {V : Cel → Prop} {Q : Int → Int → List Int → Prop}
def hit (M : Mc) : CS → Bool
 | .pS f _ _ => M.W f.w == f.v
 | _ => false
inductive PE (P : Ops) (M : Mc) (x : X) (s : CS) (M' : Mc) : Prop
 | calm (h : (hel P M').Perm (hel P M)) (ho : hit M s = true → x.op = 1)
 | acq (hh : hit M s = true) (ho : x.op = 2) (h : (hel P M').Perm (x.ser :: hel P M)) (hr : ∀ f c r, s = .pS f c r → r.e = 0)
 | rel (hh : hit M s = true) (ho : x.op = 3) (h : (hel P M).Perm (x.n :: hel P M')) (hr : ∀ f c r, s = .pS f c r → r.e = 0)
theorem mem_hel (hP : OpsOk sm P) {M : Mc} {B : Int} (h : Iw M.W B) (hI : Ih sm M) {k : List Int} {c : Cel} (hk : own sm M k = some c) {n : Int} (hn : n ∈ c.held) : n ∈ hel P M :=
 List.mem_flatMap.2 ⟨c, ((all_ok hP h hI).2 c).2 (by rw [fD hk]; exact hk), hn⟩
theorem step_pm (hP : OpsOk sm P) (hQ : OpsPm P V Q) {M : Mc} {B : Int} (h : Iw M.W B) (hB : 1 ≤ B ∧ B + 1 < FZ) {x : X} (hx : 0 ≤ x.ser) (h33 : 0 ≤ M.W 33) {s : CS} (hs : Cw x M.W s) (hI : Ih sm M) (hc : Ch sm P x M s) (hf : Fr P x s)
  (hV : ∀ k c, own sm M k = some c → V c) (hq : s ≠ .none → Q x.op x.pol x.key) (hm : x.ser ≤ MAX) (hnew : x.op = 2 → hit M s = true → x.ser ∉ hel P M) :
  (∀ k c, own sm (step P M x s).M k = some c → V c) ∧ PE P M x s (step P M x s).M := by
 have he := gw hP h hB hs hI hc
 have iw' := (cT (P := P) h hB hx h33 hs).iw
 have ih' := he.ih
 cases he.own with
 | calm hd ho hn =>
  refine ⟨fun k c hk => hV k c (by rw [← ho]; exact hk), .calm ((vA hP h hI iw' ih' ho).flatMap_right _) fun h9 => ?_⟩
  cases s with
  | pS f c r => exact absurd (by simpa [hit] using h9) (hn f c r rfl)
  | _ => simp [hit] at h9
 | put f c r e hw h0 ho =>
  subst e
  have hk : Kd sm P x M f := hc.1
  have hhit : hit M (.pS f c r) = true := by simpa [hit] using hw
  have hq := hq (by simp)
  have hcell : f.cell = (own sm M (x.pol :: x.key)).getD ⟨x.pol, x.key, 0, []⟩ := by
   rw [h0]
   have := (hP.fnd f.h x.pol x.key hk.srt hk.k.1).2
   rw [← this, hk.fd]; rfl
  have hid : idn f.cell = x.pol :: x.key := Kd.cell hP hk
  have hpol : f.cell.pol = x.pol := by
   have h9 : f.cell.pol :: f.cell.key = x.pol :: x.key := hid
   exact (List.cons.inj h9).1
  have hop : x.op = 1 ∨ x.op = 2 ∨ x.op = 3 := by
   rcases hf with a | a | a
   ·exact .inl a.1
   ·exact .inr (.inl a.1)
   ·exact .inr (.inr a.1)
  have hVf : V f.cell := by
   rw [hcell]
   cases e2 : own sm M (x.pol :: x.key) with
   | none => exact hQ.new _ _ _ hop hq
   | some d => exact hV _ _ e2
  have hmem : ∀ n, n ∈ f.cell.held → n ∈ hel P M := fun n hn => by
   rw [hcell] at hn
   cases e2 : own sm M (x.pol :: x.key) with
   | none => rw [e2] at hn; simp at hn
   | some d => rw [e2] at hn; exact mem_hel hP h hI e2 hn
  obtain ⟨F, p1, p2⟩ := all_put hP h hI iw' ih' ho
  have q1 : (hel P (step P M x (.pS f c r)).M).Perm (c.held ++ F.flatMap (·.held)) := by
   have := p1.flatMap_right (·.held)
   rwa [List.flatMap_cons] at this
  have q2 : (hel P M).Perm (f.cell.held ++ F.flatMap (·.held)) := by
   have h9 := p2.flatMap_right (·.held)
   rw [List.flatMap_append] at h9
   have e9 : (own sm M (x.pol :: x.key)).toList.flatMap (·.held) = f.cell.held := by
    rw [hcell]
    cases e2 : own sm M (x.pol :: x.key) with
    | none => rfl
    | some d => simp
   rw [e9] at h9; exact h9
  have vv : V c → ∀ k d, own sm (step P M x (.pS f c r)).M k = some d → V d := fun hc9 k d hk9 => by
   rw [ho] at hk9
   split at hk9
   ·cases hk9; exact hc9
   ·exact hV _ _ hk9
  rcases hf with ⟨h1, ⟨t, ht⟩, h3, h4⟩ | ⟨h1, h2, h3, h4⟩ | ⟨h1, h2, h3⟩
  ·have g := hQ.allow (P.pol x.pol) f.cell t x.n hVf
   rw [ht] at g
   have g2 : c.held = f.cell.held := g.2
   refine ⟨vv g.1, .calm ?_ fun _ => h1⟩
   rw [g2] at q1
   exact q1.trans q2.symm
  ·have g := hQ.acq x.key f.cell x.ser (by rw [hpol, ← h1]; exact hq) hVf (fun h9 => hnew h1 hhit (hmem _ h9)) (by omega) hm (by rw [hpol]; exact h2)
   rw [hpol, h3] at g
   refine ⟨vv g.2.2.1, .acq hhit h1 ?_ fun f' c' r' e => by cases e; exact g.1⟩
   refine q1.trans (((g.2.2.2 : c.held.Perm (x.ser :: f.cell.held)).append_right _).trans ?_)
   exact (q2.symm.cons x.ser)
  ·have g := hQ.rel x.key f.cell x.n (by rw [hpol, ← h1]; exact hq) hVf (by rw [hpol, h2]; exact h3)
   rw [hpol, h2] at g
   refine ⟨vv g.1, .rel hhit h1 ?_ fun f' c' r' e => by cases e; exact h3⟩
   refine q2.trans (((g.2 : f.cell.held.Perm (x.n :: c.held)).append_right _).trans ?_)
   exact (q1.symm.cons x.n)
 | evict j sh g w v m n e hw t ht hm' hn ho =>
  subst e
  have hw2 : 1 ≤ w ∧ w < 32 := ⟨hs.2.2.1, hs.2.2.2.1⟩
  obtain ⟨G, p1, p2⟩ := tx hP h hI iw' ih' hw2 (t := t) fun k => by rw [ho, hm']
  refine ⟨fun k c hk => ?_, .calm ?_ fun h9 => by simp [hit] at h9⟩
  ·have h1 := ((all_ok hP iw' ih').2 c).2 (by rw [fD hk]; exact hk)
   have h2 := p1.mem_iff.2 (List.mem_append_left G h1)
   exact hV _ _ (((all_ok hP h hI).2 c).1 h2)
  ·have h9 := p1.flatMap_right (·.held)
   rw [List.flatMap_append] at h9
   have e9 : G.flatMap (·.held) = [] := by
    rw [List.flatMap_eq_nil_iff]
    intro c hc
    obtain ⟨g1, g2⟩ := p2 c hc
    exact hQ.idle c t (hV _ _ g1) g2
   rw [e9, List.append_nil] at h9
   exact h9.symm
def swB (x : X) : CS → Bool
 | .b0 _ (.lv r) => x.op == 2 && r.e == 0
 | .b1 _ (.lv r) _ => x.op == 2 && r.e == 0
 | _ => false
def okD (r : Rs) : Bool := r.done && r.r.e == 0
def b1 (b : Bool) : Int := if b = true then 1 else 0
theorem ky {x : X} (h : x.op = 2) (r : Rpl) : b1 (swB x (leave x r).1) + b1 (okD (leave x r).2) = if r.e = 0 then 1 else 0 := by
 unfold leave
 by_cases e : x.res = true
 ·rw [if_pos e]; simp [swB, okD, r0, h, b1]
 ·rw [if_neg e]; simp [swB, okD, b1]
theorem vK (x y : X) (f : Fd) (c : Cel) (r : Rpl) : swB x (put y f c r) = false := by unfold put; split <;> rfl
theorem pX {x : X} (h : x.op = 2) {f : Fc} (hf : Fo x f) (w : Nat) (v : Int) (l : List Cel) : swB x (entered P x f w v l).1 = false ∧ okD (entered P x f w v l).2 = false ∨ b1 (swB x (entered P x f w v l).1) + b1 (okD (entered P x f w v l).2) = 0 := by
 unfold entered
 split
 ·exact .inl ⟨rfl, rfl⟩
 ·unfold found
  cases f with
  | key =>
   show swB x (foundK P x (fdOf P x w v l)).1 = false ∧ okD (foundK P x (fdOf P x w v l)).2 = false ∨ b1 (swB x (foundK P x (fdOf P x w v l)).1) + b1 (okD (foundK P x (fdOf P x w v l)).2) = 0
   unfold foundK
   rw [if_neg (by omega), if_pos h]
   split
   ·right; rw [ky h]; rfl
   ·split
    ·exact .inl ⟨vK _ _ _ _ _, rfl⟩
    ·exact .inl ⟨rfl, rfl⟩
  | ev j sh g => have : x.op = 5 := hf; omega
theorem b1_0 {a b : Bool} (h : a = false ∧ b = false ∨ b1 a + b1 b = 0) : b1 a + b1 b = 0 := by
 rcases h with ⟨h1, h2⟩ | h
 ·rw [h1, h2]; rfl
 ·exact h
theorem qO {M : Mc} {x : X} {s : CS} (h : Fr P x s) (ho : x.op = 2) (hp : hit M s = true → ∀ f c r, s = .pS f c r → r.e = 0) :
  b1 (swB (step P M x s).x (step P M x s).s) + b1 (okD (step P M x s).r) = b1 (swB x s) + b1 (hit M s) := by
 have no5 : ∀ {q : Prop}, x.op = 5 → q := fun e => by omega
 have no6 : ∀ {q : Prop}, x.op = 6 → q := fun e => by omega
 have no1 : ∀ {q : Prop}, x.op = 1 → q := fun e => by omega
 have en : ∀ {f : Fc} (hf : Fo x f) (w : Nat) (v : Int) (l : List Cel), b1 (swB x (entered P x f w v l).1) + b1 (okD (entered P x f w v l).2) = 0 := fun hf w v l => b1_0 (pX ho hf w v l)
 cases s with
 | none => rfl
 | k0 f => simp only [step]; split <;> rfl
 | kE f w => exact en h _ _ _
 | kF f lv w => simp only [step]; split <;> rfl
 | kG f lv w v m => simp only [step]; split <;> rfl
 | kH f lv w m =>
  simp only [step]; split
  ·rfl
  ·exact en h _ _ _
 | kL f lv w m => rfl
 | al f => exact no1 h
 | pk c => exact absurd ho h.2.1
 | a0 f =>
  simp only [step]; split
  ·show b1 (swB x (leave x (er 5)).1) + b1 (okD (leave x (er 5)).2) = 0
   rw [ky ho]; rfl
  ·rfl
 | a1 f u =>
  simp only [step]; split
  ·show b1 (swB _ (put x f _ _)) + b1 (okD r0) = 0
   rw [vK]; rfl
  ·rfl
 | p0 f c r => simp only [step]; split <;> rfl
 | p1 f c r u => simp only [step]; split <;> rfl
 | pS f c r =>
  by_cases hm : M.W f.w = f.v
  ·have hr := hp (by simpa [hit] using hm) f c r rfl
   simp only [step, if_pos hm]
   show b1 (swB x (if f.there = true then leave x r else (.none, ⟨true, r⟩) : CS × Rs).1) + b1 (okD (if f.there = true then leave x r else (.none, ⟨true, r⟩) : CS × Rs).2) = 0 + b1 (M.W f.w == f.v)
   have e1 : b1 (M.W f.w == f.v) = 1 := by simp [hm, b1]
   rw [e1]
   split
   ·rw [ky ho, if_pos hr]; rfl
   ·simp [swB, okD, hr, b1]
  ·simp only [step, if_neg hm]
   have e1 : b1 (M.W f.w == f.v) = 0 := by simp [hm, b1]
   show 0 + 0 = 0 + b1 (M.W f.w == f.v)
   rw [e1]
 | b0 n k => cases k <;> rfl
 | b1 n k u =>
  simp only [step]; split
  ·cases k with
   | lv r => show b1 (swB x .none) + b1 (okD ⟨true, r⟩) = b1 (x.op == 2 && r.e == 0) + 0; simp [swB, okD, ho, b1]
   | ev j sh g => exact no5 h
  ·cases k <;> rfl
 | e0 => exact no5 h
 | eC j sh g w v m => exact no5 h
 | eS j sh g w v m n => exact no5 h
 | s0 => exact no6 h
 | sM lv => exact no6 h
 | sF lv i => exact no6 h
 | sG lv i v m => exact no6 h
 | sH lv i up m => exact no6 h
 | sL lv i up m => exact no6 h
 | sV lv => exact no6 h
end Core
end
section
namespace Core
open Dir (FZ plc upd upW Iw okW dq upd_same upd_ne pow_pos2)
open Hm (a6)
variable {sm : List Int → Int} {P : Ops} {V : Cel → Prop} {Q : Int → Int → List Int → Prop}
theorem iL {x : X} (h : x.op = 3) {f : Fc} (hf : Fo x f) (w : Nat) (v : Int) (l : List Cel) : okD (entered P x f w v l).2 = false := by
 unfold entered
 split
 ·rfl
 ·unfold found
  cases f with
  | key =>
   show okD (foundK P x (fdOf P x w v l)).2 = false
   unfold foundK
   rw [if_neg (by omega), if_neg (by omega), if_pos h]
   split
   ·rfl
   ·rename_i h9; simp [okD, h9]
  | ev j sh g => have : x.op = 5 := hf; omega
theorem qN {M : Mc} {x : X} {s : CS} (hs : Cw x M.W s) (h : Fr P x s) (hr : Rx x s) (ho : x.op = 3) : okD (step P M x s).r = hit M s := by
 have no5 : ∀ {q : Prop}, x.op = 5 → q := fun e => by omega
 have no6 : ∀ {q : Prop}, x.op = 6 → q := fun e => by omega
 have no1 : ∀ {q : Prop}, x.op = 1 → q := fun e => by omega
 have no2 : ∀ {q : Prop}, x.op = 2 → q := fun e => by omega
 have nres : x.res = false := by
  cases e : x.res with
  | false => rfl
  | true => rcases hr.op e with h9 | h9 <;> omega
 cases s with
 | none => rfl
 | k0 f => rfl
 | kE f w => exact iL ho h _ _ _
 | kF f lv w => rfl
 | kG f lv w v m => simp only [step]; split <;> rfl
 | kH f lv w m =>
  simp only [step]; split
  ·rfl
  ·exact iL ho h _ _ _
 | kL f lv w m => rfl
 | al f => exact no1 h
 | pk c => exact absurd ho h.2.2.1
 | a0 f => exact no2 h.1
 | a1 f u => exact no2 h.1
 | p0 f c r => simp only [step]; split <;> rfl
 | p1 f c r u => simp only [step]; split <;> rfl
 | pS f c r =>
  have hr0 : r.e = 0 := by
   rcases h with ⟨a, _⟩ | ⟨a, _⟩ | ⟨_, _, a⟩
   ·exact no1 a
   ·exact no2 a
   ·exact a
  by_cases hm : M.W f.w = f.v
  ·simp only [step, if_pos hm]
   have e1 : hit M (.pS f c r) = true := by simpa [hit] using hm
   rw [e1]
   show okD (if f.there = true then leave x r else (.none, ⟨true, r⟩) : CS × Rs).2 = true
   split
   ·unfold leave; rw [if_neg (by simp [nres])]; simp [okD, hr0]
   ·simp [okD, hr0]
  ·simp only [step, if_neg hm]
   have e1 : hit M (.pS f c r) = false := by simpa [hit] using hm
   rw [e1]; rfl
 | b0 n k =>
  cases k with
  | lv r => rcases h.1 with ⟨a, _⟩ | ⟨a, _⟩; exact no1 a; exact no2 a
  | ev j sh g => exact no5 h
 | b1 n k u =>
  cases k with
  | lv r => rcases h.1 with ⟨a, _⟩ | ⟨a, _⟩; exact no1 a; exact no2 a
  | ev j sh g => exact no5 h
 | e0 => exact no5 h
 | eC j sh g w v m => exact no5 h
 | eS j sh g w v m n => exact no5 h
 | s0 => exact no6 h
 | sM lv => exact no6 h
 | sF lv i => exact no6 h
 | sG lv i v m => exact no6 h
 | sH lv i up m => exact no6 h
 | sL lv i up m => exact no6 h
 | sV lv => exact no6 h
structure Pm (sm : List Int → Int) (P : Ops) (V : Cel → Prop) (Q : Int → Int → List Int → Prop) (M : Mc) (S : Nat → Wk) (A : Int) (R : List Int) : Prop where
 v : ∀ k c, own sm M k = some c → V c
 b : ∀ s ∈ hel P M, 1 ≤ s ∧ s ≤ M.W 33
 nd : (hel P M).Nodup
 pr : ∀ i, (S i).s ≠ .none → (S i).x.op = 2 → swB (S i).x (S i).s = false → (S i).x.ser ∉ hel P M
 q : ∀ i, (S i).s ≠ .none → Q (S i).x.op (S i).x.pol (S i).x.key
 fr : ∀ i, Fr P (S i).x (S i).s
 rl : ∀ s ∈ R, (1 ≤ s ∧ s ≤ M.W 33) ∧ s ∉ hel P M ∧ ∀ i, (S i).s ≠ .none → (S i).x.op = 2 → swB (S i).x (S i).s = false → (S i).x.ser ≠ s
 rn : R.Nodup
 cnt : ((hel P M).length : Int) = A + sumI 64 (fun i => b1 (swB (S i).x (S i).s)) - R.length
def qD (x : X) (r : Rs) (A : Int) : Int := if x.op = 2 ∧ okD r = true then A + 1 else A
def lF (x : X) (r : Rs) (R : List Int) : List Int := if x.op = 3 ∧ okD r = true then x.n :: R else R
theorem step_kn (M : Mc) (x : X) (s : CS) : (Core.step P M x s).x.pol = x.pol ∧ (Core.step P M x s).x.key = x.key ∧ (Core.step P M x s).x.n = x.n := by
 cases s with
 | s0 => simp only [step]; split; exact ⟨rfl, rfl, rfl⟩; split <;> exact ⟨rfl, rfl, rfl⟩
 | _ => (first | exact ⟨rfl, rfl, rfl⟩ | (simp only [step]; split <;> exact ⟨rfl, rfl, rfl⟩))
theorem swB_2 {x : X} {s : CS} (h : swB x s = true) : x.op = 2 := by
 cases s with
 | b0 n k => cases k <;> simp [swB] at h; exact h.1
 | b1 n k u => cases k <;> simp [swB] at h; exact h.1
 | _ => simp [swB] at h
theorem swB_b {x : X} {s : CS} (h : swB x s = true) (M : Mc) : hit M s = false ∧ s ≠ .none := by
 cases s with
 | b0 n k => exact ⟨rfl, by simp⟩
 | b1 n k u => exact ⟨rfl, by simp⟩
 | _ => simp [swB] at h
end Core
end
section
namespace Core
open Dir (FZ plc upd upW Iw okW dq upd_same upd_ne pow_pos2)
open Hm (a6)
variable {sm : List Int → Int} {P : Ops} {V : Cel → Prop} {Q : Int → Int → List Int → Prop}
theorem b1_bd (b : Bool) : 0 ≤ b1 b ∧ b1 b ≤ 1 := by unfold b1; split <;> omega
theorem b1_z {b : Bool} (h : b1 b = 0) : b = false := by cases b with
 | false => rfl
 | true => simp [b1] at h
theorem sw_0 {x : X} (h : x.op ≠ 2) (s : CS) : swB x s = false := by
 cases e : swB x s with
 | false => rfl
 | true => exact absurd (swB_2 e) h
theorem uE {M : Mc} {x : X} {s : CS} (h : (Core.step P M x s).s ≠ .none) : okD (Core.step P M x s).r = false := by
 cases e : (Core.step P M x s).r.done with
 | false => unfold okD; rw [e]; rfl
 | true => exact absurd (step_none e) h
theorem hit_acq {M M' : Mc} {x : X} {s : CS} (h : PE P M x s M') (h2 : x.op = 2) (hh : hit M s = true) : ∀ f c r, s = .pS f c r → r.e = 0 := by
 cases h with
 | calm a b => have := b hh; omega
 | acq a b c d => exact d
 | rel a b c d => omega
theorem Pm.step (hP : OpsOk sm P) (hQ : OpsPm P V Q) (hR : OpsRe P) {M : Mc} {S : Nat → Wk} {B : Int} (hA : All sm P M S B) (hB : B + 1 < FZ) {G : List Int} (hS : Sers M S G) (hM : M.W 33 ≤ MAX) {A : Int} {R : List Int} (hp : Pm sm P V Q M S A R) {i : Nat} (hi : i < 64) (hn : (S i).s ≠ .none) :
  Pm sm P V Q (mx P M S i) (nx P M S i) (qD (S i).x (Core.step P M (S i).x (S i).s).r A) (lF (S i).x (Core.step P M (S i).x (S i).s).r R) := by
 have hI := hA.inv
 have hfr := hp.fr i
 have sw0 : hit M (S i).s = true → swB (S i).x (S i).s = false := fun hh => by
  cases e : swB (S i).x (S i).s with
  | false => rfl
  | true => rw [(swB_b e M).1] at hh; cases hh
 obtain ⟨hv, hpe⟩ := step_pm hP hQ hI.iw ⟨hI.b, hB⟩ (hI.ser i) hI.c33 (hI.cw i) hA.ih (hA.ch i) hfr hp.v (hp.q i) (by have := hS.le i; omega) (fun h2 hh => hp.pr i hn h2 (sw0 hh))
 have h33 := jg (P := P) hI.iw ⟨hI.b, hB⟩ (hI.ser i) hI.c33 (hI.cw i)
 have hle : M.W 33 ≤ (Core.step P M (S i).x (S i).s).M.W 33 := by omega
 have hop := step_op (P := P) M (S i).x (S i).s
 have hkn := step_kn (P := P) M (S i).x (S i).s
 have hii : nx P M S i i = ⟨(Core.step P M (S i).x (S i).s).x, (Core.step P M (S i).x (S i).s).s⟩ := by unfold nx; rw [upd_same]
 have hij : ∀ j, j ≠ i → nx P M S i j = S j := fun j e => by unfold nx; rw [upd_ne _ _ e]
 have ret2 : (S i).x.op = 2 → b1 (swB (Core.step P M (S i).x (S i).s).x (Core.step P M (S i).x (S i).s).s) + b1 (okD (Core.step P M (S i).x (S i).s).r) = b1 (swB (S i).x (S i).s) + b1 (hit M (S i).s) := fun h2 => qO hfr h2 (hit_acq hpe h2)
 have ret3 : (S i).x.op = 3 → okD (Core.step P M (S i).x (S i).s).r = hit M (S i).s := fun h3 => qN (hI.cw i) hfr (hA.rx i) h3
 have hmM : mx P M S i = (Core.step P M (S i).x (S i).s).M := rfl
 have own2 : (Core.step P M (S i).x (S i).s).s ≠ .none → (S i).x.op = 2 → swB (Core.step P M (S i).x (S i).s).x (Core.step P M (S i).x (S i).s).s = false → swB (S i).x (S i).s = false ∧ hit M (S i).s = false := fun g1 g2 g3 => by
  have h9 := ret2 g2
  rw [g3, uE g1] at h9
  have a1 := b1_bd (swB (S i).x (S i).s)
  have a2 := b1_bd (hit M (S i).s)
  have a3 : b1 false = 0 := rfl
  exact ⟨b1_z (by omega), b1_z (by omega)⟩
 have hsub : (hit M (S i).s = true → (S i).x.op ≠ 2) → ∀ s, s ∈ hel P (Core.step P M (S i).x (S i).s).M → s ∈ hel P M := fun hh s hs => by
  cases hpe with
  | calm a b => exact a.mem_iff.1 hs
  | acq a b c d => exact absurd b (hh a)
  | rel a b c d => exact c.mem_iff.2 (List.mem_cons_of_mem _ hs)
 have hpos : hit M (S i).s = true → (S i).x.op = 2 → 0 < (S i).x.ser := fun hh h2 => by
  cases e : (S i).s with
  | pS f c r =>
   rw [e] at hfr
   rcases hfr with ⟨a, _⟩ | ⟨_, _, _, a⟩ | ⟨a, _⟩
   ·omega
   ·exact a
   ·omega
  | _ => rw [e] at hh; simp [hit] at hh
 have hpr : ∀ j, (nx P M S i j).s ≠ .none → (nx P M S i j).x.op = 2 → swB (nx P M S i j).x (nx P M S i j).s = false → (nx P M S i j).x.ser ∉ hel P (Core.step P M (S i).x (S i).s).M := fun j g1 g2 g3 => by
  by_cases e : j = i
  ·subst e
   rw [hii] at g1 g2 g3 ⊢
   dsimp only at g1 g2 g3 ⊢
   rw [hop] at g2
   obtain ⟨k1, k2⟩ := own2 g1 g2 g3
   have h9 := hsub (fun hh => by rw [k2] at hh; cases hh)
   rcases h33 with ⟨a, b⟩ | ⟨a, b, c, d⟩
   ·rw [b]; exact fun hx => hp.pr j hn g2 k1 (h9 _ hx)
   ·intro hx
    have := hp.b _ (h9 _ hx)
    omega
  ·rw [hij j e] at g1 g2 g3 ⊢
   have h9 := hp.pr j g1 g2 g3
   cases hpe with
   | calm a b => exact fun hx => h9 (a.mem_iff.1 hx)
   | acq a b c d =>
    intro hx
    rcases Q22 (c.mem_iff.1 hx) with hx | hx
    ·have h0 := hpos a b
     exact hS.ne i j (fun e9 => e e9.symm) hn g1 (by omega) hx.symm
    ·exact h9 hx
   | rel a b c d => exact fun hx => h9 (c.mem_iff.2 (List.mem_cons_of_mem _ hx))
 have hsum := cS (f := fun j => b1 (swB (S j).x (S j).s)) (g := fun j => b1 (swB (nx P M S i j).x (nx P M S i j).s)) (i := i) (n := 64) hi fun j _ hne => by
  show b1 (swB (nx P M S i j).x (nx P M S i j).s) = _
  rw [hij j hne]
 have hsum2 : sumI 64 (fun j => b1 (swB (nx P M S i j).x (nx P M S i j).s)) = sumI 64 (fun j => b1 (swB (S j).x (S j).s)) + b1 (swB (Core.step P M (S i).x (S i).s).x (Core.step P M (S i).x (S i).s).s) - b1 (swB (S i).x (S i).s) := by
  have h9 : nx P M S i i = ⟨(Core.step P M (S i).x (S i).s).x, (Core.step P M (S i).x (S i).s).s⟩ := hii
  simp only [h9] at hsum
  exact hsum
 have hcnt := hp.cnt
 have hb : ∀ s ∈ hel P (Core.step P M (S i).x (S i).s).M, 1 ≤ s ∧ s ≤ (Core.step P M (S i).x (S i).s).M.W 33 := fun s hs => by
  cases hpe with
  | calm a b => have := hp.b s (a.mem_iff.1 hs); omega
  | acq a b c d =>
   rcases Q22 (c.mem_iff.1 hs) with hx | hx
   ·have h1 := hpos a b
    have h2 := hS.le i
    omega
   ·have := hp.b s hx; omega
  | rel a b c d => have := hp.b s (c.mem_iff.2 (List.mem_cons_of_mem _ hs)); omega
 have hnd : (hel P (Core.step P M (S i).x (S i).s).M).Nodup := by
  cases hpe with
  | calm a b => exact a.nodup_iff.2 hp.nd
  | acq a b c d => exact c.nodup_iff.2 (List.nodup_cons.2 ⟨hp.pr i hn b (sw0 a), hp.nd⟩)
  | rel a b c d => exact (List.nodup_cons.1 (c.nodup_iff.1 hp.nd)).2
 have hold : ∀ s ∈ R, (1 ≤ s ∧ s ≤ (Core.step P M (S i).x (S i).s).M.W 33) ∧ s ∉ hel P (Core.step P M (S i).x (S i).s).M ∧ ∀ j, (nx P M S i j).s ≠ .none → (nx P M S i j).x.op = 2 → swB (nx P M S i j).x (nx P M S i j).s = false → (nx P M S i j).x.ser ≠ s := fun s hs => by
  obtain ⟨a1, a2, a3⟩ := hp.rl s hs
  refine ⟨by omega, fun hx => ?_, fun j g1 g2 g3 => ?_⟩
  ·cases hpe with
   | calm a b => exact a2 (a.mem_iff.1 hx)
   | acq a b c d =>
    rcases Q22 (c.mem_iff.1 hx) with hx | hx
    ·exact a3 i hn b (sw0 a) hx.symm
    ·exact a2 hx
   | rel a b c d => exact a2 (c.mem_iff.2 (List.mem_cons_of_mem _ hx))
  ·by_cases e : j = i
   ·subst e
    rw [hii] at g1 g2 g3 ⊢
    dsimp only at g1 g2 g3 ⊢
    rw [hop] at g2
    obtain ⟨k1, k2⟩ := own2 g1 g2 g3
    rcases h33 with ⟨a, b⟩ | ⟨a, b, c, d⟩
    ·rw [b]; exact a3 j hn g2 k1
    ·omega
   ·rw [hij j e] at g1 g2 g3 ⊢
    exact a3 j g1 g2 g3
 have hfr' := step_fr hR (M := M) (hI.cw i) hfr (hA.rx i)
 refine ⟨hv, hb, hnd, hpr, fun j g1 => ?_, fun j => ?_, ?_, ?_, ?_⟩
 ·by_cases e : j = i
  ·subst e; rw [hii]; dsimp only; rw [hop, hkn.1, hkn.2.1]; exact hp.q j hn
  ·rw [hij j e] at g1 ⊢; exact hp.q j g1
 ·by_cases e : j = i
  ·subst e; rw [hii]; exact hfr'.1
  ·rw [hij j e]; exact hp.fr j
 ·unfold lF
  split
  ·rename_i h9
   have hh := ret3 h9.1
   rw [h9.2] at hh
   cases hpe with
   | calm a b => have := b hh.symm; omega
   | acq a b c d => omega
   | rel a b c d =>
    have hnm : (S i).x.n ∈ hel P M := c.mem_iff.2 (List.mem_cons_self ..)
    have hnn := (List.nodup_cons.1 (c.nodup_iff.1 hp.nd)).1
    intro s hs
    rcases Q22 hs with rfl | hs
    ·refine ⟨by have := hp.b _ hnm; rw [hmM]; omega, hnn, fun j g1 g2 g3 => ?_⟩
     by_cases e : j = i
     ·subst e; rw [hii] at g2; dsimp only at g2; rw [hop] at g2; omega
     ·rw [hij j e] at g1 g2 g3 ⊢
      exact fun e9 => hp.pr j g1 g2 g3 (by rw [e9]; exact hnm)
    ·exact hold s hs
  ·exact hold
 ·unfold lF
  split
  ·rename_i h9
   have hh := ret3 h9.1
   rw [h9.2] at hh
   cases hpe with
   | calm a b => have := b hh.symm; omega
   | acq a b c d => omega
   | rel a b c d => exact List.nodup_cons.2 ⟨fun hx => (hp.rl _ hx).2.1 (c.mem_iff.2 (List.mem_cons_self ..)), hp.rn⟩
  ·exact hp.rn
 ·rw [hsum2, hmM]
  by_cases h2 : (S i).x.op = 2
  ·have h9 := ret2 h2
   have eR : lF (S i).x (Core.step P M (S i).x (S i).s).r R = R := by unfold lF; rw [if_neg (by omega)]
   have eA : qD (S i).x (Core.step P M (S i).x (S i).s).r A = A + b1 (okD (Core.step P M (S i).x (S i).s).r) := by
    unfold qD b1; cases okD (Core.step P M (S i).x (S i).s).r <;> simp [h2]
   rw [eR, eA]
   cases hpe with
   | calm a b =>
    have e9 : hit M (S i).s = false := by
     cases e : hit M (S i).s with
     | false => rfl
     | true => have := b e; omega
    rw [e9] at h9
    have : b1 false = 0 := rfl
    rw [a.length_eq]; omega
   | acq a b c d =>
    rw [a] at h9
    have : b1 true = 1 := rfl
    rw [c.length_eq, List.length_cons]; omega
   | rel a b c d => omega
  ·have s1 := sw_0 h2 (S i).s
   have s2 := sw_0 (x := (Core.step P M (S i).x (S i).s).x) (by rw [hop]; exact h2) (Core.step P M (S i).x (S i).s).s
   have eA : qD (S i).x (Core.step P M (S i).x (S i).s).r A = A := by unfold qD; rw [if_neg (fun h9 => h2 h9.1)]
   rw [s1, s2, eA]
   by_cases h3 : (S i).x.op = 3
   ·have hh := ret3 h3
    unfold lF
    cases hpe with
    | calm a b =>
     have e9 : hit M (S i).s = false := by
      cases e : hit M (S i).s with
      | false => rfl
      | true => have := b e; omega
     rw [e9] at hh
     rw [hh, if_neg (by simp), a.length_eq]; omega
    | acq a b c d => omega
    | rel a b c d =>
     rw [a] at hh
     rw [hh, if_pos ⟨h3, rfl⟩]
     have := c.length_eq
     rw [List.length_cons] at this ⊢; omega
   ·have eR : lF (S i).x (Core.step P M (S i).x (S i).s).r R = R := by unfold lF; rw [if_neg (fun h9 => h3 h9.1)]
    rw [eR]
    cases hpe with
    | calm a b => rw [a.length_eq]; omega
    | acq a b c d => omega
    | rel a b c d => omega
theorem Pm.start (hQ : OpsPm P V Q) {M : Mc} {S : Nat → Wk} {A : Int} {R : List Int} (hp : Pm sm P V Q M S A R) {i : Nat} (hi : i < 64) (hn : (S i).s = .none) {x : X} (hx : x.ser = 0) (hq : Q x.op x.pol x.key) (ho : 1 ≤ x.op ∧ x.op ≤ 6) :
  Pm sm P V Q M (upd S i ⟨x, first x⟩) A R := by
 have hs0 : swB x (first x) = false := by unfold first; (repeat' split) <;> rfl
 have hpos : (0 : Int) ∉ hel P M := fun h => by have := hp.b _ h; omega
 have at_ : ∀ {q : Wk → Prop}, q ⟨x, first x⟩ → (∀ j, q (S j)) → ∀ j, q (upd S i ⟨x, first x⟩ j) := fun {q} g1 g2 j => by
  by_cases e : j = i
  ·rw [e, upd_same]; exact g1
  ·rw [upd_ne _ _ e]; exact g2 j
 refine ⟨hp.v, hp.b, hp.nd, at_ (q := fun k => k.s ≠ .none → k.x.op = 2 → swB k.x k.s = false → k.x.ser ∉ hel P M) (fun _ _ _ => by dsimp only; rw [hx]; exact hpos) hp.pr, at_ (q := fun k => k.s ≠ .none → Q k.x.op k.x.pol k.x.key) (fun _ => hq) hp.q, at_ (q := fun k => Fr P k.x k.s) ?_ hp.fr, fun s hs => ?_, hp.rn, ?_⟩
 ·show Fr P x (first x)
  unfold first
  split
  ·assumption
  ·split
   ·assumption
   ·exact ⟨by assumption, by assumption⟩
 ·obtain ⟨a, b, c⟩ := hp.rl s hs
  exact ⟨a, b, at_ (q := fun k => k.s ≠ .none → k.x.op = 2 → swB k.x k.s = false → k.x.ser ≠ s) (fun _ _ _ => by dsimp only; rw [hx]; omega) c⟩
 ·have hsum := cS (f := fun j => b1 (swB (S j).x (S j).s)) (g := fun j => b1 (swB (upd S i ⟨x, first x⟩ j).x (upd S i ⟨x, first x⟩ j).s)) (i := i) (n := 64) hi fun j _ hne => by
   show b1 (swB (upd S i ⟨x, first x⟩ j).x (upd S i ⟨x, first x⟩ j).s) = _
   rw [upd_ne _ _ hne]
  have e1 : b1 (swB (S i).x (S i).s) = 0 := by rw [hn]; rfl
  have e2 : b1 (swB (upd S i ⟨x, first x⟩ i).x (upd S i ⟨x, first x⟩ i).s) = 0 := by rw [upd_same]; dsimp only; rw [hs0]; rfl
  have h9 := hp.cnt
  rw [hsum]
  omega
end Core
end
section
section
variable {ys : List Int} {t : Int}
end
end
theorem qb (ps : List Pol) (room : Int) : Core.OpsRe (aa ps room) where
 allow p c t n := rfl
 acq p c n := by
  show (pf p c n).e ≠ 10
  unfold pf
  split
  ·show (0 : Int) ≠ 10; decide
  ·show cA p.permits c.held n ≠ 10
   unfold cA iW
   (repeat' split) <;> omega
 acqs p c n h := by
  replace h : (pf p c n).e = 0 := h
  show (pf p c n).serial = n
  unfold pf at h ⊢
  split
  ·rfl
  ·rename_i h0; rw [if_neg h0] at h; exact absurd h h0
 rel p c n := by
  show (py p c n).e ≠ 10
  unfold py
  split
  ·show (0 : Int) ≠ 10; decide
  ·show c8 p.permits c.held n ≠ 10
   unfold c8 iW
   (repeat' split) <;> omega
 peek p c t := by show (lY p c t).e = 0; unfold lY; split <;> rfl
def Vt (c : Cel) : Prop := (c.pol = 0 ∧ c.held = []) ∨ (c.pol = 1 ∧ iW 2 c.held = 0)
def Qt (op pol : Int) (_ : List Int) : Prop := (op ≤ 4 → pol = 0 ∨ pol = 1) ∧ (op = 2 ∨ op = 3 → pol = 1)
section
namespace Sim
open Dir (upd upd_same upd_ne)
structure gj (c : Req) : Prop where
 chk : lg ak c.op c.pol c.key c.n = 0
 op : 1 ≤ c.op ∧ c.op ≤ 6
 len : c.key.length ≤ 255
 kx : c.op ≠ 5 → c.op ≠ 6 → Core.Kx ak (aH c.op c.pol c.key c.n)
 n : 0 ≤ c.n
structure SI (room : Int) (xs : Nat → XB) (nl : Nat) (s : SS) : Prop where
 law : ej ak room s.k s.M s.S xs nl ((s.k : Int) + 1)
 cok : ∀ j, ∀ c ∈ (s.ws j).left, gj c
 big : ∀ j, 8 ≤ j → (s.S j).s = .none ∧ (s.ws j).left = []
variable {room : Int} {xs : Nat → XB} {nl : Nat} {s : SS}
theorem SI.w8 (h : SI room xs nl s) {w : Nat} (hc : isC (s.S w).s = true) : w < 8 := by
 by_cases e : w < 8
 ·exact e
 ·have := (h.big w (by omega)).1
  rw [this] at hc; cases hc
theorem SI.w8l (h : SI room xs nl s) {w : Nat} {c : Req} {r : List Req} (hl : (s.ws w).left = c :: r) : w < 8 := by
 by_cases e : w < 8
 ·exact e
 ·have := (h.big w (by omega)).2
  rw [this] at hl; cases hl
theorem SI.to (h : SI room xs nl s) {w : Nat} (hw : w < 8) {xs' : Nat → XB} {nl' : Nat} (hL : ej ak room (s.k + 1) (Core.mx (aa ak room) s.M s.S w) (Core.nx (aa ak room) s.M s.S w) xs' nl' ((s.k : Int) + 1 + 1)) :
  SI room xs' nl' (adv (aa ak room) s w) := by
 refine ⟨by show ej ak room (s.k + 1) _ _ _ _ (((s.k + 1 : Nat) : Int) + 1); rw [show (((s.k + 1 : Nat) : Int) + 1) = (s.k : Int) + 1 + 1 by omega]; exact hL, h.cok, fun j hj => ⟨?_, (h.big j hj).2⟩⟩
 show (Core.nx (aa ak room) s.M s.S w j).s = .none
 unfold Core.nx; rw [upd_ne _ _ (by omega)]; exact (h.big j hj).1
theorem SI.beg (h : SI room xs nl s) {w : Nat} {c : Req} {r : List Req} (hl : (s.ws w).left = c :: r) {xs' : Nat → XB} (hL : ej ak room s.k s.M (upd s.S w (newC c)) xs' nl ((s.k : Int) + 1)) : SI room xs' nl (beg s w c r) := by
 have hw := h.w8l hl
 refine ⟨hL, fun j d hd => ?_, fun j hj => ⟨?_, ?_⟩⟩
 ·replace hd : d ∈ (upd s.ws w ⟨r, c, (s.k : Int) + 1⟩ j).left := hd
  by_cases e : j = w
  ·subst e
   rw [upd_same] at hd
   exact h.cok j d (by rw [hl]; exact List.mem_cons_of_mem _ hd)
  ·rw [upd_ne _ _ e] at hd; exact h.cok j d hd
 ·show (upd s.S w (newC c) j).s = .none
  rw [upd_ne _ _ (by omega)]; exact (h.big j hj).1
 ·show (upd s.ws w ⟨r, c, (s.k : Int) + 1⟩ j).left = []
  rw [upd_ne _ _ (by omega)]; exact (h.big j hj).2
theorem SI.tick (h : SI room xs nl s) {t : Int} (ht : 0 ≤ t) : SI room xs nl (tick s t) := by
 have := h.law.clk
 exact ⟨h.law.tick (t := min (s.M.clk + t) 4611686018427387903) (by omega), h.cok, h.big⟩
theorem SI.go (h : SI room xs nl s) (hk : s.k ≤ 900000) (w : Nat) : ∃ xs' nl', SI room xs' nl' (go (aa ak room) s w).1 := by
 unfold Sim.go
 split
 ·rename_i hc
  have hw := h.w8 hc
  exact ⟨_, _, h.to hw (h.law.step (by omega) (.inl hw) hc)⟩
 ·rename_i hc
  have hn : isC (s.S w).s = false := by simpa using hc
  split
  ·exact ⟨xs, nl, h⟩
  ·rename_i c r hl
   have hw := h.w8l hl
   have hok := h.cok w c (by rw [hl]; exact List.mem_cons_self ..)
   have hL := h.law.start (.inl hw) (jA hn) (key := c.key) (n := c.n) hok.kx
   have hb := h.beg hl hL
   have hp : isC ((Sim.beg s w c r).S w).s = true := by
    show isC (upd s.S w (newC c) w).s = true
    rw [upd_same]
    show isC (Core.first (aH c.op c.pol c.key c.n)) = true
    unfold Core.first; (repeat' split) <;> rfl
   exact ⟨_, _, hb.to hw (hb.law.step (by show s.k ≤ 1000000; omega) (.inl hw) hp)⟩
theorem vP (h : SI room xs nl s) {w : Nat} (hc : isC (s.S w).s = true) : mu (adv (aa ak room) s w) w + 1 ≤ mu s w := by
 have hp := Core.T_pos (h.law.all.inv.cw w) (l8 hc)
 show Core.T (Core.nx (aa ak room) s.M s.S w w).x (Core.mx (aa ak room) s.M s.S w).W (Core.nx (aa ak room) s.M s.S w w).s + 166 * (s.ws w).left.length + 1 ≤ _
 unfold mu
 cases hd : (Core.step (aa ak room) s.M (s.S w).x (s.S w).s).r.done with
 | false =>
  have := (Core.alone_T (P := aa ak room) h.law.all.inv (l8 hc) hd).2
  omega
 | true =>
  have e : (Core.nx (aa ak room) s.M s.S w w).s = .none := by unfold Core.nx; rw [upd_same]; exact Core.step_none hd
  rw [e]
  show 0 + _ + 1 ≤ _
  omega
theorem pD (h : SI room xs nl s) {w : Nat} (hg : (go (aa ak room) s w).2 = true) : mu (go (aa ak room) s w).1 w + 1 ≤ mu s w := by
 unfold Sim.go at hg ⊢
 split
 ·rename_i hc; exact vP h hc
 ·rename_i hc
  rw [if_neg hc] at hg
  have hn : isC (s.S w).s = false := by simpa using hc
  split
  ·rename_i hl; rw [hl] at hg; cases hg
  ·rename_i c r hl
   have hok := h.cok w c (by rw [hl]; exact List.mem_cons_self ..)
   have hb := h.beg hl (h.law.start (.inl (h.w8l hl)) (jA hn) (key := c.key) (n := c.n) hok.kx)
   have hp : isC ((Sim.beg s w c r).S w).s = true := by
    show isC (upd s.S w (newC c) w).s = true
    rw [upd_same]
    show isC (Core.first (aH c.op c.pol c.key c.n)) = true
    unfold Core.first; (repeat' split) <;> rfl
   have h1 := vP hb hp
   have h2 : mu (Sim.beg s w c r) w ≤ 165 + 166 * r.length := by
    have := Core.T_le (hb.law.all.inv.cw w)
    unfold mu
    have e : ((Sim.beg s w c r).ws w).left = r := by show (upd s.ws w ⟨r, c, (s.k : Int) + 1⟩ w).left = r; rw [upd_same]
    rw [e]; omega
   have h3 : 166 * (r.length + 1) ≤ mu s w := by unfold mu; rw [hl, List.length_cons]; omega
   show mu (adv (aa ak room) (Sim.beg s w c r) w) w + 1 ≤ mu s w
   omega
theorem vX (P : Core.Ops) (s : SS) (w : Nat) : (go P s w).1.k ≤ s.k + 1 := by
 unfold Sim.go
 split
 ·exact Q4 _
 ·split
  ·exact Nat.le_succ _
  ·exact Q4 _
theorem uW {P : Core.Ops} {s : SS} {w : Nat} (h : (go P s w).2 = false) : isC (s.S w).s = false ∧ (s.ws w).left = [] ∧ (go P s w).1 = s := by
 unfold Sim.go at h ⊢
 split
 ·rename_i hc; rw [if_pos hc] at h; cases h
 ·rename_i hc
  rw [if_neg hc] at h
  split
  ·rename_i hl; exact ⟨by simpa using hc, hl, rfl⟩
  ·rename_i hl; rw [hl] at h; cases h
theorem sO (w : Nat) : ∀ (f : Nat) {xs : Nat → XB} {nl : Nat} {s : SS}, SI room xs nl s → s.k + f ≤ 900000 → mu s w ≤ f →
  (∃ xs' nl', SI room xs' nl' (fin (aa ak room) f s w)) ∧ isC ((fin (aa ak room) f s w).S w).s = false ∧ ((fin (aa ak room) f s w).ws w).left = [] ∧ (fin (aa ak room) f s w).k ≤ s.k + f
 | 0, xs, nl, s, h, hk, hm => by
  have hg : (go (aa ak room) s w).2 = false := by
   cases e : (go (aa ak room) s w).2 with
   | false => rfl
   | true => have := pD h e; omega
  obtain ⟨h1, h2, _⟩ := uW hg
  exact ⟨⟨xs, nl, h⟩, h1, h2, Q4 _⟩
 | f + 1, xs, nl, s, h, hk, hm => by
  unfold fin
  cases e : (go (aa ak room) s w).2 with
  | false =>
   obtain ⟨h1, h2, _⟩ := uW e
   rw [if_neg (by decide)]
   exact ⟨⟨xs, nl, h⟩, h1, h2, Nat.le_add_right _ _⟩
  | true =>
   rw [if_pos rfl]
   obtain ⟨xs', nl', h'⟩ := h.go (by omega) w
   have h1 := pD h e
   have h2 := vX (aa ak room) s w
   obtain ⟨a, b, c, d⟩ := sO w f h' (by omega) (by omega)
   exact ⟨a, b, c, by omega⟩
def muS (s : SS) : Nat → Nat
 | 0 => 0
 | n + 1 => muS s n + (165 + 166 * (s.ws n).left.length)
theorem mu_le (h : SI room xs nl s) (w : Nat) : mu s w ≤ 165 + 166 * (s.ws w).left.length := by
 have := Core.T_le (h.law.all.inv.cw w)
 unfold mu; omega
theorem gN (b : Bool) : ∀ (n : Nat) {xs : Nat → XB} {nl : Nat} {s : SS}, SI room xs nl s → s.k + muS s n ≤ 900000 →
  (∃ xs' nl', SI room xs' nl' (fins (aa ak room) b n s)) ∧ (fins (aa ak room) b n s).k ≤ s.k + muS s n ∧ (b = true → ∀ j, j < n → isC ((fins (aa ak room) b n s).S j).s = false ∧ ((fins (aa ak room) b n s).ws j).left = [])
 | 0, xs, nl, s, h, hk => ⟨⟨xs, nl, h⟩, Q4 _, fun _ j hj => by omega⟩
 | n + 1, xs, nl, s, h, hk => by
  simp only [muS] at hk
  obtain ⟨⟨xs1, nl1, h1⟩, h2, h3⟩ := gN b n h (by omega)
  unfold fins
  cases b with
  | false =>
   rw [if_neg (by decide)]
   refine ⟨⟨xs1, nl1, h1⟩, by simp only [muS]; omega, fun e => by cases e⟩
  | true =>
   rw [if_pos rfl]
   have ho := fa (P := aa ak room) true n s n (Q4 _)
   have hm := mu_le h1 n
   rw [ho.2] at hm
   obtain ⟨a, b, c, d⟩ := sO n (mu (fins (aa ak room) true n s) n) h1 (by omega) (Q4 _)
   refine ⟨a, by simp only [muS]; omega, fun _ j hj => ?_⟩
   by_cases e : j = n
   ·subst e; exact ⟨b, c⟩
   ·have g := nE (P := aa ak room) (w := n) (j := j) e (mu (fins (aa ak room) true n s) n) (fins (aa ak room) true n s)
    obtain ⟨g1, g2⟩ := h3 rfl j (by omega)
    exact ⟨by rw [g.1]; exact g1, by rw [g.2]; exact g2⟩
theorem oh {n : Nat} : ∀ (l : List (Int × Int)) {xs : Nat → XB} {nl : Nat} {s : SS}, SI room xs nl s → s.k + l.length ≤ 900000 → (∀ p ∈ l, p.1 = -1 → 0 ≤ p.2) → (∃ xs' nl', SI room xs' nl' (picks (aa ak room) s l)) ∧ (picks (aa ak room) s l).k ≤ s.k + l.length
 | [], xs, nl, s, h, _, _ => ⟨⟨xs, nl, h⟩, Q4 _⟩
 | p :: l, xs, nl, s, h, hk, hp => by
  rw [List.length_cons] at hk ⊢
  have h1 : (∃ xs' nl', SI room xs' nl' (pick (aa ak room) s p)) ∧ (pick (aa ak room) s p).k ≤ s.k + 1 := by
   unfold pick
   split
   ·exact ⟨⟨xs, nl, h.tick (hp p (List.mem_cons_self ..) (by assumption))⟩, Nat.le_succ _⟩
   ·exact ⟨h.go (by omega) _, vX _ _ _⟩
  obtain ⟨⟨xs', nl', h'⟩, h2⟩ := h1
  obtain ⟨a, b⟩ := oh (n := n) l h' (by omega) (fun q hq => hp q (List.mem_cons_of_mem _ hq))
  exact ⟨a, by show (picks (aa ak room) (pick (aa ak room) s p) l).k ≤ _; omega⟩
theorem SI.zero (hr : 1 ≤ room ∧ room ≤ 4096) {work : List (List Req)} (hw : work.length ≤ 8 ∨ ∀ j, 8 ≤ j → work.getD j [] = []) (hc : ∀ w ∈ work, ∀ c ∈ w, gj c) : SI room xs0 (az 0) (ss0 work) := by
 refine ⟨ej.zero mU hr, fun j c h => ?_, fun j hj => ⟨rfl, ?_⟩⟩
 ·replace h : c ∈ work.getD j [] := h
  rw [Q1] at h
  cases e : work[j]? with
  | none => rw [e] at h; cases h
  | some w => rw [e] at h; exact hc w (List.mem_of_getElem? e) c h
 ·show work.getD j [] = []
  rcases hw with hw | hw
  ·rw [Q1, List.getElem?_eq_none (by omega)]; rfl
  ·exact hw j hj
end Sim
end
end Go.Proofs.YtpdhdnhkhidmpaaGreat
