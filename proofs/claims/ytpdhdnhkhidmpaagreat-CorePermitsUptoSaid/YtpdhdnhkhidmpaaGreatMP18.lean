/- Parts of the proof, one behind the other: Ct2, Ct3, Ct4, Cw2p. Lemmas and contracts of functions; no condition of its own. -/
import Derived.Test.YtpdhdnhkhidmpaaGreatMP17
set_option linter.unusedVariables false
set_option linter.unusedSimpArgs false
namespace Go.Proofs.YtpdhdnhkhidmpaaGreat
namespace Core
open Dir (FZ plc upd upW Iw okW di upd_same upd_ne pow_pos2)
open Hm (bc)
variable {sm : List Int → Int} {P : Ops}
def hel (P : Ops) (M : Mc) : List Int := (allE P M).flatMap (·.held)
theorem bl (hP : OpsOk sm P) {M : Mc} {B : Int} (h : Iw M.W B) (hI : Ih sm M) : (allE P M).Nodup := by
 rw [List.nodup_iff_pairwise_ne]
 exact (all_ok hP h hI).1.imp fun {a b} hab e => hab (by rw [e])
theorem ux (hP : OpsOk sm P) {M M' : Mc} {B B' : Int} (h : Iw M.W B) (hI : Ih sm M) (h' : Iw M'.W B') (hI' : Ih sm M') (ho : ∀ k, own sm M' k = own sm M k) : (allE P M').Perm (allE P M) := by
 refine (List.perm_ext_iff_of_nodup (bl hP h' hI') (bl hP h hI)).2 fun c => ?_
 rw [(all_ok hP h' hI').2, (all_ok hP h hI).2, ho]
theorem all_put (hP : OpsOk sm P) {M M' : Mc} {B B' : Int} (h : Iw M.W B) (hI : Ih sm M) (h' : Iw M'.W B') (hI' : Ih sm M') {k0 : List Int} {c : Cel} (ho : ∀ k, own sm M' k = if k = k0 then some c else own sm M k) :
  ∃ F, (allE P M').Perm (c :: F) ∧ (allE P M).Perm ((own sm M k0).toList ++ F) := by
 have hk : idn c = k0 := fF (by rw [ho, if_pos rfl] : own sm M' k0 = some c)
 have hF : ((allE P M).filter fun e => decide (idn e ≠ k0)).Nodup := (bl hP h hI).filter _
 have hm : ∀ e, e ∈ (allE P M).filter (fun e => decide (idn e ≠ k0)) ↔ own sm M (idn e) = some e ∧ idn e ≠ k0 := fun e => by
  rw [List.mem_filter, (all_ok hP h hI).2, decide_eq_true_eq]
 refine ⟨_, (List.perm_ext_iff_of_nodup (bl hP h' hI') (List.nodup_cons.2 ⟨fun h9 => ((hm c).1 h9).2 hk, hF⟩)).2 fun e => ?_, (List.perm_ext_iff_of_nodup (bl hP h hI) (List.nodup_append.2 ⟨?_, hF, fun a ha b hb e => ?_⟩)).2 fun e => ?_⟩
 ·rw [(all_ok hP h' hI').2, ho, List.mem_cons, hm]
  by_cases e1 : idn e = k0
  ·rw [if_pos e1]
   constructor
   ·intro h9; cases h9; exact .inl rfl
   ·rintro (h9 | h9)
    ·rw [h9]
    ·exact absurd e1 h9.2
  ·rw [if_neg e1]
   constructor
   ·exact fun h9 => .inr ⟨h9, e1⟩
   ·rintro (h9 | h9)
    ·rw [h9] at e1; exact absurd hk e1
    ·exact h9.1
 ·cases own sm M k0 <;> simp
 ·subst e
  have h1 := (hm a).1 hb
  cases e2 : own sm M k0 with
  | none => rw [e2] at ha; simp at ha
  | some d =>
   rw [e2] at ha
   obtain rfl : a = d := by simpa using ha
   exact h1.2 (fF e2)
 ·rw [(all_ok hP h hI).2, List.mem_append, hm]
  constructor
  ·intro h9
   by_cases e1 : idn e = k0
   ·left; rw [← e1, h9]; simp
   ·exact .inr ⟨h9, e1⟩
  ·rintro (h9 | h9)
   ·cases e2 : own sm M k0 with
    | none => rw [e2] at h9; simp at h9
    | some d =>
     rw [e2] at h9
     obtain rfl : e = d := by simpa using h9
     rw [fF e2, e2]
   ·exact h9.1
theorem sA (hP : OpsOk sm P) {M M' : Mc} {B B' : Int} (h : Iw M.W B) (hI : Ih sm M) (h' : Iw M'.W B') (hI' : Ih sm M') {w : Nat} (hw : 1 ≤ w ∧ w < 32) {t : Int}
  (ho : ∀ k, own sm M' k = if bc M.W (sm k) = w then look (gt P (M.Hd w) t) k else own sm M k) :
  ∃ G, (allE P M).Perm (allE P M' ++ G) ∧ ∀ c ∈ G, own sm M (idn c) = some c ∧ P.idle c t = true := by
 have hs : Srt (M.Hd w) := hI.word hw
 have hr : Srt (gt P (M.Hd w) t) := hs.filter _
 have hb : ∀ e, own sm M' (idn e) = some e ↔ own sm M (idn e) = some e ∧ ¬ (bc M.W (sm (idn e)) = w ∧ P.idle e t = true) := fun e => by
  rw [ho]
  by_cases e1 : bc M.W (sm (idn e)) = w
  ·rw [if_pos e1]
   have : own sm M (idn e) = look (M.Hd w) (idn e) := by unfold own; rw [e1]
   rw [this, dB hr, dB hs]
   show e ∈ (M.Hd w).filter _ ↔ _
   rw [List.mem_filter]
   simp [e1]
  ·rw [if_neg e1]; simp [e1]
 refine ⟨(allE P M).filter fun e => decide (bc M.W (sm (idn e)) = w) && P.idle e t, (List.perm_ext_iff_of_nodup (bl hP h hI) (List.nodup_append.2 ⟨bl hP h' hI', (bl hP h hI).filter _, fun a ha b hb2 e => ?_⟩)).2 fun e => ?_, fun c hc => ?_⟩
 ·subst e
  rw [(all_ok hP h' hI').2, hb] at ha
  have := (List.mem_filter.1 hb2).2
  simp only [Bool.and_eq_true, decide_eq_true_eq] at this
  exact ha.2 this
 ·rw [List.mem_append, (all_ok hP h' hI').2, hb, List.mem_filter, (all_ok hP h hI).2]
  simp only [Bool.and_eq_true, decide_eq_true_eq]
  constructor
  ·intro h9
   by_cases e1 : bc M.W (sm (idn e)) = w ∧ P.idle e t = true
   ·exact .inr ⟨h9, e1⟩
   ·exact .inl ⟨h9, e1⟩
  ·rintro (h9 | h9) <;> exact h9.1
 ·obtain ⟨h1, h2⟩ := List.mem_filter.1 hc
  simp only [Bool.and_eq_true, decide_eq_true_eq] at h2
  exact ⟨((all_ok hP h hI).2 c).1 h1, h2.2⟩
structure OpsPm (P : Ops) (V : Cel → Prop) (Q : Int → Int → List Int → Prop) : Prop where
 new : ∀ op pol key, op = 1 ∨ op = 2 ∨ op = 3 → Q op pol key → V ⟨pol, key, 0, []⟩
 allow : ∀ p c t n, V c → V (P.allow p c t n).2 ∧ (P.allow p c t n).2.held = c.held
 acq : ∀ key c n, Q 2 c.pol key → V c → n ∉ c.held → 1 ≤ n → n ≤ MAX → (c.held.length : Int) ≠ (P.pol c.pol).permits →
  (P.acq (P.pol c.pol) c n).1.e = 0 ∧ (P.acq (P.pol c.pol) c n).1.g = true ∧ V (P.acq (P.pol c.pol) c n).2 ∧ (P.acq (P.pol c.pol) c n).2.held.Perm (n :: c.held)
 rel : ∀ key c n, Q 3 c.pol key → V c → (P.rel (P.pol c.pol) c n).1.e = 0 → V (P.rel (P.pol c.pol) c n).2 ∧ c.held.Perm (n :: (P.rel (P.pol c.pol) c n).2.held)
 idle : ∀ c t, V c → P.idle c t = true → c.held = []
variable {V : Cel → Prop} {Q : Int → Int → List Int → Prop}
def hit (M : Mc) : CS → Bool
 | .pS f _ _ => M.W f.w == f.v
 | _ => false
inductive PE (P : Ops) (M : Mc) (x : X) (s : CS) (M' : Mc) : Prop
 | calm (h : (hel P M').Perm (hel P M)) (ho : hit M s = true → x.op = 1)
 | acq (hh : hit M s = true) (ho : x.op = 2) (h : (hel P M').Perm (x.ser :: hel P M)) (hr : ∀ f c r, s = .pS f c r → r.e = 0)
 | rel (hh : hit M s = true) (ho : x.op = 3) (h : (hel P M).Perm (x.n :: hel P M')) (hr : ∀ f c r, s = .pS f c r → r.e = 0)
theorem mem_hel (hP : OpsOk sm P) {M : Mc} {B : Int} (h : Iw M.W B) (hI : Ih sm M) {k : List Int} {c : Cel} (hk : own sm M k = some c) {n : Int} (hn : n ∈ c.held) : n ∈ hel P M :=
 List.mem_flatMap.2 ⟨c, ((all_ok hP h hI).2 c).2 (by rw [fF hk]; exact hk), hn⟩
theorem step_pm (hP : OpsOk sm P) (hQ : OpsPm P V Q) {M : Mc} {B : Int} (h : Iw M.W B) (hB : 1 ≤ B ∧ B + 1 < FZ) {x : X} (hx : 0 ≤ x.ser) (h33 : 0 ≤ M.W 33) {s : CS} (hs : Cw x M.W s) (hI : Ih sm M) (hc : Ch sm P x M s) (hf : Fr P x s)
  (hV : ∀ k c, own sm M k = some c → V c) (hq : s ≠ .none → Q x.op x.pol x.key) (hm : x.ser ≤ MAX) (hnew : x.op = 2 → hit M s = true → x.ser ∉ hel P M) :
  (∀ k c, own sm (step P M x s).M k = some c → V c) ∧ PE P M x s (step P M x s).M := by
 have he := jY hP h hB hs hI hc
 have iw' := (cF (P := P) h hB hx h33 hs).iw
 have ih' := he.ih
 cases he.own with
 | calm hd ho hn =>
  refine ⟨fun k c hk => hV k c (by rw [← ho]; exact hk), .calm ((ux hP h hI iw' ih' ho).flatMap_right _) fun h9 => ?_⟩
  cases s with
  | pS f c r => exact absurd (by simpa [hit] using h9) (hn f c r rfl)
  | _ => simp [hit] at h9
 | put f c r e hw h0 ho =>
  subst e
  have hk : Kd sm P x M f := hc.1
  have hhit : hit M (.pS f c r) = true := by simpa [hit] using hw
  have hq := hq (by simp)
  have hcell : f.cell = (own sm M (x.pol :: x.key)).getD ⟨x.pol, x.key, 0, []⟩ := by
   rw [h0]
   have := (hP.fnd f.h x.pol x.key hk.srt hk.k.1).2
   rw [← this, hk.fd]; rfl
  have hid : idn f.cell = x.pol :: x.key := Kd.cell hP hk
  have hpol : f.cell.pol = x.pol := by
   have h9 : f.cell.pol :: f.cell.key = x.pol :: x.key := hid
   exact (List.cons.inj h9).1
  have hop : x.op = 1 ∨ x.op = 2 ∨ x.op = 3 := by
   rcases hf with a | a | a
   ·exact .inl a.1
   ·exact .inr (.inl a.1)
   ·exact .inr (.inr a.1)
  have hVf : V f.cell := by
   rw [hcell]
   cases e2 : own sm M (x.pol :: x.key) with
   | none => exact hQ.new _ _ _ hop hq
   | some d => exact hV _ _ e2
  have hmem : ∀ n, n ∈ f.cell.held → n ∈ hel P M := fun n hn => by
   rw [hcell] at hn
   cases e2 : own sm M (x.pol :: x.key) with
   | none => rw [e2] at hn; simp at hn
   | some d => rw [e2] at hn; exact mem_hel hP h hI e2 hn
  obtain ⟨F, p1, p2⟩ := all_put hP h hI iw' ih' ho
  have q1 : (hel P (step P M x (.pS f c r)).M).Perm (c.held ++ F.flatMap (·.held)) := by
   have := p1.flatMap_right (·.held)
   rwa [List.flatMap_cons] at this
  have q2 : (hel P M).Perm (f.cell.held ++ F.flatMap (·.held)) := by
   have h9 := p2.flatMap_right (·.held)
   rw [List.flatMap_append] at h9
   have e9 : (own sm M (x.pol :: x.key)).toList.flatMap (·.held) = f.cell.held := by
    rw [hcell]
    cases e2 : own sm M (x.pol :: x.key) with
    | none => rfl
    | some d => simp
   rw [e9] at h9; exact h9
  have vv : V c → ∀ k d, own sm (step P M x (.pS f c r)).M k = some d → V d := fun hc9 k d hk9 => by
   rw [ho] at hk9
   split at hk9
   ·cases hk9; exact hc9
   ·exact hV _ _ hk9
  rcases hf with ⟨h1, ⟨t, ht⟩, h3, h4⟩ | ⟨h1, h2, h3, h4⟩ | ⟨h1, h2, h3⟩
  ·have g := hQ.allow (P.pol x.pol) f.cell t x.n hVf
   rw [ht] at g
   have g2 : c.held = f.cell.held := g.2
   refine ⟨vv g.1, .calm ?_ fun _ => h1⟩
   rw [g2] at q1
   exact q1.trans q2.symm
  ·have g := hQ.acq x.key f.cell x.ser (by rw [hpol, ← h1]; exact hq) hVf (fun h9 => hnew h1 hhit (hmem _ h9)) (by omega) hm (by rw [hpol]; exact h2)
   rw [hpol, h3] at g
   refine ⟨vv g.2.2.1, .acq hhit h1 ?_ fun f' c' r' e => by cases e; exact g.1⟩
   refine q1.trans (((g.2.2.2 : c.held.Perm (x.ser :: f.cell.held)).append_right _).trans ?_)
   exact (q2.symm.cons x.ser)
  ·have g := hQ.rel x.key f.cell x.n (by rw [hpol, ← h1]; exact hq) hVf (by rw [hpol, h2]; exact h3)
   rw [hpol, h2] at g
   refine ⟨vv g.1, .rel hhit h1 ?_ fun f' c' r' e => by cases e; exact h3⟩
   refine q2.trans (((g.2 : f.cell.held.Perm (x.n :: c.held)).append_right _).trans ?_)
   exact (q1.symm.cons x.n)
 | evict j sh g w v m n e hw t ht hm' hn ho =>
  subst e
  have hw2 : 1 ≤ w ∧ w < 32 := ⟨hs.2.2.1, hs.2.2.2.1⟩
  obtain ⟨G, p1, p2⟩ := sA hP h hI iw' ih' hw2 (t := t) fun k => by rw [ho, hm']
  refine ⟨fun k c hk => ?_, .calm ?_ fun h9 => by simp [hit] at h9⟩
  ·have h1 := ((all_ok hP iw' ih').2 c).2 (by rw [fF hk]; exact hk)
   have h2 := p1.mem_iff.2 (List.mem_append_left G h1)
   exact hV _ _ (((all_ok hP h hI).2 c).1 h2)
  ·have h9 := p1.flatMap_right (·.held)
   rw [List.flatMap_append] at h9
   have e9 : G.flatMap (·.held) = [] := by
    rw [List.flatMap_eq_nil_iff]
    intro c hc
    obtain ⟨g1, g2⟩ := p2 c hc
    exact hQ.idle c t (hV _ _ g1) g2
   rw [e9, List.append_nil] at h9
   exact h9.symm
def swB (x : X) : CS → Bool
 | .b0 _ (.lv r) => x.op == 2 && r.e == 0
 | .b1 _ (.lv r) _ => x.op == 2 && r.e == 0
 | _ => false
def okD (r : Rs) : Bool := r.done && r.r.e == 0
def b1 (b : Bool) : Int := if b = true then 1 else 0
theorem ko {x : X} (h : x.op = 2) (r : Rpl) : b1 (swB x (leave x r).1) + b1 (okD (leave x r).2) = if r.e = 0 then 1 else 0 := by
 unfold leave
 by_cases e : x.res = true
 ·rw [if_pos e]; simp [swB, okD, r0, h, b1]
 ·rw [if_neg e]; simp [swB, okD, b1]
theorem uG (x y : X) (f : Fd) (c : Cel) (r : Rpl) : swB x (put y f c r) = false := by unfold put; split <;> rfl
theorem pg {x : X} (h : x.op = 2) {f : Fc} (hf : Fo x f) (w : Nat) (v : Int) (l : List Cel) : swB x (entered P x f w v l).1 = false ∧ okD (entered P x f w v l).2 = false ∨ b1 (swB x (entered P x f w v l).1) + b1 (okD (entered P x f w v l).2) = 0 := by
 unfold entered
 split
 ·exact .inl ⟨rfl, rfl⟩
 ·unfold found
  cases f with
  | key =>
   show swB x (foundK P x (fdOf P x w v l)).1 = false ∧ okD (foundK P x (fdOf P x w v l)).2 = false ∨ b1 (swB x (foundK P x (fdOf P x w v l)).1) + b1 (okD (foundK P x (fdOf P x w v l)).2) = 0
   unfold foundK
   rw [if_neg (by omega), if_pos h]
   split
   ·right; rw [ko h]; rfl
   ·split
    ·exact .inl ⟨uG _ _ _ _ _, rfl⟩
    ·exact .inl ⟨rfl, rfl⟩
  | ev j sh g => have : x.op = 5 := hf; omega
theorem b1_0 {a b : Bool} (h : a = false ∧ b = false ∨ b1 a + b1 b = 0) : b1 a + b1 b = 0 := by
 rcases h with ⟨h1, h2⟩ | h
 ·rw [h1, h2]; rfl
 ·exact h
theorem qb {M : Mc} {x : X} {s : CS} (h : Fr P x s) (ho : x.op = 2) (hp : hit M s = true → ∀ f c r, s = .pS f c r → r.e = 0) :
  b1 (swB (step P M x s).x (step P M x s).s) + b1 (okD (step P M x s).r) = b1 (swB x s) + b1 (hit M s) := by
 have no5 : ∀ {q : Prop}, x.op = 5 → q := fun e => by omega
 have no6 : ∀ {q : Prop}, x.op = 6 → q := fun e => by omega
 have no1 : ∀ {q : Prop}, x.op = 1 → q := fun e => by omega
 have en : ∀ {f : Fc} (hf : Fo x f) (w : Nat) (v : Int) (l : List Cel), b1 (swB x (entered P x f w v l).1) + b1 (okD (entered P x f w v l).2) = 0 := fun hf w v l => b1_0 (pg ho hf w v l)
 cases s with
 | none => rfl
 | k0 f => simp only [step]; split <;> rfl
 | kE f w => exact en h _ _ _
 | kF f lv w => simp only [step]; split <;> rfl
 | kG f lv w v m => simp only [step]; split <;> rfl
 | kH f lv w m =>
  simp only [step]; split
  ·rfl
  ·exact en h _ _ _
 | kL f lv w m => rfl
 | al f => exact no1 h
 | pk c => exact absurd ho h.2.1
 | a0 f =>
  simp only [step]; split
  ·show b1 (swB x (leave x (er 5)).1) + b1 (okD (leave x (er 5)).2) = 0
   rw [ko ho]; rfl
  ·rfl
 | a1 f u =>
  simp only [step]; split
  ·show b1 (swB _ (put x f _ _)) + b1 (okD r0) = 0
   rw [uG]; rfl
  ·rfl
 | p0 f c r => simp only [step]; split <;> rfl
 | p1 f c r u => simp only [step]; split <;> rfl
 | pS f c r =>
  by_cases hm : M.W f.w = f.v
  ·have hr := hp (by simpa [hit] using hm) f c r rfl
   simp only [step, if_pos hm]
   show b1 (swB x (if f.there = true then leave x r else (.none, ⟨true, r⟩) : CS × Rs).1) + b1 (okD (if f.there = true then leave x r else (.none, ⟨true, r⟩) : CS × Rs).2) = 0 + b1 (M.W f.w == f.v)
   have e1 : b1 (M.W f.w == f.v) = 1 := by simp [hm, b1]
   rw [e1]
   split
   ·rw [ko ho, if_pos hr]; rfl
   ·simp [swB, okD, hr, b1]
  ·simp only [step, if_neg hm]
   have e1 : b1 (M.W f.w == f.v) = 0 := by simp [hm, b1]
   show 0 + 0 = 0 + b1 (M.W f.w == f.v)
   rw [e1]
 | b0 n k => cases k <;> rfl
 | b1 n k u =>
  simp only [step]; split
  ·cases k with
   | lv r => show b1 (swB x .none) + b1 (okD ⟨true, r⟩) = b1 (x.op == 2 && r.e == 0) + 0; simp [swB, okD, ho, b1]
   | ev j sh g => exact no5 h
  ·cases k <;> rfl
 | e0 => exact no5 h
 | eC j sh g w v m => exact no5 h
 | eS j sh g w v m n => exact no5 h
 | s0 => exact no6 h
 | sM lv => exact no6 h
 | sF lv i => exact no6 h
 | sG lv i v m => exact no6 h
 | sH lv i up m => exact no6 h
 | sL lv i up m => exact no6 h
 | sV lv => exact no6 h
end Core
end Go.Proofs.YtpdhdnhkhidmpaaGreat

namespace Go.Proofs.YtpdhdnhkhidmpaaGreat
namespace Core
open Dir (FZ plc upd upW Iw okW di upd_same upd_ne pow_pos2)
open Hm (bc)
variable {sm : List Int → Int} {P : Ops} {V : Cel → Prop} {Q : Int → Int → List Int → Prop}
theorem iF {x : X} (h : x.op = 3) {f : Fc} (hf : Fo x f) (w : Nat) (v : Int) (l : List Cel) : okD (entered P x f w v l).2 = false := by
 unfold entered
 split
 ·rfl
 ·unfold found
  cases f with
  | key =>
   show okD (foundK P x (fdOf P x w v l)).2 = false
   unfold foundK
   rw [if_neg (by omega), if_neg (by omega), if_pos h]
   split
   ·rfl
   ·rename_i h9; simp [okD, h9]
  | ev j sh g => have : x.op = 5 := hf; omega
theorem qa {M : Mc} {x : X} {s : CS} (hs : Cw x M.W s) (h : Fr P x s) (hr : Rx x s) (ho : x.op = 3) : okD (step P M x s).r = hit M s := by
 have no5 : ∀ {q : Prop}, x.op = 5 → q := fun e => by omega
 have no6 : ∀ {q : Prop}, x.op = 6 → q := fun e => by omega
 have no1 : ∀ {q : Prop}, x.op = 1 → q := fun e => by omega
 have no2 : ∀ {q : Prop}, x.op = 2 → q := fun e => by omega
 have nres : x.res = false := by
  cases e : x.res with
  | false => rfl
  | true => rcases hr.op e with h9 | h9 <;> omega
 cases s with
 | none => rfl
 | k0 f => rfl
 | kE f w => exact iF ho h _ _ _
 | kF f lv w => rfl
 | kG f lv w v m => simp only [step]; split <;> rfl
 | kH f lv w m =>
  simp only [step]; split
  ·rfl
  ·exact iF ho h _ _ _
 | kL f lv w m => rfl
 | al f => exact no1 h
 | pk c => exact absurd ho h.2.2.1
 | a0 f => exact no2 h.1
 | a1 f u => exact no2 h.1
 | p0 f c r => simp only [step]; split <;> rfl
 | p1 f c r u => simp only [step]; split <;> rfl
 | pS f c r =>
  have hr0 : r.e = 0 := by
   rcases h with ⟨a, _⟩ | ⟨a, _⟩ | ⟨_, _, a⟩
   ·exact no1 a
   ·exact no2 a
   ·exact a
  by_cases hm : M.W f.w = f.v
  ·simp only [step, if_pos hm]
   have e1 : hit M (.pS f c r) = true := by simpa [hit] using hm
   rw [e1]
   show okD (if f.there = true then leave x r else (.none, ⟨true, r⟩) : CS × Rs).2 = true
   split
   ·unfold leave; rw [if_neg (by simp [nres])]; simp [okD, hr0]
   ·simp [okD, hr0]
  ·simp only [step, if_neg hm]
   have e1 : hit M (.pS f c r) = false := by simpa [hit] using hm
   rw [e1]; rfl
 | b0 n k =>
  cases k with
  | lv r => rcases h.1 with ⟨a, _⟩ | ⟨a, _⟩; exact no1 a; exact no2 a
  | ev j sh g => exact no5 h
 | b1 n k u =>
  cases k with
  | lv r => rcases h.1 with ⟨a, _⟩ | ⟨a, _⟩; exact no1 a; exact no2 a
  | ev j sh g => exact no5 h
 | e0 => exact no5 h
 | eC j sh g w v m => exact no5 h
 | eS j sh g w v m n => exact no5 h
 | s0 => exact no6 h
 | sM lv => exact no6 h
 | sF lv i => exact no6 h
 | sG lv i v m => exact no6 h
 | sH lv i up m => exact no6 h
 | sL lv i up m => exact no6 h
 | sV lv => exact no6 h
structure Pm (sm : List Int → Int) (P : Ops) (V : Cel → Prop) (Q : Int → Int → List Int → Prop) (M : Mc) (S : Nat → Wk) (A : Int) (R : List Int) : Prop where
 v : ∀ k c, own sm M k = some c → V c
 b : ∀ s ∈ hel P M, 1 ≤ s ∧ s ≤ M.W 33
 nd : (hel P M).Nodup
 pr : ∀ i, (S i).s ≠ .none → (S i).x.op = 2 → swB (S i).x (S i).s = false → (S i).x.ser ∉ hel P M
 q : ∀ i, (S i).s ≠ .none → Q (S i).x.op (S i).x.pol (S i).x.key
 fr : ∀ i, Fr P (S i).x (S i).s
 rl : ∀ s ∈ R, (1 ≤ s ∧ s ≤ M.W 33) ∧ s ∉ hel P M ∧ ∀ i, (S i).s ≠ .none → (S i).x.op = 2 → swB (S i).x (S i).s = false → (S i).x.ser ≠ s
 rn : R.Nodup
 cnt : ((hel P M).length : Int) = A + sumI 64 (fun i => b1 (swB (S i).x (S i).s)) - R.length
def tellA (x : X) (r : Rs) (A : Int) : Int := if x.op = 2 ∧ okD r = true then A + 1 else A
def tellR (x : X) (r : Rs) (R : List Int) : List Int := if x.op = 3 ∧ okD r = true then x.n :: R else R
theorem step_kn (M : Mc) (x : X) (s : CS) : (Core.step P M x s).x.pol = x.pol ∧ (Core.step P M x s).x.key = x.key ∧ (Core.step P M x s).x.n = x.n := by
 cases s with
 | s0 => simp only [step]; split; exact ⟨rfl, rfl, rfl⟩; split <;> exact ⟨rfl, rfl, rfl⟩
 | _ => (first | exact ⟨rfl, rfl, rfl⟩ | (simp only [step]; split <;> exact ⟨rfl, rfl, rfl⟩))
theorem swB_2 {x : X} {s : CS} (h : swB x s = true) : x.op = 2 := by
 cases s with
 | b0 n k => cases k <;> simp [swB] at h; exact h.1
 | b1 n k u => cases k <;> simp [swB] at h; exact h.1
 | _ => simp [swB] at h
theorem swB_b {x : X} {s : CS} (h : swB x s = true) (M : Mc) : hit M s = false ∧ s ≠ .none := by
 cases s with
 | b0 n k => exact ⟨rfl, by simp⟩
 | b1 n k u => exact ⟨rfl, by simp⟩
 | _ => simp [swB] at h
end Core
end Go.Proofs.YtpdhdnhkhidmpaaGreat

namespace Go.Proofs.YtpdhdnhkhidmpaaGreat
namespace Core
open Dir (FZ plc upd upW Iw okW di upd_same upd_ne pow_pos2)
open Hm (bc)
variable {sm : List Int → Int} {P : Ops} {V : Cel → Prop} {Q : Int → Int → List Int → Prop}
theorem b1_bd (b : Bool) : 0 ≤ b1 b ∧ b1 b ≤ 1 := by unfold b1; split <;> omega
theorem b1_z {b : Bool} (h : b1 b = 0) : b = false := by cases b with
 | false => rfl
 | true => simp [b1] at h
theorem sw_0 {x : X} (h : x.op ≠ 2) (s : CS) : swB x s = false := by
 cases e : swB x s with
 | false => rfl
 | true => exact absurd (swB_2 e) h
theorem tC {M : Mc} {x : X} {s : CS} (h : (Core.step P M x s).s ≠ .none) : okD (Core.step P M x s).r = false := by
 cases e : (Core.step P M x s).r.done with
 | false => unfold okD; rw [e]; rfl
 | true => exact absurd (step_none e) h
theorem hit_acq {M M' : Mc} {x : X} {s : CS} (h : PE P M x s M') (h2 : x.op = 2) (hh : hit M s = true) : ∀ f c r, s = .pS f c r → r.e = 0 := by
 cases h with
 | calm a b => have := b hh; omega
 | acq a b c d => exact d
 | rel a b c d => omega
theorem Pm.step (hP : OpsOk sm P) (hQ : OpsPm P V Q) (hR : OpsRe P) {M : Mc} {S : Nat → Wk} {B : Int} (hA : All sm P M S B) (hB : B + 1 < FZ) {G : List Int} (hS : Sers M S G) (hM : M.W 33 ≤ MAX) {A : Int} {R : List Int} (hp : Pm sm P V Q M S A R) {i : Nat} (hi : i < 64) (hn : (S i).s ≠ .none) :
  Pm sm P V Q (mx P M S i) (nx P M S i) (tellA (S i).x (Core.step P M (S i).x (S i).s).r A) (tellR (S i).x (Core.step P M (S i).x (S i).s).r R) := by
 have hI := hA.inv
 have hfr := hp.fr i
 have sw0 : hit M (S i).s = true → swB (S i).x (S i).s = false := fun hh => by
  cases e : swB (S i).x (S i).s with
  | false => rfl
  | true => rw [(swB_b e M).1] at hh; cases hh
 obtain ⟨hv, hpe⟩ := step_pm hP hQ hI.iw ⟨hI.b, hB⟩ (hI.ser i) hI.c33 (hI.cw i) hA.ih (hA.ch i) hfr hp.v (hp.q i) (by have := hS.le i; omega) (fun h2 hh => hp.pr i hn h2 (sw0 hh))
 have h33 := fw (P := P) hI.iw ⟨hI.b, hB⟩ (hI.ser i) hI.c33 (hI.cw i)
 have hle : M.W 33 ≤ (Core.step P M (S i).x (S i).s).M.W 33 := by omega
 have hop := step_op (P := P) M (S i).x (S i).s
 have hkn := step_kn (P := P) M (S i).x (S i).s
 have hii : nx P M S i i = ⟨(Core.step P M (S i).x (S i).s).x, (Core.step P M (S i).x (S i).s).s⟩ := by unfold nx; rw [upd_same]
 have hij : ∀ j, j ≠ i → nx P M S i j = S j := fun j e => by unfold nx; rw [upd_ne _ _ e]
 have ret2 : (S i).x.op = 2 → b1 (swB (Core.step P M (S i).x (S i).s).x (Core.step P M (S i).x (S i).s).s) + b1 (okD (Core.step P M (S i).x (S i).s).r) = b1 (swB (S i).x (S i).s) + b1 (hit M (S i).s) := fun h2 => qb hfr h2 (hit_acq hpe h2)
 have ret3 : (S i).x.op = 3 → okD (Core.step P M (S i).x (S i).s).r = hit M (S i).s := fun h3 => qa (hI.cw i) hfr (hA.rx i) h3
 have hmM : mx P M S i = (Core.step P M (S i).x (S i).s).M := rfl
 have own2 : (Core.step P M (S i).x (S i).s).s ≠ .none → (S i).x.op = 2 → swB (Core.step P M (S i).x (S i).s).x (Core.step P M (S i).x (S i).s).s = false → swB (S i).x (S i).s = false ∧ hit M (S i).s = false := fun g1 g2 g3 => by
  have h9 := ret2 g2
  rw [g3, tC g1] at h9
  have a1 := b1_bd (swB (S i).x (S i).s)
  have a2 := b1_bd (hit M (S i).s)
  have a3 : b1 false = 0 := rfl
  exact ⟨b1_z (by omega), b1_z (by omega)⟩
 have hsub : (hit M (S i).s = true → (S i).x.op ≠ 2) → ∀ s, s ∈ hel P (Core.step P M (S i).x (S i).s).M → s ∈ hel P M := fun hh s hs => by
  cases hpe with
  | calm a b => exact a.mem_iff.1 hs
  | acq a b c d => exact absurd b (hh a)
  | rel a b c d => exact c.mem_iff.2 (List.mem_cons_of_mem _ hs)
 have hpos : hit M (S i).s = true → (S i).x.op = 2 → 0 < (S i).x.ser := fun hh h2 => by
  cases e : (S i).s with
  | pS f c r =>
   rw [e] at hfr
   rcases hfr with ⟨a, _⟩ | ⟨_, _, _, a⟩ | ⟨a, _⟩
   ·omega
   ·exact a
   ·omega
  | _ => rw [e] at hh; simp [hit] at hh
 have hpr : ∀ j, (nx P M S i j).s ≠ .none → (nx P M S i j).x.op = 2 → swB (nx P M S i j).x (nx P M S i j).s = false → (nx P M S i j).x.ser ∉ hel P (Core.step P M (S i).x (S i).s).M := fun j g1 g2 g3 => by
  by_cases e : j = i
  ·subst e
   rw [hii] at g1 g2 g3 ⊢
   dsimp only at g1 g2 g3 ⊢
   rw [hop] at g2
   obtain ⟨k1, k2⟩ := own2 g1 g2 g3
   have h9 := hsub (fun hh => by rw [k2] at hh; cases hh)
   rcases h33 with ⟨a, b⟩ | ⟨a, b, c, d⟩
   ·rw [b]; exact fun hx => hp.pr j hn g2 k1 (h9 _ hx)
   ·intro hx
    have := hp.b _ (h9 _ hx)
    omega
  ·rw [hij j e] at g1 g2 g3 ⊢
   have h9 := hp.pr j g1 g2 g3
   cases hpe with
   | calm a b => exact fun hx => h9 (a.mem_iff.1 hx)
   | acq a b c d =>
    intro hx
    rcases List.mem_cons.1 (c.mem_iff.1 hx) with hx | hx
    ·have h0 := hpos a b
     exact hS.ne i j (fun e9 => e e9.symm) hn g1 (by omega) hx.symm
    ·exact h9 hx
   | rel a b c d => exact fun hx => h9 (c.mem_iff.2 (List.mem_cons_of_mem _ hx))
 have hsum := cV (f := fun j => b1 (swB (S j).x (S j).s)) (g := fun j => b1 (swB (nx P M S i j).x (nx P M S i j).s)) (i := i) (n := 64) hi fun j _ hne => by
  show b1 (swB (nx P M S i j).x (nx P M S i j).s) = _
  rw [hij j hne]
 have hsum2 : sumI 64 (fun j => b1 (swB (nx P M S i j).x (nx P M S i j).s)) = sumI 64 (fun j => b1 (swB (S j).x (S j).s)) + b1 (swB (Core.step P M (S i).x (S i).s).x (Core.step P M (S i).x (S i).s).s) - b1 (swB (S i).x (S i).s) := by
  have h9 : nx P M S i i = ⟨(Core.step P M (S i).x (S i).s).x, (Core.step P M (S i).x (S i).s).s⟩ := hii
  simp only [h9] at hsum
  exact hsum
 have hcnt := hp.cnt
 have hb : ∀ s ∈ hel P (Core.step P M (S i).x (S i).s).M, 1 ≤ s ∧ s ≤ (Core.step P M (S i).x (S i).s).M.W 33 := fun s hs => by
  cases hpe with
  | calm a b => have := hp.b s (a.mem_iff.1 hs); omega
  | acq a b c d =>
   rcases List.mem_cons.1 (c.mem_iff.1 hs) with hx | hx
   ·have h1 := hpos a b
    have h2 := hS.le i
    omega
   ·have := hp.b s hx; omega
  | rel a b c d => have := hp.b s (c.mem_iff.2 (List.mem_cons_of_mem _ hs)); omega
 have hnd : (hel P (Core.step P M (S i).x (S i).s).M).Nodup := by
  cases hpe with
  | calm a b => exact a.nodup_iff.2 hp.nd
  | acq a b c d => exact c.nodup_iff.2 (List.nodup_cons.2 ⟨hp.pr i hn b (sw0 a), hp.nd⟩)
  | rel a b c d => exact (List.nodup_cons.1 (c.nodup_iff.1 hp.nd)).2
 have hold : ∀ s ∈ R, (1 ≤ s ∧ s ≤ (Core.step P M (S i).x (S i).s).M.W 33) ∧ s ∉ hel P (Core.step P M (S i).x (S i).s).M ∧ ∀ j, (nx P M S i j).s ≠ .none → (nx P M S i j).x.op = 2 → swB (nx P M S i j).x (nx P M S i j).s = false → (nx P M S i j).x.ser ≠ s := fun s hs => by
  obtain ⟨a1, a2, a3⟩ := hp.rl s hs
  refine ⟨by omega, fun hx => ?_, fun j g1 g2 g3 => ?_⟩
  ·cases hpe with
   | calm a b => exact a2 (a.mem_iff.1 hx)
   | acq a b c d =>
    rcases List.mem_cons.1 (c.mem_iff.1 hx) with hx | hx
    ·exact a3 i hn b (sw0 a) hx.symm
    ·exact a2 hx
   | rel a b c d => exact a2 (c.mem_iff.2 (List.mem_cons_of_mem _ hx))
  ·by_cases e : j = i
   ·subst e
    rw [hii] at g1 g2 g3 ⊢
    dsimp only at g1 g2 g3 ⊢
    rw [hop] at g2
    obtain ⟨k1, k2⟩ := own2 g1 g2 g3
    rcases h33 with ⟨a, b⟩ | ⟨a, b, c, d⟩
    ·rw [b]; exact a3 j hn g2 k1
    ·omega
   ·rw [hij j e] at g1 g2 g3 ⊢
    exact a3 j g1 g2 g3
 have hfr' := fx hR (M := M) (hI.cw i) hfr (hA.rx i)
 refine ⟨hv, hb, hnd, hpr, fun j g1 => ?_, fun j => ?_, ?_, ?_, ?_⟩
 ·by_cases e : j = i
  ·subst e; rw [hii]; dsimp only; rw [hop, hkn.1, hkn.2.1]; exact hp.q j hn
  ·rw [hij j e] at g1 ⊢; exact hp.q j g1
 ·by_cases e : j = i
  ·subst e; rw [hii]; exact hfr'.1
  ·rw [hij j e]; exact hp.fr j
 ·unfold tellR
  split
  ·rename_i h9
   have hh := ret3 h9.1
   rw [h9.2] at hh
   cases hpe with
   | calm a b => have := b hh.symm; omega
   | acq a b c d => omega
   | rel a b c d =>
    have hnm : (S i).x.n ∈ hel P M := c.mem_iff.2 (List.mem_cons_self ..)
    have hnn := (List.nodup_cons.1 (c.nodup_iff.1 hp.nd)).1
    intro s hs
    rcases List.mem_cons.1 hs with rfl | hs
    ·refine ⟨by have := hp.b _ hnm; rw [hmM]; omega, hnn, fun j g1 g2 g3 => ?_⟩
     by_cases e : j = i
     ·subst e; rw [hii] at g2; dsimp only at g2; rw [hop] at g2; omega
     ·rw [hij j e] at g1 g2 g3 ⊢
      exact fun e9 => hp.pr j g1 g2 g3 (by rw [e9]; exact hnm)
    ·exact hold s hs
  ·exact hold
 ·unfold tellR
  split
  ·rename_i h9
   have hh := ret3 h9.1
   rw [h9.2] at hh
   cases hpe with
   | calm a b => have := b hh.symm; omega
   | acq a b c d => omega
   | rel a b c d => exact List.nodup_cons.2 ⟨fun hx => (hp.rl _ hx).2.1 (c.mem_iff.2 (List.mem_cons_self ..)), hp.rn⟩
  ·exact hp.rn
 ·rw [hsum2, hmM]
  by_cases h2 : (S i).x.op = 2
  ·have h9 := ret2 h2
   have eR : tellR (S i).x (Core.step P M (S i).x (S i).s).r R = R := by unfold tellR; rw [if_neg (by omega)]
   have eA : tellA (S i).x (Core.step P M (S i).x (S i).s).r A = A + b1 (okD (Core.step P M (S i).x (S i).s).r) := by
    unfold tellA b1; cases okD (Core.step P M (S i).x (S i).s).r <;> simp [h2]
   rw [eR, eA]
   cases hpe with
   | calm a b =>
    have e9 : hit M (S i).s = false := by
     cases e : hit M (S i).s with
     | false => rfl
     | true => have := b e; omega
    rw [e9] at h9
    have : b1 false = 0 := rfl
    rw [a.length_eq]; omega
   | acq a b c d =>
    rw [a] at h9
    have : b1 true = 1 := rfl
    rw [c.length_eq, List.length_cons]; omega
   | rel a b c d => omega
  ·have s1 := sw_0 h2 (S i).s
   have s2 := sw_0 (x := (Core.step P M (S i).x (S i).s).x) (by rw [hop]; exact h2) (Core.step P M (S i).x (S i).s).s
   have eA : tellA (S i).x (Core.step P M (S i).x (S i).s).r A = A := by unfold tellA; rw [if_neg (fun h9 => h2 h9.1)]
   rw [s1, s2, eA]
   by_cases h3 : (S i).x.op = 3
   ·have hh := ret3 h3
    unfold tellR
    cases hpe with
    | calm a b =>
     have e9 : hit M (S i).s = false := by
      cases e : hit M (S i).s with
      | false => rfl
      | true => have := b e; omega
     rw [e9] at hh
     rw [hh, if_neg (by simp), a.length_eq]; omega
    | acq a b c d => omega
    | rel a b c d =>
     rw [a] at hh
     rw [hh, if_pos ⟨h3, rfl⟩]
     have := c.length_eq
     rw [List.length_cons] at this ⊢; omega
   ·have eR : tellR (S i).x (Core.step P M (S i).x (S i).s).r R = R := by unfold tellR; rw [if_neg (fun h9 => h3 h9.1)]
    rw [eR]
    cases hpe with
    | calm a b => rw [a.length_eq]; omega
    | acq a b c d => omega
    | rel a b c d => omega
theorem Pm.start (hQ : OpsPm P V Q) {M : Mc} {S : Nat → Wk} {A : Int} {R : List Int} (hp : Pm sm P V Q M S A R) {i : Nat} (hi : i < 64) (hn : (S i).s = .none) {x : X} (hx : x.ser = 0) (hq : Q x.op x.pol x.key) (ho : 1 ≤ x.op ∧ x.op ≤ 6) :
  Pm sm P V Q M (upd S i ⟨x, first x⟩) A R := by
 have hs0 : swB x (first x) = false := by unfold first; (repeat' split) <;> rfl
 have hpos : (0 : Int) ∉ hel P M := fun h => by have := hp.b _ h; omega
 have at_ : ∀ {q : Wk → Prop}, q ⟨x, first x⟩ → (∀ j, q (S j)) → ∀ j, q (upd S i ⟨x, first x⟩ j) := fun {q} g1 g2 j => by
  by_cases e : j = i
  ·rw [e, upd_same]; exact g1
  ·rw [upd_ne _ _ e]; exact g2 j
 refine ⟨hp.v, hp.b, hp.nd, at_ (q := fun k => k.s ≠ .none → k.x.op = 2 → swB k.x k.s = false → k.x.ser ∉ hel P M) (fun _ _ _ => by dsimp only; rw [hx]; exact hpos) hp.pr, at_ (q := fun k => k.s ≠ .none → Q k.x.op k.x.pol k.x.key) (fun _ => hq) hp.q, at_ (q := fun k => Fr P k.x k.s) ?_ hp.fr, fun s hs => ?_, hp.rn, ?_⟩
 ·show Fr P x (first x)
  unfold first
  split
  ·assumption
  ·split
   ·assumption
   ·exact ⟨by assumption, by assumption⟩
 ·obtain ⟨a, b, c⟩ := hp.rl s hs
  exact ⟨a, b, at_ (q := fun k => k.s ≠ .none → k.x.op = 2 → swB k.x k.s = false → k.x.ser ≠ s) (fun _ _ _ => by dsimp only; rw [hx]; omega) c⟩
 ·have hsum := cV (f := fun j => b1 (swB (S j).x (S j).s)) (g := fun j => b1 (swB (upd S i ⟨x, first x⟩ j).x (upd S i ⟨x, first x⟩ j).s)) (i := i) (n := 64) hi fun j _ hne => by
   show b1 (swB (upd S i ⟨x, first x⟩ j).x (upd S i ⟨x, first x⟩ j).s) = _
   rw [upd_ne _ _ hne]
  have e1 : b1 (swB (S i).x (S i).s) = 0 := by rw [hn]; rfl
  have e2 : b1 (swB (upd S i ⟨x, first x⟩ i).x (upd S i ⟨x, first x⟩ i).s) = 0 := by rw [upd_same]; dsimp only; rw [hs0]; rfl
  have h9 := hp.cnt
  rw [hsum]
  omega
end Core
end Go.Proofs.YtpdhdnhkhidmpaaGreat

namespace Go.Proofs.YtpdhdnhkhidmpaaGreat
namespace Core
open Dir (FZ upd upd_same upd_ne)
variable {P : Ops}
structure OpsR2 (P : Ops) : Prop where
 allow : ∀ p c t n, (P.allow p c t n).1.serial = 0
 rel : ∀ p c n, (P.rel p c n).1.serial = 0
 peek : ∀ p c t, (P.peek p c t).serial = 0
 acq : ∀ p c n, n ≠ 0 → ((P.acq p c n).1.serial ≠ 0 ↔ (P.acq p c n).1.e = 0)
def R2 (x : X) (r : Rpl) : Prop := if x.op = 2 then (r.serial ≠ 0 ↔ r.e = 0) else r.serial = 0
theorem R2.er (x : X) {e : Int} (h : e ≠ 0) : R2 x (er e) := by
 unfold R2 Core.er; split
 ·simp [h]
 ·rfl
theorem R2.not {x : X} {r : Rpl} (h : x.op ≠ 2) (hr : r.serial = 0) : R2 x r := by unfold R2; rw [if_neg h]; exact hr
def Sb2 (x : X) : Bk → Prop
 | .lv r => R2 x r
 | .ev _ _ _ => True
def Sr2 (x : X) : CS → Prop
 | .p0 _ _ r => R2 x r
 | .p1 _ _ r _ => R2 x r
 | .pS _ _ r => R2 x r
 | .b0 _ k => Sb2 x k
 | .b1 _ k _ => Sb2 x k
 | _ => True
def So2 (x : X) (p : CS × Rs) : Prop := Sr2 x p.1 ∧ (p.2.done = true → R2 x p.2.r)
theorem iU {q : Prop} (h : r0.done = true) : q := by cases h
theorem gB {x : X} {r : Rpl} (h : R2 x r) : So2 x (leave x r) := by
 unfold leave; split
 ·exact ⟨h, fun e => iU e⟩
 ·exact ⟨trivial, fun _ => h⟩
theorem nD {x y : X} {f : Fd} {c : Cel} {r : Rpl} (h : R2 x r) : Sr2 x (put y f c r) := by unfold put; split <;> exact h
theorem dS {x : X} (h : x.op = 5) (j sh : Nat) (g : Int) : So2 x (further j sh g) := by
 unfold further; split
 ·exact ⟨trivial, fun _ => .not (by omega) rfl⟩
 ·exact ⟨trivial, fun e => iU e⟩
theorem rC (hP : OpsR2 P) (x : X) (f : Fd) : So2 x (foundK P x f) := by
 unfold foundK
 by_cases h1 : x.op = 1
 ·rw [if_pos h1]; exact ⟨trivial, fun e => iU e⟩
 rw [if_neg h1]
 by_cases h2 : x.op = 2
 ·rw [if_pos h2]
  split
  ·exact gB (.er x (by decide))
  ·split
   ·rename_i h4
    exact ⟨nD (by unfold R2; rw [if_pos h2]; exact hP.acq _ _ _ (by omega)), fun e => iU e⟩
   ·exact ⟨trivial, fun e => iU e⟩
 rw [if_neg h2]
 split
 ·split
  ·exact ⟨nD (.not h2 (hP.rel _ _ _)), fun e => iU e⟩
  ·exact ⟨trivial, fun _ => .not h2 (hP.rel _ _ _)⟩
 ·split
  ·exact ⟨trivial, fun _ => .not h2 (hP.peek _ _ _)⟩
  ·exact ⟨trivial, fun e => iU e⟩
theorem jw (hP : OpsR2 P) {x : X} {f : Fc} (hf : Fo x f) (w : Nat) (v : Int) (h : List Cel) : So2 x (entered P x f w v h) := by
 unfold entered
 split
 ·exact ⟨trivial, fun e => iU e⟩
 ·unfold found
  cases f with
  | key => exact rC hP _ _
  | ev j sh g =>
   dsimp only; split
   ·exact dS hf _ _ _
   ·exact ⟨trivial, fun e => iU e⟩
theorem on_s2 (x : X) (lv i : Nat) (up : Bool) (m : List Cel) : Sr2 x (on lv i up m) := by
 unfold on move; (repeat' split) <;> trivial
theorem step_s2 (hP : OpsR2 P) {M : Mc} {x : X} {s : CS} (h33 : 0 ≤ M.W 33) (hf : Fr P x s) (h : Sr2 x s) : Sr2 (Core.step P M x s).x (Core.step P M x s).s ∧ ((Core.step P M x s).r.done = true → R2 (Core.step P M x s).x (Core.step P M x s).r.r) := by
 have z : ∀ {q : Prop}, r0.done = true → q := fun e => iU e
 cases s with
 | none => exact ⟨trivial, z⟩
 | k0 f => simp only [step]; split <;> exact ⟨trivial, z⟩
 | kE f w => exact jw hP hf _ _ _
 | kF f lv w => simp only [step]; split <;> exact ⟨trivial, z⟩
 | kG f lv w v m => simp only [step]; split <;> exact ⟨trivial, z⟩
 | kH f lv w m =>
  simp only [step]; split
  ·exact ⟨trivial, z⟩
  ·exact jw hP hf _ _ _
 | kL f lv w m => exact ⟨trivial, z⟩
 | al f =>
  have h1 : x.op = 1 := hf
  simp only [step]; split
  ·exact gB (R2.not (x := x) (by omega) (hP.allow _ _ _ _))
  ·exact ⟨nD (R2.not (x := x) (by omega) (hP.allow _ _ _ _)), z⟩
 | pk c => exact ⟨trivial, fun _ => .not hf.2.1 (hP.peek _ _ _)⟩
 | a0 f =>
  simp only [step]; split
  ·exact gB (.er x (by decide))
  ·exact ⟨trivial, z⟩
 | a1 f u =>
  have h2 := hf.1
  simp only [step]; split
  ·rename_i hm
   refine ⟨nD (x := { x with ser := u + 1 }) ?_, z⟩
   unfold R2
   rw [if_pos (show ({ x with ser := u + 1 } : X).op = 2 from h2)]
   exact hP.acq _ _ _ (by omega)
  ·exact ⟨trivial, z⟩
 | p0 f c r =>
  simp only [step]; split
  ·exact ⟨trivial, fun _ => .er x (by decide)⟩
  ·exact ⟨h, z⟩
 | p1 f c r u =>
  simp only [step]; split
  ·exact ⟨h, z⟩
  ·exact ⟨h, z⟩
 | pS f c r =>
  simp only [step]; split
  ·show So2 x (if _ then _ else _ : CS × Rs)
   split
   ·exact gB h
   ·exact ⟨trivial, fun _ => h⟩
  ·exact ⟨trivial, z⟩
 | b0 n k => exact ⟨h, z⟩
 | b1 n k u =>
  simp only [step]; split
  ·show So2 x (after n k)
   cases k with
   | lv r => exact ⟨trivial, fun _ => h⟩
   | ev j sh g => exact dS hf _ _ _
  ·exact ⟨h, z⟩
 | e0 => exact ⟨trivial, z⟩
 | eC j sh g w v m =>
  simp only [step]; split
  ·exact dS hf _ _ _
  ·exact ⟨trivial, z⟩
 | eS j sh g w v m n =>
  simp only [step]; split
  ·exact ⟨trivial, z⟩
  ·exact dS hf _ _ _
 | s0 =>
  have h6 : x.op = 6 := hf
  simp only [step]; split
  ·exact ⟨trivial, z⟩
  ·split
   ·exact ⟨trivial, fun _ => R2.not (x := x) (by omega) rfl⟩
   ·exact ⟨trivial, z⟩
 | sM lv => simp only [step]; split <;> exact ⟨trivial, z⟩
 | sF lv i => simp only [step]; split <;> exact ⟨trivial, z⟩
 | sG lv i v m => simp only [step]; split <;> exact ⟨trivial, z⟩
 | sH lv i up m =>
  simp only [step]; split
  ·exact ⟨trivial, z⟩
  ·exact ⟨on_s2 _ _ _ _ _, z⟩
 | sL lv i up m => exact ⟨on_s2 _ _ _ _ _, z⟩
 | sV lv =>
  have h6 : x.op = 6 := hf
  exact ⟨trivial, fun _ => .not (by show x.op ≠ 2; omega) rfl⟩
end Core
end Go.Proofs.YtpdhdnhkhidmpaaGreat
