/- Parts of the proof, one behind the other: Ct2, Cv2, Cv3, Cv4, Pl6a. Lemmas and contracts of functions; no condition of its own. -/
import Derived.Test.YtplpofmnhcclbaaGreatMU17
set_option linter.unusedVariables false
set_option linter.unusedSimpArgs false
namespace Go.Proofs.YtplpofmnhcclbaaGreat
namespace Core
open Dir (FZ plc upd upW Iw okW lowW upd_same upd_ne pow_pos2)
open Hm (home)
variable {sm : List Int → Int} {P : Ops}
def hel (P : Ops) (M : Mc) : List Int := (allE P M).flatMap (·.held)
theorem allE_nodup (hP : OpsOk sm P) {M : Mc} {B : Int} (h : Iw M.W B) (hI : Ih sm M) : (allE P M).Nodup := by
 rw [List.nodup_iff_pairwise_ne]
 exact (all_ok hP h hI).1.imp fun {a b} hab e => hab (by rw [e])
theorem all_same (hP : OpsOk sm P) {M M' : Mc} {B B' : Int} (h : Iw M.W B) (hI : Ih sm M) (h' : Iw M'.W B') (hI' : Ih sm M') (ho : ∀ k, own sm M' k = own sm M k) : (allE P M').Perm (allE P M) := by
 refine (List.perm_ext_iff_of_nodup (allE_nodup hP h' hI') (allE_nodup hP h hI)).2 fun c => ?_
 rw [(all_ok hP h' hI').2, (all_ok hP h hI).2, ho]
theorem all_put (hP : OpsOk sm P) {M M' : Mc} {B B' : Int} (h : Iw M.W B) (hI : Ih sm M) (h' : Iw M'.W B') (hI' : Ih sm M') {k0 : List Int} {c : Cel} (ho : ∀ k, own sm M' k = if k = k0 then some c else own sm M k) :
  ∃ F, (allE P M').Perm (c :: F) ∧ (allE P M).Perm ((own sm M k0).toList ++ F) := by
 have hk : idn c = k0 := own_idn (by rw [ho, if_pos rfl] : own sm M' k0 = some c)
 have hF : ((allE P M).filter fun e => decide (idn e ≠ k0)).Nodup := (allE_nodup hP h hI).filter _
 have hm : ∀ e, e ∈ (allE P M).filter (fun e => decide (idn e ≠ k0)) ↔ own sm M (idn e) = some e ∧ idn e ≠ k0 := fun e => by
  rw [List.mem_filter, (all_ok hP h hI).2, decide_eq_true_eq]
 refine ⟨_, (List.perm_ext_iff_of_nodup (allE_nodup hP h' hI') (List.nodup_cons.2 ⟨fun h9 => ((hm c).1 h9).2 hk, hF⟩)).2 fun e => ?_, (List.perm_ext_iff_of_nodup (allE_nodup hP h hI) (List.nodup_append.2 ⟨?_, hF, fun a ha b hb e => ?_⟩)).2 fun e => ?_⟩
 ·rw [(all_ok hP h' hI').2, ho, List.mem_cons, hm]
  by_cases e1 : idn e = k0
  ·rw [if_pos e1]
   constructor
   ·intro h9; cases h9; exact .inl rfl
   ·rintro (h9 | h9)
    ·rw [h9]
    ·exact absurd e1 h9.2
  ·rw [if_neg e1]
   constructor
   ·exact fun h9 => .inr ⟨h9, e1⟩
   ·rintro (h9 | h9)
    ·rw [h9] at e1; exact absurd hk e1
    ·exact h9.1
 ·cases own sm M k0 <;> simp
 ·subst e
  have h1 := (hm a).1 hb
  cases e2 : own sm M k0 with
  | none => rw [e2] at ha; simp at ha
  | some d =>
   rw [e2] at ha
   obtain rfl : a = d := by simpa using ha
   exact h1.2 (own_idn e2)
 ·rw [(all_ok hP h hI).2, List.mem_append, hm]
  constructor
  ·intro h9
   by_cases e1 : idn e = k0
   ·left; rw [← e1, h9]; simp
   ·exact .inr ⟨h9, e1⟩
  ·rintro (h9 | h9)
   ·cases e2 : own sm M k0 with
    | none => rw [e2] at h9; simp at h9
    | some d =>
     rw [e2] at h9
     obtain rfl : e = d := by simpa using h9
     rw [own_idn e2, e2]
   ·exact h9.1
theorem all_evict (hP : OpsOk sm P) {M M' : Mc} {B B' : Int} (h : Iw M.W B) (hI : Ih sm M) (h' : Iw M'.W B') (hI' : Ih sm M') {w : Nat} (hw : 1 ≤ w ∧ w < 32) {t : Int}
  (ho : ∀ k, own sm M' k = if home M.W (sm k) = w then look (rest P (M.Hd w) t) k else own sm M k) :
  ∃ G, (allE P M).Perm (allE P M' ++ G) ∧ ∀ c ∈ G, own sm M (idn c) = some c ∧ P.idle c t = true := by
 have hs : Srt (M.Hd w) := hI.word hw
 have hr : Srt (rest P (M.Hd w) t) := hs.filter _
 have hb : ∀ e, own sm M' (idn e) = some e ↔ own sm M (idn e) = some e ∧ ¬ (home M.W (sm (idn e)) = w ∧ P.idle e t = true) := fun e => by
  rw [ho]
  by_cases e1 : home M.W (sm (idn e)) = w
  ·rw [if_pos e1]
   have : own sm M (idn e) = look (M.Hd w) (idn e) := by unfold own; rw [e1]
   rw [this, look_self hr, look_self hs]
   show e ∈ (M.Hd w).filter _ ↔ _
   rw [List.mem_filter]
   simp [e1]
  ·rw [if_neg e1]; simp [e1]
 refine ⟨(allE P M).filter fun e => decide (home M.W (sm (idn e)) = w) && P.idle e t, (List.perm_ext_iff_of_nodup (allE_nodup hP h hI) (List.nodup_append.2 ⟨allE_nodup hP h' hI', (allE_nodup hP h hI).filter _, fun a ha b hb2 e => ?_⟩)).2 fun e => ?_, fun c hc => ?_⟩
 ·subst e
  rw [(all_ok hP h' hI').2, hb] at ha
  have := (List.mem_filter.1 hb2).2
  simp only [Bool.and_eq_true, decide_eq_true_eq] at this
  exact ha.2 this
 ·rw [List.mem_append, (all_ok hP h' hI').2, hb, List.mem_filter, (all_ok hP h hI).2]
  simp only [Bool.and_eq_true, decide_eq_true_eq]
  constructor
  ·intro h9
   by_cases e1 : home M.W (sm (idn e)) = w ∧ P.idle e t = true
   ·exact .inr ⟨h9, e1⟩
   ·exact .inl ⟨h9, e1⟩
  ·rintro (h9 | h9) <;> exact h9.1
 ·obtain ⟨h1, h2⟩ := List.mem_filter.1 hc
  simp only [Bool.and_eq_true, decide_eq_true_eq] at h2
  exact ⟨((all_ok hP h hI).2 c).1 h1, h2.2⟩
structure OpsPm (P : Ops) (V : Cel → Prop) (Q : Int → Int → List Int → Prop) : Prop where
 new : ∀ op pol key, op = 1 ∨ op = 2 ∨ op = 3 → Q op pol key → V ⟨pol, key, 0, []⟩
 allow : ∀ p c t n, V c → V (P.allow p c t n).2 ∧ (P.allow p c t n).2.held = c.held
 acq : ∀ key c n, Q 2 c.pol key → V c → n ∉ c.held → 1 ≤ n → n ≤ MAX → (c.held.length : Int) ≠ (P.pol c.pol).permits →
  (P.acq (P.pol c.pol) c n).1.e = 0 ∧ (P.acq (P.pol c.pol) c n).1.g = true ∧ V (P.acq (P.pol c.pol) c n).2 ∧ (P.acq (P.pol c.pol) c n).2.held.Perm (n :: c.held)
 rel : ∀ key c n, Q 3 c.pol key → V c → (P.rel (P.pol c.pol) c n).1.e = 0 → V (P.rel (P.pol c.pol) c n).2 ∧ c.held.Perm (n :: (P.rel (P.pol c.pol) c n).2.held)
 idle : ∀ c t, V c → P.idle c t = true → c.held = []
variable {V : Cel → Prop} {Q : Int → Int → List Int → Prop}
def hit (M : Mc) : CS → Bool
 | .pS f _ _ => M.W f.w == f.v
 | _ => false
inductive PE (P : Ops) (M : Mc) (x : X) (s : CS) (M' : Mc) : Prop
 | calm (h : (hel P M').Perm (hel P M)) (ho : hit M s = true → x.op = 1)
 | acq (hh : hit M s = true) (ho : x.op = 2) (h : (hel P M').Perm (x.ser :: hel P M)) (hr : ∀ f c r, s = .pS f c r → r.e = 0)
 | rel (hh : hit M s = true) (ho : x.op = 3) (h : (hel P M).Perm (x.n :: hel P M')) (hr : ∀ f c r, s = .pS f c r → r.e = 0)
theorem mem_hel (hP : OpsOk sm P) {M : Mc} {B : Int} (h : Iw M.W B) (hI : Ih sm M) {k : List Int} {c : Cel} (hk : own sm M k = some c) {n : Int} (hn : n ∈ c.held) : n ∈ hel P M :=
 List.mem_flatMap.2 ⟨c, ((all_ok hP h hI).2 c).2 (by rw [own_idn hk]; exact hk), hn⟩
theorem step_pm (hP : OpsOk sm P) (hQ : OpsPm P V Q) {M : Mc} {B : Int} (h : Iw M.W B) (hB : 1 ≤ B ∧ B + 1 < FZ) {x : X} (hx : 0 ≤ x.ser) (h33 : 0 ≤ M.W 33) {s : CS} (hs : Cw x M.W s) (hI : Ih sm M) (hc : Ch sm P x M s) (hf : Fr P x s)
  (hV : ∀ k c, own sm M k = some c → V c) (hq : s ≠ .none → Q x.op x.pol x.key) (hm : x.ser ≤ MAX) (hnew : x.op = 2 → hit M s = true → x.ser ∉ hel P M) :
  (∀ k c, own sm (step P M x s).M k = some c → V c) ∧ PE P M x s (step P M x s).M := by
 have he := step_eff hP h hB hs hI hc
 have iw' := (step_ok (P := P) h hB hx h33 hs).iw
 have ih' := he.ih
 cases he.own with
 | calm hd ho hn =>
  refine ⟨fun k c hk => hV k c (by rw [← ho]; exact hk), .calm ((all_same hP h hI iw' ih' ho).flatMap_right _) fun h9 => ?_⟩
  cases s with
  | pS f c r => exact absurd (by simpa [hit] using h9) (hn f c r rfl)
  | _ => simp [hit] at h9
 | put f c r e hw h0 ho =>
  subst e
  have hk : Kd sm P x M f := hc.1
  have hhit : hit M (.pS f c r) = true := by simpa [hit] using hw
  have hq := hq (by simp)
  have hcell : f.cell = (own sm M (x.pol :: x.key)).getD ⟨x.pol, x.key, 0, []⟩ := by
   rw [h0]
   have := (hP.fnd f.h x.pol x.key hk.srt hk.k.1).2
   rw [← this, hk.fd]; rfl
  have hid : idn f.cell = x.pol :: x.key := Kd.cell hP hk
  have hpol : f.cell.pol = x.pol := by
   have h9 : f.cell.pol :: f.cell.key = x.pol :: x.key := hid
   exact (List.cons.inj h9).1
  have hop : x.op = 1 ∨ x.op = 2 ∨ x.op = 3 := by
   rcases hf with a | a | a
   ·exact .inl a.1
   ·exact .inr (.inl a.1)
   ·exact .inr (.inr a.1)
  have hVf : V f.cell := by
   rw [hcell]
   cases e2 : own sm M (x.pol :: x.key) with
   | none => exact hQ.new _ _ _ hop hq
   | some d => exact hV _ _ e2
  have hmem : ∀ n, n ∈ f.cell.held → n ∈ hel P M := fun n hn => by
   rw [hcell] at hn
   cases e2 : own sm M (x.pol :: x.key) with
   | none => rw [e2] at hn; simp at hn
   | some d => rw [e2] at hn; exact mem_hel hP h hI e2 hn
  obtain ⟨F, p1, p2⟩ := all_put hP h hI iw' ih' ho
  have q1 : (hel P (step P M x (.pS f c r)).M).Perm (c.held ++ F.flatMap (·.held)) := by
   have := p1.flatMap_right (·.held)
   rwa [List.flatMap_cons] at this
  have q2 : (hel P M).Perm (f.cell.held ++ F.flatMap (·.held)) := by
   have h9 := p2.flatMap_right (·.held)
   rw [List.flatMap_append] at h9
   have e9 : (own sm M (x.pol :: x.key)).toList.flatMap (·.held) = f.cell.held := by
    rw [hcell]
    cases e2 : own sm M (x.pol :: x.key) with
    | none => rfl
    | some d => simp
   rw [e9] at h9; exact h9
  have vv : V c → ∀ k d, own sm (step P M x (.pS f c r)).M k = some d → V d := fun hc9 k d hk9 => by
   rw [ho] at hk9
   split at hk9
   ·cases hk9; exact hc9
   ·exact hV _ _ hk9
  rcases hf with ⟨h1, ⟨t, ht⟩, h3, h4⟩ | ⟨h1, h2, h3, h4⟩ | ⟨h1, h2, h3⟩
  ·have g := hQ.allow (P.pol x.pol) f.cell t x.n hVf
   rw [ht] at g
   have g2 : c.held = f.cell.held := g.2
   refine ⟨vv g.1, .calm ?_ fun _ => h1⟩
   rw [g2] at q1
   exact q1.trans q2.symm
  ·have g := hQ.acq x.key f.cell x.ser (by rw [hpol, ← h1]; exact hq) hVf (fun h9 => hnew h1 hhit (hmem _ h9)) (by omega) hm (by rw [hpol]; exact h2)
   rw [hpol, h3] at g
   refine ⟨vv g.2.2.1, .acq hhit h1 ?_ fun f' c' r' e => by cases e; exact g.1⟩
   refine q1.trans (((g.2.2.2 : c.held.Perm (x.ser :: f.cell.held)).append_right _).trans ?_)
   exact (q2.symm.cons x.ser)
  ·have g := hQ.rel x.key f.cell x.n (by rw [hpol, ← h1]; exact hq) hVf (by rw [hpol, h2]; exact h3)
   rw [hpol, h2] at g
   refine ⟨vv g.1, .rel hhit h1 ?_ fun f' c' r' e => by cases e; exact h3⟩
   refine q2.trans (((g.2 : f.cell.held.Perm (x.n :: c.held)).append_right _).trans ?_)
   exact (q1.symm.cons x.n)
 | evict j sh g w v m n e hw t ht hm' hn ho =>
  subst e
  have hw2 : 1 ≤ w ∧ w < 32 := ⟨hs.2.2.1, hs.2.2.2.1⟩
  obtain ⟨G, p1, p2⟩ := all_evict hP h hI iw' ih' hw2 (t := t) fun k => by rw [ho, hm']
  refine ⟨fun k c hk => ?_, .calm ?_ fun h9 => by simp [hit] at h9⟩
  ·have h1 := ((all_ok hP iw' ih').2 c).2 (by rw [own_idn hk]; exact hk)
   have h2 := p1.mem_iff.2 (List.mem_append_left G h1)
   exact hV _ _ (((all_ok hP h hI).2 c).1 h2)
  ·have h9 := p1.flatMap_right (·.held)
   rw [List.flatMap_append] at h9
   have e9 : G.flatMap (·.held) = [] := by
    rw [List.flatMap_eq_nil_iff]
    intro c hc
    obtain ⟨g1, g2⟩ := p2 c hc
    exact hQ.idle c t (hV _ _ g1) g2
   rw [e9, List.append_nil] at h9
   exact h9.symm
theorem step_calm (hP : OpsOk sm P) {M : Mc} {B : Int} (h : Iw M.W B) (hB : 1 ≤ B ∧ B + 1 < FZ) {x : X} {s : CS} (hs : Cw x M.W s) (hI : Ih sm M) (hc : Ch sm P x M s) (h1 : hit M s = false) (h2 : ∀ j sh g w v m n, s ≠ .eS j sh g w v m n) (k : List Int) : own sm (step P M x s).M k = own sm M k := by
 cases (step_eff hP h hB hs hI hc).own with
 | calm hd ho hn => exact ho k
 | put f c r e hw h0 ho => subst e; simp [hit, hw] at h1
 | evict j sh g w v m n e hw t ht hm' hn ho => exact (h2 _ _ _ _ _ _ _ e).elim
def swB (x : X) : CS → Bool
 | .b0 _ (.lv r) => x.op == 2 && r.e == 0
 | .b1 _ (.lv r) _ => x.op == 2 && r.e == 0
 | _ => false
def okD (r : Rs) : Bool := r.done && r.r.e == 0
def b1 (b : Bool) : Int := if b = true then 1 else 0
theorem leave_sw {x : X} (h : x.op = 2) (r : Rpl) : b1 (swB x (leave x r).1) + b1 (okD (leave x r).2) = if r.e = 0 then 1 else 0 := by
 unfold leave
 by_cases e : x.res = true
 ·rw [if_pos e]; simp [swB, okD, r0, h, b1]
 ·rw [if_neg e]; simp [swB, okD, b1]
theorem put_sw (x y : X) (f : Fd) (c : Cel) (r : Rpl) : swB x (put y f c r) = false := by unfold put; split <;> rfl
theorem entered_sw {x : X} (h : x.op = 2) {f : Fc} (hf : Fo x f) (w : Nat) (v : Int) (l : List Cel) : swB x (entered P x f w v l).1 = false ∧ okD (entered P x f w v l).2 = false ∨ b1 (swB x (entered P x f w v l).1) + b1 (okD (entered P x f w v l).2) = 0 := by
 unfold entered
 split
 ·exact .inl ⟨rfl, rfl⟩
 ·unfold found
  cases f with
  | key =>
   show swB x (foundK P x (fdOf P x w v l)).1 = false ∧ okD (foundK P x (fdOf P x w v l)).2 = false ∨ b1 (swB x (foundK P x (fdOf P x w v l)).1) + b1 (okD (foundK P x (fdOf P x w v l)).2) = 0
   unfold foundK
   rw [if_neg (by omega), if_pos h]
   split
   ·right; rw [leave_sw h]; rfl
   ·split
    ·exact .inl ⟨put_sw _ _ _ _ _, rfl⟩
    ·exact .inl ⟨rfl, rfl⟩
  | ev j sh g => have : x.op = 5 := hf; omega
theorem b1_0 {a b : Bool} (h : a = false ∧ b = false ∨ b1 a + b1 b = 0) : b1 a + b1 b = 0 := by
 rcases h with ⟨h1, h2⟩ | h
 ·rw [h1, h2]; rfl
 ·exact h
theorem step_ret2 {M : Mc} {x : X} {s : CS} (h : Fr P x s) (ho : x.op = 2) (hp : hit M s = true → ∀ f c r, s = .pS f c r → r.e = 0) :
  b1 (swB (step P M x s).x (step P M x s).s) + b1 (okD (step P M x s).r) = b1 (swB x s) + b1 (hit M s) := by
 have no5 : ∀ {q : Prop}, x.op = 5 → q := fun e => by omega
 have no6 : ∀ {q : Prop}, x.op = 6 → q := fun e => by omega
 have no1 : ∀ {q : Prop}, x.op = 1 → q := fun e => by omega
 have en : ∀ {f : Fc} (hf : Fo x f) (w : Nat) (v : Int) (l : List Cel), b1 (swB x (entered P x f w v l).1) + b1 (okD (entered P x f w v l).2) = 0 := fun hf w v l => b1_0 (entered_sw ho hf w v l)
 cases s with
 | none => rfl
 | k0 f => simp only [step]; split <;> rfl
 | kE f w => exact en h _ _ _
 | kF f lv w => simp only [step]; split <;> rfl
 | kG f lv w v m => simp only [step]; split <;> rfl
 | kH f lv w m =>
  simp only [step]; split
  ·rfl
  ·exact en h _ _ _
 | kL f lv w m => rfl
 | al f => exact no1 h
 | pk c => exact absurd ho h.2.1
 | a0 f =>
  simp only [step]; split
  ·show b1 (swB x (leave x (er 5)).1) + b1 (okD (leave x (er 5)).2) = 0
   rw [leave_sw ho]; rfl
  ·rfl
 | a1 f u =>
  simp only [step]; split
  ·show b1 (swB _ (put x f _ _)) + b1 (okD r0) = 0
   rw [put_sw]; rfl
  ·rfl
 | p0 f c r => simp only [step]; split <;> rfl
 | p1 f c r u => simp only [step]; split <;> rfl
 | pS f c r =>
  by_cases hm : M.W f.w = f.v
  ·have hr := hp (by simpa [hit] using hm) f c r rfl
   simp only [step, if_pos hm]
   show b1 (swB x (if f.there = true then leave x r else (.none, ⟨true, r⟩) : CS × Rs).1) + b1 (okD (if f.there = true then leave x r else (.none, ⟨true, r⟩) : CS × Rs).2) = 0 + b1 (M.W f.w == f.v)
   have e1 : b1 (M.W f.w == f.v) = 1 := by simp [hm, b1]
   rw [e1]
   split
   ·rw [leave_sw ho, if_pos hr]; rfl
   ·simp [swB, okD, hr, b1]
  ·simp only [step, if_neg hm]
   have e1 : b1 (M.W f.w == f.v) = 0 := by simp [hm, b1]
   show 0 + 0 = 0 + b1 (M.W f.w == f.v)
   rw [e1]
 | b0 n k => cases k <;> rfl
 | b1 n k u =>
  simp only [step]; split
  ·cases k with
   | lv r => show b1 (swB x .none) + b1 (okD ⟨true, r⟩) = b1 (x.op == 2 && r.e == 0) + 0; simp [swB, okD, ho, b1]
   | ev j sh g => exact no5 h
  ·cases k <;> rfl
 | e0 => exact no5 h
 | eC j sh g w v m => exact no5 h
 | eS j sh g w v m n => exact no5 h
 | s0 => exact no6 h
 | sM lv => exact no6 h
 | sF lv i => exact no6 h
 | sG lv i v m => exact no6 h
 | sH lv i up m => exact no6 h
 | sL lv i up m => exact no6 h
 | sV lv => exact no6 h
end Core
end Go.Proofs.YtplpofmnhcclbaaGreat

namespace Go.Proofs.YtplpofmnhcclbaaGreat
namespace Core
open Dir (FZ plc upd upW Iw okW lowW upd_same upd_ne pow_pos2 plc_sh sh_32 word_sh)
open Hm (home plc_pos home_live)
variable {sm : List Int → Int} {P : Ops}
theorem Pre.to {Z : At0} {M M' : Mc} {x : X} {a : Int} (h : Pre sm Z M x a) (ho : ∀ k, Core.own sm M' k = Core.own sm M k) (h33 : M'.W 33 = M.W 33) (hc : M'.clk = M.clk) : Pre sm Z M' x a :=
 ⟨fun k => by rw [ho, h.own], by rw [h33, h.w33], by rw [hc, h.clk], h.x⟩
theorem step_J (hP : OpsOk sm P) {Z : At0} {M : Mc} {B : Int} (hi : Iw M.W B) (hB : 1 ≤ B ∧ B + 1 < FZ) {x : X} {s : CS} (hs : Cw x M.W s) (hI : Ih sm M) (hc : Ch sm P x M s) (hroom : Z.w32 ≠ P.room) (h : Jk sm P Z M x s) : Jo sm P Z (step P M x s) := by
 have calm : hit M s = false → (∀ j sh g w v m n, s ≠ .eS j sh g w v m n) → ∀ k, own sm (step P M x s).M k = own sm M k := fun h1 h2 => step_calm hP hi hB hs hI hc h1 h2
 have p32 : ∀ lv, lv ≤ 4 → ∀ s : Int, plc lv s < 32 := fun lv hl s => by obtain ⟨i, h1, h2⟩ := plc_sh lv s; rw [h2]; exact (sh_32 hl h1).2
 have ne : ∀ (w j : Nat) (v : Int) (h : List Cel), j ≠ w → (M.set w v h).W j = M.W j := fun w j v h hw => upd_ne _ _ hw
 cases s with
 | k0 f =>
  obtain ⟨rfl, h1, h2, h3, h4⟩ := h
  refine ⟨fun _ => ?_, (fun e => by cases e)⟩
  show Jk sm P Z M x (if _ then _ else _)
  split <;> exact ⟨rfl, h1, h2, h3, h4⟩
 | kE f w =>
  obtain ⟨rfl, h1, h2, h3, h4⟩ := h
  obtain ⟨lv, i, hl, hi2, rfl⟩ := word_sh hs.2
  have hsh := hi.sh hl hi2
  exact entered_J hP hi hI hc.1 h1 h2 h3 h4 hc.2 (by unfold okW at hsh; omega)
 | kF f lv w =>
  obtain ⟨rfl, h1, h2, h3, h4⟩ := h
  refine ⟨fun _ => ?_, (fun e => by cases e)⟩
  show Jk sm P Z M x (if _ then _ else _)
  split <;> exact ⟨rfl, h1, h2, h3, h4⟩
 | kG f lv w v m =>
  obtain ⟨rfl, h1, h2, h3, h4⟩ := h
  have hcalm := calm rfl (by simp)
  have hw : w < 32 := by rw [hs.2.2.1]; exact p32 _ (by have := hs.2.1; omega) _
  by_cases hm : M.W w = v
  ·simp only [step, if_pos hm] at hcalm ⊢
   refine ⟨fun _ => ⟨rfl, h1.to hcalm (ne _ _ _ _ (by omega)) rfl, h2, h3, ?_⟩, (fun e => by cases e)⟩
   show (M.set w (v + FZ) m).W 32 = _
   rw [ne _ _ _ _ (by omega)]; exact h4
  ·simp only [step, if_neg hm]
   exact ⟨fun _ => ⟨rfl, h1, h2, h3, h4⟩, (fun e => by cases e)⟩
 | kH f lv w m =>
  obtain ⟨rfl, h1, h2, h3, h4⟩ := h
  obtain ⟨z, a, b, d, e, g⟩ := hs
  by_cases hm : M.W w = 0
  ·simp only [step, if_pos hm]
   exact ⟨fun _ => ⟨rfl, h1, h2, h3, h4⟩, (fun e => by cases e)⟩
  ·simp only [step, if_neg hm]
   have hw : w < 32 := by rw [d]; exact p32 _ b _
   have hw1 : 1 ≤ w := by rw [d]; exact plc_pos _ _
   obtain ⟨lv2, i, hl, hi2, e2⟩ := word_sh ⟨hw1, hw⟩
   have hsh := hi.sh hl hi2
   rw [← e2] at hsh
   exact entered_J hP hi hI hc.1 h1 h2 h3 h4 ⟨lv, b, d⟩ (by unfold okW at hsh; omega)
 | kL f lv w m =>
  obtain ⟨rfl, h1, h2, h3, h4⟩ := h
  have hcalm := calm rfl (by simp)
  have hw : w < 32 := by rw [hs.2.2.2.1]; exact p32 _ hs.2.2.1 _
  refine ⟨fun _ => ?_, (fun e => by cases e)⟩
  show Jk sm P Z (if M.W w = 0 then M.set w 1 (P.cut m lv (w - 2 ^ lv)) else M) x (.kE .key w)
  replace hcalm : ∀ k, own sm (if M.W w = 0 then M.set w 1 (P.cut m lv (w - 2 ^ lv)) else M) k = own sm M k := hcalm
  by_cases hm : M.W w = 0
  ·rw [if_pos hm] at hcalm ⊢
   refine ⟨rfl, h1.to hcalm (ne _ _ _ _ (by omega)) rfl, h2, h3, ?_⟩
   rw [ne _ _ _ _ (by omega)]; exact h4
  ·rw [if_neg hm]; exact ⟨rfl, h1, h2, h3, h4⟩
 | al f =>
  obtain ⟨h1, h2, h3, h4, h5, h6, h7, h8⟩ := h
  have hq := res1_x (P := P) h1
  have ht : M.clk = Z.clk := h1.clk
  simp only [step]
  split
  ·rename_i hg
   rw [leave_0 h4]
   refine ⟨(fun e => by cases e), fun _ => Jd.none h1 h5 ?_⟩
   rw [hq]; unfold one
   rw [if_pos h2, ← h7, ← ht, if_pos hg]; rfl
  ·rename_i hg
   refine ⟨fun _ => put_J (show Pre sm Z M x (if x.op = 2 then Z.w33 + 1 else Z.w33) by rw [if_neg (by omega)]; exact h1) ?_ h4 h4 h5 h6 h8, (fun e => by cases e)⟩
   rw [hq]; unfold one
   rw [if_pos h2, ← h7, ← ht, if_neg hg]
 | pk c =>
  obtain ⟨h1, ⟨h2, h3, h4⟩, h5, h6, h7⟩ := h
  have hq := res1_x (P := P) h1
  refine ⟨(fun e => by cases e), fun _ => Jd.none h1 h6 ?_⟩
  rw [hq]; unfold one
  rw [if_neg h2, if_neg h3, if_neg h4, if_neg h5, ← h7, ← h1.clk]; rfl
 | a0 f =>
  obtain ⟨h1, h2, h3, h4, h5, h6, h7, h8, h9⟩ := h
  have hq := res1_x (P := P) h1
  simp only [step]
  split
  ·rename_i hm
   rw [leave_0 h5]
   refine ⟨(fun e => by cases e), fun _ => Jd.none h1 h6 ?_⟩
   rw [hq]; unfold one
   rw [if_neg (by omega), if_pos h2, ← h8, if_neg h3, if_pos (by rw [← h1.w33]; exact hm)]; rfl
  ·rename_i hm
   exact ⟨fun _ => ⟨h1.w33, by rw [← h1.w33]; exact hm, h1, h2, h3, h4, h5, h6, h7, h8, h9⟩, (fun e => by cases e)⟩
 | a1 f u =>
  obtain ⟨hu, hmx, h1, h2, h3, h4, h5, h6, h7, h8, h9⟩ := h
  have hq := res1_x (P := P) h1
  have hcalm := calm rfl (by simp)
  have hm : M.W 33 = u := by rw [h1.w33, hu]
  simp only [step, if_pos hm] at hcalm ⊢
  have hf : f.w < 32 := hs.1.2.1
  have hpre : Pre sm Z (M.set 33 (u + 1) []) { x with ser := u + 1 } (if x.op = 2 then Z.w33 + 1 else Z.w33) := by
   refine ⟨fun k => by rw [hcalm, h1.own], ?_, h1.clk, h1.x⟩
   show upd M.W 33 (u + 1) 33 = _
   rw [upd_same, if_pos h2, hu]
  refine ⟨fun _ => put_J (x := { x with ser := u + 1 }) hpre ?_ h5 h5 (by rw [ne _ _ _ _ (by omega)]; exact h6) (by rw [ne _ _ _ _ (by omega)]; exact h7) h9, (fun e => by cases e)⟩
  rw [hq]; unfold one
  rw [if_neg (by omega), if_pos h2, ← h8, if_neg h3, if_neg hmx, hu]
 | p0 f c r =>
  obtain ⟨h1, h2, h3, h4, h5, h6, h7⟩ := h
  simp only [step]
  rw [if_neg (by rw [h4]; exact hroom)]
  exact ⟨fun _ => ⟨h4, h1, h2, h3, h4, h5, h6, h7⟩, (fun e => by cases e)⟩
 | p1 f c r u =>
  obtain ⟨hu, h1, h2, h3, h4, h5, h6, h7⟩ := h
  have hcalm := calm rfl (by simp)
  have hm : M.W 32 = u := by rw [h4, hu]
  have hf : f.w < 32 := hs.1.2.1
  simp only [step, if_pos hm] at hcalm ⊢
  refine ⟨fun _ => ⟨⟨fun k => by rw [hcalm, h1.own], ?_, h1.clk, h1.x⟩, h2, (by rw [ne _ _ _ _ (by omega)]; exact h5), by rw [h7]; exact h6, ?_⟩, (fun e => by cases e)⟩
  ·rw [ne _ _ _ _ (by omega)]; exact h1.w33
  ·rw [if_neg (by rw [h6]; simp)]
   show upd M.W 32 (u + 1) 32 = _
   rw [upd_same, hu]
 | pS f c r =>
  obtain ⟨h1, h2, h3, h4, h5⟩ := h
  have hf : f.w < 32 := hs.1.2.1
  have hrr : (if f.there = true then leave x r else (.none, ⟨true, r⟩) : CS × Rs) = (.none, ⟨true, r⟩) := by
   split
   ·rename_i ht; rw [if_pos ht] at h5; exact leave_0 h5.1 r
   ·rfl
  have hown : ∀ k, own sm (step P M x (.pS f c r)).M k = if k = x.pol :: x.key then some c else own sm M k := by
   cases (step_eff hP hi hB hs hI hc).own with
   | calm hd ho hn => exact absurd h3 (hn f c r rfl)
   | put f' c' r' e hw h0 ho => cases e; exact ho
   | evict j sh g w v m n e => cases e
  simp only [step, if_pos h3] at hown ⊢
  rw [hrr]
  have ek : kk Z = x.pol :: x.key := by unfold kk; rw [← h1.x.2.1, ← h1.x.2.2.1]
  refine ⟨(fun e => by cases e), fun _ => ⟨by rw [h2]; rfl, fun k => ?_, ?_, ?_, h1.clk⟩⟩
  ·show own sm (M.set f.w (f.v + 1) _) k = _
   rw [h2, ek]
   refine (hown k).trans ?_
   split
   ·rfl
   ·exact h1.own k
  ·show (M.set f.w (f.v + 1) _).W 33 = _
   rw [ne _ _ _ _ (by omega), h1.w33, h2, h1.x.1]; simp
  ·show (M.set f.w (f.v + 1) _).W 32 = _
   rw [ne _ _ _ _ (by omega), h2]
   cases e : oc Z with
   | none =>
    rw [e] at h4
    rw [if_neg (by rw [h4]; simp)] at h5
    rw [if_pos ⟨rfl, rfl⟩]; exact h5
   | some d =>
    rw [e] at h4
    have h4 : f.there = true := h4
    rw [if_pos h4] at h5
    rw [if_neg (by simp)]; exact h5.2
 | _ => exact False.elim h
end Core
end Go.Proofs.YtplpofmnhcclbaaGreat

namespace Go.Proofs.YtplpofmnhcclbaaGreat
namespace Core
open Dir (FZ plc upd upW Iw okW lowW upd_same upd_ne pow_pos2 plc_sh sh_32 word_sh)
open Hm (home)
variable {sm : List Int → Int} {P : Ops}
def Less (sm : List Int → Int) (P : Ops) (own0 : List Int → Option Cel) (M : Mc) : Prop := ∀ k, own sm M k = own0 k ∨ (own sm M k = none ∧ ∃ c t, own0 k = some c ∧ t ≤ M.clk ∧ P.idle c t = true)
theorem step_less (hP : OpsOk sm P) {M : Mc} {B : Int} (hi : Iw M.W B) (hB : 1 ≤ B ∧ B + 1 < FZ) {x : X} {s : CS} (hs : Cw x M.W s) (hI : Ih sm M) (hc : Ch sm P x M s) (hf : Fr P x s) (ho : x.op = 5 ∨ x.op = 6) {own0 : List Int → Option Cel} (hclk : (step P M x s).M.clk = M.clk) (h : Less sm P own0 M) : Less sm P own0 (step P M x s).M := by
 cases (step_eff hP hi hB hs hI hc).own with
 | calm hd h1 hn => exact fun k => by rw [h1, hclk]; exact h k
 | put f c r e hw h0 h1 =>
  subst e
  have hop : x.op = 1 ∨ x.op = 2 ∨ x.op = 3 := by
   rcases hf with a | a | a
   ·exact .inl a.1
   ·exact .inr (.inl a.1)
   ·exact .inr (.inr a.1)
  omega
 | evict j sh g w v m n e hw t ht hm hn h1 =>
  subst e
  have hsr : Srt (M.Hd w) := hI.word ⟨hs.2.2.1, hs.2.2.2.1⟩
  intro k
  rw [h1, hclk]
  by_cases e : home M.W (sm k) = w
  ·rw [if_pos e, hm]
   have e2 : own sm M k = look (M.Hd w) k := by unfold own; rw [e]
   show look ((M.Hd w).filter _) k = _ ∨ look ((M.Hd w).filter _) k = none ∧ _
   rw [filter_look hsr, ← e2]
   rcases h k with h9 | ⟨h9, c, t', a, b, d⟩
   ·cases e3 : own0 k with
    | none => rw [h9, e3]; exact .inl rfl
    | some c =>
     rw [h9, e3]
     cases e4 : P.idle c t with
     | true => exact .inr ⟨by simp [e4], c, t, rfl, ht, e4⟩
     | false => exact .inl (by simp [e4])
   ·rw [h9]; exact .inr ⟨rfl, c, t', a, b, d⟩
  ·rw [if_neg e]; exact h k
theorem further_e (j sh : Nat) (g : Int) : (further j sh g).2.r.e = 0 := by unfold further; split <;> rfl
theorem entered_e5 {x : X} (h : x.op = 5) {f : Fc} (hf : Fo x f) (w : Nat) (v : Int) (l : List Cel) : (entered P x f w v l).2.r.e = 0 := by
 unfold entered
 split
 ·rfl
 ·unfold found
  cases f with
  | key => exact absurd h hf.1
  | ev j sh g =>
   dsimp only
   split
   ·exact further_e _ _ _
   ·rfl
theorem step_e56 {M : Mc} {x : X} {s : CS} (hf : Fr P x s) (hn : s ≠ .none) : (x.op = 5 → (step P M x s).r.r.e = 0) ∧ (x.op = 6 → (step P M x s).r.r.e = 0 ∨ (step P M x s).r.r.e = 5) := by
 have key : ∀ {f : Fc}, Fo x f → x.op = 6 → False := fun {f} h h6 => by
  cases f with
  | key => exact h.2 h6
  | ev j sh g => have : x.op = 5 := h; omega
 cases s with
 | none => exact absurd rfl hn
 | k0 f => exact ⟨fun _ => rfl, fun _ => .inl rfl⟩
 | kE f w => exact ⟨fun h => entered_e5 h hf _ _ _, fun h => (key hf h).elim⟩
 | kF f lv w => exact ⟨fun _ => rfl, fun _ => .inl rfl⟩
 | kG f lv w v m => simp only [step]; split <;> exact ⟨fun _ => rfl, fun _ => .inl rfl⟩
 | kH f lv w m =>
  simp only [step]; split
  ·exact ⟨fun _ => rfl, fun _ => .inl rfl⟩
  ·exact ⟨fun h => entered_e5 h hf _ _ _, fun h => (key hf h).elim⟩
 | kL f lv w m => exact ⟨fun _ => rfl, fun _ => .inl rfl⟩
 | al f => have h1 : x.op = 1 := hf; exact ⟨fun h => by omega, fun h => by omega⟩
 | pk c => exact ⟨fun h => absurd h hf.2.2.2.1, fun h => absurd h hf.2.2.2.2⟩
 | a0 f => have h1 := hf.1; exact ⟨fun h => by omega, fun h => by omega⟩
 | a1 f u => have h1 := hf.1; exact ⟨fun h => by omega, fun h => by omega⟩
 | p0 f c r => exact ⟨fun h => by rcases hf with a | a | a <;> (have := a.1; omega), fun h => by rcases hf with a | a | a <;> (have := a.1; omega)⟩
 | p1 f c r u => exact ⟨fun h => by rcases hf with a | a | a <;> (have := a.1; omega), fun h => by rcases hf with a | a | a <;> (have := a.1; omega)⟩
 | pS f c r => exact ⟨fun h => by rcases hf with a | a | a <;> (have := a.1; omega), fun h => by rcases hf with a | a | a <;> (have := a.1; omega)⟩
 | b0 n k => exact ⟨fun _ => rfl, fun _ => .inl rfl⟩
 | b1 n k u =>
  cases k with
  | lv r => exact ⟨fun h => by rcases hf.1 with a | a <;> (have := a.1; omega), fun h => by rcases hf.1 with a | a <;> (have := a.1; omega)⟩
  | ev j sh g =>
   have h5 : x.op = 5 := hf
   simp only [step]; split
   ·exact ⟨fun _ => further_e _ _ _, fun h => by omega⟩
   ·exact ⟨fun _ => rfl, fun _ => .inl rfl⟩
 | e0 => exact ⟨fun _ => rfl, fun _ => .inl rfl⟩
 | eC j sh g w v m =>
  have h5 : x.op = 5 := hf
  simp only [step]; split
  ·exact ⟨fun _ => further_e _ _ _, fun h => by omega⟩
  ·exact ⟨fun _ => rfl, fun _ => .inl rfl⟩
 | eS j sh g w v m n =>
  have h5 : x.op = 5 := hf
  simp only [step]; split
  ·exact ⟨fun _ => rfl, fun _ => .inl rfl⟩
  ·exact ⟨fun _ => further_e _ _ _, fun h => by omega⟩
 | s0 =>
  have h6 : x.op = 6 := hf
  simp only [step]; split
  ·exact ⟨fun _ => rfl, fun _ => .inl rfl⟩
  ·split
   ·exact ⟨fun h => by omega, fun _ => .inr rfl⟩
   ·exact ⟨fun _ => rfl, fun _ => .inl rfl⟩
 | sM lv => simp only [step]; split <;> exact ⟨fun _ => rfl, fun _ => .inl rfl⟩
 | sF lv i => exact ⟨fun _ => rfl, fun _ => .inl rfl⟩
 | sG lv i v m => simp only [step]; split <;> exact ⟨fun _ => rfl, fun _ => .inl rfl⟩
 | sH lv i up m => exact ⟨fun _ => rfl, fun _ => .inl rfl⟩
 | sL lv i up m => exact ⟨fun _ => rfl, fun _ => .inl rfl⟩
 | sV lv => exact ⟨fun _ => rfl, fun _ => .inl rfl⟩
theorem step_w56 {M : Mc} {B : Int} (hi : Iw M.W B) (hB : 1 ≤ B ∧ B + 1 < FZ) {x : X} (hx : 0 ≤ x.ser) (h33 : 0 ≤ M.W 33) {s : CS} (hs : Cw x M.W s) (hf : Fr P x s) (ho : x.op = 5 ∨ x.op = 6) : (step P M x s).M.W 33 = M.W 33 := by
 rcases step_ser33 (P := P) hi hB hx h33 hs with ⟨a, _⟩ | ⟨a, _, _, _⟩
 ·exact a
 ·cases (step_ok (P := P) hi hB hx h33 hs).chg with
  | no h => rw [h]
  | d h1 h2 => rw [h1, upd_ne _ _ (by omega)]
  | fz w h0 h1 h2 => rw [h2, upd_ne _ _ (by omega)]
  | lay w h0 h1 h2 => rw [h2, upd_ne _ _ (by omega)]
  | key w h0 h1 h2 => rw [h2, upd_ne _ _ (by omega)]
  | cnt y h2 => rw [h2, upd_ne _ _ (by omega)]
  | ser h1 h2 hk =>
   cases s with
   | a1 f u => have := hf.1; omega
   | _ => exact absurd hk (by simp [kd])
end Core
end Go.Proofs.YtplpofmnhcclbaaGreat

namespace Go.Proofs.YtplpofmnhcclbaaGreat
namespace Core
open Dir (FZ upd upW Iw)
variable {sm : List Int → Int} {P : Ops} {V : Cel → Prop} {Q : X → Prop}
theorem all_le (hP : OpsOk sm P) {M M' : Mc} {B B' : Int} (h : Iw M.W B) (hI : Ih sm M) (h' : Iw M'.W B') (hI' : Ih sm M') (ho : ∀ k, own sm M' k = own sm M k ∨ own sm M' k = none) : (allE P M').length ≤ (allE P M).length := by
 have hp : (allE P M').Perm ((allE P M).filter fun e => (own sm M' (idn e)).isSome) := by
  refine (List.perm_ext_iff_of_nodup (allE_nodup hP h' hI') ((allE_nodup hP h hI).filter _)).2 fun e => ?_
  rw [List.mem_filter, (all_ok hP h hI).2, (all_ok hP h' hI').2]
  rcases ho (idn e) with h1 | h1
  ·rw [h1]
   constructor
   ·intro h9; exact ⟨h9, by rw [h9]; rfl⟩
   ·exact fun h9 => h9.1
  ·rw [h1]; simp
 rw [hp.length_eq]
 exact List.length_filter_le _ _
structure OpsUn (P : Ops) (V : Cel → Prop) (Q : X → Prop) : Prop where
 idle : ∀ x c t clk w33, Q x → V c → idn c = x.pol :: x.key → P.idle c t = true → t ≤ clk → 0 ≤ clk → clk ≤ 4611686018427387903 → one P x (some c) clk w33 = one P x none clk w33
 cl : ∀ x o clk w33 c, Q x → (∀ d, o = some d → V d ∧ idn d = x.pol :: x.key) → (one P x o clk w33).2 = some c → V c
structure Un (sm : List Int → Int) (P : Ops) (V : Cel → Prop) (M M' : Mc) : Prop where
 own : ∀ k, Core.own sm M' k = Core.own sm M k ∨ (Core.own sm M' k = none ∧ ∃ c t, Core.own sm M k = some c ∧ t ≤ M.clk ∧ P.idle c t = true)
 v : ∀ k c, Core.own sm M k = some c → V c
 w33 : M'.W 33 = M.W 33
 clk : M'.clk = M.clk
theorem Un.zero : Un sm P V M0 M0 := by
 refine ⟨fun _ => .inl rfl, fun k c h => ?_, rfl, rfl⟩
 have : Core.own sm M0 k = none := rfl
 rw [this] at h; cases h
theorem Un.tick {M M' : Mc} (h : Un sm P V M M') {t : Int} (ht : M.clk ≤ t) : Un sm P V { M with clk := t } { M' with clk := t } := by
 refine ⟨fun k => ?_, h.v, h.w33, rfl⟩
 rcases h.own k with h1 | ⟨h1, c, u, h2, h3, h4⟩
 ·exact .inl h1
 ·exact .inr ⟨h1, c, u, h2, Int.le_trans h3 ht, h4⟩
theorem Un.key (hP : OpsUn P V Q) {Z Z' : At0} {M1 M1' M M' : Mc} {r r' : Rpl} (j : Jd sm P Z M r) (j' : Jd sm P Z' M' r') (h : Un sm P V M1 M1') (z1 : Z.own = Core.own sm M1) (z2 : Z.w33 = M1.W 33) (z3 : Z.clk = M1.clk) (z1' : Z'.own = Core.own sm M1') (z2' : Z'.w33 = M1'.W 33) (z3' : Z'.clk = M1'.clk) (hx : Z'.x = Z.x) (hq : Q Z.x) (hc : 0 ≤ M1.clk ∧ M1.clk ≤ 4611686018427387903) : r' = r ∧ Un sm P V M M' := by
 have hk : kk Z' = kk Z := by unfold kk; rw [hx]
 have e : res1 P Z' = res1 P Z := by
  unfold res1 oc
  rw [hx, hk, z1, z1', z3, z3', z2, z2', h.w33, h.clk]
  rcases h.own (kk Z) with h1 | ⟨h1, c, t, h2, h3, h4⟩
  ·rw [h1]
  ·rw [h1, h2]
   exact (hP.idle _ c t _ _ hq (h.v _ c h2) (own_idn h2) h4 h3 hc.1 hc.2).symm
 refine ⟨by rw [j'.r, j.r, e], fun k => ?_, fun k c h9 => ?_, ?_, by rw [j'.clk, j.clk, z3, z3', h.clk]⟩
 ·rw [j'.own, j.own, hk, e, j.clk, z3, z1, z1']
  split
  ·cases (res1 P Z).2 with
   | none => rw [Option.none_or, Option.none_or]; exact h.own _
   | some d => rw [Option.some_or, Option.some_or]; exact .inl rfl
  ·exact h.own k
 ·rw [j.own, z1] at h9
  split at h9
  ·cases e2 : (res1 P Z).2 with
   | none => rw [e2, Option.none_or] at h9; exact h.v _ _ h9
   | some d =>
    rw [e2, Option.some_or] at h9
    cases h9
    refine hP.cl Z.x (oc Z) Z.clk Z.w33 c hq (fun d hd => ?_) e2
    unfold oc at hd
    rw [z1] at hd
    exact ⟨h.v _ _ hd, own_idn hd⟩
  ·exact h.v _ _ h9
 ·rw [j'.w33, j.w33, hx, e, z2, z2', h.w33]
theorem Un.evict {M M1' M' : Mc} (h : Un sm P V M M1') (hl : Less sm P (Core.own sm M1') M') (h33 : M'.W 33 = M1'.W 33) (hc : M'.clk = M1'.clk) : Un sm P V M M' := by
 refine ⟨fun k => ?_, h.v, by rw [h33, h.w33], by rw [hc, h.clk]⟩
 rcases hl k with h1 | ⟨h1, c, t, h2, h3, h4⟩
 ·rw [h1]; exact h.own k
 ·refine .inr ⟨h1, ?_⟩
  rw [hc, h.clk] at h3
  rcases h.own k with h5 | ⟨h5, _⟩
  ·exact ⟨c, t, by rw [← h5]; exact h2, h3, h4⟩
  ·rw [h2] at h5; cases h5
theorem Un.len (hP : OpsOk sm P) {M M' : Mc} {B B' : Int} (u : Un sm P V M M') (h : Iw M.W B) (hI : Ih sm M) (h' : Iw M'.W B') (hI' : Ih sm M') : (allE P M').length ≤ (allE P M).length :=
 all_le hP h hI h' hI' fun k => by
  rcases u.own k with h1 | ⟨h1, _⟩
  ·exact .inl h1
  ·exact .inr h1
end Core
end Go.Proofs.YtplpofmnhcclbaaGreat

namespace Go.Proofs.YtplpofmnhcclbaaGreat
open Go.RowKit
theorem left_idle {T tau tat now : Int} (h1 : tat ≤ now) (h2 : 0 ≤ now) : leftI T tau tat now = leftI T tau 0 now := by
 unfold leftI
 rw [show max tat now = now by omega, show max (0 : Int) now = now by omega]
theorem tick_zero : tickB 0 = true := (tickB_iff 0).2 ⟨by omega, by omega⟩
theorem chk_idle {T tau tat now n : Int} (h0 : 0 ≤ tat) (h1 : tat ≤ now) (h3 : now ≤ 4611686018427387903) : chkL T tau [tat, now, n] = chkL T tau [0, now, n] ∧ chkL T tau [tat, now] = chkL T tau [0, now] := by
 have : tickB tat = true := (tickB_iff _).2 ⟨h0, by omega⟩
 unfold chkL
 simp only [List.all_cons, this, tick_zero, Bool.true_and]
 exact ⟨trivial, trivial⟩
theorem wait_idle {T tau tat now n : Int} (hT : 1 ≤ T) (ht : 0 ≤ tau) (h1 : tat ≤ now) (hn : ¬ n ≤ leftI T tau tat now) : waitI T tau tat now n = 4611686018427387903 := by
 unfold waitI
 rw [if_neg]
 rintro ⟨a, b⟩
 refine hn ?_
 unfold leftI
 rw [show max tat now = now by omega] at b ⊢
 have : n - 1 ≤ tau / T := (Int.le_ediv_iff_mul_le (show 0 < T by omega)).2 a
 rw [if_neg (by omega), show tau - (now - now) = tau by omega]
 omega
theorem dec_idle {T tau tat now n : Int} (h0 : 0 ≤ tat) (h1 : tat ≤ now) (h3 : now ≤ 4611686018427387903) :
  (decA T tau tat now n).g = (decA T tau 0 now n).g ∧ (decA T tau tat now n).wait = (decA T tau 0 now n).wait ∧ (decA T tau tat now n).left = (decA T tau 0 now n).left ∧ ((decA T tau tat now n).g = true → n ≠ 0 → (decA T tau tat now n).tat = (decA T tau 0 now n).tat) := by
 have hl : leftI T tau tat now = leftI T tau 0 now := left_idle h1 (by omega)
 have hc := (chk_idle (T := T) (tau := tau) (n := n) h0 h1 h3).1
 unfold decA
 rw [hc]
 split
 ·rename_i h9
  obtain ⟨⟨a1, a2⟩, _, _, a5⟩ := (chk3_0 _ _ _ _ _).1 h9
  unfold decI
  simp only [hl]
  have hm : max tat now = max 0 now := by omega
  refine ⟨trivial, ?_, ?_, ?_⟩
  ·split
   ·rfl
   ·rename_i hn
    rw [wait_idle a1.1 a2.1 h1 (by rw [hl]; exact hn), wait_idle a1.1 a2.1 (by omega) hn]
  ·unfold tatI
   rw [hl, hm]
   split
   ·rfl
   ·exact hl
  ·intro hg hn
   unfold tatI
   rw [hl, hm, if_pos ⟨by simpa using hg, by omega⟩, if_pos ⟨by simpa using hg, by omega⟩]
 ·exact ⟨rfl, rfl, rfl, fun _ _ => rfl⟩
theorem dec_tat {T tau tat now n : Int} (h0 : 0 ≤ tat) (hg : (decA T tau tat now n).g = true) : 0 ≤ (decA T tau tat now n).tat := by
 unfold decA at hg ⊢
 split
 ·rename_i h9
  obtain ⟨⟨a1, a2⟩, _, _, a5⟩ := (chk3_0 _ _ _ _ _).1 h9
  show 0 ≤ tatI T tau tat now n
  unfold tatI
  split
  ·rename_i h5
   have : 0 ≤ n * T := Int.mul_nonneg (by omega) (by omega)
   omega
  ·exact h0
 ·exact Int.le_refl _
theorem allow_idle {p : Pol} {c : Cel} {now n : Int} (hh : c.held = []) (h0 : 0 ≤ c.tat) (h1 : c.tat ≤ now) (h3 : now ≤ 4611686018427387903) :
  allowR p c now n = allowR p (newC c.pol c.key) now n ∧ ((allowR p c now n).g = true → n ≠ 0 → allowC p c now n = allowC p (newC c.pol c.key) now n) := by
 obtain ⟨d1, d2, d3, d4⟩ := dec_idle (T := p.T) (tau := p.tau) (n := n) h0 h1 h3
 refine ⟨?_, fun hg hn => ?_⟩
 ·unfold allowR
  simp only [newC, d1, d2, d3]
 ·unfold allowC
  simp only [newC, hh, d4 hg hn]
theorem peek_idle {p : Pol} {c : Cel} {now : Int} (hk : ¬ p.kind = 2) (h0 : 0 ≤ c.tat) (h1 : c.tat ≤ now) (h3 : now ≤ 4611686018427387903) : peekR p c now = peekR p (newC c.pol c.key) now := by
 unfold peekR
 rw [if_neg hk, if_neg hk]
 have e2 := (chk_idle (T := p.T) (tau := p.tau) (n := 0) h0 h1 h3).2
 have e3 : leftI p.T p.tau c.tat now = leftI p.T p.tau 0 now := left_idle h1 (by omega)
 have e4 : tkSub c.tat now = tkSub 0 now := by
  unfold tkSub
  rw [show max (c.tat - now) 0 = 0 by omega, show max (0 - now) 0 = 0 by omega]
  split <;> split <;> rfl
 simp only [newC, e2, e3, e4]
 rfl
end Go.Proofs.YtplpofmnhcclbaaGreat
