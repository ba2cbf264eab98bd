/- Lemmas of Smm. No condition. -/
import Derived.Test.YtpdhdnhkhidmpaaGreatME24
set_option linter.unusedVariables false
set_option linter.unusedSimpArgs false
set_option maxHeartbeats 80000000
set_option maxRecDepth 100000
namespace Go.Proofs.YtpdhdnhkhidmpaaGreat
open Go.RowKit
open Sim
theorem chk_pol {pol n : Int} {key : List Int} (h : lg ak 1 pol key n = 0) : pol = 0 := by
 unfold lg at h
 split at h
 ·cases h
 ·split at h
  ·cases h
  ·split at h
   ·rename_i h1; exact absurd h h1
   ·split at h
    ·cases h
    ·rename_i h1
     have h2 : ¬ (pol < 0 ∨ (ak.length : Int) ≤ pol ∨ (nm 1 ≠ 0 ∧ (ak.getD pol.toNat default).kind ≠ nm 1)) := fun h3 => h1 ⟨by decide, h3⟩
     have h3 : (ak.length : Int) = 2 := rfl
     rw [h3] at h2
     by_cases e : pol = 0
     ·exact e
     ·exfalso
      apply h2
      by_cases e0 : pol < 0
      ·exact .inl e0
      ·by_cases e1 : 2 ≤ pol
       ·exact .inr (.inl e1)
       ·obtain rfl : pol = 1 := by omega
        exact .inr (.inr (by decide))
theorem str_97 {xs : List Int} (hx : IsB xs) (h : (⟨(xs.map fun x => UInt8.ofNat x.toNat).toArray⟩ : ByteArray).toList = (⟨#[97]⟩ : ByteArray).toList) : xs = [97] := by
 have h1 : ∃ a, xs = [a] ∧ UInt8.ofNat a.toNat = 97 := by simpa using h
 obtain ⟨a, rfl, h2⟩ := h1
 have h3 := hx a (List.mem_singleton.2 rfl)
 have h4 : (UInt8.ofNat a.toNat).toNat = 97 := by rw [h2]; rfl
 rw [UInt8.toNat_ofNat'] at h4
 have : a = 97 := by omega
 rw [this]
@[reducible] def enK (out : List Dn) (i : Nat) : Ck := ckF ck0 (out.take i)
theorem vc {out : List Dn} {i : Nat} (h : i < out.length) : enK out (i + 1) = (enK out i).add (out.getD (i : Int).toNat default) := by
 have h1 : out.take (i + 1) = out.take i ++ [out.getD (i : Int).toNat default] := dx h
 show ckF ck0 (out.take (i + 1)) = _
 rw [h1, tc]
theorem sumD_nn (key : List Int) (fr to_ : Int) (l : List Dn) : 0 ≤ mM key fr to_ l := by
 have h := lI key fr to_ l 0
 rw [List.take_zero] at h
 exact h
theorem iD {α : Type} [Inhabited α] {l : List α} {i : Nat} (h : i < l.length) : l.getD i default ∈ l := by
 rw [Q1, Q0 h]; exact Q14 h
theorem lu (room : Int) (work : List (List Req)) (picks : List (Int × Int)) (fin : Bool) (frm more : Int) (hr : -9223372036854775808 ≤ room ∧ room ≤ 9223372036854775807) (hw : ∀ w ∈ work, ∀ c ∈ w, c.ok)
    (hp : ∀ p ∈ picks, (-9223372036854775808 ≤ p.1 ∧ p.1 ≤ 9223372036854775807) ∧ (-9223372036854775808 ≤ p.2 ∧ p.2 ≤ 9223372036854775807)) (hfr : 0 ≤ frm ∧ frm ≤ 255) (hmo : 0 ≤ more ∧ more ≤ 255) :
    Pure TC 7 [cfgD .any room work picks fin, .i .u8 frm, .i .u8 more] (.b true) := by
  have hF := r6 room work picks fin true hr hw hp
  have hW := u5 hw
  have hW5 : (pT work).length ≤ 5 := by unfold pT; rw [List.length_map, Q10]; omega
  have hrb := fitR_bd room
  have hP : ∀ p ∈ (picks.take 400).map (kV (pT work).length), PickOk (pT work).length p := fun p hm => by
    obtain ⟨q, _, rfl⟩ := List.mem_map.1 hm
    exact (fitQ_ok _ q).1
  have hPl : ((picks.take 400).map (kV (pT work).length)).length ≤ 400 := by rw [List.length_map, Q10]; omega
  generalize (picks.take 400).map (kV (pT work).length) = P at hF hP hPl
  generalize pT work = W at hF hP hW hW5
  generalize tM room = R at hF hrb
  have hR1 := run_fit (room := R) (by omega) hW (P := P) (by omega) hP true
  obtain ⟨c1, c2, c3, c4, c5, c6, c7⟩ := u9 hrb hW hPl hP frm (frm + more) (by omega)
  dsimp only [repS] at hR1
  generalize fins (aa ak R) true W.length (Sim.picks (aa ak R) (ss0 W) P) = S1 at *
  obtain ⟨M, S, ws, out, k⟩ := S1
  dsimp only at c1 c2 c3 c4 c5 c6 c7 hR1
  rw [c2] at hR1
  have ht2 : (ak.length : Int) = 2 := rfl
  have hWi := m5 (ak.getD (0 : Int).toNat default).T (ak.getD (0 : Int).toNat default).tau more
  have w1 : mP (ak.getD (0 : Int).toNat default).T (ak.getD (0 : Int).toNat default).tau more = (more + 20) / 10 + 1 := if_pos ⟨by decide, by simp [bI]; omega⟩
  have w2 : mQ (ak.getD (0 : Int).toNat default).T (ak.getD (0 : Int).toNat default).tau more = 0 := if_pos ⟨by decide, by simp [bI]; omega⟩
  rw [w1, w2] at hWi
  rw [show frm + more - frm = more by omega] at c6
  have hmost : (more + 20) / 10 + 1 ≤ 100 := by omega
  generalize (more + 20) / 10 + 1 = most at hWi c6 hmost
  generalize gf ak R M = cells at hR1 c1
  generalize hm32 : M.W 32 = m32 at hR1 c1
  clear hm32
  refine Pure.mk' Tryz.func7 rfl rfl zN ?_
  (repeat' (first | ((first | refine Wp.any ac rfl ?_ | (with_reducible first | refine Go.mk ?_ | apply ah.of | refine Ov.ok zO ?_ | refine And.intro zC ?_ | refine ab.pure (awake19) rfl rfl ?_ | refine ab.pure (hF) rfl rfl ?_ | refine ab.pure (hR1) rfl rfl ?_ | refine ab.pure (ex) rfl rfl ?_ | refine ab.pure (hWi) rfl rfl ?_)); conv => whnf) | ((refine aq (fun hc => ?_) (fun hc => ?_)) <;> (try simp only [wz9] at hc) <;> (try (exfalso; omega)) <;> (conv => whnf))))
  refine Wp.loopP (ι := Nat) (fun i => i ≤ out.length) (fun i => ⟨⟨Tryz.f7.ntmps, 0⟩, 4, [(1, .i .u8 frm), (2, .i .u8 more), (7, .ptr 0 0), (8, .ptr 1 0), (10, .sl 2 1 0 W.length), (11, .sl 3 1 0 W.length), (14, .i .i64 (enK out i).en), (15, .i .i64 (most - mM [97] frm (frm + more) (out.take i))), (65, .d (am 13 Dn.D out)), (66, .i .i64 out.length), (67, .i .i64 i)],
    [(0, some (.cells [.any, .any, .d (am 1 aK W), .any, .any])), (1, some (.cells [.d (am 13 Dn.D out), .any, .any, .i .i64 k, .any, .any])), (2, some (.row 3 1 W.length fun j => aF .i64 ((enK out i).nx j))), (3, some (.row 3 1 W.length fun j => aF .i64 ((enK out i).la j)))]⟩) (fun i => out.length - i) 0 (Nat.zero_le _) ?_ ?_
  · (refine Le.by [1,2,3,4] rfl rfl rfl rfl ?_ ?_ <;> ((conv => whnf); repeat' (first | exact trivial | exact ae.rfl rfl | exact ae.ptr rfl | exact ae.sl rfl | exact ae.free SV.Le.any rfl | exact ⟨rfl, rfl, rfl⟩ | exact fun i hi => rfl | ((with_reducible refine And.intro ?_ ?_) <;> (conv => whnf)))))
    exact ae.free (SV.Le.i (by show most = most - 0; omega)) rfl
  · rintro i h1
    by_cases hi : i < out.length
    · obtain ⟨q1, q2, q3, q4, q5, q6⟩ := o6 out ck0 c3 i hi
      have hx : out[i] = out.getD (i : Int).toNat default := by rw [Q13, Q1, Q0 hi]; rfl
      rw [hx] at q1 q2 q3 q4 q5 q6
      have hs1 := vc hi
      have hr1 := nW [97] frm (frm + more) (out.take i) (out.getD (i : Int).toNat default)
      rw [← dx hi] at hr1
      have hr2 := lI [97] frm (frm + more) out (i + 1)
      change (enK out i).nx _ < _ at q2
      change _ = (W.getD (out.getD (i : Int).toNat default).who.toNat default).getD ((enK out i).nx (out.getD (i : Int).toNat default).who.toNat) default at q3
      change (enK out i).la _ < _ at q4
      change (enK out i).en < _ at q6
      have z0 := Q19 (out.getD (i : Int).toNat default).who.toNat
      have q2' : (((enK out i).nx (0 + (out.getD (i : Int).toNat default).who.toNat) : Nat) : Int) < (((W.getD (out.getD (i : Int).toNat default).who.toNat default).length : Nat) : Int) := by rw [z0]; exact Int.ofNat_lt.2 q2
      have q4' : (enK out i).la (0 + (out.getD (i : Int).toNat default).who.toNat) < (out.getD (i : Int).toNat default).first := by rw [z0]; exact q4
      have hck : gj (out.getD (i : Int).toNat default).c := by
        rw [q3]
        refine hW.call (W.getD (out.getD (i : Int).toNat default).who.toNat default) ?_ _ ?_
        · exact iD (by omega)
        · exact iD q2
      have q2b : (W.getD (out.getD (i : Int).toNat default).who.toNat default).length ≤ 64 := hW.each _ (iD (by omega))
      have hn0 := hck.n
      have hS0 := sumD_nn [97] frm (frm + more) (out.take i)
      have hR0 := lS [97] frm (frm + more) (out.getD (i : Int).toNat default)
      have hyes : (out.getD (i : Int).toNat default).c.op = 1 → (⟨((out.getD (i : Int).toNat default).c.key.map fun x => UInt8.ofNat x.toNat).toArray⟩ : ByteArray).toList = (⟨#[97]⟩ : ByteArray).toList → (out.getD (i : Int).toNat default).r.g = true →
          (out.getD (i : Int).toNat default).r.now ≥ frm → (out.getD (i : Int).toNat default).r.now ≤ frm + more → bk [97] frm (frm + more) (out.getD (i : Int).toNat default) = (out.getD (i : Int).toNat default).c.n := fun h1 h2 h3 h4 h5 =>
        if_pos ⟨h1, chk_pol (by have := hck.chk; rw [h1] at this; exact this), str_97 (hck.kx (by rw [h1]; decide) (by rw [h1]; decide)).1 h2, h3, h4, h5, hn0⟩
      have hno1 : ¬ (out.getD (i : Int).toNat default).c.op = 1 → bk [97] frm (frm + more) (out.getD (i : Int).toNat default) = 0 := fun h => if_neg fun z => h z.1
      have hno2 : ¬ (⟨((out.getD (i : Int).toNat default).c.key.map fun x => UInt8.ofNat x.toNat).toArray⟩ : ByteArray).toList = (⟨#[97]⟩ : ByteArray).toList → bk [97] frm (frm + more) (out.getD (i : Int).toNat default) = 0 := fun h => if_neg fun z => h (by rw [z.2.2.1]; rfl)
      have hno3 : (out.getD (i : Int).toNat default).r.g = false → bk [97] frm (frm + more) (out.getD (i : Int).toNat default) = 0 := fun h => if_neg fun z => by rw [h] at z; exact absurd z.2.2.2.1 (by decide)
      have hno4 : ¬ (out.getD (i : Int).toNat default).r.now ≥ frm → bk [97] frm (frm + more) (out.getD (i : Int).toNat default) = 0 := fun h => if_neg fun z => h z.2.2.2.2.1
      have hno5 : ¬ (out.getD (i : Int).toNat default).r.now ≤ frm + more → bk [97] frm (frm + more) (out.getD (i : Int).toNat default) = 0 := fun h => if_neg fun z => h z.2.2.2.2.2.1
      have hrw1 : ∀ k, k < W.length → (if k = 0 + (out.getD (i : Int).toNat default).who.toNat then aF .i64 (((enK out i).nx (0 + (out.getD (i : Int).toNat default).who.toNat) : Nat) + 1) else aF .i64 ((enK out i).nx k)) = aF .i64 (((enK out i).add (out.getD (i : Int).toNat default)).nx k) := fun k _ => by
        rw [z0]
        show _ = aF .i64 ((Dir.upd (enK out i).nx _ _ k : Nat) : Int)
        by_cases e : k = (out.getD (i : Int).toNat default).who.toNat
        · rw [if_pos e, e, Dir.upd_same]; rfl
        · rw [if_neg e, Dir.upd_ne _ _ e]
      have hrw2 : ∀ k, k < W.length → (if k = 0 + (out.getD (i : Int).toNat default).who.toNat then aF .i64 (out.getD (i : Int).toNat default).last else aF .i64 ((enK out i).la k)) = aF .i64 (((enK out i).add (out.getD (i : Int).toNat default)).la k) := fun k _ => by
        rw [z0]
        show _ = aF .i64 (Dir.upd (enK out i).la _ _ k)
        by_cases e : k = (out.getD (i : Int).toNat default).who.toNat
        · rw [if_pos e, e, Dir.upd_same]
        · rw [if_neg e, Dir.upd_ne _ _ e]
      have hCa := pF (out.getD (i : Int).toNat default).c
      have hCb : Pure TC 21 [(out.getD (i : Int).toNat default).c.S, ((W.getD (out.getD (i : Int).toNat default).who.toNat default).getD (((enK out i).nx (0 + (out.getD (i : Int).toNat default).who.toNat) : Nat) : Int).toNat default).S] (.b true) := by
        rw [z0]
        have e := Q13 ((enK out i).nx (out.getD (i : Int).toNat default).who.toNat)
        rw [e, ← q3]; exact hCa
      (repeat' (first | ((first | refine Wp.any ac rfl ?_ | (with_reducible first | refine Go.mk ?_ | apply ah.of | refine Ov.ok zO ?_) | refine zV ?_ | (with_reducible first | refine And.intro zC ?_ | refine ag.pure (hCb) rfl rfl ?_)); conv => whnf) | ((refine vE.mk' (out.getD (i : Int).toNat default).c.key rfl (fun i hi => rfl) ?_); (conv => whnf)) | ((refine aq (fun hc => ?_) (fun hc => ?_)) <;> (try simp only [wz9] at hc) <;> (try (exfalso; omega)) <;> (conv => whnf))))
      all_goals first
        | (exfalso; have := hyes ‹_› ‹_› ‹_› ‹_› ‹_›; omega)
        | (refine ⟨i + 1, by dsimp only; omega, by dsimp only; omega, ?_⟩
           dsimp only
           rw [hs1, hr1]
           first
             | rw [hyes ‹_› ‹_› ‹_› ‹_› ‹_›]
             | rw [hno1 ‹_›]
             | rw [hno2 ‹_›]
             | rw [hno3 ‹_›]
             | rw [hno4 ‹_›]
             | rw [hno5 ‹_›]
           (refine Le.by [0,1,2,3] rfl rfl rfl rfl ?_ ?_ <;> ((conv => whnf); repeat' (first | exact trivial | exact ae.rfl rfl | exact ae.ptr rfl | exact ae.sl rfl | exact ⟨rfl, rfl, rfl⟩ | ((with_reducible refine And.intro ?_ ?_) <;> (conv => whnf)))))
           all_goals first
             | exact hrw1
             | exact hrw2
             | exact ae.free (SV.Le.i (by omega)) rfl)
    · obtain rfl : i = out.length := by omega
      have e0 : enK out out.length = ckF ck0 out := by show ckF ck0 (out.take out.length) = _; rw [List.take_length]
      rw [e0, ← c5]
      generalize ckF ck0 out = K at *
      (repeat' (first | ((first | refine Wp.any ac rfl ?_ | (with_reducible first | refine Go.mk ?_ | apply ah.of)); conv => whnf) | ((refine aq (fun hc => ?_) (fun hc => ?_)) <;> (try simp only [wz9] at hc) <;> (try (exfalso; omega)) <;> (conv => whnf))))
      refine Wp.loopP (ι := Nat) (fun j => j ≤ W.length) (fun j => ⟨⟨Tryz.f7.ntmps, 0⟩, 3, [(7, .ptr 0 0), (8, .ptr 1 0), (10, .sl 2 1 0 W.length), (14, .i .i64 k), (199, .i .i64 W.length), (200, .i .i64 j)],
        [(0, some (.cells [.any, .any, .d (am 1 aK W), .any, .any])), (1, some (.cells [.d (am 13 Dn.D out), .any, .any, .i .i64 k, .any, .any])), (2, some (.row 3 1 W.length fun j => aF .i64 (K.nx j)))]⟩) (fun j => W.length - j) 0 (Nat.zero_le _) ?_ ?_
      · (refine Le.by [0,1,2] rfl rfl rfl rfl ?_ ?_ <;> ((conv => whnf); repeat' (first | exact trivial | exact ae.rfl rfl | exact ae.ptr rfl | exact ae.sl rfl | exact ⟨rfl, rfl, rfl⟩ | exact fun i hi => rfl | ((with_reducible refine And.intro ?_ ?_) <;> (conv => whnf)))))
      · rintro j h2
        by_cases hj : j < W.length
        · have hnx := c4 j hj
          have hnx' : ((K.nx (0 + (j : Int).toNat) : Nat) : Int) = (((W.getD (j : Int).toNat default).length : Nat) : Int) := by
            rw [Q19, Q13]; exact congrArg Int.ofNat hnx
          (repeat' (first | ((first | refine Wp.any ac rfl ?_ | (with_reducible first | refine Go.mk ?_ | apply ah.of | refine Ov.ok zO ?_) | refine zV ?_ | with_reducible refine And.intro zC ?_); conv => whnf) | ((refine aq (fun hc => ?_) (fun hc => ?_)) <;> (try simp only [wz9] at hc) <;> (try (exfalso; omega)) <;> (conv => whnf))))
          all_goals first
            | (exfalso; omega)
            | (refine ⟨j + 1, by dsimp only; omega, by dsimp only; omega, ?_⟩
               (refine Le.by [0,1,2] rfl rfl rfl rfl ?_ ?_ <;> ((conv => whnf); repeat' (first | exact trivial | exact ae.rfl rfl | exact ae.ptr rfl | exact ae.sl rfl | exact ⟨rfl, rfl, rfl⟩ | exact fun i hi => rfl | ((with_reducible refine And.intro ?_ ?_) <;> (conv => whnf))))))
        · (repeat' (first | ((first | refine Wp.any ac rfl ?_ | (with_reducible first | refine Go.mk ?_ | apply ah.of)); conv => whnf) | ((refine aq (fun hc => ?_) (fun hc => ?_)) <;> (try simp only [wz9] at hc) <;> (try (exfalso; omega)) <;> (conv => whnf))))
          all_goals first
            | exact .rfl _
            | exact absurd trivial ‹¬True›
end Go.Proofs.YtpdhdnhkhidmpaaGreat
