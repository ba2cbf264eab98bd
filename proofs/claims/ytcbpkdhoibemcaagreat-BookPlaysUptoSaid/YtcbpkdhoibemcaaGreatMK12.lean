/- Lemmas of Br15, Rk7, Rk8. No condition. -/
import Derived.Test.YtcbpkdhoibemcaaGreatMK11
set_option linter.unusedVariables false
set_option linter.unusedSimpArgs false
set_option maxHeartbeats 80000000
set_option maxRecDepth 100000
namespace Go.Proofs.YtcbpkdhoibemcaaGreat
open Go.RowKit
section
open Go.ChangeShapes Go.WideShapes Go.ChangeAt Go.RowKit
inductive mo (N : Nat) : D → Prop
 | val (v : Value) : mo N (.val v)
 | sl {z n : Nat} {f : Nat → List D} (hn : n ≤ N) (h : ∀ i, i < n → ∀ d, d ∈ f i → mo N d) : mo N (.sl z n f)
theorem qb {H : Type} (d : DataW H) : 1 ≤ Rows.uptoBulk d := by
 cases d with
 | lit l => cases l <;> simp [Rows.uptoBulk]
 | _ => simp [Rows.uptoBulk]
theorem lL {H : Type} : ∀ l : List (DataW H), l.length ≤ Rows.uptoBulkAll l
 | [] => Nat.zero_le _
 | d :: r => by
  have := lL r
  have := qb d
  simp only [Rows.uptoBulkAll, List.length_cons]
  omega
theorem eZ {H : Type} {d : DataW H} : ∀ {l : List (DataW H)}, d ∈ l → Rows.uptoBulk d ≤ Rows.uptoBulkAll l
 | e :: r, h => by
  simp only [Rows.uptoBulkAll]
  rcases Q22 h with rfl | h
  ·omega
  ·have := eZ h; omega
theorem l9 {H : Type} {len N : Nat} {Dd : Nat → DataW H} {sp : List (DataW H)} {pl : List MemPlace} (h : Rows.uptoBulk (DataW.slice ((List.range len).map Dd) sp, pl).1 ≤ N) : len ≤ N ∧ ∀ i, i < len → Rows.uptoBulk (Dd i, pl).1 ≤ N := by
 simp only [Rows.uptoBulk] at h
 have h1 := lL ((List.range len).map Dd)
 rw [List.length_map, List.length_range] at h1
 refine ⟨by omega, fun i hi => ?_⟩
 have := eZ (d := Dd i) (l := (List.range len).map Dd) (List.mem_map_of_mem (List.mem_range.2 hi))
 show Rows.uptoBulk (Dd i) ≤ N
 omega
theorem qc {H : Type} {N : Nat} {xs : List (DataW H × List MemPlace)} {pl : List MemPlace} (h : Rows.uptoBulk (DataW.agg (xs.map (·.1)), pl).1 ≤ N) {y : DataW H × List MemPlace} (hy : y ∈ xs) : Rows.uptoBulk y.1 ≤ N := by
 simp only [Rows.uptoBulk] at h
 have := eZ (d := y.1) (l := xs.map (·.1)) (List.mem_map_of_mem hy)
 omega
section
variable {H : Type} {enc : TypeId × Value → H} {P : Program} {w : World} {spare : Nat → Bool} {N : Nat}
theorem fM {r : TypeId → Option (List Sh)} {c : TypeId → Nat} {cs : List Value} : ∀ (fs : List Field) (o : Nat) (a : List Sh), shF r c fs o = some a → o + a.length ≤ cs.length →
  (∀ f ∈ fs, ∀ b, r f.type = some b → ∃ ds, gh b ds ∧ (∀ d ∈ ds, mo N d) ∧ RLs w ds ((cs.drop f.offset).take (c f.type))) → ∃ ds, gh a ds ∧ (∀ d ∈ ds, mo N d) ∧ RLs w ds ((cs.drop o).take a.length)
 | [], o, a, h, hl, hr => by
  simp only [shF, Option.some.injEq] at h; subst h
  exact ⟨[], .nil, fun d hd => by simp at hd, by simpa using RLs.nil w⟩
 | f :: fs, o, a, h, hl, hr => by
  unfold shF at h
  split at h
  ·rename_i ho
   obtain ⟨b, hb, h⟩ := Option.bind_eq_some_iff.1 h
   split at h
   ·rename_i hc
    obtain ⟨a', ha', rfl⟩ := Option.map_eq_some_iff.1 h
    rw [Q9] at hl
    obtain ⟨ds, h1, hN1, h2⟩ := hr f (by simp) b hb
    obtain ⟨ds', h3, hN2, h4⟩ := fM fs _ a' ha' (by omega) (fun g hg => hr g (by simp [hg]))
    refine ⟨ds ++ ds', h1.append h3, fun d hd => (List.mem_append.1 hd).elim (hN1 d) (hN2 d), ?_⟩
    rw [ho, ← hc] at h2
    have := h2.append h4
    rw [show (cs.drop o).take (b ++ a').length = (cs.drop o).take b.length ++ (cs.drop (o + b.length)).take a'.length by
     rw [Q9, List.take_add, List.drop_drop]]
    exact this
   ·cases h
  ·cases h
theorem mS : ∀ (m fuel : Nat) (t : TypeId) (cs : List Value) (x : DataW H × List MemPlace) (shs : List Sh), DataW.trod enc P w 0 spare true fuel t cs = some x → shT P m t = some shs → Rows.uptoBulk x.1 ≤ N → ∃ ds, gh shs ds ∧ (∀ d ∈ ds, mo N d) ∧ RLs w ds cs
 | 0, fuel, t, cs, x, shs, h, hs => by simp [shT] at hs
 | m + 1, 0, t, cs, x, shs, h, hs => by simp [DataW.trod] at h
 | m + 1, fuel + 1, t, cs, x, shs, h, hs => by
  have ih := fun fuel t cs x shs h hs => mS m fuel t cs x shs h hs
  unfold shT at hs
  split at hs
  ·rename_i hu
   cases hs
   unfold DataW.trod at h
   rw [hu] at h
   split at h <;> simp_all
   exact fun _ => ⟨_, .cons (.bool _) .nil, fun d hd => by obtain rfl := List.mem_singleton.1 hd; exact .val _, .one (.val _ rfl)⟩
  ·rename_i k hu
   cases hs
   unfold DataW.trod at h
   rw [hu] at h
   split at h <;> simp_all
   rename_i n _ _
   obtain ⟨⟨rfl, hw⟩, _⟩ := h
   exact fun _ => ⟨_, .cons (.int hw) .nil, fun d hd => by obtain rfl := List.mem_singleton.1 hd; exact .val _, .one (.val _ rfl)⟩
  ·rename_i hu
   cases hs
   unfold DataW.trod at h
   rw [hu] at h
   split at h <;> simp_all
   exact fun _ => ⟨_, .cons (.str _ h.1) .nil, fun d hd => by obtain rfl := List.mem_singleton.1 hd; exact .val _, .one (.val _ rfl)⟩
  ·rename_i e hu
   obtain ⟨es, he, hs⟩ := Option.bind_eq_some_iff.1 hs
   split at hs
   case isFalse => cases hs
   rename_i hz
   cases hs
   intro hB
   rcases Go.Deep.open_slice hu h with ⟨rfl, _⟩ | ⟨a, len, cap, mm, n, Dd, Pl, rfl, _, hl, hm, hmm, hx1, hel⟩
   ·refine ⟨[.sl (P.cellsOf e) 0 fun _ => []], .cons (.sl (by unfold maxLen; omega) fun i hi => by omega) .nil, fun d hd => by (obtain rfl := List.mem_singleton.1 hd; exact .sl (Nat.zero_le _) fun i hi => by omega), .one (.sl _ 0 _ none 0 (fun _ _ => undef) (Q4 _) (by unfold maxLen; omega) (fun i hi => by omega) (fun h => by omega) (fun i j hi => by omega))⟩
   ·have hle : len ≤ mm := by rw [hmm]; split <;> omega
    rw [hx1] at hB
    obtain ⟨hB1, hB2⟩ := l9 hB
    have hx : ∀ i, ∃ p : List Value × List D, i < len → w.cells? 0 (a.add (i * P.cellsOf e)) (P.cellsOf e) = some p.1 ∧ gh es p.2 ∧ RLs w p.2 p.1 ∧ ∀ d ∈ p.2, mo N d := fun i => by
     by_cases hi : i < len
     ·obtain ⟨cs', h1, h2⟩ := hel i (by omega)
      obtain ⟨ds, h3, hN, h4⟩ := ih _ _ _ _ _ h2 he (hB2 i hi)
      exact ⟨(cs', ds), fun _ => ⟨h1, h3, h4, hN⟩⟩
     ·exact ⟨([], []), fun h => absurd h hi⟩
    obtain ⟨F, hF⟩ := Classical.axiomOfChoice hx
    refine ⟨[.sl (P.cellsOf e) len fun i => (F i).2], .cons (.sl (by omega) fun i hi => (hF i hi).2.1) .nil, fun d hd => by (obtain rfl := List.mem_singleton.1 hd; exact .sl hB1 fun i hi => (hF i hi).2.2.2), .one (.sl _ len _ (some a) cap (fun i j => ((F i).1[j]?).getD undef) hl hm (fun i hi => by rw [(hF i hi).2.1.len, hz]) (fun h0 => ?_) (fun i j hi hj => ?_))⟩
    ·have h0' : 0 < len ∧ 0 < P.cellsOf e := ⟨Nat.pos_of_ne_zero fun h => by subst h; simp at h0, Nat.pos_of_ne_zero fun h => by rw [h] at h0; simp at h0⟩
     have hcell : ∀ i j, i < len → j < P.cellsOf e → ∃ v, (F i).1[j]? = some v ∧ w.cell? ((a.add (i * P.cellsOf e)).add j) = some v := fun i j hi hj => by
      obtain ⟨_, k2, k3⟩ := World.cells?_some (hF i hi).1
      have hj' : j < (F i).1.length := by omega
      refine ⟨_, Q0 hj', ?_⟩
      rw [k3 j hj, Q0 hj']
     obtain ⟨v0, _, c0⟩ := hcell 0 0 h0'.1 h0'.2
     rw [Nat.zero_mul] at c0
     have hsp : a.spot = none := mA (by
      have := World.cell?_spot c0
      have e1 : (a.add 0) = a := by unfold Addr.add; simp
      rw [e1] at c0; exact c0)
     obtain ⟨b, o, sp⟩ := a
     simp only at hsp
     subst hsp
     refine ⟨b, o, rfl, ?_, fun i j hi hj => ?_⟩
     ·rw [Addr.add_mid, Addr.add_mid] at c0
      exact World.block_lt_of_cell? w _ c0
     ·obtain ⟨v, k1, k2⟩ := hcell i j hi hj
      rw [Addr.add_mid, Addr.add_mid] at k2
      rw [k2, k1]; rfl
    ·have h9 := (hF i hi).2.2.1
     have hl9 := h9.len
     have hj' : j < (F i).1.length := by rw [← hl9]; exact hj
     exact h9.out j _ _ (Q0 hj) (by rw [Q0 hj']; rfl)
  ·rename_i fs hu
   obtain ⟨a, ha, hs⟩ := Option.bind_eq_some_iff.1 hs
   split at hs
   case isFalse => cases hs
   rename_i hz
   cases hs
   intro hB
   obtain ⟨xs, n, _, hx1, hl, _, hf⟩ := DataW.trod_struct hu h
   rw [hx1] at hB
   obtain ⟨ds, h1, hN, h2⟩ := fM (N := N) (w := w) (cs := cs) fs.toList 0 shs ha (by omega) (fun f hf' b hb => by
    obtain ⟨i, hi, e⟩ := List.getElem_of_mem hf'
    have hi' : i < fs.size := by simpa using hi
    have hfi : fs[i]? = some f := by rw [Array.getElem?_eq_getElem hi']; rw [← e]; simp
    have hq := hf i f hfi
    rename_i hxl _
    have hxi : ∃ y, xs[i]? = some y := ⟨xs[i]'(by omega), Q0 _⟩
    obtain ⟨y, hy⟩ := hxi
    rw [hy] at hq
    exact ih _ _ _ _ _ hq hb (qc hB (Q3 hy |>.elim fun h9 e9 => e9 ▸ Q14 h9)))
   refine ⟨ds, h1, hN, ?_⟩
   rw [List.drop_zero, hz, ← hl, List.take_length] at h2
   exact h2
  ·cases hs
end
theorem fL {α : Type} [Inhabited α] {enc : α → List D} {p : α → Prop} {z N : Nat} {es : List Sh} {d : D} (h : nZ (.sl z es) d) (hN : mo N d) (hp : ∀ ds, gh es ds → (∀ d ∈ ds, mo N d) → ∃ x, nY ds (enc x) ∧ p x) :
  ∃ xs : List α, TLe d (aj z enc xs) ∧ xs.length ≤ N ∧ ∀ x ∈ xs, p x := by
 obtain ⟨n, f, rfl, hn, hf⟩ := fit_sl h
 cases hN with
 | sl h1 h2 =>
  obtain ⟨xs, g1, g2, g3⟩ := list_of (enc := enc) (p := p) fun i hi => hp _ (hf i hi) (h2 i hi)
  subst g1
  exact ⟨xs, TLe.sl fun i hi => g2 i hi, h1, g3⟩
theorem nm {k : IntKind} {N : Nat} {d : D} (h : nZ (.sl 1 [.int k]) d) (hN : mo N d) : ∃ xs : List Int, TLe d (aj 1 (ao k) xs) ∧ xs.length ≤ N ∧ ∀ x ∈ xs, shI k x :=
 fL h hN fun ds hd _ => by
  obtain ⟨d, r, rfl, h1, h2⟩ := aU hd
  obtain ⟨n, rfl, hn⟩ := bU h1
  obtain rfl := iP h2
  exact ⟨n, .cons (.rfl _) .nil, hn⟩
theorem arg1N {H : Type} {enc : TypeId × Value → H} {W : World} {t : TypeId} {v : Value} {d : DataW H} {p : List MemPlace} {s : Sh} {N : Nat} (h : DataW.Trod enc Tryz.prog W 0 (fun _ => true) true t v d p) (hs : shT Tryz.prog 8 t = some [s]) (hv : v.cells.toList = [v]) (hN : Rows.uptoBulk d ≤ N) :
  ∃ x, nZ s x ∧ mo N x ∧ RD W (fun b => b < W.heap.size) x v := by
 obtain ⟨n, h⟩ := h
 obtain ⟨ds, h1, hl, h2⟩ := mS 8 n t _ _ _ h hs hN
 obtain ⟨x, r, rfl, h3, h4⟩ := aU h1
 obtain rfl := iP h4
 rw [hv] at h2
 exact ⟨x, h3, hl x (by simp), h2.out 0 x v rfl rfl⟩
theorem pW {ds : List D} (h : gh [.int .u8, .int .i64, .int .i64, .int .i64] ds) : ∃ p : Pol, nY ds p.D ∧ True := by
 obtain ⟨d0, r0, rfl, h0, t0⟩ := aU h
 obtain ⟨d1, r1, rfl, h1, t1⟩ := aU t0
 obtain ⟨d2, r2, rfl, h2, t2⟩ := aU t1
 obtain ⟨d3, r3, rfl, h3, t3⟩ := aU t2
 obtain rfl := iP t3
 obtain ⟨n0, rfl, -⟩ := bU h0
 obtain ⟨n1, rfl, -⟩ := bU h1
 obtain ⟨n2, rfl, -⟩ := bU h2
 obtain ⟨n3, rfl, -⟩ := bU h3
 exact ⟨⟨n0, n1, n2, n3⟩, .cons (.rfl _) (.cons (.rfl _) (.cons (.rfl _) (.cons (.rfl _) .nil))), trivial⟩
theorem mr {H : Type} {enc : TypeId × Value → H} {P : Program} {w : World} {base : Nat} {spare : Nat → Bool} {held : Bool} {t t' t'' : TypeId} {args : Array Value} {ds : List (DataW H)} {ps : List MemPlace} (h : DataW.TrodAll enc P w base spare held [t, t', t''] args.toList ds ps) :
  ∃ v v' v'' d d' d'' p p' p'', args = #[v, v', v''] ∧ ds = [d, d', d''] ∧ ps = p ++ p' ++ p'' ∧ DataW.Trod enc P w base spare held t v d p ∧ DataW.Trod enc P w base spare held t' v' d' p' ∧ DataW.Trod enc P w base spare held t'' v'' d'' p'' := by
 obtain ⟨v, vs, d, ds', p, q, hargs, rfl, rfl, hd, hrest⟩ := trodAll_cons h
 obtain ⟨v', vs', d', ds'', p', q', rfl, rfl, rfl, hd', hrest'⟩ := trodAll_cons hrest
 obtain ⟨v'', vs'', d'', ds''', p'', q'', rfl, rfl, rfl, hd'', hrest''⟩ := trodAll_cons hrest'
 obtain ⟨rfl, rfl, rfl⟩ := trodAll_nil hrest''
 exact ⟨v, v', v'', d, d', d'', p, p', p'', by cases args; simp_all, rfl, by simp, hd, hd', hd''⟩
@[reducible] def shAsk : List Sh := [.int .u8, .int .i64, .sl 1 [.int .u8], .int .i64, .int .i64, .int .i64]
theorem pX {N : Nat} {ds : List D} (h : gh shAsk ds) (hN : ∀ d ∈ ds, mo N d) : ∃ a : Ask, nY ds a.D ∧ (a.ok ∧ a.key.length ≤ N) := by
 obtain ⟨d0, r0, rfl, h0, t0⟩ := aU h
 obtain ⟨d1, r1, rfl, h1, t1⟩ := aU t0
 obtain ⟨d2, r2, rfl, h2, t2⟩ := aU t1
 obtain ⟨d3, r3, rfl, h3, t3⟩ := aU t2
 obtain ⟨d4, r4, rfl, h4, t4⟩ := aU t3
 obtain ⟨d5, r5, rfl, h5, t5⟩ := aU t4
 obtain rfl := iP t5
 obtain ⟨n0, rfl, w0⟩ := bU h0
 obtain ⟨n1, rfl, w1⟩ := bU h1
 obtain ⟨key, le, hkl, w2⟩ := nm h2 (hN _ (by simp))
 obtain ⟨n3, rfl, w3⟩ := bU h3
 obtain ⟨n4, rfl, w4⟩ := bU h4
 obtain ⟨n5, rfl, w5⟩ := bU h5
 exact ⟨⟨n0, n1, key, n3, n4, n5⟩, .cons (.rfl _) (.cons (.rfl _) (.cons le (.cons (.rfl _) (.cons (.rfl _) (.cons (.rfl _) .nil))))), ⟨wf_u8 w0, fun x hx => wf_u8 (w2 x hx), kB w1, kB w3, kB w4, kB w5⟩, hkl⟩
theorem qf {N : Nat} {H : Type} {enc : TypeId × Value → H} {W : World} {v : Value} {d : DataW H} {p : List MemPlace} (h : DataW.Trod enc Tryz.prog W 0 (fun _ => true) true 22 v d p) (hv : v.cells.toList = [v]) (hN : Rows.uptoBulk d ≤ N) :
  ∃ ps : List Pol, ps.length ≤ N ∧ ∀ E : Env, E.Im = (fun b => b < W.heap.size) → RS E 0 W (.d (aj 4 Pol.D ps)) v := by
 obtain ⟨x, f, g0, g⟩ := arg1N h (s := .sl 4 [.int .u8, .int .i64, .int .i64, .int .i64]) (by kernel_rfl) hv hN
 obtain ⟨ps, le, hl, _⟩ := fL f g0 fun ds hd _ => pW hd
 exact ⟨ps, hl, fun E hE => .d _ _ (by rw [hE]; exact le.out _ _ _ g)⟩
theorem mb {N : Nat} {H : Type} {enc : TypeId × Value → H} {W : World} {v : Value} {d : DataW H} {p : List MemPlace} (h : DataW.Trod enc Tryz.prog W 0 (fun _ => true) true 23 v d p) (hv : v.cells.toList = [v]) (hN : Rows.uptoBulk d ≤ N) :
  ∃ script : List Ask, script.length ≤ N ∧ (∀ a ∈ script, a.ok ∧ a.key.length ≤ N) ∧ ∀ E : Env, E.Im = (fun b => b < W.heap.size) → RS E 0 W (.d (aj 6 Ask.D script)) v := by
 obtain ⟨x, f, g0, g⟩ := arg1N h (s := .sl 6 shAsk) (by kernel_rfl) hv hN
 obtain ⟨s, le, hl, hok⟩ := fL f g0 fun ds hd hn => pX hd hn
 exact ⟨s, hl, hok, fun E hE => .d _ _ (by rw [hE]; exact le.out _ _ _ g)⟩
end
structure Reg (n : Nat) (p : Prop) : Prop where
 out : p
theorem Wp.reg (n : Nat) {C : Cx} {b : Array Oper} {d : Bool} {y : Code} {S : St} {Q : Exit → St → Prop} (h : Reg n (Wp C (.seq (.region n b d) y) S Q)) : Wp C (.seq (.region n b d) y) S Q := h.out
theorem plays_B {ps : List Pol} {cells : Int} {script : List Ask} (hs : ∀ a ∈ script, a.ok ∧ a.key.length ≤ 1048576) (hE : gt ps cells = 0) : Pure TC 3 [.d (aj 4 Pol.D ps), .i .i64 cells, .d (aj 6 Ask.D script)] (.b true) := by
 have hc1 : 1 ≤ cells ∧ cells ≤ 4096 := by
  unfold gt at hE
  split at hE <;> omega
 have hp : bq ps = 0 := by
  unfold gt at hE
  split at hE
  ·omega
  ·exact hE
 have hl := bD hp
 refine Pure.mk' Tryz.func3 rfl rfl zN ?_
 have hof := dV ps
 have hNew := nL ps cells hE
 have hDoc := lV ps cells hE
 (repeat' (first | (with_reducible refine Wp.reg 4 ?_) | ((first | refine Wp.any aa rfl ?_ | (with_reducible first | refine Go.mk ?_ | apply ak.of | refine And.intro zC ?_)); conv => whnf) | ((with_reducible refine And.intro ?hb ?_); (case hb => exact zz0); (conv => whnf)) | ((with_reducible refine ab.pure (awake) rfl rfl ?_); conv => whnf)))
 refine ⟨?_⟩
 refine Wp.le (S' := ⟨⟨Tryz.f3.ntmps, 0⟩, 1, [(0, .d (aj 4 Pol.D ps)), (1, .i .i64 cells), (2, .d (aj 6 Ask.D script)), (7, .sl 0 4 0 (ps.length + 1))], [(0, some (mh ps))]⟩) ?_ ?_
 ·(refine Le.by [3] rfl rfl rfl rfl ?_ ?_ <;> (conv => whnf) <;> (repeat' (first | exact trivial | exact ac.rfl rfl | ((with_reducible refine And.intro ?_ ?_) <;> (conv => whnf)))))
  ·rw [show 0 + ps.length + 1 = ps.length + 1 by omega]; exact ac.sl rfl
  ·rfl
  ·rw [dV]; omega
  ·intro i hi
   unfold bh
   by_cases e : i < 0 + ps.length
   ·rw [if_pos e, if_neg (by omega)]
    show Pol.D (ps.getD (i - 0) default) = _
    rw [Nat.sub_zero, ← gG ps (by omega)]
   ·rw [if_neg e]
    have : i = ps.length := by omega
    subst this
    show _ = Pol.D ((ofP ps).getD ps.length default)
    rw [eQ]
    show a6 _ _ (0 + (ps.length - (0 + ps.length))) = _
    rw [show 0 + (ps.length - (0 + ps.length)) = 0 by omega]; rfl
 ·(repeat' (first | (with_reducible refine Wp.reg 6 ?_) | ((first | refine Wp.any aa rfl ?_ | (with_reducible first | refine Go.mk ?_ | apply ak.of | refine And.intro zC ?_)); conv => whnf) | ((refine ab.fn (hNew) [0] rfl rfl rfl rfl rfl ?ha ?hh ?_); (case ha => exact zA); (case hh => exact zH); (conv => whnf)) | ((refine ab.fn (hDoc) [] rfl rfl rfl rfl rfl ?ha ?hh ?_); (case ha => exact zA); (case hh => exact zH); (conv => whnf))))
  refine ⟨?_⟩
  refine Wp.frzC 3 0 rfl rfl rfl (by decide) (by simp) ?_
  refine Wp.le (S' := ⟨⟨Tryz.f3.ntmps, 0⟩, 4, [(0, .d (aj 4 Pol.D ps)), (2, .d (aj 6 Ask.D script)), (7, .sl 0 4 0 (ps.length + 1)), (8, .ptr 1 0), (9, .i .i64 0), (10, .ptr 3 0), (11, .i .i64 0)], [(0, some (mh ps)), (1, some (.cells [.d (aj 4 Pol.D ps), .i .i64 cells, .sl 2 4 0 ([] : List Cel).length])), (2, some (ap 56 4 Cel.D [])), (3, some (eY ps cells []))]⟩) ?_ ?_
  ·(refine Le.by [0,1,2,3] rfl rfl rfl rfl ?_ ?_ <;> (conv => whnf) <;> (repeat' (first | exact trivial | exact ac.rfl rfl | exact ac.ptr rfl | exact ac.sl rfl | exact ⟨rfl, rfl, rfl⟩ | exact fun i hi => rfl | ((with_reducible refine And.intro ?_ ?_) <;> (conv => whnf)))))
   exact ac.free (SV.Le.sl fun i hi => by rw [Q19]) rfl
  have h77 : ((ofP ps).getD (0 + (ps.length : Int).toNat) default).kind = 77 := by rw [Q19, Q13, eQ]
  have h77n : (ps.length : Int) < ((ps.length + 1 : Nat) : Int) := by omega
  (repeat' (first | ((first | refine Wp.any aa rfl ?_ | (with_reducible first | refine Go.mk ?_ | apply ak.of | refine And.intro zC ?_)); conv => whnf) | ((refine am (fun hc => ?_) (fun hc => ?_)) <;> (try simp only [wz9] at hc) <;> (try (exfalso; omega)) <;> (conv => whnf))))
  all_goals first
   | exact absurd h77 hc
   | skip
  refine Wp.loopP (ι := Nat) (fun i => i ≤ ps.length) (fun i => ⟨⟨Tryz.f3.ntmps, 0⟩, 4, [(0, .d (aj 4 Pol.D ps)), (2, .d (aj 6 Ask.D script)), (7, .sl 0 4 0 (ps.length + 1)), (8, .ptr 1 0), (10, .ptr 3 0), (66, .i .i64 ps.length), (67, .i .i64 i)], [(0, some (.row 28 4 (ps.length + 1) fun q => Pol.D (if q < i then ⟨9, 0, 0, 0⟩ else (ofP ps).getD q default))), (1, some (.cells [.d (aj 4 Pol.D ps), .i .i64 cells, .sl 2 4 0 ([] : List Cel).length])), (2, some (ap 56 4 Cel.D [])), (3, some (eY ps cells []))]⟩) (fun i => ps.length - i) 0 (Nat.zero_le _) ?_ ?_
  ·(refine Le.by [0,1,2,3] rfl rfl rfl rfl ?_ ?_ <;> (conv => whnf) <;> (repeat' (first | exact trivial | exact ac.rfl rfl | exact ac.ptr rfl | exact ac.sl rfl | exact ⟨rfl, rfl, rfl⟩ | exact fun i hi => rfl | ((with_reducible refine And.intro ?_ ?_) <;> (conv => whnf)))))
   all_goals exact hof
  ·intro i hi
   by_cases hlt : i < ps.length
   ·have hEq : (if 0 + (i : Int).toNat < i then (⟨9, 0, 0, 0⟩ : Pol) else (ofP ps).getD (0 + (i : Int).toNat) default) = ps.getD (i : Int).toNat default := by
     rw [Q19, Q13, if_neg (Nat.lt_irrefl _), gG ps hlt]
    (repeat' (first | ((first | refine Wp.any aa rfl ?_ | (with_reducible first | refine Go.mk ?_ | apply ak.of | refine Ov.ok zO ?_) | refine zV ?_ | with_reducible refine And.intro zC ?_); conv => whnf) | ((refine am (fun hc => ?_) (fun hc => ?_)) <;> (try simp only [wz9] at hc) <;> (try (exfalso; omega)) <;> (conv => whnf))))
    ·exfalso
     rw [hEq] at hc
     simp at hc
    ·refine ⟨i + 1, by omega, by dsimp only; omega, ?_⟩
     (refine Le.by [0,1,2,3] rfl rfl rfl rfl ?_ ?_ <;> (conv => whnf) <;> (repeat' (first | exact trivial | exact ac.rfl rfl | exact ac.ptr rfl | exact ac.sl rfl | exact ⟨rfl, rfl, rfl⟩ | exact fun i hi => rfl | ((with_reducible refine And.intro ?_ ?_) <;> (conv => whnf)))))
     intro q hq
     dsimp only
     by_cases e : q = 0 + (i : Int).toNat
     ·rw [if_pos e, if_pos (by omega)]; rfl
     ·rw [if_neg e]
      by_cases e2 : q < i
      ·rw [if_pos e2, if_pos (by omega)]
      ·rw [if_neg e2, if_neg (by omega)]
   ·obtain rfl : i = ps.length := by omega
    (repeat' (first | (with_reducible refine Wp.reg 15 ?_) | ((first | refine Wp.any aa rfl ?_ | (with_reducible first | refine Go.mk ?_ | apply ak.of)); conv => whnf) | ((refine am (fun hc => ?_) (fun hc => ?_)) <;> (try simp only [wz9] at hc) <;> (try (exfalso; omega)) <;> (conv => whnf))))
    refine ⟨?_⟩
    (repeat' (first | ((first | refine Wp.any aa rfl ?_ | (with_reducible first | refine Go.mk ?_ | apply ak.of)); conv => whnf)))
    refine Wp.loopP (ι := Nat × List Cel) (fun k => k.1 ≤ script.length ∧ k.1 ≤ 200 ∧ BCI ps cells k.2) (fun k => ⟨⟨Tryz.f3.ntmps, 0⟩, 3, [(8, .ptr 0 0), (10, .ptr 2 0), (84, .d (aj 6 Ask.D script)), (85, .i .i64 script.length), (86, .i .i64 k.1)], [(0, some (.cells [.d (aj 4 Pol.D ps), .i .i64 cells, .sl 1 4 0 k.2.length])), (1, some (ap 56 4 Cel.D k.2)), (2, some (eY ps cells k.2))]⟩) (fun k => script.length - k.1) (0, []) ⟨Nat.zero_le _, Nat.zero_le _, .nil (by omega) hc1.2 hl⟩ ?_ ?_
    ·(refine Le.by [1,2,3] rfl rfl rfl rfl ?_ ?_ <;> (conv => whnf) <;> (repeat' (first | exact trivial | exact ac.rfl rfl | exact ac.ptr rfl | exact ac.sl rfl | exact ⟨rfl, rfl, rfl⟩ | exact fun i hi => rfl | ((with_reducible refine And.intro ?_ ?_) <;> (conv => whnf)))))
    ·rintro ⟨i, xs⟩ ⟨h1, h2, hI⟩
     dsimp only at h1 h2 hI ⊢
     by_cases hlt : i < script.length
     ·have hm : script.getD (i : Int).toNat default ∈ script := by
       rw [Q13, Q1, Q0 hlt]; exact Q14 hlt
      have hok := hs _ hm
      (repeat' (first | (with_reducible refine Wp.reg 19 ?_) | ((first | refine Wp.any aa rfl ?_ | (with_reducible first | refine Go.mk ?_ | apply ak.of | refine And.intro zC ?_)); conv => whnf) | ((refine am (fun hc => ?_) (fun hc => ?_)) <;> (try simp only [wz9] at hc) <;> (try (exfalso; omega)) <;> (conv => whnf))))
      ·exact .rfl _
      ·generalize script.getD (i : Int).toNat default = f at *
       refine ⟨?_⟩
       have hSp := kU f.key (by omega)
       have hB : IsB f.key := fun x hx => hok.1.2.1 x hx
       have hDo := qe ps cells xs f.op f.pol f.key f.n f.now f.serial hI.inv.ok hB
       have hDD := mI (op := f.op) (pol := f.pol) (key := f.key) (n := f.n) (now := f.now) (s := f.serial) hI
       have hI2 := hI.step (op := f.op) (pol := f.pol) (n := f.n) (now := f.now) (s := f.serial) hB
       have hKp := kV f.key (by omega)
       generalize doS ps cells xs f.op f.pol f.key f.n f.now f.serial = r at *
       obtain ⟨rp, ys⟩ := r
       dsimp only at hDo hDD hI2
       have e3 := er f.key
       (repeat' (first | (with_reducible refine Wp.reg 24 ?_) | ((first | refine Wp.any aa rfl ?_ | (with_reducible first | refine Go.mk ?_ | apply ak.of) | refine zV ?_); conv => whnf) | ((refine ab.fn (hSp) [] rfl rfl rfl rfl rfl ?ha ?hh ?_); (case ha => exact zA); (case hh => exact zH); (conv => whnf)) | ((refine ag.new (hDo) [0,1,4] [4] rfl rfl rfl rfl rfl rfl ?ha ?hh ?hs ?_); (case ha => exact zz1); (case hh => exact zH); (case hs => exact zK); (conv => whnf)) | ((refine ag.fn (hDD) [2] [] rfl rfl rfl rfl rfl ?ha ?hh ?hs ?_); (case ha => exact zA); (case hh => exact zH); (case hs => exact zK); (conv => whnf)) | ((refine ag.fn (hKp) [4] [4] rfl rfl rfl rfl rfl ?ha ?hh ?hs ?_); (case ha => exact zA); (case hh => exact zH); (case hs => exact zK); (conv => whnf)) | ((refine am (fun hc => ?_) (fun hc => ?_)) <;> (try simp only [wz9] at hc) <;> (try (exfalso; omega)) <;> (conv => whnf))))
       ·exfalso; simp at hc
       refine ⟨?_⟩
       obtain ⟨m, hm9⟩ : ∃ m, m = (eJ f.key).length := ⟨_, rfl⟩
       refine Wp.le (S' := ⟨⟨Tryz.f3.ntmps, 0⟩, 4, [(8, .ptr 0 0), (10, .ptr 2 0), (84, .d (aj 6 Ask.D script)), (85, .i .i64 script.length), (86, .i .i64 i), (16, .sl 3 1 0 m)], [(0, some (.cells [.d (aj 4 Pol.D ps), .i .i64 cells, .sl 1 4 0 ys.length])), (1, some (ap 56 4 Cel.D ys)), (2, some (eY ps cells ys)), (3, some (.row 5 1 m fun q => [.val (.int .u8 ((eJ f.key).getD q default))]))]⟩) ?_ ?_
       ·(refine Le.by [0,12,2,4] rfl rfl rfl rfl ?_ ?_ <;> (conv => whnf) <;> (repeat' (first | exact trivial | exact ac.rfl rfl | exact ac.ptr rfl | exact ac.sl rfl | exact ⟨rfl, rfl, rfl⟩ | exact fun i hi => rfl | ((with_reducible refine And.intro ?_ ?_) <;> (conv => whnf)))))
        ·rw [hm9]; exact ac.sl rfl
        ·exact hm9.symm
       (repeat' (first | ((first | refine Wp.any aa rfl ?_ | (with_reducible first | refine Go.mk ?_ | apply ak.of)); conv => whnf)))
       refine Wp.loopP (ι := Nat × (Nat → Int)) (fun k => k.1 ≤ m) (fun k => ⟨⟨Tryz.f3.ntmps, 0⟩, 4, [(8, .ptr 0 0), (10, .ptr 2 0), (84, .d (aj 6 Ask.D script)), (85, .i .i64 script.length), (86, .i .i64 i), (16, .sl 3 1 0 m), (129, .i .i64 m), (130, .i .i64 k.1)], [(0, some (.cells [.d (aj 4 Pol.D ps), .i .i64 cells, .sl 1 4 0 ys.length])), (1, some (ap 56 4 Cel.D ys)), (2, some (eY ps cells ys)), (3, some (.row 5 1 m fun q => [.val (.int .u8 (k.2 q))]))]⟩) (fun k => m - k.1) (0, fun q => (eJ f.key).getD q default) (Nat.zero_le _) ?_ ?_
       ·(refine Le.by [0,1,2,3] rfl rfl rfl rfl ?_ ?_ <;> (conv => whnf) <;> (repeat' (first | exact trivial | exact ac.rfl rfl | exact ac.ptr rfl | exact ac.sl rfl | exact ⟨rfl, rfl, rfl⟩ | exact fun i hi => rfl | ((with_reducible refine And.intro ?_ ?_) <;> (conv => whnf)))))
       ·rintro ⟨j, g⟩ hj
        dsimp only at hj ⊢
        (repeat' (first | (with_reducible refine Wp.reg 30 ?_) | ((first | refine Wp.any aa rfl ?_ | (with_reducible first | refine Go.mk ?_ | apply ak.of | refine Ov.ok zO ?_ | refine And.intro zC ?_)); conv => whnf) | ((refine am (fun hc => ?_) (fun hc => ?_)) <;> (try simp only [wz9] at hc) <;> (try (exfalso; omega)) <;> (conv => whnf))))
        ·refine ⟨(j + 1, fun q => if q = 0 + (j : Int).toNat then bits .xor .u8 (g (0 + (j : Int).toNat)) 1 else g q), by dsimp only; omega, by dsimp only; omega, ?_⟩
         (refine Le.by [0,1,2,3] rfl rfl rfl rfl ?_ ?_ <;> (conv => whnf) <;> (repeat' (first | exact trivial | exact ac.rfl rfl | exact ac.ptr rfl | exact ac.sl rfl | exact ⟨rfl, rfl, rfl⟩ | exact fun i hi => rfl | ((with_reducible refine And.intro ?_ ?_) <;> (conv => whnf)))))
         intro q hq
         dsimp only
         by_cases e : q = 0 + (j : Int).toNat
         ·rw [if_pos e, if_pos e]
         ·rw [if_neg e, if_neg e]
        ·refine ⟨?_⟩
         refine scr_wp (L0 := 0) (L1 := 1) (L2 := 2) hI2.inv.ok.len (fun k => ⟨by have := hI2.inv.ok.key k; omega, by have := hI2.inv.ok.held k; omega⟩) rfl rfl rfl rfl rfl rfl rfl rfl rfl rfl rfl ?_
         conv => whnf
         (repeat' (first | ((first | refine Wp.any aa rfl ?_ | (with_reducible first | refine Go.mk ?_ | apply ak.of | refine Ov.ok zO ?_)); conv => whnf)))
         refine ⟨(i + 1, ys), ⟨by dsimp only; omega, by dsimp only; omega, hI2⟩, by dsimp only; omega, ?_⟩
         (refine Le.by [0,1,2] rfl rfl rfl rfl ?_ ?_ <;> (conv => whnf) <;> (repeat' (first | exact trivial | exact ac.rfl rfl | exact ac.ptr rfl | exact ac.sl rfl | exact ⟨rfl, rfl, rfl⟩ | exact fun i hi => rfl | ((with_reducible refine And.intro ?_ ?_) <;> (conv => whnf)))))
     ·(repeat' (first | ((first | refine Wp.any aa rfl ?_ | (with_reducible first | refine Go.mk ?_ | apply ak.of)); conv => whnf) | ((refine am (fun hc => ?_) (fun hc => ?_)) <;> (try simp only [wz9] at hc) <;> (try (exfalso; omega)) <;> (conv => whnf))))
      exact .rfl _
def nilE (op pol : Int) (key : List Int) (n now s : Int) : Int :=
 if aD now = false ∨ (op = 2 ∧ (s < 1 ∨ 4611686018427387903 < s)) then 1
 else if cB [] op pol key n ≠ 0 ∧ cB [] op pol key n < 7 then cB [] op pol key n else if cB [] op pol key n = 0 ∨ 7 < cB [] op pol key n then 7 else cB [] op pol key n
theorem ks (op pol : Int) (key : List Int) (n now s : Int) : Fun TC 18 1 [.d (.val (.pointer none)), .agg [.i .u8 op, .i .i64 pol, .sl 0 1 0 key.length, .i .i64 n], .i .i64 now, .i .i64 s] [(0, some (c5 key))] 1 (.i .i64 (nilE op pol key n now s)) [(0, some (c5 key))] := by
 have hC := f6 [] op pol key n
 have hF := aJ now
 unfold nilE
 generalize cB [] op pol key n = e at *
 generalize aD now = t at *
 refine Fun.mk' Tryz.func18 rfl rfl zN (by decide) ?_
 (repeat' (first | ((first | refine Wp.any aa rfl ?_ | (with_reducible first | refine Go.mk ?_ | apply ak.of | refine ab.pure (hF) rfl rfl ?_)); conv => whnf) | ((refine ab.fn (hC) [0] rfl rfl rfl rfl rfl ?ha ?hh ?_); (case ha => exact zz1); (case hh => exact zH); (conv => whnf)) | ((refine am (fun hc => ?_) (fun hc => ?_)) <;> (try simp only [wz9] at hc) <;> (try (exfalso; omega)) <;> (conv => whnf))))
 all_goals refine ah.of [0] rfl (fun i hi => by have : i = 0 := (by omega); subst this; rfl) rfl ?_ ?_
 all_goals first | (((conv => whnf); repeat' (first | exact zA9 | ((with_reducible refine And.intro ?_ ?_) <;> (conv => whnf)))); done) | skip
 all_goals (conv => whnf)
 all_goals exact .i (by
  repeat' split
  all_goals first | rfl | omega | (exfalso; simp_all; try omega) | simp_all)
theorem nilE_R (op pol : Int) (key : List Int) (n now s : Int) : dG (nilE op pol key n now s) = nilR op pol key n now s ∧ nilE op pol key n now s ≠ 0 := by
 unfold nilE nilR
 by_cases h : aD now = false ∨ (op = 2 ∧ (s < 1 ∨ 4611686018427387903 < s))
 ·rw [if_pos h, if_pos h]; exact ⟨rfl, by decide⟩
 ·rw [if_neg h, if_neg h]
  by_cases h2 : cB [] op pol key n ≠ 0 ∧ cB [] op pol key n < 7
  ·rw [if_pos h2, if_pos h2]; exact ⟨rfl, h2.1⟩
  ·rw [if_neg h2, if_neg h2]
   by_cases h3 : cB [] op pol key n = 0 ∨ 7 < cB [] op pol key n
   ·rw [if_pos h3]; exact ⟨rfl, by decide⟩
   ·rw [if_neg h3]
    have : cB [] op pol key n = 7 := by omega
    rw [this]; exact ⟨rfl, by decide⟩
theorem qd (op pol : Int) (key : List Int) (n now s : Int) : Fun TC 8 1 [.d (.val (.pointer none)), .agg [.i .u8 op, .i .i64 pol, .sl 0 1 0 key.length, .i .i64 n], .i .i64 now, .i .i64 s] [(0, some (c5 key))] 1 (nilR op pol key n now s).S [(0, some (c5 key))] := by
 have hC := ks op pol key n now s
 obtain ⟨h1, h2⟩ := nilE_R op pol key n now s
 rw [← h1]
 generalize nilE op pol key n now s = e at *
 refine Fun.mk' Tryz.func8 rfl rfl zN (by decide) ?_
 (repeat' (first | ((first | refine Wp.any aa rfl ?_ | (with_reducible first | refine Go.mk ?_ | apply ak.of)); conv => whnf) | ((refine ab.fn (hC) [0] rfl rfl rfl rfl rfl ?ha ?hh ?_); (case ha => exact zz1); (case hh => exact zH); (conv => whnf)) | ((refine am (fun hc => ?_) (fun hc => ?_)) <;> (try simp only [wz9] at hc) <;> (try (exfalso; omega)) <;> (conv => whnf))))
 all_goals first
  | exact absurd (by assumption) h2
  | skip
 refine ah.of [0] rfl (fun i hi => by have : i = 0 := (by omega); subst this; rfl) rfl ?_ ?_
 ·exact .rfl _
 ·((conv => whnf); repeat' (first | exact zA9 | ((with_reducible refine And.intro ?_ ?_) <;> (conv => whnf))))
theorem plays_N {ps : List Pol} {cells : Int} {script : List Ask} (hs : ∀ a ∈ script, a.ok ∧ a.key.length ≤ 1048576) (hE : gt ps cells ≠ 0) (hl : ps.length ≤ 1048576) : Pure TC 3 [.d (aj 4 Pol.D ps), .i .i64 cells, .d (aj 6 Ask.D script)] (.b true) := by
 refine Pure.mk' Tryz.func3 rfl rfl zN ?_
 have hof := dV ps
 have hNew := iW ps cells hE
 have hDoc := gq ps cells hE
 generalize gt ps cells = z at *
 (repeat' (first | (with_reducible refine Wp.reg 4 ?_) | ((first | refine Wp.any aa rfl ?_ | (with_reducible first | refine Go.mk ?_ | apply ak.of | refine And.intro zC ?_)); conv => whnf) | ((with_reducible refine And.intro ?hb ?_); (case hb => exact zz0); (conv => whnf)) | ((with_reducible refine ab.pure (awake) rfl rfl ?_); conv => whnf)))
 refine ⟨?_⟩
 refine Wp.le (S' := ⟨⟨Tryz.f3.ntmps, 0⟩, 1, [(0, .d (aj 4 Pol.D ps)), (1, .i .i64 cells), (2, .d (aj 6 Ask.D script)), (7, .sl 0 4 0 (ps.length + 1))], [(0, some (mh ps))]⟩) ?_ ?_
 ·(refine Le.by [3] rfl rfl rfl rfl ?_ ?_ <;> (conv => whnf) <;> (repeat' (first | exact trivial | exact ac.rfl rfl | ((with_reducible refine And.intro ?_ ?_) <;> (conv => whnf)))))
  ·rw [show 0 + ps.length + 1 = ps.length + 1 by omega]; exact ac.sl rfl
  ·rfl
  ·rw [dV]; omega
  ·intro i hi
   unfold bh
   by_cases e : i < 0 + ps.length
   ·rw [if_pos e, if_neg (by omega)]
    show Pol.D (ps.getD (i - 0) default) = _
    rw [Nat.sub_zero, ← gG ps (by omega)]
   ·rw [if_neg e]
    have : i = ps.length := by omega
    subst this
    show _ = Pol.D ((ofP ps).getD ps.length default)
    rw [eQ]
    show a6 _ _ (0 + (ps.length - (0 + ps.length))) = _
    rw [show 0 + (ps.length - (0 + ps.length)) = 0 by omega]; rfl
 ·(repeat' (first | (with_reducible refine Wp.reg 6 ?_) | ((first | refine Wp.any aa rfl ?_ | (with_reducible first | refine Go.mk ?_ | apply ak.of | refine And.intro zC ?_)); conv => whnf) | ((refine ab.fn (hNew) [0] rfl rfl rfl rfl rfl ?ha ?hh ?_); (case ha => exact zA); (case hh => exact zH); (conv => whnf)) | ((with_reducible refine ab.pure (hDoc) rfl rfl ?_); conv => whnf)))
  refine ⟨?_⟩
  refine Wp.le (S' := ⟨⟨Tryz.f3.ntmps, 0⟩, 1, [(0, .d (aj 4 Pol.D ps)), (2, .d (aj 6 Ask.D script)), (7, .sl 0 4 0 (ps.length + 1)), (8, .d (.val (.pointer none))), (9, .i .i64 z), (10, .d (.val (.pointer none))), (11, .i .i64 z)], [(0, some (mh ps))]⟩) ?_ ?_
  ·(refine Le.by [0] rfl rfl rfl rfl ?_ ?_ <;> (conv => whnf) <;> (repeat' (first | exact trivial | exact ac.rfl rfl | exact ac.sl rfl | exact ⟨rfl, rfl, rfl⟩ | exact fun i hi => rfl | ((with_reducible refine And.intro ?_ ?_) <;> (conv => whnf)))))
  have h77 : ((ofP ps).getD (0 + (ps.length : Int).toNat) default).kind = 77 := by rw [Q19, Q13, eQ]
  have h77n : (ps.length : Int) < ((ps.length + 1 : Nat) : Int) := by omega
  (repeat' (first | ((first | refine Wp.any aa rfl ?_ | (with_reducible first | refine Go.mk ?_ | apply ak.of | refine And.intro zC ?_)); conv => whnf) | ((refine am (fun hc => ?_) (fun hc => ?_)) <;> (try simp only [wz9] at hc) <;> (try (exfalso; omega)) <;> (conv => whnf))))
  all_goals first
   | exact absurd h77 hc
   | exact absurd trivial hc
   | skip
  refine Wp.loopP (ι := Nat) (fun i => i ≤ ps.length) (fun i => ⟨⟨Tryz.f3.ntmps, 0⟩, 1, [(0, .d (aj 4 Pol.D ps)), (2, .d (aj 6 Ask.D script)), (7, .sl 0 4 0 (ps.length + 1)), (8, .d (.val (.pointer none))), (10, .d (.val (.pointer none))), (66, .i .i64 ps.length), (67, .i .i64 i)], [(0, some (.row 28 4 (ps.length + 1) fun q => Pol.D (if q < i then ⟨9, 0, 0, 0⟩ else (ofP ps).getD q default)))]⟩) (fun i => ps.length - i) 0 (Nat.zero_le _) ?_ ?_
  ·(refine Le.by [0] rfl rfl rfl rfl ?_ ?_ <;> (conv => whnf) <;> (repeat' (first | exact trivial | exact ac.rfl rfl | exact ac.sl rfl | exact fun i hi => rfl | ((with_reducible refine And.intro ?_ ?_) <;> (conv => whnf)))))
   all_goals exact hof
  ·intro i hi
   by_cases hlt : i < ps.length
   ·have hEq : (if 0 + (i : Int).toNat < i then (⟨9, 0, 0, 0⟩ : Pol) else (ofP ps).getD (0 + (i : Int).toNat) default) = ps.getD (i : Int).toNat default := by
     rw [Q19, Q13, if_neg (Nat.lt_irrefl _), gG ps hlt]
    (repeat' (first | ((first | refine Wp.any aa rfl ?_ | (with_reducible first | refine Go.mk ?_ | apply ak.of | refine Ov.ok zO ?_) | refine zV ?_ | with_reducible refine And.intro zC ?_); conv => whnf) | ((refine am (fun hc => ?_) (fun hc => ?_)) <;> (try simp only [wz9] at hc) <;> (try (exfalso; omega)) <;> (conv => whnf))))
    ·exfalso
     rw [hEq] at hc
     simp at hc
    ·refine ⟨i + 1, by omega, by dsimp only; omega, ?_⟩
     (refine Le.by [0] rfl rfl rfl rfl ?_ ?_ <;> (conv => whnf) <;> (repeat' (first | exact trivial | exact ac.rfl rfl | exact ac.sl rfl | exact ⟨rfl, rfl, rfl⟩ | ((with_reducible refine And.intro ?_ ?_) <;> (conv => whnf)))))
     intro q hq
     dsimp only
     by_cases e : q = 0 + (i : Int).toNat
     ·rw [if_pos e, if_pos (by omega)]; rfl
     ·rw [if_neg e]
      by_cases e2 : q < i
      ·rw [if_pos e2, if_pos (by omega)]
      ·rw [if_neg e2, if_neg (by omega)]
   ·obtain rfl : i = ps.length := by omega
    (repeat' (first | (with_reducible refine Wp.reg 15 ?_) | ((first | refine Wp.any aa rfl ?_ | (with_reducible first | refine Go.mk ?_ | apply ak.of)); conv => whnf) | ((refine am (fun hc => ?_) (fun hc => ?_)) <;> (try simp only [wz9] at hc) <;> (try (exfalso; omega)) <;> (conv => whnf))))
    refine ⟨?_⟩
    (repeat' (first | ((first | refine Wp.any aa rfl ?_ | (with_reducible first | refine Go.mk ?_ | apply ak.of)); conv => whnf)))
    refine Wp.loopP (ι := Nat) (fun k => k ≤ script.length ∧ k ≤ 200) (fun k => ⟨⟨Tryz.f3.ntmps, 0⟩, 0, [(8, .d (.val (.pointer none))), (10, .d (.val (.pointer none))), (84, .d (aj 6 Ask.D script)), (85, .i .i64 script.length), (86, .i .i64 k)], []⟩) (fun k => script.length - k) 0 ⟨Nat.zero_le _, Nat.zero_le _⟩ ?_ ?_
    ·(refine Le.by [] rfl rfl rfl rfl ?_ ?_ <;> (conv => whnf) <;> (repeat' (first | exact trivial | exact ac.rfl rfl | ((with_reducible refine And.intro ?_ ?_) <;> (conv => whnf)))))
    ·rintro i ⟨h1, h2⟩
     by_cases hlt : i < script.length
     ·have hm : script.getD (i : Int).toNat default ∈ script := by
       rw [Q13, Q1, Q0 hlt]; exact Q14 hlt
      have hok := hs _ hm
      (repeat' (first | (with_reducible refine Wp.reg 19 ?_) | ((first | refine Wp.any aa rfl ?_ | (with_reducible first | refine Go.mk ?_ | apply ak.of | refine And.intro zC ?_ | refine ab.pure (db) rfl rfl ?_ | refine ab.pure (eG) rfl rfl ?_)); conv => whnf) | ((refine am (fun hc => ?_) (fun hc => ?_)) <;> (try simp only [wz9] at hc) <;> (try (exfalso; omega)) <;> (conv => whnf))))
      ·exact .rfl _
      ·generalize script.getD (i : Int).toNat default = f at *
       refine ⟨?_⟩
       have hSp := kU f.key (by omega)
       have hDo := qd f.op f.pol f.key f.n f.now f.serial
       have hDD := lW f.op f.pol f.key f.n f.now f.serial
       have hKp := kV f.key (by omega)
       generalize nilR f.op f.pol f.key f.n f.now f.serial = rp at *
       have e3 := er f.key
       (repeat' (first | (with_reducible refine Wp.reg 24 ?_) | ((first | refine Wp.any aa rfl ?_ | (with_reducible first | refine Go.mk ?_ | apply ak.of) | refine zV ?_); conv => whnf) | ((refine ab.fn (hSp) [] rfl rfl rfl rfl rfl ?ha ?hh ?_); (case ha => exact zA); (case hh => exact zH); (conv => whnf)) | ((refine ag.fn (hDo) [1] [1] rfl rfl rfl rfl rfl ?ha ?hh ?hs ?_); (case ha => exact zz1); (case hh => exact zH); (case hs => exact zK); (conv => whnf)) | ((with_reducible refine ag.pure (hDD) rfl rfl ?_); conv => whnf) | ((refine ag.fn (hKp) [1] [1] rfl rfl rfl rfl rfl ?ha ?hh ?hs ?_); (case ha => exact zA); (case hh => exact zH); (case hs => exact zK); (conv => whnf)) | ((refine am (fun hc => ?_) (fun hc => ?_)) <;> (try simp only [wz9] at hc) <;> (try (exfalso; omega)) <;> (conv => whnf))))
       ·exfalso; simp at hc
       refine ⟨?_⟩
       obtain ⟨m, hm9⟩ : ∃ m, m = (eJ f.key).length := ⟨_, rfl⟩
       refine Wp.le (S' := ⟨⟨Tryz.f3.ntmps, 0⟩, 1, [(8, .d (.val (.pointer none))), (10, .d (.val (.pointer none))), (84, .d (aj 6 Ask.D script)), (85, .i .i64 script.length), (86, .i .i64 i), (16, .sl 0 1 0 m)], [(0, some (.row 5 1 m fun q => [.val (.int .u8 ((eJ f.key).getD q default))]))]⟩) ?_ ?_
       ·(refine Le.by [1] rfl rfl rfl rfl ?_ ?_ <;> (conv => whnf) <;> (repeat' (first | exact trivial | exact ac.rfl rfl | exact fun i hi => rfl | ((with_reducible refine And.intro ?_ ?_) <;> (conv => whnf)))))
        ·rw [hm9]; exact ac.sl rfl
        ·exact hm9.symm
       (repeat' (first | ((first | refine Wp.any aa rfl ?_ | (with_reducible first | refine Go.mk ?_ | apply ak.of)); conv => whnf)))
       refine Wp.loopP (ι := Nat × (Nat → Int)) (fun k => k.1 ≤ m) (fun k => ⟨⟨Tryz.f3.ntmps, 0⟩, 1, [(8, .d (.val (.pointer none))), (10, .d (.val (.pointer none))), (84, .d (aj 6 Ask.D script)), (85, .i .i64 script.length), (86, .i .i64 i), (16, .sl 0 1 0 m), (129, .i .i64 m), (130, .i .i64 k.1)], [(0, some (.row 5 1 m fun q => [.val (.int .u8 (k.2 q))]))]⟩) (fun k => m - k.1) (0, fun q => (eJ f.key).getD q default) (Nat.zero_le _) ?_ ?_
       ·(refine Le.by [0] rfl rfl rfl rfl ?_ ?_ <;> (conv => whnf) <;> (repeat' (first | exact trivial | exact ac.rfl rfl | exact ac.sl rfl | exact ⟨rfl, rfl, rfl⟩ | exact fun i hi => rfl | ((with_reducible refine And.intro ?_ ?_) <;> (conv => whnf)))))
       ·rintro ⟨j, g⟩ hj
        dsimp only at hj ⊢
        (repeat' (first | ((first | refine Wp.any aa rfl ?_ | (with_reducible first | refine Go.mk ?_ | apply ak.of | refine Ov.ok zO ?_ | refine And.intro zC ?_)); conv => whnf) | ((refine am (fun hc => ?_) (fun hc => ?_)) <;> (try simp only [wz9] at hc) <;> (try (exfalso; omega)) <;> (conv => whnf))))
        ·refine ⟨(j + 1, fun q => if q = 0 + (j : Int).toNat then bits .xor .u8 (g (0 + (j : Int).toNat)) 1 else g q), by dsimp only; omega, by dsimp only; omega, ?_⟩
         (refine Le.by [0] rfl rfl rfl rfl ?_ ?_ <;> (conv => whnf) <;> (repeat' (first | exact trivial | exact ac.rfl rfl | exact ac.sl rfl | exact ⟨rfl, rfl, rfl⟩ | ((with_reducible refine And.intro ?_ ?_) <;> (conv => whnf)))))
         intro q hq
         dsimp only
         by_cases e : q = 0 + (j : Int).toNat
         ·rw [if_pos e, if_pos e]
         ·rw [if_neg e, if_neg e]
        ·refine ⟨i + 1, ⟨by omega, by omega⟩, by dsimp only; omega, ?_⟩
         (refine Le.by [] rfl rfl rfl rfl ?_ ?_ <;> (conv => whnf) <;> (repeat' (first | exact trivial | exact ac.rfl rfl | ((with_reducible refine And.intro ?_ ?_) <;> (conv => whnf)))))
     ·(repeat' (first | ((first | refine Wp.any aa rfl ?_ | (with_reducible first | refine Go.mk ?_ | apply ak.of | refine ab.pure (db) rfl rfl ?_ | refine ab.pure (eG) rfl rfl ?_)); conv => whnf) | ((refine am (fun hc => ?_) (fun hc => ?_)) <;> (try simp only [wz9] at hc) <;> (try (exfalso; omega)) <;> (conv => whnf))))
      all_goals exact .rfl _
theorem gd {ps : List Pol} {cells : Int} {script : List Ask} (hs : ∀ a ∈ script, a.ok ∧ a.key.length ≤ 1048576) (hl : ps.length ≤ 1048576) : Pure TC 3 [.d (aj 4 Pol.D ps), .i .i64 cells, .d (aj 6 Ask.D script)] (.b true) := by
 by_cases hE : gt ps cells = 0
 ·exact plays_B hs hE
 ·exact plays_N hs hE hl
end Go.Proofs.YtcbpkdhoibemcaaGreat
