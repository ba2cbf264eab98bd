/- Lemmas of Br12, Br13, Hc5. No condition. -/
import Derived.Test.YtlplngmpggkloaaGreatMJ15
set_option linter.unusedVariables false
set_option linter.unusedSimpArgs false
set_option maxHeartbeats 80000000
set_option maxRecDepth 100000
namespace Go.Proofs.YtlplngmpggkloaaGreat
open Go.RowKit
section
inductive nK (N : Nat) : D → Prop
  | val (v : Value) : nK N (.val v)
  | sl {z n : Nat} {f : Nat → List D} (hn : n ≤ N) (h : ∀ i, i < n → ∀ d, d ∈ f i → nK N d) : nK N (.sl z n f)
theorem si {H : Type} (d : DataW H) : 1 ≤ Rows.uptoBulk d := by
  cases d with
  | lit l => cases l <;> simp [Rows.uptoBulk]
  | _ => simp [Rows.uptoBulk]
theorem mR {H : Type} : ∀ l : List (DataW H), l.length ≤ Rows.uptoBulkAll l
  | [] => Nat.zero_le _
  | d :: r => by
    have := mR r
    have := si d
    simp only [Rows.uptoBulkAll, List.length_cons]
    omega
theorem fQ {H : Type} {d : DataW H} : ∀ {l : List (DataW H)}, d ∈ l → Rows.uptoBulk d ≤ Rows.uptoBulkAll l
  | e :: r, h => by
    simp only [Rows.uptoBulkAll]
    rcases Q22 h with rfl | h
    · omega
    · have := fQ h; omega
theorem ny {H : Type} {len N : Nat} {Dd : Nat → DataW H} {sp : List (DataW H)} {pl : List MemPlace} (h : Rows.uptoBulk (DataW.slice ((List.range len).map Dd) sp, pl).1 ≤ N) : len ≤ N ∧ ∀ i, i < len → Rows.uptoBulk (Dd i, pl).1 ≤ N := by
  simp only [Rows.uptoBulk] at h
  have h1 := mR ((List.range len).map Dd)
  rw [List.length_map, List.length_range] at h1
  refine ⟨by omega, fun i hi => ?_⟩
  have := fQ (d := Dd i) (l := (List.range len).map Dd) (List.mem_map_of_mem (List.mem_range.2 hi))
  show Rows.uptoBulk (Dd i) ≤ N
  omega
theorem sj {H : Type} {N : Nat} {xs : List (DataW H × List MemPlace)} {pl : List MemPlace} (h : Rows.uptoBulk (DataW.agg (xs.map (·.1)), pl).1 ≤ N) {y : DataW H × List MemPlace} (hy : y ∈ xs) : Rows.uptoBulk y.1 ≤ N := by
  simp only [Rows.uptoBulk] at h
  have := fQ (d := y.1) (l := xs.map (·.1)) (List.mem_map_of_mem hy)
  omega
section
variable {H : Type} {enc : TypeId × Value → H} {P : Program} {w : World} {spare : Nat → Bool} {N : Nat}
theorem gC {r : TypeId → Option (List Sh)} {c : TypeId → Nat} {cs : List Value} : ∀ (fs : List Field) (o : Nat) (a : List Sh), shF r c fs o = some a → o + a.length ≤ cs.length →
    (∀ f ∈ fs, ∀ b, r f.type = some b → ∃ ds, fg b ds ∧ (∀ d ∈ ds, nK N d) ∧ RLs w ds ((cs.drop f.offset).take (c f.type))) → ∃ ds, fg a ds ∧ (∀ d ∈ ds, nK N d) ∧ RLs w ds ((cs.drop o).take a.length)
  | [], o, a, h, hl, hr => by
    simp only [shF, Option.some.injEq] at h; subst h
    exact ⟨[], .nil, fun d hd => by simp at hd, by simpa using RLs.nil w⟩
  | f :: fs, o, a, h, hl, hr => by
    unfold shF at h
    split at h
    · rename_i ho
      obtain ⟨b, hb, h⟩ := Option.bind_eq_some_iff.1 h
      split at h
      · rename_i hc
        obtain ⟨a', ha', rfl⟩ := Option.map_eq_some_iff.1 h
        rw [Q9] at hl
        obtain ⟨ds, h1, hN1, h2⟩ := hr f (by simp) b hb
        obtain ⟨ds', h3, hN2, h4⟩ := gC fs _ a' ha' (by omega) (fun g hg => hr g (by simp [hg]))
        refine ⟨ds ++ ds', h1.append h3, fun d hd => (List.mem_append.1 hd).elim (hN1 d) (hN2 d), ?_⟩
        rw [ho, ← hc] at h2
        have := h2.append h4
        rw [show (cs.drop o).take (b ++ a').length = (cs.drop o).take b.length ++ (cs.drop (o + b.length)).take a'.length by
          rw [Q9, List.take_add, List.drop_drop]]
        exact this
      · cases h
    · cases h
theorem oy : ∀ (m fuel : Nat) (t : TypeId) (cs : List Value) (x : DataW H × List MemPlace) (shs : List Sh), DataW.trod enc P w 0 spare true fuel t cs = some x → shT P m t = some shs → Rows.uptoBulk x.1 ≤ N → ∃ ds, fg shs ds ∧ (∀ d ∈ ds, nK N d) ∧ RLs w ds cs
  | 0, fuel, t, cs, x, shs, h, hs => by simp [shT] at hs
  | m + 1, 0, t, cs, x, shs, h, hs => by simp [DataW.trod] at h
  | m + 1, fuel + 1, t, cs, x, shs, h, hs => by
    have ih := fun fuel t cs x shs h hs => oy m fuel t cs x shs h hs
    unfold shT at hs
    split at hs
    · rename_i hu
      cases hs
      unfold DataW.trod at h
      rw [hu] at h
      split at h <;> simp_all
      exact fun _ => ⟨_, .cons (.bool _) .nil, fun d hd => by obtain rfl := List.mem_singleton.1 hd; exact .val _, .one (.val _ rfl)⟩
    · rename_i k hu
      cases hs
      unfold DataW.trod at h
      rw [hu] at h
      split at h <;> simp_all
      rename_i n _ _
      obtain ⟨⟨rfl, hw⟩, _⟩ := h
      exact fun _ => ⟨_, .cons (.int hw) .nil, fun d hd => by obtain rfl := List.mem_singleton.1 hd; exact .val _, .one (.val _ rfl)⟩
    · rename_i hu
      cases hs
      unfold DataW.trod at h
      rw [hu] at h
      split at h <;> simp_all
      exact fun _ => ⟨_, .cons (.str _ h.1) .nil, fun d hd => by obtain rfl := List.mem_singleton.1 hd; exact .val _, .one (.val _ rfl)⟩
    · rename_i e hu
      obtain ⟨es, he, hs⟩ := Option.bind_eq_some_iff.1 hs
      split at hs
      case isFalse => cases hs
      rename_i hz
      cases hs
      intro hB
      rcases Go.Deep.open_slice hu h with ⟨rfl, _⟩ | ⟨a, len, cap, mm, n, Dd, Pl, rfl, _, hl, hm, hmm, hx1, hel⟩
      · refine ⟨[.sl (P.cellsOf e) 0 fun _ => []], .cons (.sl (by unfold maxLen; omega) fun i hi => by omega) .nil, fun d hd => by (obtain rfl := List.mem_singleton.1 hd; exact .sl (Nat.zero_le _) fun i hi => by omega), .one (.sl _ 0 _ none 0 (fun _ _ => undef) (Q4 _) (by unfold maxLen; omega) (fun i hi => by omega) (fun h => by omega) (fun i j hi => by omega))⟩
      · have hle : len ≤ mm := by rw [hmm]; split <;> omega
        rw [hx1] at hB
        obtain ⟨hB1, hB2⟩ := ny hB
        have hx : ∀ i, ∃ p : List Value × List D, i < len → w.cells? 0 (a.add (i * P.cellsOf e)) (P.cellsOf e) = some p.1 ∧ fg es p.2 ∧ RLs w p.2 p.1 ∧ ∀ d ∈ p.2, nK N d := fun i => by
          by_cases hi : i < len
          · obtain ⟨cs', h1, h2⟩ := hel i (by omega)
            obtain ⟨ds, h3, hN, h4⟩ := ih _ _ _ _ _ h2 he (hB2 i hi)
            exact ⟨(cs', ds), fun _ => ⟨h1, h3, h4, hN⟩⟩
          · exact ⟨([], []), fun h => absurd h hi⟩
        obtain ⟨F, hF⟩ := Classical.axiomOfChoice hx
        refine ⟨[.sl (P.cellsOf e) len fun i => (F i).2], .cons (.sl (by omega) fun i hi => (hF i hi).2.1) .nil, fun d hd => by (obtain rfl := List.mem_singleton.1 hd; exact .sl hB1 fun i hi => (hF i hi).2.2.2), .one (.sl _ len _ (some a) cap (fun i j => ((F i).1[j]?).getD undef) hl hm (fun i hi => by rw [(hF i hi).2.1.len, hz]) (fun h0 => ?_) (fun i j hi hj => ?_))⟩
        · have h0' : 0 < len ∧ 0 < P.cellsOf e := ⟨Nat.pos_of_ne_zero fun h => by subst h; simp at h0, Nat.pos_of_ne_zero fun h => by rw [h] at h0; simp at h0⟩
          have hcell : ∀ i j, i < len → j < P.cellsOf e → ∃ v, (F i).1[j]? = some v ∧ w.cell? ((a.add (i * P.cellsOf e)).add j) = some v := fun i j hi hj => by
            obtain ⟨_, k2, k3⟩ := World.cells?_some (hF i hi).1
            have hj' : j < (F i).1.length := by omega
            refine ⟨_, Q0 hj', ?_⟩
            rw [k3 j hj, Q0 hj']
          obtain ⟨v0, _, c0⟩ := hcell 0 0 h0'.1 h0'.2
          rw [Nat.zero_mul] at c0
          have hsp : a.spot = none := jS (by
            have := World.cell?_spot c0
            have e1 : (a.add 0) = a := by unfold Addr.add; simp
            rw [e1] at c0; exact c0)
          obtain ⟨b, o, sp⟩ := a
          simp only at hsp
          subst hsp
          refine ⟨b, o, rfl, ?_, fun i j hi hj => ?_⟩
          · rw [Addr.add_mid, Addr.add_mid] at c0
            exact World.block_lt_of_cell? w _ c0
          · obtain ⟨v, k1, k2⟩ := hcell i j hi hj
            rw [Addr.add_mid, Addr.add_mid] at k2
            rw [k2, k1]; rfl
        · have h9 := (hF i hi).2.2.1
          have hl9 := h9.len
          have hj' : j < (F i).1.length := by rw [← hl9]; exact hj
          exact h9.out j _ _ (Q0 hj) (by rw [Q0 hj']; rfl)
    · rename_i fs hu
      obtain ⟨a, ha, hs⟩ := Option.bind_eq_some_iff.1 hs
      split at hs
      case isFalse => cases hs
      rename_i hz
      cases hs
      intro hB
      obtain ⟨xs, n, _, hx1, hl, _, hf⟩ := DataW.trod_struct hu h
      rw [hx1] at hB
      obtain ⟨ds, h1, hN, h2⟩ := gC (N := N) (w := w) (cs := cs) fs.toList 0 shs ha (by omega) (fun f hf' b hb => by
        obtain ⟨i, hi, e⟩ := List.getElem_of_mem hf'
        have hi' : i < fs.size := by simpa using hi
        have hfi : fs[i]? = some f := by rw [Array.getElem?_eq_getElem hi']; rw [← e]; simp
        have hq := hf i f hfi
        rename_i hxl _
        have hxi : ∃ y, xs[i]? = some y := ⟨xs[i]'(by omega), Q0 _⟩
        obtain ⟨y, hy⟩ := hxi
        rw [hy] at hq
        exact ih _ _ _ _ _ hq hb (sj hB (Q3 hy |>.elim fun h9 e9 => e9 ▸ Q14 h9)))
      refine ⟨ds, h1, hN, ?_⟩
      rw [List.drop_zero, hz, ← hl, List.take_length] at h2
      exact h2
    · cases hs
end
end
section
open Go.ChangeShapes Go.WideShapes Go.ChangeAt Go.RowKit
theorem kD {α : Type} [Inhabited α] {enc : α → List D} {p : α → Prop} {z N : Nat} {es : List Sh} {d : D} (h : mV (.sl z es) d) (hN : nK N d) (hp : ∀ ds, fg es ds → (∀ d ∈ ds, nK N d) → ∃ x, nB ds (enc x) ∧ p x) :
    ∃ xs : List α, TLe d (ak z enc xs) ∧ xs.length ≤ N ∧ ∀ x ∈ xs, p x := by
  obtain ⟨n, f, rfl, hn, hf⟩ := s4 h
  cases hN with
  | sl h1 h2 =>
    obtain ⟨xs, g1, g2, g3⟩ := oJ (enc := enc) (p := p) fun i hi => hp _ (hf i hi) (h2 i hi)
    subst g1
    exact ⟨xs, TLe.sl fun i hi => g2 i hi, h1, g3⟩
theorem o0 {k : IntKind} {N : Nat} {d : D} (h : mV (.sl 1 [.int k]) d) (hN : nK N d) : ∃ xs : List Int, TLe d (ak 1 (ar k) xs) ∧ xs.length ≤ N ∧ ∀ x ∈ xs, shI k x :=
  kD h hN fun ds hd _ => by
    obtain ⟨d, r, rfl, h1, h2⟩ := aC hd
    obtain ⟨n, rfl, hn⟩ := a7 h1
    obtain rfl := gB h2
    exact ⟨n, .cons (.rfl _) .nil, hn⟩
theorem rU {d : D} (h : mV .bool d) : ∃ b, d = .val (.bool b) := by cases h with | bool b => exact ⟨b, rfl⟩
theorem arg1N {H : Type} {enc : TypeId × Value → H} {W : World} {t : TypeId} {v : Value} {d : DataW H} {p : List MemPlace} {s : Sh} {N : Nat} (h : DataW.Trod enc Tryz.prog W 0 (fun _ => true) true t v d p) (hs : shT Tryz.prog 8 t = some [s]) (hv : v.cells.toList = [v]) (hN : Rows.uptoBulk d ≤ N) :
    ∃ x, mV s x ∧ nK N x ∧ RD W (fun b => b < W.heap.size) x v := by
  obtain ⟨n, h⟩ := h
  obtain ⟨ds, h1, hl, h2⟩ := oy 8 n t _ _ _ h hs hN
  obtain ⟨x, r, rfl, h3, h4⟩ := aC h1
  obtain rfl := gB h4
  rw [hv] at h2
  exact ⟨x, h3, hl x (by simp), h2.out 0 x v rfl rfl⟩
@[reducible] def sC : List Sh := [.int .i64, .int .u8, .int .i64, .sl 1 [.int .u8], .int .i64, .int .i64, .int .i64, .int .i64, .bool, .int .i64, .int .i64, .int .i64, .int .i64]
theorem rT {N : Nat} {ds : List D} (h : fg sC ds) (hN : ∀ d ∈ ds, nK N d) : ∃ a : HD, nB ds a.D ∧ (IsB a.key ∧ a.key.length ≤ N) := by
  obtain ⟨d0, r0, rfl, h0, t0⟩ := aC h
  obtain ⟨d1, r1, rfl, h1, t1⟩ := aC t0
  obtain ⟨d2, r2, rfl, h2, t2⟩ := aC t1
  obtain ⟨d3, r3, rfl, h3, t3⟩ := aC t2
  obtain ⟨d4, r4, rfl, h4, t4⟩ := aC t3
  obtain ⟨d5, r5, rfl, h5, t5⟩ := aC t4
  obtain ⟨d6, r6, rfl, h6, t6⟩ := aC t5
  obtain ⟨d7, r7, rfl, h7, t7⟩ := aC t6
  obtain ⟨d8, r8, rfl, h8, t8⟩ := aC t7
  obtain ⟨d9, r9, rfl, h9, t9⟩ := aC t8
  obtain ⟨d10, r10, rfl, h10, t10⟩ := aC t9
  obtain ⟨d11, r11, rfl, h11, t11⟩ := aC t10
  obtain ⟨d12, r12, rfl, h12, t12⟩ := aC t11
  obtain rfl := gB t12
  obtain ⟨n0, rfl, _⟩ := a7 h0
  obtain ⟨n1, rfl, _⟩ := a7 h1
  obtain ⟨n2, rfl, _⟩ := a7 h2
  obtain ⟨key, le, hkl, hkb⟩ := o0 h3 (hN _ (by simp))
  obtain ⟨n4, rfl, _⟩ := a7 h4
  obtain ⟨n5, rfl, _⟩ := a7 h5
  obtain ⟨n6, rfl, _⟩ := a7 h6
  obtain ⟨n7, rfl, _⟩ := a7 h7
  obtain ⟨b8, rfl⟩ := rU h8
  obtain ⟨n9, rfl, _⟩ := a7 h9
  obtain ⟨n10, rfl, _⟩ := a7 h10
  obtain ⟨n11, rfl, _⟩ := a7 h11
  obtain ⟨n12, rfl, _⟩ := a7 h12
  exact ⟨⟨n0, n1, n2, key, n4, n5, n6, ⟨n7, b8, n9, n10, n11, n12⟩⟩, .cons (.rfl _) (.cons (.rfl _) (.cons (.rfl _) (.cons le (.cons (.rfl _) (.cons (.rfl _) (.cons (.rfl _) (.cons (.rfl _) (.cons (.rfl _) (.cons (.rfl _) (.cons (.rfl _) (.cons (.rfl _) (.cons (.rfl _) .nil)))))))))))), fun x hx => wf_u8 (hkb x hx), hkl⟩
theorem rR {ds : List D} (h : fg [.int .u8, .int .i64, .int .i64, .int .i64] ds) : ∃ p : Pol, nB ds p.D ∧ True := by
  obtain ⟨d0, r0, rfl, h0, t0⟩ := aC h
  obtain ⟨d1, r1, rfl, h1, t1⟩ := aC t0
  obtain ⟨d2, r2, rfl, h2, t2⟩ := aC t1
  obtain ⟨d3, r3, rfl, h3, t3⟩ := aC t2
  obtain rfl := gB t3
  obtain ⟨n0, rfl, -⟩ := a7 h0
  obtain ⟨n1, rfl, -⟩ := a7 h1
  obtain ⟨n2, rfl, -⟩ := a7 h2
  obtain ⟨n3, rfl, -⟩ := a7 h3
  exact ⟨⟨n0, n1, n2, n3⟩, .cons (.rfl _) (.cons (.rfl _) (.cons (.rfl _) (.cons (.rfl _) .nil))), trivial⟩
theorem argPols {H : Type} {enc : TypeId × Value → H} {W : World} {v : Value} {d : DataW H} {p : List MemPlace} (h : DataW.Trod enc Tryz.prog W 0 (fun _ => true) true 22 v d p) (hv : v.cells.toList = [v]) :
    ∃ ps : List Pol, ∀ E : Env, E.Im = (fun b => b < W.heap.size) → RS E 0 W (.d (ak 4 Pol.D ps)) v := by
  obtain ⟨x, f, g⟩ := arg1 h (s := .sl 4 [.int .u8, .int .i64, .int .i64, .int .i64]) (by kernel_rfl) hv
  obtain ⟨ps, le, _, _⟩ := rS f fun ds hd => rR hd
  exact ⟨ps, fun E hE => .d _ _ (by rw [hE]; exact le.out _ _ _ g)⟩
theorem sn {N : Nat} {H : Type} {enc : TypeId × Value → H} {W : World} {v : Value} {d : DataW H} {p : List MemPlace} (h : DataW.Trod enc Tryz.prog W 0 (fun _ => true) true 23 v d p) (hv : v.cells.toList = [v]) (hN : Rows.uptoBulk d ≤ N) :
    ∃ l : List HD, l.length ≤ N ∧ (∀ a ∈ l, IsB a.key ∧ a.key.length ≤ N) ∧ ∀ E : Env, E.Im = (fun b => b < W.heap.size) → RS E 0 W (.d (ak 13 HD.D l)) v := by
  obtain ⟨x, f, g0, g⟩ := arg1N h (s := .sl 13 sC) (by kernel_rfl) hv hN
  obtain ⟨l, le, hl, hok⟩ := kD f g0 fun ds hd hn => rT hd hn
  exact ⟨l, hl, hok, fun E hE => .d _ _ (by rw [hE]; exact le.out _ _ _ g)⟩
end
section
open Hist
structure HX where
  d : HD
  kd : D
instance : Inhabited HX := ⟨⟨default, .val (.slice none 0 0)⟩⟩
@[reducible] def HX.D (x : HX) : List Go.Proofs.YtlplngmpggkloaaGreat.D := [.val (.int .i64 x.d.who), .val (.int .u8 x.d.op), .val (.int .i64 x.d.pol), x.kd, .val (.int .i64 x.d.n), .val (.int .i64 x.d.first), .val (.int .i64 x.d.last), .val (.int .i64 x.d.r.e), .val (.bool x.d.r.g), .val (.int .i64 x.d.r.left), .val (.int .i64 x.d.r.wait), .val (.int .i64 x.d.r.serial), .val (.int .i64 x.d.r.now)]
def mkX (d : HD) : HX := ⟨d, ak 1 (ar .u8) d.key⟩
def x77 : HX := ⟨⟨77, 0, 0, [], 0, 0, 0, ⟨0, false, 0, 0, 0, 0⟩⟩, .val (.slice none 0 0)⟩
def ofL (l : List HD) : List HX := l.map mkX ++ [x77]
theorem oz {l : List HD} {k : Nat} (h : k < l.length) : (ofL l).getD k default = mkX (l.getD k default) := by
  unfold ofL
  rw [Q1, Q11 (by rw [List.length_map]; exact h), List.getElem?_map, Q0 h, Q1, Q0 h]; rfl
theorem mb {l : List HD} : (ofL l).getD l.length default = x77 := by
  unfold ofL
  rw [Q1, Q12 (by rw [List.length_map]; exact Q4 _), List.length_map, Nat.sub_self]; rfl
@[reducible] def ofR (l : List HD) : Blk := .row 38 13 (l.length + 1) fun q => HX.D ((ofL l).getD q default)
theorem law_ofR {l : List HD} (hl : l.length ≤ 1048576) (hk : ∀ d ∈ l, d.key.length ≤ 1048576) : Fun TC 5 0 [.d (ak 13 HD.D l)] [] 1 (.sl 0 13 0 l.length) [(0, some (ofR l))] := by
  refine Fun.mk' Tryz.func5 rfl rfl (zzb rfl) (by decide) ?_
  (repeat' (first
    | with_reducible refine Wp.seq ?_
    | with_reducible refine Wp.block ?_
    | ((with_reducible first | refine Wp.region ?_ | refine Wp.drawL ac ?_ | refine Wp.cond ?_ | refine Wp.ret ?_ | refine Wp.skip ?_ | refine Wp.exit ?_ | refine Go.mk ?_ | apply ao.of); conv => whnf)
    | with_reducible exact rfl
    | ((with_reducible refine Ov.ok zO ?_); conv => whnf)
    | (with_reducible refine Ov.sh1 (by with_unfolding_all exact rfl) ?_)
    | ((with_reducible refine Ov.quo (by omega) (by omega) (by omega) (fun _ _ => ?_)); conv => whnf)
    | ((with_reducible refine And.intro (show ah _ _ _ _ = true by kernel_rfl) ?_); conv => whnf)
    | ((with_reducible refine And.intro zC ?_); conv => whnf)
    | ((with_reducible refine And.intro ?hb ?_); (case hb => exact ae (zzb rfl) (by omega)); (conv => whnf))
    | ((refine af.a rfl rfl rfl rfl rfl rfl ?hb ?_); (case hb => exact zB); (conv => whnf))
    | ((refine af.b rfl rfl rfl rfl rfl rfl rfl rfl ?hb ?ho ?_); (case hb => exact zB); (case ho => omega); (conv => whnf))
    | ((refine af.c rfl rfl rfl rfl rfl ?hb ?_); (case hb => exact zB); (conv => whnf))
    | ((refine af.d rfl rfl rfl rfl rfl rfl ?hb ?ho ?_); (case hb => exact zB); (case ho => omega); (conv => whnf))
    | (with_reducible refine Or.inl ?_)
    | ((with_reducible refine IxA.ptr ?_); conv => whnf)
    | ((with_reducible refine nil_no (by omega) ?_); (conv => whnf))
    | ((with_reducible refine ag ?_ (fun hn0 => ?_)) <;> (conv => whnf))
    
    | ((refine ap (fun hc => ?_) (fun hc => ?_)) <;> (try simp only [decide_eq_true_eq, decide_eq_false_iff_not, Q5, Q20, Bool.and_eq_false_iff, Bool.or_eq_false_iff, Bool.not_eq_true', Bool.not_eq_false', beq_iff_eq, bne_iff_ne, ne_eq, beq_eq_false_iff_ne, bne_eq_false_iff_eq, Bool.not_eq_true, Bool.not_eq_false] at hc) <;> (try (exfalso; omega)) <;> (conv => whnf))))
  refine Wp.le (Le.virt 3 38 13 (fun i => HD.D (([] : List HD).getD i default)) (by decide) rfl) ?_
  refine Wp.loopP (ι := Nat) (fun k => k ≤ l.length) (fun k => ⟨⟨Tryz.f5.ntmps, 0⟩, 1, [(0, .d (ak 13 HD.D l)), (3, .sl 0 13 0 (l.take k).length), (7, .d (ak 13 HD.D l)), (8, .i .i64 l.length), (9, .i .i64 k)], [(0, some (.row 38 13 (l.take k).length fun i => HD.D ((l.take k).getD i default)))]⟩) (fun k => l.length - k) 0 (Nat.zero_le _) ?_ ?_
  · (refine Le.by [0] rfl rfl rfl rfl ?_ ?_ <;> (conv => whnf) <;> (repeat' (first | exact trivial | exact aa.rfl rfl | exact aa.ptr rfl | exact aa.sl rfl | ((with_reducible refine aa.fn ?_); (conv => whnf)) | ((refine aa.iref ?_); (conv => whnf)) | exact ⟨rfl, rfl, rfl⟩ | exact fun i hi => rfl | ((with_reducible refine And.intro ?_ ?_) <;> (conv => whnf)))))
  · intro k hk0
    by_cases hi : k < l.length
    · have hm := bv hi
      have hTw := rr (l.getD (k : Int).toNat default).key (by have := hk _ hm; omega)
      have hlt : (l.take k).length = k := by rw [Q10]; omega
      have hta := lL hi
      (repeat' (first
    | with_reducible refine Wp.seq ?_
    | with_reducible refine Wp.block ?_
    | ((with_reducible first | refine Wp.region ?_ | refine Wp.drawL ac ?_ | refine Wp.cond ?_ | refine Wp.ret ?_ | refine Wp.skip ?_ | refine Wp.exit ?_ | refine Go.mk ?_ | apply ao.of); conv => whnf)
    | with_reducible exact rfl
    | ((with_reducible refine Ov.ok zO ?_); conv => whnf)
    | (with_reducible refine Ov.sh1 (by with_unfolding_all exact rfl) ?_)
    | ((with_reducible refine Ov.quo (by omega) (by omega) (by omega) (fun _ _ => ?_)); conv => whnf)
    | ((with_reducible refine And.intro (show ah _ _ _ _ = true by kernel_rfl) ?_); conv => whnf)
    | ((with_reducible refine And.intro zC ?_); conv => whnf)
    | ((with_reducible refine And.intro ?hb ?_); (case hb => exact ae (zzb rfl) (by omega)); (conv => whnf))
    | ((refine af.a rfl rfl rfl rfl rfl rfl ?hb ?_); (case hb => exact zB); (conv => whnf))
    | ((refine af.b rfl rfl rfl rfl rfl rfl rfl rfl ?hb ?ho ?_); (case hb => exact zB); (case ho => omega); (conv => whnf))
    | ((refine af.c rfl rfl rfl rfl rfl ?hb ?_); (case hb => exact zB); (conv => whnf))
    | ((refine af.d rfl rfl rfl rfl rfl rfl ?hb ?ho ?_); (case hb => exact zB); (case ho => omega); (conv => whnf))
    | (with_reducible refine Or.inl ?_)
    | ((with_reducible refine IxA.ptr ?_); conv => whnf)
    | ((with_reducible refine nil_no (by omega) ?_); (conv => whnf))
    | ((with_reducible refine ag ?_ (fun hn0 => ?_)) <;> (conv => whnf))
    | ((with_reducible refine ab.pure (hTw) rfl rfl ?_); conv => whnf) | ((with_reducible refine ai.pure (hTw) rfl rfl ?_); conv => whnf)
    | ((refine ap (fun hc => ?_) (fun hc => ?_)) <;> (try simp only [decide_eq_true_eq, decide_eq_false_iff_not, Q5, Q20, Bool.and_eq_false_iff, Bool.or_eq_false_iff, Bool.not_eq_true', Bool.not_eq_false', beq_iff_eq, bne_iff_ne, ne_eq, beq_eq_false_iff_ne, bne_eq_false_iff_eq, Bool.not_eq_true, Bool.not_eq_false] at hc) <;> (try (exfalso; omega)) <;> (conv => whnf))))
      refine ⟨k + 1, by omega, by dsimp only; omega, ?_⟩
      dsimp only
      rw [hta]
      generalize l.getD (k : Int).toNat default = x at *
      (refine Le.by [4] rfl rfl rfl rfl ?_ ?_ <;> ((conv => whnf); repeat' (first | exact trivial | exact law_argR (by decide) (fun l hl => by rcases l with _ | _ | _ | _ | l <;> first | exact ⟨zzb rfl, rfl⟩ | exact ⟨zzb rfl, rfl, rfl⟩ | omega) (fun q hq => by rcases q with _ | _ | _ | _ | _ | _ | _ | _ | _ | q <;> first | exact ⟨zzb rfl, rfl⟩ | omega) | exact law_argI (by decide) (by decide) (fun l hl => by rcases l with _ | _ | _ | _ | l <;> first | exact ⟨zzb rfl, rfl⟩ | exact ⟨zzb rfl, rfl, rfl⟩ | omega) (fun q hq => by rcases q with _ | _ | _ | _ | _ | _ | _ | _ | _ | q <;> first | exact ⟨zzb rfl, rfl⟩ | omega) | exact aa.rfl rfl | exact aa.ptr rfl | exact aa.sl rfl | exact aa.free SV.Le.any rfl | exact ⟨rfl, rfl, rfl⟩ | exact ⟨rfl, zzb rfl⟩ | exact x_argRA (by assumption) rfl | exact x_argA (by assumption) | exact fun i hi => rfl | exact aY _ _ | ((with_reducible refine And.intro ?_ ?_) <;> (conv => whnf)))))
      all_goals first
        | (rw [Q9]; exact aa.sl rfl)
        | rfl
        | (rw [Q9]; rfl)
        | exact bN HD.D 13 _ x _ rfl
    · obtain rfl : k = l.length := by omega
      rw [List.take_length]
      (repeat' (first
    | with_reducible refine Wp.seq ?_
    | with_reducible refine Wp.block ?_
    | ((with_reducible first | refine Wp.region ?_ | refine Wp.drawL ac ?_ | refine Wp.cond ?_ | refine Wp.ret ?_ | refine Wp.skip ?_ | refine Wp.exit ?_ | refine Go.mk ?_ | apply ao.of); conv => whnf)
    | with_reducible exact rfl
    | ((with_reducible refine Ov.ok zO ?_); conv => whnf)
    | (with_reducible refine Ov.sh1 (by with_unfolding_all exact rfl) ?_)
    | ((with_reducible refine Ov.quo (by omega) (by omega) (by omega) (fun _ _ => ?_)); conv => whnf)
    | ((with_reducible refine And.intro (show ah _ _ _ _ = true by kernel_rfl) ?_); conv => whnf)
    | ((with_reducible refine And.intro zC ?_); conv => whnf)
    | ((with_reducible refine And.intro ?hb ?_); (case hb => exact ae (zzb rfl) (by omega)); (conv => whnf))
    | ((refine af.a rfl rfl rfl rfl rfl rfl ?hb ?_); (case hb => exact zB); (conv => whnf))
    | ((refine af.b rfl rfl rfl rfl rfl rfl rfl rfl ?hb ?ho ?_); (case hb => exact zB); (case ho => omega); (conv => whnf))
    | ((refine af.c rfl rfl rfl rfl rfl ?hb ?_); (case hb => exact zB); (conv => whnf))
    | ((refine af.d rfl rfl rfl rfl rfl rfl ?hb ?ho ?_); (case hb => exact zB); (case ho => omega); (conv => whnf))
    | (with_reducible refine Or.inl ?_)
    | ((with_reducible refine IxA.ptr ?_); conv => whnf)
    | ((with_reducible refine nil_no (by omega) ?_); (conv => whnf))
    | ((with_reducible refine ag ?_ (fun hn0 => ?_)) <;> (conv => whnf))
    
    | ((refine ap (fun hc => ?_) (fun hc => ?_)) <;> (try simp only [decide_eq_true_eq, decide_eq_false_iff_not, Q5, Q20, Bool.and_eq_false_iff, Bool.or_eq_false_iff, Bool.not_eq_true', Bool.not_eq_false', beq_iff_eq, bne_iff_ne, ne_eq, beq_eq_false_iff_ne, bne_eq_false_iff_eq, Bool.not_eq_true, Bool.not_eq_false] at hc) <;> (try (exfalso; omega)) <;> (conv => whnf))))
      refine aq.of [2] rfl (by simp) rfl ?_ ?_
      · exact .of_eq rfl
      · refine ⟨⟨⟨rfl, rfl, rfl⟩, fun k hk => ?_⟩, trivial⟩
        unfold cq
        by_cases e : k < l.length
        · rw [if_pos e]
          show _ = HX.D ((ofL l).getD k default)
          rw [oz e]; rfl
        · have e2 : k = l.length := by omega
          subst e2
          rw [if_neg e]
          show _ = HX.D ((ofL l).getD l.length default)
          rw [mb, Nat.sub_self]; rfl
theorem fD {ps : List Pol} {calls : List HD} (hk : ∀ d ∈ calls, IsB d.key ∧ d.key.length ≤ 1048576) (hl : calls.length ≤ 1048576) : Pure TC 3 [.d (ak 4 Pol.D ps), .d (ak 13 HD.D calls)] (.b true) := by
  have hO := law_ofR hl fun d hd => (hk d hd).2
  have hC := eU (ps := ps) (fun d hd => (hk d hd).1) hl
  have hD := jW (ps := ps) (fun d hd => (hk d hd).1) hl
  have hL : calls.length = (calls.length : Int).toNat := by rw [Q13]
  have h77 : ((ofL calls).getD (0 + (calls.length : Int).toNat) default).d.who = 77 := by rw [Q19, Q13, mb]; rfl
  refine Pure.mk' Tryz.func3 rfl rfl (zzb rfl) ?_
  (repeat' (first
    | ((with_reducible refine Wp.regionX 6 ?_); conv => whnf)
    | with_reducible refine Wp.seq ?_
    | with_reducible refine Wp.block ?_
    | ((with_reducible first | refine Wp.region ?_ | refine Wp.drawL ac ?_ | refine Wp.cond ?_ | refine Wp.ret ?_ | refine Wp.skip ?_ | refine Wp.exit ?_ | refine Go.mk ?_ | apply ao.of); conv => whnf)
    | with_reducible exact rfl
    | ((with_reducible refine Ov.ok zO ?_); conv => whnf)
    | (with_reducible refine Ov.sh1 (by with_unfolding_all exact rfl) ?_)
    | ((with_reducible refine Ov.quo (by omega) (by omega) (by omega) (fun _ _ => ?_)); conv => whnf)
    | ((with_reducible refine And.intro (show ah _ _ _ _ = true by kernel_rfl) ?_); conv => whnf)
    | ((with_reducible refine And.intro zC ?_); conv => whnf)
    | ((with_reducible refine And.intro ?hb ?_); (case hb => exact ae (zzb rfl) (by omega)); (conv => whnf))
    | ((refine af.a rfl rfl rfl rfl rfl rfl ?hb ?_); (case hb => exact zB); (conv => whnf))
    | ((refine af.b rfl rfl rfl rfl rfl rfl rfl rfl ?hb ?ho ?_); (case hb => exact zB); (case ho => omega); (conv => whnf))
    | ((refine af.c rfl rfl rfl rfl rfl ?hb ?_); (case hb => exact zB); (conv => whnf))
    | ((refine af.d rfl rfl rfl rfl rfl rfl ?hb ?ho ?_); (case hb => exact zB); (case ho => omega); (conv => whnf))
    | (with_reducible refine Or.inl ?_)
    | ((with_reducible refine IxA.ptr ?_); conv => whnf)
    | ((with_reducible refine nil_no (by omega) ?_); (conv => whnf))
    | ((with_reducible refine ag ?_ (fun hn0 => ?_)) <;> (conv => whnf))
    | ((with_reducible refine ab.pure (pB) rfl rfl ?_); conv => whnf) | ((with_reducible refine ai.pure (pB) rfl rfl ?_); conv => whnf)
    | ((refine ab.fn (hO) [] rfl rfl rfl rfl rfl ?ha ?hh ?_); (case ha => exact zA); (case hh => exact zH); (conv => whnf))
    | ((refine ai.fn (hO) [] [] rfl rfl rfl rfl rfl ?ha ?hh ?hs ?_); (case ha => exact zA); (case hh => exact zH); (case hs => exact zK); (conv => whnf)) | ((refine ai.new (hO) [] [] rfl rfl rfl rfl rfl rfl ?ha ?hh ?hs ?_); (case ha => exact zA); (case hh => exact zH); (case hs => exact zK); (conv => whnf))
    | ((with_reducible refine ab.pure (hD) rfl rfl ?_); conv => whnf) | ((with_reducible refine ai.pure (hD) rfl rfl ?_); conv => whnf)
    | ((refine ab.pureT hC ?_); (conv => whnf); (refine And.intro (by omega) ?_); (refine And.intro ?hl ?_); (case hl => (refine .cons (.rfl _) (.cons (ig rfl fun i hi => ?_) .nil); (show HX.D ((ofL calls).getD (0 + i) default) = _); (rw [Q19, oz hi]); rfl)); (conv => whnf))
    | ((refine ap (fun hc => ?_) (fun hc => ?_)) <;> (try simp only [decide_eq_true_eq, decide_eq_false_iff_not, Q5, Q20, Bool.and_eq_false_iff, Bool.or_eq_false_iff, Bool.not_eq_true', Bool.not_eq_false', beq_iff_eq, bne_iff_ne, ne_eq, beq_eq_false_iff_ne, bne_eq_false_iff_eq, Bool.not_eq_true, Bool.not_eq_false] at hc) <;> (try (exfalso; omega)) <;> (conv => whnf))))
  all_goals first
    | exact absurd trivial hc
    | exact absurd h77 hc
    | skip
  refine Wp.loopP (ι := Nat) (fun i => i ≤ calls.length) (fun i => ⟨⟨Tryz.f3.ntmps, 0⟩, 2, [(5, .sl 0 13 0 calls.length), (51, .sl 1 13 0 calls.length), (52, .i .i64 calls.length), (53, .i .i64 i)], [(0, some (ofR calls)), (1, some (ofR calls))]⟩) (fun i => calls.length - i) 0 (Nat.zero_le _) ?_ ?_
  · (refine Le.by [0,1] rfl rfl rfl rfl ?_ ?_ <;> (conv => whnf) <;> (repeat' (first | exact trivial | exact aa.rfl rfl | exact aa.ptr rfl | exact aa.sl rfl | ((with_reducible refine aa.fn ?_); (conv => whnf)) | ((refine aa.iref ?_); (conv => whnf)) | exact ⟨rfl, rfl, rfl⟩ | exact fun i hi => rfl | ((with_reducible refine And.intro ?_ ?_) <;> (conv => whnf)))))
  · intro i hi0
    by_cases hi : i < calls.length
    · have hx : (ofL calls).getD (0 + (i : Int).toNat) default = mkX (calls.getD i default) := by rw [Q19, Q13]; exact oz hi
      have hS : Pure TC 8 [.d ((ofL calls).getD (0 + (i : Int).toNat) default).kd, .d ((ofL calls).getD (0 + (i : Int).toNat) default).kd] (.b true) := by
        rw [hx]
        have h := c8 (calls.getD i default).key (calls.getD i default).key
        rw [decide_eq_true rfl] at h
        exact h
      (repeat' (first
    | with_reducible refine Wp.seq ?_
    | with_reducible refine Wp.block ?_
    | ((with_reducible first | refine Wp.region ?_ | refine Wp.drawL ac ?_ | refine Wp.cond ?_ | refine Wp.ret ?_ | refine Wp.skip ?_ | refine Wp.exit ?_ | refine Go.mk ?_ | apply ao.of); conv => whnf)
    | with_reducible exact rfl
    | ((with_reducible refine Ov.ok zO ?_); conv => whnf)
    | (with_reducible refine Ov.sh1 (by with_unfolding_all exact rfl) ?_)
    | ((with_reducible refine Ov.quo (by omega) (by omega) (by omega) (fun _ _ => ?_)); conv => whnf)
    | ((with_reducible refine And.intro (show ah _ _ _ _ = true by kernel_rfl) ?_); conv => whnf)
    | ((with_reducible refine And.intro zC ?_); conv => whnf)
    | ((with_reducible refine And.intro ?hb ?_); (case hb => exact ae (zzb rfl) (by omega)); (conv => whnf))
    | ((refine af.a rfl rfl rfl rfl rfl rfl ?hb ?_); (case hb => exact zB); (conv => whnf))
    | ((refine af.b rfl rfl rfl rfl rfl rfl rfl rfl ?hb ?ho ?_); (case hb => exact zB); (case ho => omega); (conv => whnf))
    | ((refine af.c rfl rfl rfl rfl rfl ?hb ?_); (case hb => exact zB); (conv => whnf))
    | ((refine af.d rfl rfl rfl rfl rfl rfl ?hb ?ho ?_); (case hb => exact zB); (case ho => omega); (conv => whnf))
    | (with_reducible refine Or.inl ?_)
    | ((with_reducible refine IxA.ptr ?_); conv => whnf)
    | ((with_reducible refine nil_no (by omega) ?_); (conv => whnf))
    | ((with_reducible refine ag ?_ (fun hn0 => ?_)) <;> (conv => whnf))
    | ((with_reducible refine ab.pure (hS) rfl rfl ?_); conv => whnf) | ((with_reducible refine ai.pure (hS) rfl rfl ?_); conv => whnf)
    | ((refine ap (fun hc => ?_) (fun hc => ?_)) <;> (try simp only [decide_eq_true_eq, decide_eq_false_iff_not, Q5, Q20, Bool.and_eq_false_iff, Bool.or_eq_false_iff, Bool.not_eq_true', Bool.not_eq_false', beq_iff_eq, bne_iff_ne, ne_eq, beq_eq_false_iff_ne, bne_eq_false_iff_eq, Bool.not_eq_true, Bool.not_eq_false] at hc) <;> (try (exfalso; omega)) <;> (conv => whnf))))
      all_goals first
        | exact absurd trivial hc
        | exact absurd rfl hc
        | (exfalso; simp at hc; done)
        | (refine ⟨i + 1, by omega, by dsimp only; omega, ?ge⟩
           (case ge => (refine Le.by [0,1] rfl rfl rfl rfl ?_ ?_ <;> (conv => whnf) <;> (repeat' (first | exact trivial | exact aa.rfl rfl | exact aa.ptr rfl | exact aa.sl rfl | ((with_reducible refine aa.fn ?_); (conv => whnf)) | ((refine aa.iref ?_); (conv => whnf)) | exact ⟨rfl, rfl, rfl⟩ | exact fun i hi => rfl | ((with_reducible refine And.intro ?_ ?_) <;> (conv => whnf)))))))
    · (repeat' (first
    | with_reducible refine Wp.seq ?_
    | with_reducible refine Wp.block ?_
    | ((with_reducible first | refine Wp.region ?_ | refine Wp.drawL ac ?_ | refine Wp.cond ?_ | refine Wp.ret ?_ | refine Wp.skip ?_ | refine Wp.exit ?_ | refine Go.mk ?_ | apply ao.of); conv => whnf)
    | with_reducible exact rfl
    | ((with_reducible refine Ov.ok zO ?_); conv => whnf)
    | (with_reducible refine Ov.sh1 (by with_unfolding_all exact rfl) ?_)
    | ((with_reducible refine Ov.quo (by omega) (by omega) (by omega) (fun _ _ => ?_)); conv => whnf)
    | ((with_reducible refine And.intro (show ah _ _ _ _ = true by kernel_rfl) ?_); conv => whnf)
    | ((with_reducible refine And.intro zC ?_); conv => whnf)
    | ((with_reducible refine And.intro ?hb ?_); (case hb => exact ae (zzb rfl) (by omega)); (conv => whnf))
    | ((refine af.a rfl rfl rfl rfl rfl rfl ?hb ?_); (case hb => exact zB); (conv => whnf))
    | ((refine af.b rfl rfl rfl rfl rfl rfl rfl rfl ?hb ?ho ?_); (case hb => exact zB); (case ho => omega); (conv => whnf))
    | ((refine af.c rfl rfl rfl rfl rfl ?hb ?_); (case hb => exact zB); (conv => whnf))
    | ((refine af.d rfl rfl rfl rfl rfl rfl ?hb ?ho ?_); (case hb => exact zB); (case ho => omega); (conv => whnf))
    | (with_reducible refine Or.inl ?_)
    | ((with_reducible refine IxA.ptr ?_); conv => whnf)
    | ((with_reducible refine nil_no (by omega) ?_); (conv => whnf))
    | ((with_reducible refine ag ?_ (fun hn0 => ?_)) <;> (conv => whnf))
    
    | ((refine ap (fun hc => ?_) (fun hc => ?_)) <;> (try simp only [decide_eq_true_eq, decide_eq_false_iff_not, Q5, Q20, Bool.and_eq_false_iff, Bool.or_eq_false_iff, Bool.not_eq_true', Bool.not_eq_false', beq_iff_eq, bne_iff_ne, ne_eq, beq_eq_false_iff_ne, bne_eq_false_iff_eq, Bool.not_eq_true, Bool.not_eq_false] at hc) <;> (try (exfalso; omega)) <;> (conv => whnf))))
      exact .rfl _
end
end Go.Proofs.YtlplngmpggkloaaGreat
