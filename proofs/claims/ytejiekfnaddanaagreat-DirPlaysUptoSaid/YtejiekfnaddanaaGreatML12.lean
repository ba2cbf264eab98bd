/- Lemmas of De26, Dr18, De21. No condition. -/
import Derived.Test.YtejiekfnaddanaaGreatML11
set_option linter.unusedVariables false
set_option linter.unusedSimpArgs false
set_option linter.unusedSectionVars false
set_option maxHeartbeats 80000000
set_option maxRecDepth 100000
namespace Go.Proofs.YtejiekfnaddanaaGreat
open Go.RowKit
noncomputable def cT:Code:=(mw 26 (Tryz.f3.body.getD .skip)).getD .skip
theorem lT{m p:Nat}(h:2≤m)(hp:p<m):∃b0,b0<m∧b0≠p∧∀b,b<m→b≠p→b≤b0:=by
 by_cases e:p=m-1
 ·exact⟨m-2,by omega,by omega,fun b h1 h2=>by omega⟩
 ·exact⟨m-1,by omega,by omega,fun b h1 h2=>by omega⟩
theorem scr_wp{g:Nat→SV}{M:Dir.Mc}{nl:Nat}{clk cnt n:Int}{F:Nat→List SV}(hF:OKF F)(g0:0≤M.W 0)(g8:M.W 0≤8)(hH:∀w,Dir.Hn 20000 (M.Hd w)){B:Int}(hI:Dir.Iw M.W B)(hIh:Dir.Ih M)(hK:Dir.Kh M){nx:Nat}{fr:List (Nat×SV)}{hp:List (Nat×Option Blk)}{Q:Exit→St→Prop}
  (k0:lkh hp 0=some (dirB g)) (k1:lkh hp 1=some (cd 2 4 32 nl clk cnt)) (k2:lkh hp 2=some (bP 32 M.W)) (k3:lkh hp 3=some (dn M.Hd)) (k5:lkh hp 5=some (dB M.W M.Hd n F)) (f3:lk fr 3=.ptr 0 0) (f4:lk fr 4=.ptr 5 0)
  {x25 x26 x27:SV} (f25:lk fr 25=x25) (f26:lk fr 26=x26) (f27:lk fr 27=x27) (o25:x25.one=true) (o26:x26.one=true) (o27:x27.one=true)
  (hQ:Q .normal ⟨⟨Tryz.f3.ntmps,0⟩,nx,[(3,.ptr 0 0),(4,.ptr 5 0),(25,x25),(26,x26),(27,x27)],hp⟩):Wp TC cT ⟨⟨Tryz.f3.ntmps,0⟩,nx,fr,hp⟩ Q:=by
 refine⟨fun O E a w hs=>?_⟩
 have e3:=hs.fr 3
 have e4:=hs.fr 4
 have e25:=hs.fr 25
 have e26:=hs.fr 26
 have e27:=hs.fr 27
 rw[show lk _ 3=_ from f3]at e3
 rw[show lk _ 4=_ from f4]at e4
 rw[show lk _ 25=_ from f25]at e25
 rw[show lk _ 26=_ from f26]at e26
 rw[show lk _ 27=_ from f27]at e27
 obtain⟨_,hh⟩:=hs.hp 5 _ k5
 obtain⟨vs,T,c1,c2,c3⟩:=hh (by show 0<705;omega)
 obtain⟨_,hh0⟩:=hs.hp 0 _ k0
 obtain⟨us,T0,d1,d2,d3⟩:=hh0 (by show 0<65;omega)
 have hN5:E.ρ 5<w.heap.size:=(Q17 c1).1
 have hN0:E.ρ 0<w.heap.size:=(Q17 d1).1
 have real5:(dB M.W M.Hd n F).real (E.κ 5):=show 0<705 by omega
 have ne:∀l x,l≠5→lkh hp l=some x→x.real (E.κ l)→E.ρ l≠E.ρ 5:=fun l x hl hx hr=>hs.inj l 5 x _ hx k5 hr real5 hl
 have ne0:E.ρ 0≠E.ρ 5:=ne 0 _ (by omega) k0 (show 0<65 by omega)
 obtain⟨b0,hb0,hb5,hbm⟩:=lT (m:=w.heap.size) (p:=E.ρ 5) (by omega) hN5
 have himl:∀b,E.Im b→b<w.heap.size∧b≠E.ρ 5:=fun b hb=>⟨(hs.im b hb).1,fun e=>(hs.im b hb).2.2 5 _ k5 real5 e.symm⟩
 have own4:∀l,l<4→E.ρ l<w.heap.size∧E.ρ l≠E.ρ 5:=fun l hl=>by
  have hb:∃x,lkh hp l=some x∧x.real (E.κ l):=by
   rcases(by omega:l=0∨l=1∨l=2∨l=3)with rfl|rfl|rfl|rfl
   ·exact⟨_,k0,show 0<65 by omega⟩
   ·exact⟨_,k1,trivial⟩
   ·refine⟨_,k2,?_⟩
    have:=(hs.hp 2 _ k2).1
    show 0<E.κ 2
    omega
   ·refine⟨_,k3,?_⟩
    have:=(hs.hp 3 _ k3).1
    show 0<E.κ 3
    omega
  obtain⟨x,hx,hr⟩:=hb
  exact⟨(hs.hp l x hx).lt hr,ne l x (by omega) hx hr⟩
 have R3:RD w (fun b=>b<w.heap.size∧b≠E.ρ 5) (n9 b0 M) (a.tmps.getD 3 undef):=by
  rw[e3.ptrInv]
  exact dir_frz hs k0 k1 k2 k3 himl own4 ⟨hb0,hb5⟩
 let O1:Org:=⟨w,fun b=>b=E.ρ 5,fun b=>b<w.heap.size∧b≠E.ρ 5,1,fun _=>E.ρ 5,fun _=>0⟩
 let E1:Env:=⟨fun _=>E.ρ 5,fun _=>0,fun b=>b<w.heap.size∧b≠E.ρ 5⟩
 have hl0:∀l x,lkh [(0,some (dX M.W (wX vs M) n (wF vs)))] l=some x→l=0∧x=dX M.W (wX vs M) n (wF vs):=fun l x hx=>by
  rw[aj]at hx
  split at hx
  ·rename_i e;cases hx;exact⟨e.symm,rfl⟩
  ·cases hx
 have hs1:Sat O1 E1 ⟨⟨Tryz.f3.ntmps,1⟩,1,[(3,.d (.eq (a.tmps.getD 3 undef) (n9 b0 M))),(4,.ptr 0 0),(25,.d (.val (a.tmps.getD 25 undef))),(26,.d (.val (a.tmps.getD 26 undef))),(27,.d (.val (a.tmps.getD 27 undef)))],[(0,some (dX M.W (wX vs M) n (wF vs)))]⟩ a w:=by
  refine⟨fun n=>?_,⟨hs.nt.1,rfl⟩,hs.df,fun l x hx=>?_,fun l x hx=>by have:=(hl0 l x hx).1;show l<1;omega,fun l l' x x' hx hx' _ _ hn=>absurd ((hl0 l x hx).1.trans (hl0 l' x' hx').1.symm) hn,fun b hb=>⟨hb.1,Or.inr (Or.inl hb),fun l x _ _=>hb.2.symm⟩,fun l x _ _=>Or.inl rfl,Kq.refl _ _,fun l hl=>⟨rfl,rfl⟩,Q4 _,fun b hb=>hb⟩
  ·simp only[bG]
   split
   ·rename_i e;subst e;exact .d _ _ (.eq _ _ R3)
   ·split
    ·rename_i e;subst e
     rw[e4.ptrInv]
     exact .ptr _ _ (Nat.lt_succ_self 0)
    ·split
     ·rename_i e;subst e;exact .d _ _ (.val _ (e25.one o25))
     ·split
      ·rename_i e;subst e;exact .d _ _ (.val _ (e26.one o26))
      ·split
       ·rename_i e;subst e;exact .d _ _ (.val _ (e27.one o27))
       ·exact .any _
  ·obtain⟨rfl,rfl⟩:=hl0 l x hx
   exact⟨Nat.zero_le _,fun _=>⟨vs,T,c1,c2,nY himl fun j hj=>(c3 j hj).2⟩⟩
 have hH':∀w,Dir.Hn 100000 (M.Hd w):=fun w=>(hH w).mono (by omega)
 have hEn:=eV b0 M g0 g8 hH' hI hIh hK
 have hLe:=i7 b0 M g0 g8 hH' hI hIh hK
 have hDo:=eU (X:=wX vs M) (n:=n) (mC vs) (M:=M) rfl g0 g8 (.inr ⟨_,rfl⟩) (fun w=>⟨(hH w).1,(hH w).get⟩)
 rw[Dir.entW_ents hI hIh]at hDo
 have hSame:=kV (Dir.ents M) (Dir.ents M)
 rw[decide_eq_true rfl]at hSame
 conv=>(arg 2;whnf)
 refine wp_seq (wp_mono (Wp.out (C:=TC) (S:=⟨⟨Tryz.f3.ntmps,1⟩,1,[(3,.d (.eq (a.tmps.getD 3 undef) (n9 b0 M))),(4,.ptr 0 0),(25,.d (.val (a.tmps.getD 25 undef))),(26,.d (.val (a.tmps.getD 26 undef))),(27,.d (.val (a.tmps.getD 27 undef)))],[(0,some (dX M.W (wX vs M) n (wF vs)))]⟩) (Q:=fun e S'=>e=.normal∧Le S' ⟨⟨Tryz.f3.ntmps,1⟩,1,[(18,.d (.fsl (b0+1) 71 2 (Dir.ents M).length fun i=>entN b0 ((Dir.ents M).getD i default))),(3,.d (.eq (a.tmps.getD 3 undef) (n9 b0 M))),(4,.ptr 0 0),(25,.d (.val (a.tmps.getD 25 undef))),(26,.d (.val (a.tmps.getD 26 undef))),(27,.d (.val (a.tmps.getD 27 undef)))],[(0,some (dX M.W (wX vs M) n (wF vs)))]⟩) ?h26 O1 E1 a w hs1) ?_)
 case h26 =>
  (repeat' (first|((first|refine Wp.any ab rfl ?_|(with_reducible first|refine Go.mk ?_|apply am.of|refine aa.pure (hEn) rfl rfl ?_));conv=>whnf)))
  refine⟨rfl,?_⟩
  (refine Le.by [0] rfl rfl rfl rfl ?_ ?_<;>(conv=>whnf)<;>(repeat' (first|exact trivial|exact ac.rfl rfl|exact ac.ptr rfl|exact Nat.zero_le _|exact(aJ (mC vs)).out.2|((with_reducible refine And.intro ?_ ?_)<;>(conv=>whnf)))))
 rintro e a1 w1 ⟨S1,E2,⟨rfl,hle⟩,hs2⟩
 obtain⟨E3,hs3⟩:=hle.out O1 E2 a1 w1 hs2
 refine wp_seq (wp_mono (Wp.out (C:=TC) (S:=⟨⟨Tryz.f3.ntmps,1⟩,1,[(18,.d (.fsl (b0+1) 71 2 (Dir.ents M).length fun i=>entN b0 ((Dir.ents M).getD i default))),(3,.d (.eq (a.tmps.getD 3 undef) (n9 b0 M))),(4,.ptr 0 0),(25,.d (.val (a.tmps.getD 25 undef))),(26,.d (.val (a.tmps.getD 26 undef))),(27,.d (.val (a.tmps.getD 27 undef)))],[(0,some (dX M.W (wX vs M) n (wF vs)))]⟩) (Q:=fun e S'=>e=.normal∧Le S' ⟨⟨Tryz.f3.ntmps,1⟩,1,[(18,.d (.fsl (b0+1) 71 2 (Dir.ents M).length fun i=>entN b0 ((Dir.ents M).getD i default))),(3,.d (.eq (a.tmps.getD 3 undef) (n9 b0 M))),(4,.ptr 0 0),(25,.d (.val (a.tmps.getD 25 undef))),(26,.d (.val (a.tmps.getD 26 undef))),(27,.d (.val (a.tmps.getD 27 undef)))],[(0,some (dX M.W (wX vs M) n (wF vs)))]⟩) ?h27 O1 E3 a1 w1 hs3) ?_)
 case h27 =>
  (repeat' (first|((first|refine Wp.any ab rfl ?_|(with_reducible first|refine Go.mk ?_|apply am.of|refine aa.pure (hLe) rfl rfl ?_));conv=>whnf)|((refine aa.fn (hDo) [0] rfl rfl rfl rfl rfl ?ha ?hh ?_);(case ha=>exact zA);(case hh=>((conv=>whnf);repeat' (first|exact trivial|exact Nat.zero_le _|exact(aJ (mC vs)).out.2|((with_reducible refine And.intro ?_ ?_)<;>(conv=>whnf)))));(conv=>whnf))|((with_reducible refine aa.pure (hSame) rfl rfl ?_);conv=>whnf)))
  all_goals first
   | exact absurd rfl hc
   | exact absurd trivial hc
   | (refine⟨rfl,?_⟩;(refine Le.by [0] rfl rfl rfl rfl ?_ ?_<;>(conv=>whnf)<;>(repeat' (first|exact trivial|exact ac.rfl rfl|exact ac.ptr rfl|exact Nat.zero_le _|exact(aJ (mC vs)).out.2|((with_reducible refine And.intro ?_ ?_)<;>(conv=>whnf))))))
 rintro e a2 w2 ⟨S2,E4,⟨rfl,hle2⟩,hs4⟩
 obtain⟨E5,hs5⟩:=hle2.out O1 E4 a2 w2 hs4
 have q3:a2.tmps.getD 3 undef=a.tmps.getD 3 undef:=by have:=hs5.fr 3;cases this with|d _ _ h=>exact h.eqI
 have q25:a2.tmps.getD 25 undef=a.tmps.getD 25 undef:=(hs5.fr 25).val_inv
 have q26:a2.tmps.getD 26 undef=a.tmps.getD 26 undef:=(hs5.fr 26).val_inv
 have q27:a2.tmps.getD 27 undef=a.tmps.getD 27 undef:=(hs5.fr 27).val_inv
 have ρ5:E5.ρ 0=E.ρ 5:=(hs5.lab 0 (Nat.lt_succ_self 0)).1
 have q4:a2.tmps.getD 4 undef=a.tmps.getD 4 undef:=by
  have h9:RS E5 1 w2 (.ptr 0 0) (a2.tmps.getD 4 undef):=hs5.fr 4
  rw[h9.ptrInv,e4.ptrInv,ρ5]
 obtain⟨ad,c,e18,hnm,hz⟩:=ZEnt.of (b:=b0) (w:=w2) (Im:=E5.Im) (xs:=Dir.ents M) (v:=a2.tmps.getD 18 undef) (by have:=hs5.fr 18;cases this with|d _ _ h=>exact h)
 have hZ:=scrib_Z (N:=fun x=>E5.Im x∧b0+1≤x) (c:=c) (w1:=w2) (a0:=a2) hnm hz
 refine wp_mono (hZ.out a2 w2 ⟨hs5.nt.1,rfl,fun n v hn=>?_,fun n _=>rfl⟩ (ZR.refl _ _)) ?_
 ·rw[iq]at hn
  by_cases e:18=n
  ·rw[if_pos e]at hn;cases hn;rw[← e];exact e18
  ·rw[if_neg e]at hn;cases hn
 rintro e a3 w3 ⟨l,⟨rfl,_⟩,hFr,hRz⟩
 have hRz:ZR (fun x=>E5.Im x∧b0+1≤x) w2 w3:=hRz
 obtain⟨_,hh5⟩:=hs5.hp 0 _ rfl
 obtain⟨vs',T',p1,p2,p3⟩:=hh5 (by show 0<705;omega)
 have hwd:=rx (fun j hj=>⟨E,nx,w,F,(c3 j hj).2.1⟩) fun j hj=>(p3 j hj).2.1
 have h55:w3.heap[E.ρ 5]?=some (.cells vs' T' (0,0)):=by
  rw[← ρ5,hRz.low _ (fun h9=>(hs5.im _ h9.1).2.2 0 _ rfl (show 0<705 by omega) rfl)]
  exact p1
 have hheap:∀b,b<w.heap.size→b≠E.ρ 5→w3.heap[b]?=w.heap[b]?:=fun b hb hne=>(hRz.low b (fun h9=>by have:=hbm b hb hne;have:=h9.2;omega)).trans (hs5.kq.block b hb hne)
 have hwi:∀b,E.Im b→w3.heap[b]?=w.heap[b]?:=fun b hb=>hheap b (himl b hb).1 (himl b hb).2
 have hsz:w.heap.size≤w3.heap.size:=by have h8:=hRz.size;have h9:w.heap.size≤w2.heap.size:=hs5.kq.size;omega
 have old:∀n,dT n=false→a3.tmps.getD n undef=a2.tmps.getD n undef:=fun n hn=>hFr.old n (by show ¬dT n=true;rw[hn];decide)
 have mono:∀{x:SV} {v:Value},RS E nx w x v→RS E nx w3 x v:=fun h=>h.mono (fun _ _=>⟨rfl,rfl⟩) (Q4 _) (fun _ h=>h) hwi
 refine⟨_,E,hQ,fun n=>?_,⟨hFr.sz,hs.nt.2⟩,hFr.df.trans hs5.df,fun l b hb=>?_,hs.nx,hs.inj,fun b hb=>⟨Nat.lt_of_lt_of_le (himl b hb).1 hsz,(hs.im b hb).2⟩,hs.own,⟨hRz.os.1.trans (hs5.kq.os.trans hs.kq.os),hRz.os.2.1.trans (hs5.kq.tape.trans hs.kq.tape),hRz.os.2.2.trans (hs5.kq.output.trans hs.kq.output),Nat.le_trans hs.kq.size hsz,fun b hb hm=>?_⟩,hs.lab,hs.nl,hs.imo⟩
 ·simp only[bG]
  split
  ·rename_i e;subst e;rw[old 3 rfl,q3];exact mono e3
  ·split
   ·rename_i e;subst e;rw[old 4 rfl,q4];exact mono e4
   ·split
    ·rename_i e;subst e;rw[old 25 rfl,q25];exact mono e25
    ·split
     ·rename_i e;subst e;rw[old 26 rfl,q26];exact mono e26
     ·split
      ·rename_i e;subst e;rw[old 27 rfl,q27];exact mono e27
      ·exact .any _
 ·by_cases hl5:l=5
  ·subst hl5
   have hb2:b=dB M.W M.Hd n F:=Option.some.inj (hb.symm.trans k5)
   subst hb2
   refine⟨(hs.hp 5 _ k5).1,fun _=>⟨vs',T',h55,p2,fun j hj=>?_⟩⟩
   rw[hwd j hj]
   exact⟨(c3 j hj).1,mono (c3 j hj).2.1,(c3 j hj).2.2⟩
  ·exact(hs.hp l b hb).mono (hs.nx l b hb) (fun _ _=>⟨rfl,rfl⟩) (Q4 _) (fun _ h=>h) hwi fun hr=>hheap _ ((hs.hp l b hb).lt hr) (ne l b hl5 hb hr)
 ·have hne:b≠E.ρ 5:=fun e9=>by
   subst e9
   rcases hs.own 5 _ k5 real5 with h9|h9
   ·exact hm h9
   ·omega
  exact(hheap b (Nat.lt_of_lt_of_le hb hs.kq.size) hne).trans (hs.kq.block b hb hm)
theorem awake_T:Pure TC 4 [] (.b true):=by
 have L0:=iL.zero
 have K0:=aw_all
 obtain⟨cs1,L1,K1,F1⟩:=iK L0 K0 (by decide) (by decide) (by decide) ⟨by intro x hx;simp at hx;try omega,by decide⟩ (by decide)
 have S1:=F1 (dA 0 (fun _=>[]) (eY 0 2 1 0 1 true)) 0
 obtain⟨M2,cs2,f2,L2,K2,S2⟩:=bl L1 K1 (by decide) (by decide) (dA 0 (fun _=>[]) (eY 0 2 1 0 1 true)) 0
 obtain⟨M3,cs3,f3,L3,K3,S3⟩:=bl L2 K2 (by decide) (by decide) f2 0
 obtain⟨M4,cs4,f4,L4,K4,S4⟩:=bl L3 K3 (by decide) (by decide) f3 0
 obtain⟨cs5,L5,K5,F5⟩:=iK L4 K4 (by decide) (by decide) (by decide) ⟨by intro x hx;simp at hx;try omega,by decide⟩ (by decide)
 have S5:=F5 f4 0
 obtain⟨M6,cs6,f6,L6,K6,S6⟩:=bl L5 K5 (by decide) (by decide) f4 0
 obtain⟨M7,cs7,f7,L7,K7,S7⟩:=bl L6 K6 (by decide) (by decide) f6 0
 obtain⟨M8,cs8,f8,L8,K8,S8⟩:=bl L7 K7 (by decide) (by decide) f7 0
 obtain⟨M9,cs9,f9,L9,K9,S9⟩:=bl L8 K8 (by decide) (by decide) f8 0
 obtain⟨M10,cs10,f10,L10,K10,S10⟩:=bl L9 K9 (by decide) (by decide) f9 0
 obtain⟨M11,cs11,f11,L11,K11,S11⟩:=bl L10 K10 (by decide) (by decide) f10 0
 obtain⟨M12,cs12,f12,L12,K12,S12⟩:=bl L11 K11 (by decide) (by decide) f11 0
 obtain⟨M13,cs13,f13,L13,K13,S13⟩:=bl L12 K12 (by decide) (by decide) f12 0
 obtain⟨M14,cs14,f14,L14,K14,S14⟩:=bl L13 K13 (by decide) (by decide) f13 0
 obtain⟨cs15,L15,K15,F15⟩:=iK L14 K14 (by decide) (by decide) (by decide) ⟨by intro x hx;simp at hx;try omega,by decide⟩ (by decide)
 have S15:=F15 f14 0
 obtain⟨M16,cs16,f16,L16,K16,S16⟩:=bl L15 K15 (by decide) (by decide) f14 0
 obtain⟨M17,cs17,f17,L17,K17,S17⟩:=bl L16 K16 (by decide) (by decide) f16 0
 have e17:M17.W 0=2:=K17.e
 have SL:=nv L17 f17 0
 rw[e17]at SL
 have ST:=nq L17 (by decide) f17 0
 clear K0 K1 K2 K3 K4 K5 K6 K7 K8 K9 K10 K11 K12 K13 K14 K15 K16 K17 L0 L1 L2 L3 L4 L5 L6 L7 L8 L9 L10 L11 L12 L13 L14 L15 L16 L17 F1 F5 F15
 refine Pure.mk' Tryz.func4 rfl rfl zN ?_
 (repeat' (first|((first|refine Wp.any ab rfl ?_|(with_reducible first|refine Go.mk ?_|apply am.of|refine Ov.ok zO ?_|refine And.intro zC ?_));conv=>whnf)|((refine aa.fn (nu) [] rfl rfl rfl rfl rfl ?ha ?hh ?_);(case ha=>exact zA);(case hh=>exact zH);(conv=>whnf))|(with_reducible refine aa.inline Tryz.func23 rfl rfl rfl (zzb rfl) ?_)|((with_reducible refine Wp.loopN 10 ?_);conv=>whnf)|((apply aa.fn5 (h:=S1));(case hh=>exact zG);(case ha=>exact zA);(case hd=>exact rfl);(case hlive=>exact rfl);(case hkeys=>exact rfl);(case hlt=>exact rfl);(conv=>whnf))|((apply aa.fn5 (h:=S2));(case hh=>exact zG);(case ha=>exact zA);(case hd=>exact rfl);(case hlive=>exact rfl);(case hkeys=>exact rfl);(case hlt=>exact rfl);(conv=>whnf))|((apply aa.fn5 (h:=S3));(case hh=>exact zG);(case ha=>exact zA);(case hd=>exact rfl);(case hlive=>exact rfl);(case hkeys=>exact rfl);(case hlt=>exact rfl);(conv=>whnf))|((apply aa.fn5 (h:=S4));(case hh=>exact zG);(case ha=>exact zA);(case hd=>exact rfl);(case hlive=>exact rfl);(case hkeys=>exact rfl);(case hlt=>exact rfl);(conv=>whnf))|((apply aa.fn5 (h:=S5));(case hh=>exact zG);(case ha=>exact zA);(case hd=>exact rfl);(case hlive=>exact rfl);(case hkeys=>exact rfl);(case hlt=>exact rfl);(conv=>whnf))|((apply aa.fn5 (h:=S6));(case hh=>exact zG);(case ha=>exact zA);(case hd=>exact rfl);(case hlive=>exact rfl);(case hkeys=>exact rfl);(case hlt=>exact rfl);(conv=>whnf))|((apply aa.fn5 (h:=S7));(case hh=>exact zG);(case ha=>exact zA);(case hd=>exact rfl);(case hlive=>exact rfl);(case hkeys=>exact rfl);(case hlt=>exact rfl);(conv=>whnf))|((apply aa.fn5 (h:=S8));(case hh=>exact zG);(case ha=>exact zA);(case hd=>exact rfl);(case hlive=>exact rfl);(case hkeys=>exact rfl);(case hlt=>exact rfl);(conv=>whnf))|((apply aa.fn5 (h:=S9));(case hh=>exact zG);(case ha=>exact zA);(case hd=>exact rfl);(case hlive=>exact rfl);(case hkeys=>exact rfl);(case hlt=>exact rfl);(conv=>whnf))|((apply aa.fn5 (h:=S10));(case hh=>exact zG);(case ha=>exact zA);(case hd=>exact rfl);(case hlive=>exact rfl);(case hkeys=>exact rfl);(case hlt=>exact rfl);(conv=>whnf))|((apply aa.fn5 (h:=S11));(case hh=>exact zG);(case ha=>exact zA);(case hd=>exact rfl);(case hlive=>exact rfl);(case hkeys=>exact rfl);(case hlt=>exact rfl);(conv=>whnf))|((apply aa.fn5 (h:=S12));(case hh=>exact zG);(case ha=>exact zA);(case hd=>exact rfl);(case hlive=>exact rfl);(case hkeys=>exact rfl);(case hlt=>exact rfl);(conv=>whnf))|((apply aa.fn5 (h:=S13));(case hh=>exact zG);(case ha=>exact zA);(case hd=>exact rfl);(case hlive=>exact rfl);(case hkeys=>exact rfl);(case hlt=>exact rfl);(conv=>whnf))|((apply aa.fn5 (h:=S14));(case hh=>exact zG);(case ha=>exact zA);(case hd=>exact rfl);(case hlive=>exact rfl);(case hkeys=>exact rfl);(case hlt=>exact rfl);(conv=>whnf))|((apply aa.fn5 (h:=S15));(case hh=>exact zG);(case ha=>exact zA);(case hd=>exact rfl);(case hlive=>exact rfl);(case hkeys=>exact rfl);(case hlt=>exact rfl);(conv=>whnf))|((apply aa.fn5 (h:=S16));(case hh=>exact zG);(case ha=>exact zA);(case hd=>exact rfl);(case hlive=>exact rfl);(case hkeys=>exact rfl);(case hlt=>exact rfl);(conv=>whnf))|((apply aa.fn5 (h:=S17));(case hh=>exact zG);(case ha=>exact zA);(case hd=>exact rfl);(case hlive=>exact rfl);(case hkeys=>exact rfl);(case hlt=>exact rfl);(conv=>whnf))|((apply aa.fn5 (h:=SL));(case hh=>exact zG);(case ha=>exact zA);(case hd=>exact rfl);(case hlive=>exact rfl);(case hkeys=>exact rfl);(case hlt=>exact rfl);(conv=>whnf))|((apply aa.fn5 (h:=ST));(case hh=>exact zG);(case ha=>exact zA);(case hd=>exact rfl);(case hlive=>exact rfl);(case hkeys=>exact rfl);(case hlt=>exact rfl);(conv=>whnf))))
 exact .b (by decide)
theorem aC.eqs{L:List Nat}{cs cs':List SV}(e:cs=cs')(h:cs'.all SV.free=true):aC L cs cs':=by
 subst e
 exact aC.frees fun v hv=>List.all_eq_true.1 h v hv
theorem OKF.nil:OKF (fun _=>qU):=⟨fun _=>rfl,fun _=>SV.frees rfl rfl⟩
theorem doc_New:Fun TC 6 0 [] [] 1 (.ptr 0 0) [(0,some (dX Dir.M0.W (fun _=>.val (.slice none 0 0)) 0 (fun _=>qU)))]:=by
 refine Fun.mk' Tryz.func6 rfl rfl zN (by decide) ?_
 (repeat' (first|((first|refine Wp.any ab rfl ?_|(with_reducible first|refine Go.mk ?_|apply am.of));conv=>whnf)|with_reducible exact rfl|((with_reducible refine Ov.ok zO ?_);conv=>whnf)|(with_reducible refine Ov.sh1 (by with_unfolding_all exact rfl) ?_)|((first|with_reducible refine Ov.quo (by omega) (by omega) (by omega) (fun _ _=>?_)|refine zV ?_|with_reducible refine And.intro zC ?_);conv=>whnf)|((with_reducible refine And.intro ?hb ?_);(case hb=>exact zz1);(conv=>whnf))|((refine bO.a rfl rfl rfl rfl rfl rfl ?hb ?_);(case hb=>exact zB);(conv=>whnf))|((refine bO.b rfl rfl rfl rfl rfl rfl rfl rfl ?hb ?ho ?_);(case hb=>exact zB);(case ho=>omega);(conv=>whnf))|((refine bO.c rfl rfl rfl rfl rfl ?hb ?_);(case hb=>exact zB);(conv=>whnf))|((refine bO.d rfl rfl rfl rfl rfl rfl ?hb ?ho ?_);(case hb=>exact zB);(case ho=>omega);(conv=>whnf))|(with_reducible refine Or.inl ?_)|((with_reducible refine IxA.ptr ?_);conv=>whnf)|((with_reducible refine dp (by omega) ?_);(conv=>whnf))|((with_reducible refine bq ?_ (fun hn0=>?_))<;>(conv=>whnf))|((refine au (fun hc=>?_) (fun hc=>?_))<;>(try simp only[wz9]at hc)<;>(try (exfalso;omega))<;>(conv=>whnf))))
 refine af.of [0] rfl (by simp) rfl ?_ ?_
 ·exact .rfl _
 ·exact⟨⟨Nat.zero_le _,aC.eqs (by kernel_rfl) (by kernel_rfl),fun j hj=>((aJ (L:=[0]) OKF.nil).out.2 j hj).2⟩,trivial⟩
theorem mh{L:List Nat}{W:Nat→Int}{n:Int}{F:Nat→List SV}(hF:OKF F):dx L 0 (dSX W (fun _=>.val (.slice none 0 0)) n F) (dS W Dir.M0.Hd n F):=by
 refine .cons (fun i hi=>⟨⟨ac.rfl rfl,trivial⟩,fun v hv=>?_⟩) (fun _ _=>rfl) (.cons (fun i hi=>⟨⟨ac.free SV.Le.nil rfl,trivial⟩,fun v hv=>?_⟩) (fun _ _=>rfl) (.cons (fun i hi=>⟨⟨ac.rfl rfl,trivial⟩,fun v hv=>?_⟩) (fun _ _=>rfl) (.cons (fun i hi=>⟨aC.frees fun v hv=>(hF.fr i v hv).1,fun v hv=>(hF.fr i v hv).2⟩) (fun i _=>hF.len i) .nil)))
 ·rw[List.mem_singleton.1 hv];exact .of rfl
 ·rw[List.mem_singleton.1 hv];exact .of rfl
 ·rw[List.mem_singleton.1 hv];exact .of rfl
end Go.Proofs.YtejiekfnaddanaaGreat
