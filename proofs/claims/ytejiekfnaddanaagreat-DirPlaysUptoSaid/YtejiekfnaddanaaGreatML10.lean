/- Lemmas of De3, Sx40, De1, De4, De5, De6, De7, De8, De9. No condition. -/
import Derived.Test.YtejiekfnaddanaaGreatML9
set_option linter.unusedVariables false
set_option linter.unusedSimpArgs false
set_option linter.unusedSectionVars false
set_option maxHeartbeats 80000000
set_option maxRecDepth 100000
namespace Go.Proofs.YtejiekfnaddanaaGreat
open Go.RowKit
section
open Go.RowKit Go.Shelf Go.Sort
theorem DL.trans{x y z:D}(h:DL x y)(k:DL y z):DL x z:=⟨fun _ _ _ a=>k.out _ _ _ (h.out _ _ _ a)⟩
theorem Pure.le{C:Cx}{g:Nat}{args args0:List SV}{r:SV}(h:Pure C g args0 r)(hl:Les args args0):Pure C g args r :=
 ⟨h.ent,fun E w vs hI hsz hargs=>h.out E w vs hI (by rw[hsz,hl.len]) fun j hj=>(hl.out j (by rw[hl.len];exact hj) hj).out _ _ _ _ (hargs j (by rw[hl.len];exact hj))⟩
theorem Pure.leR{C:Cx}{g:Nat}{args:List SV}{r r':SV}(h:Pure C g args r)(hr:SV.Le r r'):Pure C g args r' :=
 ⟨h.ent,fun E w vs hI hsz hargs=>(h.out E w vs hI hsz hargs).mono (by rintro e w' ⟨v,h1,h2,h3⟩;exact⟨v,h1,h2,hr.out _ _ _ _ h3⟩)⟩
theorem Dir.entW_ents{M:Mc}{B:Int}(h:Iw M.W B)(hI:Ih M):entW M 32=ents M:=by
 obtain⟨a1,a2⟩:=nV hI 32 (Q4 _)
 obtain⟨b1,b2⟩:=ents_ok h hI
 exact fq a1 b1 fun q=>by rw[a2,b2,if_pos (home_32 h.d.1 h.d.2 _)]
def entB(b:Nat)(e:Dir.Ent):List D:=[.low b (al 1 (aA .u8) e.key),.val (.int .i64 e.val)]
def entN(b:Nat)(e:Dir.Ent):List D:=[.fsl (b+1) 5 1 e.key.length fun i=>aA .u8 (e.key.getD i default),.val (.int .i64 e.val)]
def lstB(b:Nat)(h:List Dir.Ent):List D:=[al 2 (entB b) h]
theorem Le.lowAt{nt:NT}{nx:Nat}{fr:List (Nat×SV)}{hp:List (Nat×Option Blk)}{b:Nat}{x0 x y:D}(n0 k:Nat)(h0:lk fr n0=.d (.low b x0))(hk:lk fr k=.d x)(hxy:∀w Im v,Im b→RD w Im x v→RD w Im y v):Le ⟨nt,nx,fr,hp⟩ ⟨nt,nx,(k,.d y)::fr,hp⟩:=⟨fun O E a w hs=>by
 refine⟨E,fun n=>?_,hs.nt,hs.df,hs.hp,hs.nx,hs.inj,hs.im,hs.own,hs.kq,hs.lab,hs.nl,hs.imo⟩
 show RS E nx w (lk ((k,.d y)::fr) n) _
 rw[bG]
 split
 ·rename_i e
  subst e
  have g0:=hs.fr n0
  rw[show lk _ n0=_ from h0]at g0
  have g1:=hs.fr k
  rw[show lk _ k=_ from hk]at g1
  cases g0 with
  | d _ _ g0=>cases g0 with
   | low _ _ _ hb _=>cases g1 with
    | d _ _ g1=>exact .d _ _ (hxy _ _ _ hb g1)
 ·exact hs.fr n⟩
theorem RD.entB{w:World}{Im:Nat→Prop}{b:Nat}(hb:Im b){xs:List Dir.Ent}{v:Value}(h:RD w Im (al 2 aq xs) v):RD w Im (al 2 (entB b) xs) v:=by
 cases h with
 | sl _ _ _ a cap g hc hm hl ha hg =>
  refine .sl _ _ _ a cap g hc hm (fun i hi=>rfl) ha fun i j hi hj=>?_
  have hj:j<2:=hj
  have hg:=hg i j hi hj
  rcases(by omega:j=0∨j=1)with rfl|rfl
  ·exact .low _ _ _ hb hg
  ·exact hg
theorem RD.lstB{w:World}{Im:Nat→Prop}{b:Nat}(hb:Im b){L:List (List Dir.Ent)}{v:Value}(h:RD w Im (al 1 eO L) v):RD w Im (al 1 (lstB b) L) v:=by
 cases h with
 | sl _ _ _ a cap g hc hm hl ha hg =>
  refine .sl _ _ _ a cap g hc hm (fun i hi=>rfl) ha fun i j hi hj=>?_
  have hj:j<1:=hj
  have hg:=hg i j hi hj
  obtain rfl:j=0:=by omega
  exact RD.entB hb hg
theorem jE(xs:List Int)(hn:xs.length≤16777216):Fun TC 31 0 [.d (al 1 (aA .u8) xs)] [] 1 (.sl 0 1 0 xs.length) [(0,some (aI 5 1 (aA .u8) xs))]:=by
 refine Fun.mk' Tryz.func31 rfl rfl zN (by decide) ?_
 (repeat' (first|((first|refine Wp.any ab rfl ?_|(with_reducible first|refine Go.mk ?_|apply am.of|refine And.intro zC ?_));conv=>whnf)|((with_reducible refine And.intro ?hb ?_);(case hb=>exact zz1);(conv=>whnf))|((with_reducible refine bq ?_ (fun hn0=>?_))<;>(conv=>whnf))))
 ·refine af.of [1] rfl (by simp) rfl ?_ ?_
  ·exact .of_eq (congrArg (SV.sl _ _ _) (Q19 _))
  ·refine⟨⟨⟨rfl,rfl,Q19 _⟩,fun i hi=>?_⟩,trivial⟩
   simp[bK]
 ·obtain rfl:=List.eq_nil_of_length_eq_zero hn0
  refine af.virt 5 1 (fun i=>(aA .u8) (([]:List Int).getD i default)) (by decide) (by decide) ?_
  refine af.of [0] rfl (by simp) rfl ?_ ?_
  ·exact .of_eq rfl
  ·exact⟨⟨⟨rfl,rfl,rfl⟩,fun i hi=>rfl⟩,trivial⟩
theorem jG(b:Nat)(xs:List Int)(hn:xs.length≤16777216):Pure TC 31 [.d (.low b (al 1 (aA .u8) xs))] (.d (.fsl (b+1) 5 1 xs.length fun i=>aA .u8 (xs.getD i default))) :=
 Fun.fresh (h:=(jE xs hn).leA (.cons .low .nil)) fun E w vs h _=>by
  have:=h 0 Nat.zero_lt_one
  cases this with|d _ _ h=>cases h with|low _ _ _ hb _=>exact hb
theorem Tl.entN{w:World}{Im:Nat→Prop}{b:Nat}{x:Dir.Ent}{vs:List Value}(h:Tl w Im (entN b x) vs):Tl w Im (aq x) vs:=by
 refine⟨h.1,h.2.1,fun j hj=>?_⟩
 have hj:j<2:=hj
 obtain⟨u,h1,h2⟩:=h.2.2 j hj
 refine⟨u,h1,?_⟩
 rcases(by omega:j=0∨j=1)with rfl|rfl
 ·exact RD.fsl_sl h2
 ·exact h2
theorem nU(b:Nat)(xs:List Dir.Ent)(hB:∀e∈xs,IsB e.key)(hd:xs.Pairwise (fun a b=>a.key≠b.key))(hx1:xs.length<4611686018427387904) :
  Fun TC 45 1 [.sl 0 2 0 xs.length,.d (.fn (.func 46) [])] [(0,some (aI 71 2 (entN b) xs))] 1 (.tup []) [(0,some (aI 71 2 (entN b) (Dir.sortE xs)))]:=by
 have ent:cm TC.P 45:=.mk Tryz.func45 rfl rfl
 have hpl:=(Dir.sortE_perm xs).length_eq
 rcases Nat.eq_zero_or_pos xs.length with h0|h0
 ·obtain rfl:=List.eq_nil_of_length_eq_zero h0
  exact kD ent fun p cap w=>AnyF.slices_SortFunc_none Tryz.sort45 p cap _ w
 ·have eg:∀args w,(callFunc 46 args).run Tryz.prog w=.ok (.enter 46 args) w:=enters_of Tryz.func46 (by kernel_rfl) rfl
  refine mO (C:=TC) (α:=Dir.Ent) (enc:=entN b) (gc:=46) (e:=71) (z:=2) (by decide) ent (fun _=>rfl) (fun e=>IsB e.key) (fun a b=>aE a.key b.key) ⟨[],0⟩ (fun x hx=>by cases hx) [.slice none 0 0,.int .i64 0] (fun w Im=>⟨rfl,fun u hu=>by simp at hu;rcases hu with rfl|rfl<;>rfl,fun j hj=>?_⟩)
   (fun a=>by rw[Dir.cmpS];omega) (fun a b c=>Dir.cmpTr) (fun a b c=>Dir.cmp_ntr) (fun W Im x y vx vy hIm bx by' hx hy=>jn W Im x y vx vy hIm bx by' hx.entN hy.entN)
   (fun T _ en hk h1 cf hO blk cap d w hcl hH hblk hsz=>?_) xs (Dir.sortE xs) hB h0 hx1 hpl (fun ys hp hs=>Dir.sort_uniq hp hd hs)
  ·have:j=0∨j=1:=by simp[entN]at hj;omega
   rcases this with rfl|rfl
   ·exact⟨_,rfl,.fsl _ _ 1 0 _ none 0 (fun _ _=>undef) (Q4 _) (Nat.zero_le _) (fun i hi=>absurd hi (Nat.not_lt_zero _)) (fun h=>absurd h (Nat.not_lt_zero _)) (fun i j hi=>absurd hi (Nat.not_lt_zero _))⟩
   ·exact⟨_,rfl,.val _ rfl⟩
  ·have hcon:=AnyQ.slices_SortFunc Tryz.sort45 2 Tryz.isAgg71 Tryz.sizeOf71 en hk h1 cf hO 46 #[] blk 0 cap d w eg hcl hH hblk hsz
   exact hcon
theorem rI(b:Nat)(zs:List Dir.Ent)(c:Dir.Ent):∀k,k<zs.length+1→bK zs.length (fun i=>entN b (zs.getD i default)) (fun i=>bZ (entN b c) 2 (0+i)) k=entN b ((zs++[c]).getD k default):=fun k hk=>by
 simp only[bK]
 by_cases e:k<zs.length
 ·rw[if_pos e,Q1,Q1,Q11 e]
 ·rw[if_neg e]
  obtain rfl:k=zs.length:=by omega
  have:(zs++[c]).getD zs.length default=c:=by simp
  rw[Nat.sub_self,this];rfl
theorem jz(b:Nat)(M:Dir.Mc)(h0:0≤M.W 0)(h8:M.W 0≤8)(hH:∀w,Dir.Hn 100000 (M.Hd w)){B:Int}(hI:Dir.Iw M.W B)(hIh:Dir.Ih M)(hK:Dir.Kh M) :
  Fun TC 19 0 [.d (n9 b M)] [] 1 (.sl 0 2 0 (Dir.ents M).length) [(0,some (aI 71 2 (entN b) (Dir.ents M)))]:=by
 have hA:Pure TC 44 [.d (.low b (dq M))] (.d (al 1 eO (Dir.allL M))):=(nz M h0 h8 fun w=>by have:=(hH w).1;omega).le (.cons .low .nil)
 have hLl:(Dir.allL M).length≤32:=by
  have h1:=bh M (2^Dir.lvl M)
  have h2:2^Dir.lvl M≤2^4:=Q16 (by omega) (by unfold Dir.lvl;omega)
  show((List.range (2^Dir.lvl M)).flatMap (Dir.partL M)).length≤32
  omega
 have hmem:∀l∈Dir.allL M,l.length≤100000∧Dir.Kl l∧∀e∈l,IsB e.key:=fun l hl=>by
  obtain⟨i,_,hi⟩:=List.mem_flatMap.1 hl
  obtain⟨w,hw⟩:=k8 hi
  exact⟨c8 (fun w=>(hH w).1) hi,fun e he=>hK w e (hw e he),fun e he=>(hH w).2 e (hw e he)⟩
 have hE:=Dir.allE_eq M
 have hents:Dir.ents M=Dir.sortE (Dir.allL M).flatten:=by unfold Dir.ents;rw[hE]
 have hdist:(Dir.allL M).flatten.Pairwise (fun a b=>a.key≠b.key):=by rw[hE];exact(Dir.all_ok hI hIh).1
 rw[hents]
 clear hents hE
 generalize Dir.allL M=L at hA hLl hmem hdist⊢
 have hfl:L.flatten.length≤3200000:=by have:=cu fun l hl=>(hmem l hl).1;omega
 have hpre:∀j,(L.take j).flatten.length≤3200000:=fun j=>by
  have:=cu (L:=L.take j) fun l hl=>(hmem l (List.mem_of_mem_take hl)).1
  rw[Q10]at this
  have h3:min j L.length*100000≤32*100000:=Q8 _ (by omega)
  omega
 have hSort:=nU b L.flatten (fun e he=>by obtain⟨l,h1,h2⟩:=List.mem_flatten.1 he;exact(hmem l h1).2.2 e h2) hdist (by omega)
 have hpl:=(Dir.sortE_perm L.flatten).length_eq
 refine Fun.mk' Tryz.func19 rfl rfl zN (by decide) ?_
 (repeat' (first|((first|refine Wp.any ab rfl ?_|(with_reducible first|refine Go.mk ?_|apply am.of|refine aa.pure (hA) rfl rfl ?_));conv=>whnf)))
 refine Wp.le (Le.lowAt (b:=b) (x0:=dq M) (x:=al 1 eO L) (y:=al 1 (lstB b) L) 13 14 ?g0 ?g1 fun w Im v hb h=>RD.lstB hb h) ?_
 case g0=>exact rfl
 case g1=>exact rfl
 refine Wp.le (Le.virt 3 71 2 (fun i=>entN b (([]:List Dir.Ent).getD i default)) (by decide) rfl) ?_
 refine Wp.loopP (ι:=Nat) (fun j=>j≤L.length) (fun j=>⟨⟨Tryz.f19.ntmps,0⟩,1,[(3,.sl 0 2 0 (L.take j).flatten.length),(14,.d (al 1 (lstB b) L)),(15,.i .i64 L.length),(16,.i .i64 j)],
  [(0,some (aI 71 2 (entN b) (L.take j).flatten))]⟩) (fun j=>L.length-j) 0 (Nat.zero_le _) ?_ ?_
 ·(refine Le.by [0] rfl rfl rfl rfl ?_ ?_<;>(conv=>whnf)<;>(repeat' (first|exact trivial|exact ac.rfl rfl|exact ac.sl rfl|exact⟨rfl,rfl,rfl⟩|exact fun i hi=>rfl|((with_reducible refine And.intro ?_ ?_)<;>(conv=>whnf)))))
 ·rintro j h1
  have hpj:=hpre j
  (repeat' (first|((first|refine Wp.any ab rfl ?_|(with_reducible first|refine Go.mk ?_|apply am.of|refine And.intro zC ?_));conv=>whnf)|((refine au (fun hc=>?_) (fun hc=>?_))<;>(try simp only[wz9]at hc)<;>(try (exfalso;omega))<;>(conv=>whnf))))
  ·have hj:j<L.length:=by omega
   have hta:=ee hj
   have hlm:L.getD (j:Int).toNat default∈L:=by rw[Q13,Q1,Q0 hj];exact Q14 hj
   obtain⟨m1,m2,m3⟩:=hmem _ hlm
   generalize L.getD (j:Int).toNat default=l at hta hlm m1 m2 m3⊢
   refine Wp.loopP (ι:=Nat) (fun i=>i≤l.length) (fun i=>⟨⟨Tryz.f19.ntmps,0⟩,1,[(3,.sl 0 2 0 ((L.take j).flatten++l.take i).length),(14,.d (al 1 (lstB b) L)),(15,.i .i64 L.length),(16,.i .i64 j),(20,.d (al 2 (entB b) l)),(21,.i .i64 l.length),(22,.i .i64 i)],
    [(0,some (aI 71 2 (entN b) ((L.take j).flatten++l.take i)))]⟩) (fun i=>l.length-i) 0 (Nat.zero_le _) ?_ ?_
   ·rw[List.take_zero,List.append_nil]
    (refine Le.by [0] rfl rfl rfl rfl ?_ ?_<;>(conv=>whnf)<;>(repeat' (first|exact trivial|exact ac.rfl rfl|exact ac.sl rfl|exact⟨rfl,rfl,rfl⟩|exact fun i hi=>rfl|((with_reducible refine And.intro ?_ ?_)<;>(conv=>whnf)))))
   ·rintro i h2
    have hlen:((L.take j).flatten++l.take i).length≤3300000:=by rw[Q9,Q10];omega
    have hkl:i<l.length→(l.getD (i:Int).toNat default).key.length≤16777216:=fun hi=>by
     rw[Q13,Q1,Q0 hi]
     have:=m2 _ (Q14 hi);exact Nat.le_trans this (by decide)
    (repeat' (first|((first|refine Wp.any ab rfl ?_|(with_reducible first|refine Go.mk ?_|apply am.of));conv=>whnf)|with_reducible exact rfl|((first|with_reducible refine Ov.ok zO ?_|refine zV ?_|with_reducible refine And.intro zC ?_);conv=>whnf)|((refine bO.b rfl rfl rfl rfl rfl rfl rfl rfl ?hb ?ho ?_);(case hb=>exact zB);(case ho=>omega);(conv=>whnf))|(with_reducible refine Or.inl ?_)|((with_reducible refine ai.pure (jG b _ (hkl (by omega))) rfl rfl ?_);conv=>whnf)|((refine au (fun hc=>?_) (fun hc=>?_))<;>(try simp only[wz9]at hc)<;>(try (exfalso;omega))<;>(conv=>whnf))))
    ·refine⟨i+1,by dsimp only;omega,by dsimp only;omega,?_⟩
     dsimp only
     rw[ee (by omega:i<l.length),← List.append_assoc]
     generalize (L.take j).flatten++l.take i=Z at hlen⊢
     (refine Le.by [10] rfl rfl rfl rfl ?_ ?_<;>(conv=>whnf)<;>(repeat' (first|exact trivial|exact ac.rfl rfl|((with_reducible refine And.intro ?_ ?_)<;>(conv=>whnf)))))
     ·rw[Q9];exact ac.sl rfl
     ·simp
     ·exact rI b _ _
    ·obtain rfl:i=l.length:=by omega
     refine⟨j+1,by dsimp only;omega,by dsimp only;omega,?_⟩
     dsimp only
     rw[hta,List.take_length,List.flatten_append,show[l].flatten=l by simp]
     (refine Le.by [0] rfl rfl rfl rfl ?_ ?_<;>(conv=>whnf)<;>(repeat' (first|exact trivial|exact ac.rfl rfl|exact ac.sl rfl|exact⟨rfl,rfl,rfl⟩|exact fun i hi=>rfl|((with_reducible refine And.intro ?_ ?_)<;>(conv=>whnf)))))
  ·obtain rfl:j=L.length:=by omega
   rw[List.take_length]
   (repeat' (first|((first|refine Wp.any ab rfl ?_|(with_reducible first|refine Go.mk ?_|apply am.of));conv=>whnf)|((refine aa.fn (hSort) [0] rfl rfl rfl rfl rfl ?ha ?hh ?_);(case ha=>exact zA);(case hh=>exact zH);(conv=>whnf))))
   refine af.of [0] rfl (by simp) rfl ?_ ?_
   ·exact .of_eq (congrArg (SV.sl _ _ _) hpl.symm)
   ·((conv=>whnf);repeat' (first|exact zC9|((with_reducible refine And.intro ?_ ?_)<;>(conv=>whnf))))
theorem eV(b:Nat)(M:Dir.Mc)(h0:0≤M.W 0)(h8:M.W 0≤8)(hH:∀w,Dir.Hn 100000 (M.Hd w)){B:Int}(hI:Dir.Iw M.W B)(hIh:Dir.Ih M)(hK:Dir.Kh M) :
  Pure TC 19 [.d (n9 b M)] (.d (.fsl (b+1) 71 2 (Dir.ents M).length fun i=>entN b ((Dir.ents M).getD i default))) :=
 Fun.fresh (h:=jz b M h0 h8 hH hI hIh hK) fun E w vs h _=>by
  have:=h 0 Nat.zero_lt_one
  generalize vs.getD 0 undef=x at this
  cases this with|d _ _ h=>cases h with
   | ref _ _ b p g hb hc hg=>have h9:=hg 0 Nat.zero_lt_one;cases h9 with|low _ _ _ hb _=>exact hb
theorem entN_le{b:Nat}{xs:List Dir.Ent}:DL (.fsl (b+1) 71 2 xs.length fun i=>entN b (xs.getD i default)) (al 2 aq xs):=DL.fsl.trans (DL.sl (fun _ _=>rfl) fun i _ j hj hj'=>by
 have hj:j<2:=hj
 rcases(by omega:j=0∨j=1)with rfl|rfl
 ·exact .fsl
 ·exact .rfl)
theorem i7(b:Nat)(M:Dir.Mc)(h0:0≤M.W 0)(h8:M.W 0≤8)(hH:∀w,Dir.Hn 100000 (M.Hd w)){B:Int}(hI:Dir.Iw M.W B)(hIh:Dir.Ih M)(hK:Dir.Kh M) :
  Pure TC 21 [.d (n9 b M)] (.d (al 2 aq (Dir.ents M))):=by
 have hE:Pure TC 19 [.d (n9 b M)] (.d (al 2 aq (Dir.ents M))):=(eV b M h0 h8 hH hI hIh hK).leR (.dle entN_le)
 have hlen:(Dir.ents M).length≤3200000:=by
  have h1:=(Dir.sortE_perm (Dir.allE M)).length_eq
  rw[← Dir.allE_eq]at h1
  have h2:(Dir.allL M).flatten.length≤(Dir.allL M).length*100000:=cu fun l hl=>by
   obtain⟨i,_,hi⟩:=List.mem_flatMap.1 hl
   exact c8 (fun w=>(hH w).1) hi
  have h3:=bh M (2^Dir.lvl M)
  have h4:2^Dir.lvl M≤2^4:=Q16 (by omega) (by unfold Dir.lvl;omega)
  have h5:(Dir.allL M).length≤32:=by
   show((List.range (2^Dir.lvl M)).flatMap (Dir.partL M)).length≤32
   omega
  show(Dir.sortE (Dir.allE M)).length≤_
  rw[← Dir.allE_eq]
  have h6:(Dir.allL M).length*100000≤32*100000:=Q8 _ h5
  omega
 generalize Dir.ents M=es at hE hlen⊢
 refine Pure.mk' Tryz.func21 rfl rfl zN ?_
 (repeat' (first|((first|refine Wp.any ab rfl ?_|(with_reducible first|refine Go.mk ?_|apply am.of|refine aa.pure (hE) rfl rfl ?_));conv=>whnf)))
 refine Wp.le (Le.virt 3 102 2 (fun i=>aq (([]:List Dir.Ent).getD i default)) (by decide) rfl) ?_
 refine Wp.loopP (ι:=Nat) (fun j=>j≤es.length) (fun j=>⟨⟨Tryz.f21.ntmps,0⟩,1,[(3,.sl 0 2 0 (es.take j).length),(7,.d (al 2 aq es)),(8,.i .i64 es.length),(9,.i .i64 j)],
  [(0,some (aI 102 2 aq (es.take j)))]⟩) (fun j=>es.length-j) 0 (Nat.zero_le _) ?_ ?_
 ·(refine Le.by [0] rfl rfl rfl rfl ?_ ?_<;>(conv=>whnf)<;>(repeat' (first|exact trivial|exact ac.rfl rfl|exact ac.sl rfl|exact⟨rfl,rfl,rfl⟩|exact fun i hi=>rfl|((with_reducible refine And.intro ?_ ?_)<;>(conv=>whnf)))))
 ·rintro j h1
  have hl2:(es.take j).length≤3200000:=by rw[Q10];omega
  (repeat' (first|((first|refine Wp.any ab rfl ?_|(with_reducible first|refine Go.mk ?_|apply am.of|refine Ov.ok zO ?_|refine And.intro zC ?_));conv=>whnf)|((with_reducible refine And.intro ?hb ?_);(case hb=>exact zz1);(conv=>whnf))|((refine au (fun hc=>?_) (fun hc=>?_))<;>(try simp only[wz9]at hc)<;>(try (exfalso;omega))<;>(conv=>whnf))))
  ·refine⟨j+1,by dsimp only;omega,by dsimp only;omega,?_⟩
   dsimp only
   rw[ee (by omega:j<es.length)]
   generalize es.take j=Z at hl2⊢
   (refine Le.by [3] rfl rfl rfl rfl ?_ ?_<;>(conv=>whnf)<;>(repeat' (first|exact trivial|exact ac.rfl rfl|((with_reducible refine And.intro ?_ ?_)<;>(conv=>whnf)))))
   ·rw[Q9];exact ac.sl rfl
   ·rfl
   ·simp
   ·exact a8 _ _
  ·obtain rfl:j=es.length:=by omega
   rw[List.take_length]
   exact SV.Le.sl fun j hj=>by simp only[Q19]
end
structure Seg where
 z:Nat
 n:Nat
 f:Nat→List SV
def co:List Seg→Nat→SV
 | [],_=>.any
 | s::r,p=>bif Nat.blt p (s.n*s.z)then(s.f (p/s.z)).getD (p%s.z) .any else co r (p-s.n*s.z)
def cI:List Seg→Nat
 | []=>0
 | s::r=>s.n*s.z+cI r
def bF(f:Nat→List SV)(i:Nat)(cs:List SV):Nat→List SV:=fun j=>if j=i then cs else f j
theorem dH(f:Nat→List SV)(i:Nat)(cs:List SV):bF f i cs i=cs:=if_pos rfl
theorem updF_ne{f:Nat→List SV}{i j:Nat}{cs:List SV}(h:j≠i):bF f i cs j=f j:=if_neg h
structure aD(f:Nat→List SV)(i:Nat)(k:List SV→Prop):Prop where
 out:k (f i)
theorem aD.same{f:Nat→List SV}{i:Nat}{cs:List SV}{k:List SV→Prop}(h:k cs):aD (bF f i cs) i k:=⟨by rw[dH];exact h⟩
theorem bt{s:Seg}{r:List Seg}{i q:Nat}(hi:i<s.n)(hq:q<s.z):i*s.z+q<cI (s::r)∧co (s::r) (i*s.z+q)=(s.f i).getD q .any:=by
 have h1:(i+1)*s.z≤s.n*s.z:=Q8 _ hi
 rw[Q18,Nat.one_mul]at h1
 have h2:i*s.z+q<s.n*s.z:=by omega
 have h3:Nat.blt (i*s.z+q) (s.n*s.z)=true:=by simpa using h2
 have h4:(i*s.z+q)/s.z=i:=by
  rw[Nat.mul_comm,Nat.mul_add_div (by omega),Nat.div_eq_of_lt hq];rfl
 have h5:(i*s.z+q)%s.z=q:=by rw[Nat.mul_comm,Nat.mul_add_mod,Nat.mod_eq_of_lt hq]
 refine⟨by show _<s.n*s.z+cI r;omega,?_⟩
 unfold co
 rw[h3,cond_true,h4,h5]
theorem aQ {s : Seg} {r:List Seg} {p:Nat} (h:s.n*s.z≤p):co (s::r) p=co r (p-s.n*s.z):=by
  have h3:Nat.blt p (s.n*s.z)=false:=by
    cases e:Nat.blt p (s.n*s.z)with
    | false=>rfl
    | true => have:p<s.n*s.z:=by simpa using e
              omega
  show(bif Nat.blt p (s.n*s.z)then _ else _)=_
  rw[h3,cond_false]
def segL(z i sz:Nat):List Seg→Nat→(List SV→Prop)→Prop
 | [],_,_=>False
 | s::r,off,k=>bif Nat.blt off s.z then(bif Nat.beq s.z z then i<s.n∧aD s.f i (fun cs=>bif Nat.beq cs.length s.z then fo cs off sz k else False)else False)
  else bif Nat.ble (s.n*s.z) off then segL z i sz r (off-s.n*s.z) k else False
theorem mS{z i sz:Nat}:∀{ss:List Seg} {off:Nat} {k:List SV→Prop},segL z i sz ss off k→∃cs:List SV,cs.length=sz∧k cs∧∀j,j<sz→i*z+off+j<cI ss∧cs.getD j .any=co ss (i*z+off+j)
 | [],_,_,h=>h.elim
 | s :: r,off,k,h=>by
  unfold segL at h
  cases h1:Nat.blt off s.z with
  | true =>
   simp only[h1,cond_true]at h
   have h1:off<s.z:=by simpa using h1
   cases h2:Nat.beq s.z z with
   | false=>simp[h2]at h
   | true =>
    simp only[h2,cond_true]at h
    obtain rfl:=Q2 h2
    obtain⟨hi,h⟩:=h
    have h:=h.out
    cases h3:Nat.beq (s.f i).length s.z with
    | false=>simp[h3]at h
    | true =>
     simp only[h3,cond_true]at h
     have h3:=Q2 h3
     obtain⟨g1,g2⟩:=dJ _ _ _ _ h
     have hl:(((s.f i).drop off).take sz).length=sz:=by rw[Q10,List.length_drop];omega
     refine⟨_,hl,g2,fun j hj=>?_⟩
     obtain⟨e1,e2⟩:=bt (s:=s) (r:=r) (i:=i) (q:=off+j) hi (by omega)
     rw[Nat.add_assoc,e2]
     refine⟨e1,?_⟩
     rw[Q1,Q1,Q15,if_pos hj,List.getElem?_drop]
  | false =>
   simp only[h1,cond_false]at h
   cases h2:Nat.ble (s.n*s.z) off with
   | false=>simp[h2]at h
   | true =>
    simp only[h2,cond_true]at h
    have h2:s.n*s.z≤off:=zzb h2
    obtain⟨cs,g1,g2,g3⟩:=mS h
    refine⟨cs,g1,g2,fun j hj=>?_⟩
    obtain⟨e1,e2⟩:=g3 j hj
    rw[aQ (by omega),show i*z+off+j-s.n*s.z=i*z+(off-s.n*s.z)+j by omega]
    exact⟨by show _<s.n*s.z+cI r;omega,e2⟩
theorem CfV.seg{z i off N:Nat}{ss:List Seg}{k:SV→Prop}(hN:cI ss=N)(h:segL z i 1 ss off (fun cs=>sa cs 0 k)):CfV (i*z+off) N (co ss) k:=by
 subst hN
 obtain⟨cs,h1,h2,h3⟩:=mS h
 obtain⟨e1,e2⟩:=fL _ _ _ h2
 obtain⟨g1,g2⟩:=h3 0 (by omega)
 refine⟨by simpa using g1,?_⟩
 rw[Nat.add_zero]at g2
 rw[← g2,Q1,Q0 e1];exact e2
def segS(z i:Nat)(vs:List SV):List Seg→Nat→(List Seg→Prop)→Prop
 | [],_,_=>False
 | s::r,off,k=>bif Nat.blt off s.z then(bif Nat.beq s.z z then i<s.n∧aD s.f i (fun cs=>bif Nat.beq cs.length s.z then fx cs off vs (fun cs'=>k (⟨s.z,s.n,bF s.f i cs'⟩::r))else False)else False)
  else bif Nat.ble (s.n*s.z) off then segS z i vs r (off-s.n*s.z) (fun r'=>k (s::r'))else False
def qK(vs:List SV):List Seg→Nat→(List Seg→Prop)→Prop
 | [],_,_=>False
 | s::r,off,k=>bif Nat.blt off s.z then(bif Nat.beq s.n 1 then(bif Nat.beq (s.f 0).length s.z then fx (s.f 0) off vs (fun cs'=>k (⟨s.z,1,fun _=>cs'⟩::r))else False)else False)
  else bif Nat.ble (s.n*s.z) off then qK vs r (off-s.n*s.z) (fun r'=>k (s::r'))else False
theorem kC(A B:List SV)(o j:Nat)(h:o+B.length≤A.length):(A.take o++B++A.drop (o+B.length)).getD j .any=if o≤j∧j<o+B.length then B.getD (j-o) .any else A.getD j .any:=by
 rw[Q1,Q1,Q1,aM _ _ _ h]
 split<;>rfl
theorem mR {z i:Nat} {vs:List SV}:∀{ss:List Seg} {off:Nat} {k:List Seg→Prop},segS z i vs ss off k→∃ss',k ss'∧cI ss'=cI ss∧(vs≠[]→i*z+off+vs.length≤cI ss)∧∀p,p<cI ss→co ss' p=if i*z+off≤p∧p<i*z+off+vs.length then vs.getD (p-(i*z+off)) .any else co ss p
 | [],_,_,h=>h.elim
 | s :: r,off,k,h=>by
  unfold segS at h
  cases h1:Nat.blt off s.z with
  | true =>
   simp only[h1,cond_true]at h
   have h1:off<s.z:=by simpa using h1
   cases h2:Nat.beq s.z z with
   | false=>simp[h2]at h
   | true =>
    simp only[h2,cond_true]at h
    obtain rfl:=Q2 h2
    obtain⟨hi,h⟩:=h
    have h:=h.out
    cases h3:Nat.beq (s.f i).length s.z with
    | false=>simp[h3]at h
    | true =>
     simp only[h3,cond_true]at h
     have h3:=Q2 h3
     obtain⟨g1,g2⟩:=dy _ _ _ _ h
     have hin:(i+1)*s.z≤s.n*s.z:=Q8 _ hi
     rw[Q18,Nat.one_mul]at hin
     refine⟨_,g2,rfl,fun _=>by show _≤s.n*s.z+cI r;omega,fun p hp=>?_⟩
     by_cases hpn:p<s.n*s.z
     ·obtain⟨q,hq⟩:∃q,q=p/s.z:=⟨_,rfl⟩
      obtain⟨m,hm⟩:∃m,m=p%s.z:=⟨_,rfl⟩
      have hpe:p=q*s.z+m:=by rw[hq,hm,Nat.mul_comm];exact(Nat.div_add_mod p s.z).symm
      have hmz:m<s.z:=by rw[hm];exact Nat.mod_lt _ (by omega)
      have hqn:q<s.n:=by rw[hq];exact Nat.div_lt_of_lt_mul (by rw[Nat.mul_comm];exact hpn)
      have e1:=(bt (s:=⟨s.z,s.n,bF s.f i ((s.f i).take off++vs++(s.f i).drop (off+vs.length))⟩) (r:=r) (i:=q) (q:=m) hqn hmz).2
      have e2:=(bt (s:=s) (r:=r) (i:=q) (q:=m) hqn hmz).2
      dsimp only at e1
      rw[hpe,e1,e2]
      by_cases hqi:q=i
      ·subst hqi
       rw[dH,kC _ _ _ _ g1]
       by_cases hc:off≤m∧m<off+vs.length
       ·rw[if_pos hc,if_pos (by omega)];congr 1;omega
       ·rw[if_neg hc,if_neg (by omega)]
      ·rw[updF_ne hqi,if_neg]
       intro hc
       rcases Nat.lt_or_gt_of_ne hqi with hlt|hgt
       ·have:(q+1)*s.z≤i*s.z:=Q8 _ hlt
        rw[Q18,Nat.one_mul]at this;omega
       ·have:(i+1)*s.z≤q*s.z:=Q8 _ hgt
        rw[Q18,Nat.one_mul]at this;omega
     ·rw[aQ (s:=⟨s.z,s.n,bF s.f i ((s.f i).take off++vs++(s.f i).drop (off+vs.length))⟩) (by show s.n*s.z≤p;omega),aQ (by omega),if_neg (by omega)]
  | false =>
   simp only[h1,cond_false]at h
   cases h2:Nat.ble (s.n*s.z) off with
   | false=>simp[h2]at h
   | true =>
    simp only[h2,cond_true]at h
    have h2:s.n*s.z≤off:=zzb h2
    obtain⟨ss',g1,g2,g3,g4⟩:=mR h
    refine⟨_,g1,by show s.n*s.z+cI ss'=s.n*s.z+cI r;rw[g2],fun hv=>by have:=g3 hv;show _≤s.n*s.z+cI r;omega,fun p hp=>?_⟩
    have hp:p<s.n*s.z+cI r:=hp
    by_cases hpn:p<s.n*s.z
    ·have h3:Nat.blt p (s.n*s.z)=true:=by simpa using hpn
     rw[if_neg (by omega)]
     unfold co
     rw[h3,cond_true,cond_true]
    ·rw[aQ (by omega),aQ (by omega),g4 _ (by omega)]
     by_cases hc:i*z+off≤p∧p<i*z+off+vs.length
     ·rw[if_pos hc,if_pos (by omega)];congr 1;omega
     ·rw[if_neg hc,if_neg (by omega)]
theorem kM{vs:List SV}:∀{ss:List Seg} {off:Nat} {k:List Seg→Prop},qK vs ss off k→∃ss',k ss'∧cI ss'=cI ss∧(vs≠[]→off+vs.length≤cI ss)∧∀p,p<cI ss→co ss' p=if off≤p∧p<off+vs.length then vs.getD (p-off) .any else co ss p
 | [],_,_,h=>h.elim
 | s :: r,off,k,h=>by
  unfold qK at h
  cases h1:Nat.blt off s.z with
  | true =>
   simp only[h1,cond_true]at h
   have h1:off<s.z:=by simpa using h1
   cases h2:Nat.beq s.n 1 with
   | false=>simp[h2]at h
   | true =>
    simp only[h2,cond_true]at h
    have h2:=Q2 h2
    cases h3:Nat.beq (s.f 0).length s.z with
    | false=>simp[h3]at h
    | true =>
     simp only[h3,cond_true]at h
     have h3:=Q2 h3
     obtain⟨g1,g2⟩:=dy _ _ _ _ h
     refine⟨_,g2,by show 1*s.z+cI r=s.n*s.z+cI r;rw[h2],fun _=>by show _≤s.n*s.z+cI r;rw[h2,Nat.one_mul];omega,fun p hp=>?_⟩
     by_cases hpn:p<s.z
     ·have e1:=(bt (s:=⟨s.z,1,fun _=>(s.f 0).take off++vs++(s.f 0).drop (off+vs.length)⟩) (r:=r) (i:=0) (q:=p) (Nat.zero_lt_one) hpn).2
      have e2:=(bt (s:=s) (r:=r) (i:=0) (q:=p) (by omega) hpn).2
      dsimp only at e1
      rw[Nat.zero_mul,Q19]at e1 e2
      rw[e1,e2,kC _ _ _ _ g1]
     ·rw[aQ (s:=⟨s.z,1,fun _=>(s.f 0).take off++vs++(s.f 0).drop (off+vs.length)⟩) (by show 1*s.z≤p;omega),aQ (by rw[h2,Nat.one_mul];omega),if_neg (by omega)]
      dsimp only
      rw[h2]
  | false =>
   simp only[h1,cond_false]at h
   cases h2:Nat.ble (s.n*s.z) off with
   | false=>simp[h2]at h
   | true =>
    simp only[h2,cond_true]at h
    have h2:s.n*s.z≤off:=zzb h2
    obtain⟨ss',g1,g2,g3,g4⟩:=kM h
    refine⟨_,g1,by show s.n*s.z+cI ss'=s.n*s.z+cI r;rw[g2],fun hv=>by have:=g3 hv;show _≤s.n*s.z+cI r;omega,fun p hp=>?_⟩
    have hp:p<s.n*s.z+cI r:=hp
    by_cases hpn:p<s.n*s.z
    ·have h3:Nat.blt p (s.n*s.z)=true:=by simpa using hpn
     rw[if_neg (by omega)]
     unfold co
     rw[h3,cond_true,cond_true]
    ·rw[aQ (by omega),aQ (by omega),g4 _ (by omega)]
     by_cases hc:off≤p∧p<off+vs.length
     ·rw[if_pos hc,if_pos (by omega)];congr 1;omega
     ·rw[if_neg hc,if_neg (by omega)]
theorem CfS.seg{z i off N m:Nat}{ss:List Seg}{vs:List SV}{k:(Nat→SV)→Prop}(hN:cI ss=N)(hv:Nat.blt 0 vs.length=true)(hl:SV.ltL m vs=true)(h:segS z i vs ss off (fun ss'=>k (co ss'))):CfS (i*z+off) vs m N (co ss) k:=by
 subst hN
 have hv:0<vs.length:=by simpa using hv
 obtain⟨ss',h1,h2,h3,h4⟩:=mR h
 have:=h3 (fun e=>by rw[e]at hv;exact absurd hv (Nat.lt_irrefl 0))
 exact⟨⟨this,by omega,fun v hm=>SV.Lt.ofL hl v hm⟩,_,h4,h1⟩
theorem CfS.seg1{off N m:Nat}{ss:List Seg}{vs:List SV}{k:(Nat→SV)→Prop}(hN:cI ss=N)(hv:Nat.blt 0 vs.length=true)(hl:SV.ltL m vs=true)(h:qK vs ss off (fun ss'=>k (co ss'))):CfS off vs m N (co ss) k:=by
 subst hN
 have hv:0<vs.length:=by simpa using hv
 obtain⟨ss',h1,h2,h3,h4⟩:=kM h
 have:=h3 (fun e=>by rw[e]at hv;exact absurd hv (Nat.lt_irrefl 0))
 exact⟨⟨this,by omega,fun v hm=>SV.Lt.ofL hl v hm⟩,_,h4,h1⟩
inductive dx(L:List Nat)(m:Nat):List Seg→List Seg→Prop
 | nil:dx L m [] []
 | cons {z n:Nat} {f g:Nat→List SV} {r r':List Seg} (h:∀i,i<n→aC L (f i) (g i)∧∀v∈g i,SV.Lt m v) (hz:∀i,i<n→(g i).length=z) (t:dx L m r r'):dx L m (⟨z,n,f⟩::r) (⟨z,n,g⟩::r')
theorem dx.out{L:List Nat}{m:Nat}{ss ss':List Seg}(h:dx L m ss ss'):cI ss'=cI ss∧∀p,p<cI ss→ac L (co ss p) (co ss' p)∧SV.Lt m (co ss' p):=by
  induction h with
  | nil=>exact⟨rfl,fun p hp=>absurd hp (Nat.not_lt_zero p)⟩
  | @cons z n f g r r' h hz _ ih =>
    refine⟨by show n*z+cI r'=n*z+cI r;rw[ih.1],fun p hp=>?_⟩
    have hp:p<n*z+cI r:=hp
    by_cases hpn:p<n*z
    · have hz0 : 0 < z := by rcases Nat.eq_zero_or_pos z with e|e;· subst e;simp at hpn
                             ·exact e
      have hpe:p=p/z*z+p%z:=by rw[Nat.mul_comm];exact(Nat.div_add_mod p z).symm
      have hmz:p%z<z:=Nat.mod_lt _ hz0
      have hqn:p/z<n:=Nat.div_lt_of_lt_mul (by rw[Nat.mul_comm];exact hpn)
      have e1:=(bt (s:=⟨z,n,f⟩) (r:=r) (i:=p/z) (q:=p%z) hqn hmz).2
      have e2:=(bt (s:=⟨z,n,g⟩) (r:=r') (i:=p/z) (q:=p%z) hqn hmz).2
      dsimp only at e1 e2
      rw[← hpe]at e1 e2
      rw[e1,e2]
      obtain⟨a1,a2⟩:=h _ hqn
      obtain⟨b1,b2⟩:=a1.out
      have hlt:p%z<(g (p/z)).length:=by rw[hz _ hqn];exact hmz
      obtain⟨x,c1,c2⟩:=b2 (p%z) ((g (p/z))[p%z]) (Q0 hlt)
      have e3:(g (p/z)).getD (p%z) .any=(g (p/z))[p%z]:=by rw[Q1,Q0 hlt];rfl
      have e4:(f (p/z)).getD (p%z) .any=x:=by rw[Q1,c1];rfl
      rw[e3,e4]
      exact⟨c2,a2 _ (Q14 hlt)⟩
    · rw[aQ (s:=⟨z,n,f⟩) (by show n*z≤p;omega),aQ (s:=⟨z,n,g⟩) (by show n*z≤p;omega)]
      exact ih.2 _ (by show p-n*z<cI r;omega)
theorem bn.seg{L:List Nat}{m m' N:Nat}{ss ss':List Seg}(hN:cI ss=N)(hm:m'≤L.length)(h:dx L m' ss ss'):bn L (some (.cf m N (co ss))) (.cf m' N (co ss')):=by
 subst hN
 exact⟨⟨rfl,hm⟩,h.out.2⟩
theorem jP:∀(p:List Int) {h:Int},0≤h→h<18446744073709551616→0≤lU h p∧lU h p<18446744073709551616
 | [],_,h0,h1=>⟨h0,h1⟩
 | x::r,_,_,_=>jP r (rQ _).1 (rQ _).2
theorem eh(p:List Int):0≤ay p∧ay p<18446744073709551616:=jP p (by decide) (by decide)
theorem rP(v:Int):IntKind.u8.wrap v=v%256:=by
 unfold IntKind.wrap;simp[IntKind.bits,IntKind.signed]
theorem sum_val{s y:Int}(b0:0≤s)(b1:s<18446744073709551616)(y0:0≤y)(y1:y≤255) :
  IntKind.u64.wrap (IntKind.u64.wrap (bits .and .u64 (IntKind.u64.wrap (IntKind.u64.wrap (IntKind.u64.wrap (s.tdiv 256)*256)+IntKind.u64.wrap (bits .xor .u8 (IntKind.u8.wrap s) y))) 4294967295*435) +
   IntKind.u64.wrap (IntKind.u64.wrap (IntKind.u64.wrap (IntKind.u64.wrap (IntKind.u64.wrap (IntKind.u64.wrap (s.tdiv 256)*256)+IntKind.u64.wrap (bits .xor .u8 (IntKind.u8.wrap s) y))/2^min (Int.toNat 32) IntKind.u64.bits*435) +
    IntKind.u64.wrap (bits .and .u64 (IntKind.u64.wrap (IntKind.u64.wrap (IntKind.u64.wrap (s.tdiv 256)*256)+IntKind.u64.wrap (bits .xor .u8 (IntKind.u8.wrap s) y))) 4294967295*256))*2^min (Int.toNat 32) IntKind.u64.bits)) =
  IntKind.u64.wrap (bits .xor .u64 s (IntKind.u64.wrap y)*1099511628211):=by
 have hd:s.tdiv 256=s/256:=Int.tdiv_eq_ediv_of_nonneg b0
 have hx:=lS b0 b1 y0 (by omega:y<256)
 have hy:IntKind.u64.wrap y=y:=by rw[ec];omega
 have h8:IntKind.u8.wrap s=s%256:=rP s
 have hp:(2:Int)^min (Int.toNat 32) IntKind.u64.bits=4294967296:=by decide
 rw[hy,hp,hd,h8]
 have hx8:0≤bits .xor .u8 (s%256) y∧bits .xor .u8 (s%256) y<256:=by
  have e:bits .xor .u8 (s%256) y=IntKind.u8.wrap ((BitVec.ofInt 8 (s%256) ^^^ BitVec.ofInt 8 y).toNat:Int):=rfl
  rw[e,rP];omega
 generalize bits .xor .u8 (s%256) y=q at *
 have hX:IntKind.u64.wrap (IntKind.u64.wrap (IntKind.u64.wrap (s/256)*256)+IntKind.u64.wrap q)=bits .xor .u64 s y:=by
  rw[hx];simp only[ec];omega
 rw[hX]
 have hX0:0≤bits .xor .u64 s y∧bits .xor .u64 s y<18446744073709551616:=by rw[hx];omega
 generalize bits .xor .u64 s y=x at *
 have hm:bits .and .u64 x 4294967295=x%4294967296:=by
  have h1:(BitVec.ofInt 64 (4294967295:Int)).toNat=4294967295:=by decide
  have h2:(BitVec.ofInt 64 x).toNat=x.toNat:=by rw[BitVec.toNat_ofInt];omega
  have h3:x.toNat&&&4294967295=x.toNat%4294967296:=Nat.and_two_pow_sub_one_eq_mod (n:=32) x.toNat
  show IntKind.u64.wrap ((BitVec.ofInt 64 x&&&BitVec.ofInt 64 4294967295).toNat:Int)=_
  rw[BitVec.toNat_and,h1,h2,h3,ec];omega
 rw[hm]
 simp only[ec]
 omega
theorem mZ(h:Int)(p:List Int)(h0:0≤h)(h1:h<18446744073709551616)(hb:IsB p):Pure TC 67 [.i .u64 h,.d (al 1 (aA .u8) p)] (.i .u64 (lU h p)):=by
 refine Pure.lens (.mk Tryz.func67 rfl rfl) fun hlen=>?_
 have ha:=hlen p.length (by simp[bw,al])
 clear hlen
 refine Pure.mk' Tryz.func67 rfl rfl zN ?_
 (repeat' (first|((first|refine Wp.any ab rfl ?_|(with_reducible first|refine Go.mk ?_|apply am.of));conv=>whnf)))
 refine Wp.loopP (ι:=Nat) (fun k=>k≤p.length) (fun k=>⟨⟨Tryz.f67.ntmps,0⟩,0,[(0,.i .u64 (lU h (p.take k))),(10,.d (al 1 (aA .u8) p)),(11,.i .i64 p.length),(12,.i .i64 k)],[]⟩) (fun k=>p.length-k) 0 (Nat.zero_le _) ?_ ?_
 ·(refine Le.by [] rfl rfl rfl rfl ?_ ?_<;>(conv=>whnf)<;>(repeat' (first|exact trivial|exact ac.rfl rfl|((with_reducible refine And.intro ?_ ?_)<;>(conv=>whnf)))))
 ·rintro k hk
  obtain⟨b0,b1⟩:=jP (p.take k) h0 h1
  (repeat' (first|((first|refine Wp.any ab rfl ?_|(with_reducible first|refine Go.mk ?_|apply am.of|refine Ov.ok zO ?_|refine And.intro zC ?_|refine Ov.mk ?_));conv=>whnf)|((refine au (fun hc=>?_) (fun hc=>?_))<;>(try simp only[wz9]at hc)<;>(try (exfalso;omega))<;>(conv=>whnf))))
  ·refine⟨k+1,by dsimp only;omega,by dsimp only;omega,?_⟩
   dsimp only
   rw[iR h (by omega)]
   generalize lU h (p.take k)=s at *
   have hy:0≤p.getD (k:Int).toNat default∧p.getD (k:Int).toNat default≤255:=by
    rw[Q13,Q1,Q0 (by omega:k<p.length)];exact hb _ (Q14 _)
   generalize p.getD (k:Int).toNat default=y at *
   (refine Le.by [] rfl rfl rfl rfl ?_ ?_<;>(conv=>whnf)<;>(repeat' (first|exact trivial|exact ac.rfl rfl|((with_reducible refine And.intro ?_ ?_)<;>(conv=>whnf)))))
   exact ac.free (.of_eq (congrArg (SV.i .u64) (sum_val b0 b1 hy.1 hy.2))) rfl
  ·obtain rfl:k=p.length:=by omega
   rw[List.take_length];exact .i rfl
theorem kT(p:List Int)(hb:IsB p):Pure TC 34 [.d (al 1 (aA .u8) p)] (.i .u64 (ay p)):=by
 refine Pure.mk' Tryz.func34 rfl rfl zN ?_
 (repeat' (first|((first|refine Wp.any ab rfl ?_|(with_reducible first|refine Go.mk ?_|apply am.of|refine aa.pure (mZ 14695981039346656037 p (by decide) (by decide) hb) rfl rfl ?_));conv=>whnf)))
 exact .i (by unfold ay;rfl)
theorem ib(s:Int)(lv:Nat)(hl:lv≤4)(h0:0≤s)(h1:s<18446744073709551616):Pure TC 81 [.i .u64 s,.i .i64 lv] (.i .i64 (s%2^lv)):=by
 have e1:IntKind.u64.wrap (1*2^min ((lv:Nat):Int).toNat IntKind.u64.bits)=2^lv∧(2:Int)^lv≤16∧(0:Int)<2^lv:=by
  have hlv:lv=0∨lv=1∨lv=2∨lv=3∨lv=4:=by omega
  rcases hlv with rfl|rfl|rfl|rfl|rfl<;>decide
 obtain⟨e1,e3,e4⟩:=e1
 have h3:=Int.emod_nonneg s (by omega:(2^lv:Int)≠0)
 have h4:=Int.emod_lt_of_pos s e4
 refine Pure.mk' Tryz.func81 rfl rfl zN ?_
 (repeat' (first|((first|refine Wp.any ab rfl ?_|(with_reducible first|refine Go.mk ?_|apply am.of|refine And.intro zC ?_));conv=>whnf)|((with_reducible refine Ov.mk ?_);(try rw[e1]);conv=>whnf)))
 exact .i (by rw[Q6 h0];exact IntWalk.i64_in _ (by omega))
theorem iZ(lv:Nat)(hl:lv≤4)(s:Int)(h0:0≤s)(h1:s≤64):Pure TC 74 [.i .i64 lv,.i .i64 s] (.i .i64 (2^lv+s)):=by
 have e1:=bQ hl
 have e3:(2:Int)^lv≤16∧(0:Int)<2^lv:=by
  have hlv:lv=0∨lv=1∨lv=2∨lv=3∨lv=4:=by omega
  rcases hlv with rfl|rfl|rfl|rfl|rfl<;>decide
 refine Pure.mk' Tryz.func74 rfl rfl zN ?_
 (repeat' (first|((first|refine Wp.any ab rfl ?_|(with_reducible first|refine Go.mk ?_|apply am.of|refine Ov.ok zO ?_|refine And.intro zC ?_));conv=>whnf)))
 exact .i (by rw[e1])
theorem m4(h:List Dir.Ent)(k:List Int):Pure TC 68 [.d (al 2 aq h),.d (al 1 (aA .u8) k)] (.i .i64 (if bf h k<0 then 0 else(h.getD (bf h k).toNat default).val)):=by
 have hf:=nR h k
 refine Pure.mk' Tryz.func68 rfl rfl zN ?_
 (repeat' (first|((first|refine Wp.any ab rfl ?_|(with_reducible first|refine Go.mk ?_|apply am.of|refine And.intro zC ?_|refine aa.pure (kW _ _) rfl rfl ?_));conv=>whnf)|((refine au (fun hc=>?_) (fun hc=>?_))<;>(try simp only[wz9]at hc)<;>(try (exfalso;omega))<;>(conv=>whnf))))
 ·rw[if_neg (by omega)];exact .rfl _
 ·rw[if_pos (by omega)];exact .rfl _
theorem kU(p:List Int)(hb:IsB p)(lv:Nat)(hl:lv≤4):Pure TC 75 [.d (al 1 (aA .u8) p),.i .i64 lv] (.i .i64 (ay p%2^lv)):=by
 obtain⟨s0,s1⟩:=eh p
 have hS:=kT p hb
 generalize ay p=s at *
 refine Pure.mk' Tryz.func75 rfl rfl zN ?_
 have hlv:lv=0∨lv=1∨lv=2∨lv=3∨lv=4:=by omega
 rcases hlv with rfl|rfl|rfl|rfl|rfl
 all_goals
  (repeat' (first|((first|refine Wp.any ab rfl ?_|(with_reducible first|refine Go.mk ?_|apply am.of|refine Ov.ok zO ?_|refine And.intro zC ?_|refine aa.pure (hS) rfl rfl ?_|refine Wp.loopN 5 ?_|refine Ov.mk ?_));conv=>whnf)))
  all_goals exact .i (by
   rw[Q6 s0]
   first
    | exact(IntWalk.i64_in _ (by omega)).trans (by simp)
    | (simp only[ec];simp;exact IntWalk.i64_in _ (by omega)))
section
@[reducible] def dS(W:Nat→Int)(H:Nat→List Dir.Ent)(n:Int)(F:Nat→List SV):List Seg :=
 [⟨1,32,fun i=>[.i .u64 (W i)]⟩,⟨1,32,fun i=>[.d (al 2 aq (H i))]⟩,⟨1,1,fun _=>[.i .i64 n]⟩,⟨10,64,F⟩]
@[reducible] def dB(W:Nat→Int)(H:Nat→List Dir.Ent)(n:Int)(F:Nat→List SV):Blk:=.cf 0 705 (co (dS W H n F))
structure OKF(F:Nat→List SV):Prop where
 len:∀i,(F i).length=10
 fr:∀i,∀v∈F i,v.free=true∧SV.Lt 0 v
theorem aD.st{f:Nat→List SV}{i:Nat}{cs:List SV}{k:List SV→Prop}(h:f i=cs)(hk:k cs):aD f i k:=⟨by rw[h];exact hk⟩
theorem aD.zero{f:Nat→List SV}{k:List SV→Prop}(h:k (f 0)):aD f (Int.toNat 0) k:=⟨h⟩
theorem aD.nat{f:Nat→List SV}{w:Nat}{k:List SV→Prop}(h:k (f w)):aD f ((w:Int)).toNat k:=⟨h⟩
theorem ah(f:Nat→List SV)(i:Nat)(a b:List SV):bF (bF f i a) i b=bF f i b:=by
 funext j
 unfold bF
 split<;>rfl
theorem ax(k:IntKind)(W:Nat→Int)(w:Nat)(v:Int):bF (fun i=>[SV.i k (W i)]) w [.i k v]=fun i=>[SV.i k (Dir.upd W w v i)]:=by
 funext j
 unfold bF Dir.upd
 split<;>rfl
theorem av(H:Nat→List Dir.Ent)(w:Nat)(h:List Dir.Ent):bF (fun i=>[SV.d (al 2 aq (H i))]) w [.d (al 2 aq h)]=fun i=>[SV.d (al 2 aq (Dir.upd H w h i))]:=by
 funext j
 unfold bF Dir.upd
 split<;>rfl
theorem aC.frees{L:List Nat}:∀{cs:List SV},(∀v∈cs,v.free=true)→aC L cs cs
 | [],_=>trivial
 | x::r,h=>⟨ac.rfl (h x (by simp)),aC.frees fun v hv=>h v (by simp[hv])⟩
theorem ac.toAny{L:List Nat}{x:SV}:ac L x .any:=.free ⟨fun _ _ _ _ _=>.any _⟩ (Eq.refl true)
theorem az{L:List Nat}{W:Nat→Int}{H:Nat→List Dir.Ent}{n:Int}{F:Nat→List SV}(hF:OKF F){w:Nat}{cs cs':List SV}(hl:cs'.length=10)(hf:∀v∈cs',SV.Lt 0 v)(h:aC L cs cs') :
  dx L 0 (dS W H n (bF F w cs)) (dS W H n (bF F w cs')):=by
 refine .cons (fun i hi=>⟨⟨ac.rfl rfl,trivial⟩,fun v hv=>?_⟩) (fun _ _=>rfl) (.cons (fun i hi=>⟨⟨ac.rfl rfl,trivial⟩,fun v hv=>?_⟩) (fun _ _=>rfl) (.cons (fun i hi=>⟨⟨ac.rfl rfl,trivial⟩,fun v hv=>?_⟩) (fun _ _=>rfl) (.cons (fun i hi=>?_) (fun i _=>?_) .nil)))
 ·rw[List.mem_singleton.1 hv];exact .of rfl
 ·rw[List.mem_singleton.1 hv];exact .of rfl
 ·rw[List.mem_singleton.1 hv];exact .of rfl
 ·unfold bF
  split
  ·exact⟨h,hf⟩
  ·exact⟨aC.frees fun v hv=>(hF.fr i v hv).1,fun v hv=>(hF.fr i v hv).2⟩
 ·unfold bF
  split
  ·exact hl
  ·exact hF.len i
theorem plc_int(lv:Nat)(s:Int):(Dir.plc lv s:Int)=2^lv+s%2^lv:=by
 have e:((2^lv:Nat):Int)=2^lv:=by simp
 have h0:(0:Int)<2^lv:=Int.pow_pos (by decide)
 have h2:=Int.emod_nonneg s (Int.ne_of_gt h0)
 unfold Dir.plc;omega
theorem jV(lv:Nat)(hl:lv≤4)(s:Int):Pure TC 74 [.i .i64 lv,.i .i64 (s%2^lv)] (.i .i64 (Dir.plc lv s)):=by
 have e3:(2:Int)^lv≤16∧(0:Int)<2^lv:=by
  have hlv:lv=0∨lv=1∨lv=2∨lv=3∨lv=4:=by omega
  rcases hlv with rfl|rfl|rfl|rfl|rfl<;>decide
 have h3:=Int.emod_nonneg s (by omega:(2^lv:Int)≠0)
 have h4:=Int.emod_lt_of_pos s e3.2
 rw[plc_int]
 exact iZ lv hl _ h3 (by omega)
@[reducible] def ev0:SV:=.agg [.b false,.i .i64 0,.i .i64 0,.i .i64 0,.i .i64 0,.b false,.b false,.b false]
@[reducible] def evF:SV:=.agg [.b false,.i .i64 0,.i .i64 0,.i .i64 0,.i .i64 0,.b true,.b false,.b false]
section
variable{W:Nat→Int}{H:Nat→List Dir.Ent}{n:Int}{F:Nat→List SV}(hF:OKF F){w:Nat}(hw:w<64){a b c d x1 x2 x3 x4 x5:SV}(fa:a.free=true∧SV.Lt 0 a)(fb:b.free=true∧SV.Lt 0 b)(fc:c.free=true∧SV.Lt 0 c)(fd:d.free=true∧SV.Lt 0 d)
include hF hw fa fb fc fd
theorem doc_P0k(h0:0≤W 0)(h8:W 0≤8){s:Int}(s0:0≤s)(s1:s<18446744073709551616)(hR:F w=[a,b,c,d,.i .i64 0,x1,x2,x3,x4,x5]){lv:Nat}(hlv:W 0/2=lv) :
  Fun TC 38 1 [.ptr 0 0,.rp 0 10 w 69,.i .u64 s,.b false] [(0,some (dB W H n F))] 1 ev0
   [(0,some (dB W H n (bF F w (if W 0%2=0 then[a,b,c,d,.i .i64 1,.any,.any,.any,.any,.i .i64 (Dir.plc lv s)]else[a,b,c,d,.i .i64 2,.i .i64 lv,.any,.any,.any,.i .i64 (Dir.plc lv s)]))))]:=by
 have qr:(W 0).tmod 2=W 0%2:=Q6 h0
 have hm:=ib s lv (by omega) s0 s1
 have hA:=jV lv (by omega) s
 rw[← hlv]at hm hA⊢
 refine Fun.mk' Tryz.func38 rfl rfl zN (by decide) ?_
 (repeat' (first|((first|with_reducible refine IxA.rp ?_|refine CfV.seg rfl ?_|refine CfS.seg rfl rfl rfl ?_);conv=>whnf)|((with_reducible refine And.intro ?hb ?_);(case hb=>exact zz0);(conv=>whnf))|((first|refine aD.same ?_|refine aD.st hR ?_|with_reducible refine aD.zero ?_|refine Wp.any ab rfl ?_|(with_reducible first|refine Go.mk ?_|apply am.of|refine Ov.ok zO ?_)|refine zV ?_|with_reducible refine And.intro zC ?_);conv=>whnf)|(with_reducible refine Ov.tdivN (by omega) ?_)|(with_reducible refine aa.inline Tryz.func70 rfl rfl rfl (zzb rfl) ?_)|((with_reducible first|refine ai.pure (hm) rfl rfl ?_|refine ai.pure (hA) rfl rfl ?_);conv=>whnf)|((refine au (fun hc=>?_) (fun hc=>?_))<;>(try simp only[wz9,qr]at hc)<;>(try (exfalso;omega))<;>(conv=>whnf))))
 ·rw[if_neg (by omega)]
  (try simp only[Q13,Int.toNat_zero,ax,av,ah]);(refine af.of [0] rfl (fun i hi=>by have:i=0:=(by omega);subst this;rfl) rfl ?_ ?_);(focus exact .rfl _);refine⟨bn.seg (m:=0) rfl (by decide) (az hF rfl (by intro v hv;simp only[List.mem_cons,List.not_mem_nil,or_false]at hv;rcases hv with h|h|h|h|h|h|h|h|h|h<;>subst h<;>first|exact .of rfl|exact fa.2|exact fb.2|exact fc.2|exact fd.2|assumption) ?_),trivial⟩;((conv=>whnf);repeat' (first|exact zD9|((with_reducible refine And.intro ?_ ?_)<;>(conv=>whnf))))
 ·rw[if_pos (by omega)]
  (try simp only[Q13,Int.toNat_zero,ax,av,ah]);(refine af.of [0] rfl (fun i hi=>by have:i=0:=(by omega);subst this;rfl) rfl ?_ ?_);(focus exact .rfl _);refine⟨bn.seg (m:=0) rfl (by decide) (az hF rfl (by intro v hv;simp only[List.mem_cons,List.not_mem_nil,or_false]at hv;rcases hv with h|h|h|h|h|h|h|h|h|h<;>subst h<;>first|exact .of rfl|exact fa.2|exact fb.2|exact fc.2|exact fd.2|assumption) ?_),trivial⟩;((conv=>whnf);repeat' (first|exact zD9|((with_reducible refine And.intro ?_ ?_)<;>(conv=>whnf))))
theorem doc_P1n{g:SV}{v:Nat}(hv:v<32){p:Int}(hp:p=1∨p=6)(hR:F w=[a,b,c,d,.i .i64 p,x1,x2,x3,x4,.i .i64 v])(hc:W v=0∨4611686018427387904≤W v) :
  Fun TC 38 1 [.ptr 0 0,.rp 0 10 w 69,g,.b false] [(0,some (dB W H n F))] 1 ev0
   [(0,some (dB W H n (bF F w [a,b,c,d,.i .i64 0,.any,.any,.any,.any,.any])))]:=by
 rcases hp with rfl|rfl
 all_goals
  refine Fun.mk' Tryz.func38 rfl rfl zN (by decide) ?_
  (repeat' (first|((first|with_reducible refine IxA.rp ?_|refine CfV.seg rfl ?_|refine CfS.seg rfl rfl rfl ?_);conv=>whnf)|((with_reducible refine And.intro ?hb ?_);(case hb=>exact zz0);(conv=>whnf))|((first|refine aD.same ?_|refine aD.st hR ?_|with_reducible refine aD.nat ?_|refine Wp.any ab rfl ?_|(with_reducible first|refine Go.mk ?_|apply am.of)|refine zV ?_|with_reducible refine And.intro zC ?_);conv=>whnf)|((refine au (fun hc=>?_) (fun hc=>?_))<;>(try simp only[wz9]at hc)<;>(try (exfalso;omega))<;>(conv=>whnf))))
  all_goals first|(exfalso;simp only[beq_iff_eq,beq_eq_false_iff_ne,decide_eq_true_eq,decide_eq_false_iff_not,ge_iff_le]at *;omega)|((try simp only[Q13,Int.toNat_zero,ax,av,ah]);(refine af.of [0] rfl (fun i hi=>by have:i=0:=(by omega);subst this;rfl) rfl ?_ ?_);(focus exact .rfl _);refine⟨bn.seg (m:=0) rfl (by decide) (az hF rfl (by intro v hv;simp only[List.mem_cons,List.not_mem_nil,or_false]at hv;rcases hv with h|h|h|h|h|h|h|h|h|h<;>subst h<;>first|exact .of rfl|exact fa.2|exact fb.2|exact fc.2|exact fd.2|assumption) ?_),trivial⟩;((conv=>whnf);repeat' (first|exact zD9|((with_reducible refine And.intro ?_ ?_)<;>(conv=>whnf)))))
theorem doc_P1f{g:SV}{v:Nat}(hv:v<32){p:Int}(hp:p=1∨p=6)(hR:F w=[a,b,c,d,.i .i64 p,x1,x2,x3,x4,.i .i64 v])(hc:¬(W v=0∨4611686018427387904≤W v)) :
  Fun TC 38 1 [.ptr 0 0,.rp 0 10 w 69,g,.b false] [(0,some (dB W H n F))] 1 evF
   [(0,some (dB W H n (bF F w [a,b,c,d,.i .i64 9,.any,.any,.any,.i .u64 (W v),.i .i64 v])))]:=by
 rcases hp with rfl|rfl
 all_goals
  refine Fun.mk' Tryz.func38 rfl rfl zN (by decide) ?_
  (repeat' (first|((first|with_reducible refine IxA.rp ?_|refine CfV.seg rfl ?_|refine CfS.seg rfl rfl rfl ?_);conv=>whnf)|((with_reducible refine And.intro ?hb ?_);(case hb=>exact zz0);(conv=>whnf))|((first|refine aD.same ?_|refine aD.st hR ?_|with_reducible refine aD.nat ?_|refine Wp.any ab rfl ?_|(with_reducible first|refine Go.mk ?_|apply am.of)|refine zV ?_|with_reducible refine And.intro zC ?_);conv=>whnf)|((refine au (fun hc=>?_) (fun hc=>?_))<;>(try simp only[wz9]at hc)<;>(try (exfalso;omega))<;>(conv=>whnf))))
  all_goals first|(exfalso;simp only[beq_iff_eq,beq_eq_false_iff_ne,decide_eq_true_eq,decide_eq_false_iff_not,ge_iff_le]at *;omega)|((try simp only[Q13,Int.toNat_zero,ax,av,ah]);(refine af.of [0] rfl (fun i hi=>by have:i=0:=(by omega);subst this;rfl) rfl ?_ ?_);(focus exact .rfl _);refine⟨bn.seg (m:=0) rfl (by decide) (az hF rfl (by intro v hv;simp only[List.mem_cons,List.not_mem_nil,or_false]at hv;rcases hv with h|h|h|h|h|h|h|h|h|h<;>subst h<;>first|exact .of rfl|exact fa.2|exact fb.2|exact fc.2|exact fd.2|assumption) ?_),trivial⟩;((conv=>whnf);repeat' (first|exact zD9|((with_reducible refine And.intro ?_ ?_)<;>(conv=>whnf)))))
end
end
section
theorem nh{lv:Nat}(hl:lv≤3){s:Int}(s0:0≤s)(s1:s<18446744073709551616):Pure TC 81 [.i .u64 s,.i .i64 ((lv:Int)+1)] (.i .i64 (s%2^(lv+1))):=ib s (lv+1) (by omega) s0 s1
theorem At_1{lv:Nat}(hl:lv≤3)(s:Int):Pure TC 74 [.i .i64 ((lv:Int)+1),.i .i64 (s%2^(lv+1))] (.i .i64 (Dir.plc (lv+1) s)):=jV (lv+1) (by omega) s
theorem At_2{lv:Nat}(hl:lv≤3)(s:Nat)(hs:s≤64):Pure TC 74 [.i .i64 ((lv:Int)+1),.i .i64 (s:Int)] (.i .i64 ((2^(lv+1)+s:Nat):Int)):=by
 have:=iZ (lv+1) (by omega) s (by omega) (by omega)
 have e:((2^(lv+1)+s:Nat):Int)=2^(lv+1)+(s:Int):=by simp
 rw[e];exact this
section
variable{W:Nat→Int}{H:Nat→List Dir.Ent}{n:Int}{F:Nat→List SV}(hF:OKF F){w:Nat}(hw:w<64){a b c d x1 x2 x3 x4 x5:SV}(fa:a.free=true∧SV.Lt 0 a)(fb:b.free=true∧SV.Lt 0 b)(fc:c.free=true∧SV.Lt 0 c)(fd:d.free=true∧SV.Lt 0 d)
include hF hw fa fb fc fd
theorem doc_P2k{s:Int}(s0:0≤s)(s1:s<18446744073709551616){lv v:Nat}(hl:lv≤3)(hv:v<32)(hR:F w=[a,b,c,d,.i .i64 2,.i .i64 lv,.any,x3,x4,.i .i64 v]) :
  Fun TC 38 1 [.ptr 0 0,.rp 0 10 w 69,.i .u64 s,.b false] [(0,some (dB W H n F))] 1 ev0
   [(0,some (dB W H n (bF F w (if 4611686018427387904≤W v then[a,b,c,d,.i .i64 4,.i .i64 lv,.any,.any,.any,.i .i64 (Dir.plc (lv+1) s)]else[a,b,c,d,.i .i64 3,.i .i64 lv,.any,.any,.i .u64 (W v),.i .i64 v]))))]:=by
 have hm:=nh hl s0 s1
 have hA:=At_1 hl s
 refine Fun.mk' Tryz.func38 rfl rfl zN (by decide) ?_
 (repeat' (first|((first|with_reducible refine IxA.rp ?_|refine CfV.seg rfl ?_|refine CfS.seg rfl rfl rfl ?_);conv=>whnf)|((with_reducible refine And.intro ?hb ?_);(case hb=>exact zz0);(conv=>whnf))|((first|refine aD.same ?_|refine aD.st hR ?_|with_reducible refine aD.nat ?_|refine Wp.any ab rfl ?_|(with_reducible first|refine Go.mk ?_|apply am.of|refine Ov.ok zO ?_)|refine zV ?_|with_reducible refine And.intro zC ?_);conv=>whnf)|(with_reducible refine aa.inline Tryz.func71 rfl rfl rfl (zzb rfl) ?_)|((with_reducible first|refine aa.pure (hm) rfl rfl ?_|refine aa.pure (hA) rfl rfl ?_);conv=>whnf)|((refine au (fun hc=>?_) (fun hc=>?_))<;>(try simp only[wz9]at hc)<;>(try (exfalso;omega))<;>(conv=>whnf))))
 all_goals first
  | (rw[if_pos (by omega)];(try simp only[Q13,Int.toNat_zero,ax,av,ah]);(refine af.of [0] rfl (fun i hi=>by have:i=0:=(by omega);subst this;rfl) rfl ?_ ?_);(focus exact .rfl _);refine⟨bn.seg (m:=0) rfl (by decide) (az hF rfl (by intro v hv;simp only[List.mem_cons,List.not_mem_nil,or_false]at hv;rcases hv with h|h|h|h|h|h|h|h|h|h<;>subst h<;>first|exact .of rfl|exact fa.2|exact fb.2|exact fc.2|exact fd.2|assumption) ?_),trivial⟩;((conv=>whnf);repeat' (first|exact zD9|((with_reducible refine And.intro ?_ ?_)<;>(conv=>whnf)))))
  | (rw[if_neg (by omega)];(try simp only[Q13,Int.toNat_zero,ax,av,ah]);(refine af.of [0] rfl (fun i hi=>by have:i=0:=(by omega);subst this;rfl) rfl ?_ ?_);(focus exact .rfl _);refine⟨bn.seg (m:=0) rfl (by decide) (az hF rfl (by intro v hv;simp only[List.mem_cons,List.not_mem_nil,or_false]at hv;rcases hv with h|h|h|h|h|h|h|h|h|h<;>subst h<;>first|exact .of rfl|exact fa.2|exact fb.2|exact fc.2|exact fd.2|assumption) ?_),trivial⟩;((conv=>whnf);repeat' (first|exact zD9|((with_reducible refine And.intro ?_ ?_)<;>(conv=>whnf)))))
theorem doc_P2s{lv v sh:Nat}(hl:lv≤3)(hv:v<32)(hs:sh≤16)(hR:F w=[a,b,c,d,.i .i64 2,.i .i64 lv,.i .i64 sh,x3,x4,.i .i64 v]) :
  Fun TC 38 1 [.ptr 0 0,.rp 0 10 w 69,.any,.b true] [(0,some (dB W H n F))] 1 ev0
   [(0,some (dB W H n (bF F w (if 4611686018427387904≤W v then[a,b,c,d,.i .i64 4,.i .i64 lv,.i .i64 sh,.b false,.any,.i .i64 (2^(lv+1)+sh:Nat)]else[a,b,c,d,.i .i64 3,.i .i64 lv,.i .i64 sh,.any,.i .u64 (W v),.i .i64 v]))))]:=by
 have hA:=At_2 hl sh (by omega)
 refine Fun.mk' Tryz.func38 rfl rfl zN (by decide) ?_
 (repeat' (first|((first|with_reducible refine IxA.rp ?_|refine CfV.seg rfl ?_|refine CfS.seg rfl rfl rfl ?_);conv=>whnf)|((with_reducible refine And.intro ?hb ?_);(case hb=>exact zz0);(conv=>whnf))|((first|refine aD.same ?_|refine aD.st hR ?_|with_reducible refine aD.nat ?_|refine Wp.any ab rfl ?_|(with_reducible first|refine Go.mk ?_|apply am.of|refine Ov.ok zO ?_)|refine zV ?_|with_reducible refine And.intro zC ?_);conv=>whnf)|(with_reducible refine aa.inline Tryz.func71 rfl rfl rfl (zzb rfl) ?_)|((with_reducible refine aa.pure (hA) rfl rfl ?_);conv=>whnf)|((refine au (fun hc=>?_) (fun hc=>?_))<;>(try simp only[wz9]at hc)<;>(try (exfalso;omega))<;>(conv=>whnf))))
 all_goals first
  | (rw[if_pos (by omega)];(try simp only[Q13,Int.toNat_zero,ax,av,ah]);(refine af.of [0] rfl (fun i hi=>by have:i=0:=(by omega);subst this;rfl) rfl ?_ ?_);(focus exact .rfl _);refine⟨bn.seg (m:=0) rfl (by decide) (az hF rfl (by intro v hv;simp only[List.mem_cons,List.not_mem_nil,or_false]at hv;rcases hv with h|h|h|h|h|h|h|h|h|h<;>subst h<;>first|exact .of rfl|exact fa.2|exact fb.2|exact fc.2|exact fd.2|assumption) ?_),trivial⟩;((conv=>whnf);repeat' (first|exact zD9|((with_reducible refine And.intro ?_ ?_)<;>(conv=>whnf)))))
  | (rw[if_neg (by omega)];(try simp only[Q13,Int.toNat_zero,ax,av,ah]);(refine af.of [0] rfl (fun i hi=>by have:i=0:=(by omega);subst this;rfl) rfl ?_ ?_);(focus exact .rfl _);refine⟨bn.seg (m:=0) rfl (by decide) (az hF rfl (by intro v hv;simp only[List.mem_cons,List.not_mem_nil,or_false]at hv;rcases hv with h|h|h|h|h|h|h|h|h|h<;>subst h<;>first|exact .of rfl|exact fa.2|exact fb.2|exact fc.2|exact fd.2|assumption) ?_),trivial⟩;((conv=>whnf);repeat' (first|exact zD9|((with_reducible refine And.intro ?_ ?_)<;>(conv=>whnf)))))
theorem doc_P3k{s:Int}(s0:0≤s)(s1:s<18446744073709551616){lv v:Nat}(hl:lv≤3)(hv:v<32){x:Int}(hx0:0≤x)(hx:x<4611686018427387904)(hR:F w=[a,b,c,d,.i .i64 3,.i .i64 lv,.any,x3,.i .u64 x,.i .i64 v]) :
  Fun TC 38 1 [.ptr 0 0,.rp 0 10 w 69,.i .u64 s,.b false] [(0,some (dB W H n F))] 1 ev0
   [(0,some (dB (if W v=x then Dir.upd W v (x+4611686018427387904)else W) H n (bF F w (if W v=x then[a,b,c,d,.i .i64 4,.i .i64 lv,.any,.any,.any,.i .i64 (Dir.plc (lv+1) s)]else[a,b,c,d,.i .i64 2,.i .i64 lv,.any,.any,.any,.i .i64 v]))))]:=by
 have hm:=nh hl s0 s1
 have hA:=At_1 hl s
 by_cases e:W v=x
 ·rw[if_pos e,if_pos e]
  refine Fun.mk' Tryz.func38 rfl rfl zN (by decide) ?_
  (repeat' (first|((first|with_reducible refine IxA.rp ?_|refine CfV.seg rfl ?_|refine CfS.seg rfl rfl rfl ?_);conv=>whnf)|((with_reducible refine And.intro ?hb ?_);(case hb=>exact zz0);(conv=>whnf))|((first|refine aD.same ?_|refine aD.st hR ?_|with_reducible refine aD.nat ?_|refine Wp.any ab rfl ?_|(with_reducible first|refine Go.mk ?_|apply am.of|refine Ov.ok zO ?_)|refine zV ?_|with_reducible refine And.intro zC ?_);conv=>whnf)|(with_reducible refine aa.inline Tryz.func71 rfl rfl rfl (zzb rfl) ?_)|((with_reducible first|refine aa.pure (hm) rfl rfl ?_|refine aa.pure (hA) rfl rfl ?_);conv=>whnf)|((refine au (fun hc=>?_) (fun hc=>?_))<;>(try simp only[wz9]at hc)<;>(try (exfalso;omega))<;>(conv=>whnf))))
  all_goals subst e
  all_goals first|(exfalso;simp only[beq_iff_eq,beq_eq_false_iff_ne,decide_eq_true_eq,decide_eq_false_iff_not,ge_iff_le]at *;omega)|((try simp only[Q13,Int.toNat_zero,ax,av,ah]);(refine af.of [0] rfl (fun i hi=>by have:i=0:=(by omega);subst this;rfl) rfl ?_ ?_);(focus exact .rfl _);refine⟨bn.seg (m:=0) rfl (by decide) (az hF rfl (by intro v hv;simp only[List.mem_cons,List.not_mem_nil,or_false]at hv;rcases hv with h|h|h|h|h|h|h|h|h|h<;>subst h<;>first|exact .of rfl|exact fa.2|exact fb.2|exact fc.2|exact fd.2|assumption) ?_),trivial⟩;((conv=>whnf);repeat' (first|exact zD9|((with_reducible refine And.intro ?_ ?_)<;>(conv=>whnf)))))
 ·rw[if_neg e,if_neg e]
  refine Fun.mk' Tryz.func38 rfl rfl zN (by decide) ?_
  (repeat' (first|((first|with_reducible refine IxA.rp ?_|refine CfV.seg rfl ?_|refine CfS.seg rfl rfl rfl ?_);conv=>whnf)|((with_reducible refine And.intro ?hb ?_);(case hb=>exact zz0);(conv=>whnf))|((first|refine aD.st hR ?_|with_reducible refine aD.nat ?_|refine Wp.any ab rfl ?_|(with_reducible first|refine Go.mk ?_|apply am.of)|refine zV ?_|with_reducible refine And.intro zC ?_);conv=>whnf)|((refine au (fun hc=>?_) (fun hc=>?_))<;>(try simp only[wz9]at hc)<;>(try (exfalso;omega))<;>(conv=>whnf))))
  all_goals first|(exfalso;simp only[beq_iff_eq,beq_eq_false_iff_ne,decide_eq_true_eq,decide_eq_false_iff_not,ge_iff_le]at *;omega)|((try simp only[Q13,Int.toNat_zero,ax,av,ah]);(refine af.of [0] rfl (fun i hi=>by have:i=0:=(by omega);subst this;rfl) rfl ?_ ?_);(focus exact .rfl _);refine⟨bn.seg (m:=0) rfl (by decide) (az hF rfl (by intro v hv;simp only[List.mem_cons,List.not_mem_nil,or_false]at hv;rcases hv with h|h|h|h|h|h|h|h|h|h<;>subst h<;>first|exact .of rfl|exact fa.2|exact fb.2|exact fc.2|exact fd.2|assumption) ?_),trivial⟩;((conv=>whnf);repeat' (first|exact zD9|((with_reducible refine And.intro ?_ ?_)<;>(conv=>whnf)))))
theorem doc_P3s{lv v sh:Nat}(hl:lv≤3)(hv:v<32)(hs:sh≤16){x:Int}(hx0:0≤x)(hx:x<4611686018427387904)(hR:F w=[a,b,c,d,.i .i64 3,.i .i64 lv,.i .i64 sh,x3,.i .u64 x,.i .i64 v]) :
  Fun TC 38 1 [.ptr 0 0,.rp 0 10 w 69,.any,.b true] [(0,some (dB W H n F))] 1 ev0
   [(0,some (dB (if W v=x then Dir.upd W v (x+4611686018427387904)else W) H n (bF F w (if W v=x then[a,b,c,d,.i .i64 4,.i .i64 lv,.i .i64 sh,.b false,.any,.i .i64 (2^(lv+1)+sh:Nat)]else[a,b,c,d,.i .i64 2,.i .i64 lv,.i .i64 sh,.any,.any,.i .i64 v]))))]:=by
 have hA:=At_2 hl sh (by omega)
 by_cases e:W v=x
 ·rw[if_pos e,if_pos e]
  refine Fun.mk' Tryz.func38 rfl rfl zN (by decide) ?_
  (repeat' (first|((first|with_reducible refine IxA.rp ?_|refine CfV.seg rfl ?_|refine CfS.seg rfl rfl rfl ?_);conv=>whnf)|((with_reducible refine And.intro ?hb ?_);(case hb=>exact zz0);(conv=>whnf))|((first|refine aD.same ?_|refine aD.st hR ?_|with_reducible refine aD.nat ?_|refine Wp.any ab rfl ?_|(with_reducible first|refine Go.mk ?_|apply am.of|refine Ov.ok zO ?_)|refine zV ?_|with_reducible refine And.intro zC ?_);conv=>whnf)|(with_reducible refine aa.inline Tryz.func71 rfl rfl rfl (zzb rfl) ?_)|((with_reducible refine aa.pure (hA) rfl rfl ?_);conv=>whnf)|((refine au (fun hc=>?_) (fun hc=>?_))<;>(try simp only[wz9]at hc)<;>(try (exfalso;omega))<;>(conv=>whnf))))
  all_goals subst e
  all_goals first|(exfalso;simp only[beq_iff_eq,beq_eq_false_iff_ne,decide_eq_true_eq,decide_eq_false_iff_not,ge_iff_le]at *;omega)|((try simp only[Q13,Int.toNat_zero,ax,av,ah]);(refine af.of [0] rfl (fun i hi=>by have:i=0:=(by omega);subst this;rfl) rfl ?_ ?_);(focus exact .rfl _);refine⟨bn.seg (m:=0) rfl (by decide) (az hF rfl (by intro v hv;simp only[List.mem_cons,List.not_mem_nil,or_false]at hv;rcases hv with h|h|h|h|h|h|h|h|h|h<;>subst h<;>first|exact .of rfl|exact fa.2|exact fb.2|exact fc.2|exact fd.2|assumption) ?_),trivial⟩;((conv=>whnf);repeat' (first|exact zD9|((with_reducible refine And.intro ?_ ?_)<;>(conv=>whnf)))))
 ·rw[if_neg e,if_neg e]
  refine Fun.mk' Tryz.func38 rfl rfl zN (by decide) ?_
  (repeat' (first|((first|with_reducible refine IxA.rp ?_|refine CfV.seg rfl ?_|refine CfS.seg rfl rfl rfl ?_);conv=>whnf)|((with_reducible refine And.intro ?hb ?_);(case hb=>exact zz0);(conv=>whnf))|((first|refine aD.st hR ?_|with_reducible refine aD.nat ?_|refine Wp.any ab rfl ?_|(with_reducible first|refine Go.mk ?_|apply am.of)|refine zV ?_|with_reducible refine And.intro zC ?_);conv=>whnf)|((refine au (fun hc=>?_) (fun hc=>?_))<;>(try simp only[wz9]at hc)<;>(try (exfalso;omega))<;>(conv=>whnf))))
  all_goals first|(exfalso;simp only[beq_iff_eq,beq_eq_false_iff_ne,decide_eq_true_eq,decide_eq_false_iff_not,ge_iff_le]at *;omega)|((try simp only[Q13,Int.toNat_zero,ax,av,ah]);(refine af.of [0] rfl (fun i hi=>by have:i=0:=(by omega);subst this;rfl) rfl ?_ ?_);(focus exact .rfl _);refine⟨bn.seg (m:=0) rfl (by decide) (az hF rfl (by intro v hv;simp only[List.mem_cons,List.not_mem_nil,or_false]at hv;rcases hv with h|h|h|h|h|h|h|h|h|h<;>subst h<;>first|exact .of rfl|exact fa.2|exact fb.2|exact fc.2|exact fd.2|assumption) ?_),trivial⟩;((conv=>whnf);repeat' (first|exact zD9|((with_reducible refine And.intro ?_ ?_)<;>(conv=>whnf)))))
end
end
section
@[reducible] def onR(a b c d:SV)(lv sh:Nat)(up:Bool):List SV :=
 if up then(if sh+1=2^lv then[a,b,c,d,.i .i64 8,.i .i64 lv,.any,.any,.any,.any]else[a,b,c,d,.i .i64 2,.i .i64 lv,.i .i64 ((sh:Int)+1),.any,.any,.i .i64 (2^lv+(sh+1):Nat)])
 else[a,b,c,d,.i .i64 4,.i .i64 lv,.i .i64 sh,.b true,.any,.i .i64 (2^(lv+1)+(sh+2^lv):Nat)]
theorem dO{lv:Nat}(hl:lv≤4):(0:Int)<2^lv∧(2:Int)^lv≤16∧((2^lv:Nat):Int)=2^lv:=by
 have hlv:lv=0∨lv=1∨lv=2∨lv=3∨lv=4:=by omega
 rcases hlv with rfl|rfl|rfl|rfl|rfl<;>decide
theorem At_3{lv:Nat}(hl:lv≤3){s:Nat}(hs:s<2^lv):Pure TC 74 [.i .i64 ((lv:Int)+1),.i .i64 ((s:Int)+2^lv)] (.i .i64 ((2^(lv+1)+(s+2^lv):Nat):Int)):=by
 obtain⟨p1,p2,p3⟩:=dO (show lv≤4 by omega)
 have:=At_2 hl (s+2^lv) (by omega)
 rwa [show((s+2^lv:Nat):Int)=(s:Int)+2^lv by rw[Int.natCast_add,p3]]at this
theorem At_4{lv:Nat}(hl:lv≤3){s:Nat}(hs:s+1≤2^lv):Pure TC 74 [.i .i64 (lv:Int),.i .i64 ((s:Int)+1)] (.i .i64 ((2^lv+(s+1):Nat):Int)):=by
 obtain⟨p1,p2,p3⟩:=dO (show lv≤4 by omega)
 have:=iZ lv (by omega) ((s:Int)+1) (by omega) (by omega)
 rwa [show((2^lv+(s+1):Nat):Int)=2^lv+((s:Int)+1)by rw[Int.natCast_add,p3];rfl]
section
variable{W:Nat→Int}{H:Nat→List Dir.Ent}{n:Int}{F:Nat→List SV}(hF:OKF F){w:Nat}(hw:w<64){a b c d x1 x2 x3 x4 x5:SV}(fa:a.free=true∧SV.Lt 0 a)(fb:b.free=true∧SV.Lt 0 b)(fc:c.free=true∧SV.Lt 0 c)(fd:d.free=true∧SV.Lt 0 d)
include hF hw fa fb fc fd
theorem nZ{g:SV}{v:Nat}{L:Int}(hv:v<32)(hR:F w=[a,b,c,d,.i .i64 4,.i .i64 L,x2,x3,x4,.i .i64 v])(y2:x2.free=true)(z2:SV.Lt 0 x2)(y3:x3.free=true)(z3:SV.Lt 0 x3){sp:Bool}(hc:W v=0) :
  Fun TC 38 1 [.ptr 0 0,.rp 0 10 w 69,g,.b sp] [(0,some (dB W H n F))] 1 ev0
   [(0,some (dB W H n (bF F w [a,b,c,d,.i .i64 5,.i .i64 L,x2,x3,.any,.i .i64 v])))]:=by
 refine Fun.mk' Tryz.func38 rfl rfl zN (by decide) ?_
 (repeat' (first|((first|with_reducible refine IxA.rp ?_|refine CfV.seg rfl ?_|refine CfS.seg rfl rfl rfl ?_);conv=>whnf)|((with_reducible refine And.intro ?hb ?_);(case hb=>exact zz0);(conv=>whnf))|((first|refine aD.same ?_|refine aD.st hR ?_|with_reducible refine aD.nat ?_|refine Wp.any ab rfl ?_|(with_reducible first|refine Go.mk ?_|apply am.of)|refine zV ?_|with_reducible refine And.intro zC ?_);conv=>whnf)|(with_reducible refine aa.inline Tryz.func72 rfl rfl rfl (zzb rfl) ?_)|((refine au (fun hc=>?_) (fun hc=>?_))<;>(try simp only[wz9]at hc)<;>(try (exfalso;omega))<;>(conv=>whnf))))
 (try simp only[Q13,Int.toNat_zero,ax,av,ah]);(refine af.of [0] rfl (fun i hi=>by have:i=0:=(by omega);subst this;rfl) rfl ?_ ?_);(focus exact .rfl _);refine⟨bn.seg (m:=0) rfl (by decide) (az hF rfl (by intro v hv;simp only[List.mem_cons,List.not_mem_nil,or_false]at hv;rcases hv with h|h|h|h|h|h|h|h|h|h<;>subst h<;>first|exact .of rfl|exact fa.2|exact fb.2|exact fc.2|exact fd.2|assumption) ?_),trivial⟩;((conv=>whnf);repeat' (first|exact zD9|((with_reducible refine And.intro ?_ ?_)<;>(conv=>whnf))))
theorem doc_P4e{g:SV}{v:Nat}{L:Int}(hv:v<32)(hR:F w=[a,b,c,d,.i .i64 4,.i .i64 L,x2,x3,x4,.i .i64 v])(hc:4611686018427387904≤W v) :
  Fun TC 38 1 [.ptr 0 0,.rp 0 10 w 69,g,.b false] [(0,some (dB W H n F))] 1 ev0
   [(0,some (dB W H n (bF F w [a,b,c,d,.i .i64 0,.any,.any,.any,.any,.any])))]:=by
 refine Fun.mk' Tryz.func38 rfl rfl zN (by decide) ?_
 (repeat' (first|((first|with_reducible refine IxA.rp ?_|refine CfV.seg rfl ?_|refine CfS.seg rfl rfl rfl ?_);conv=>whnf)|((with_reducible refine And.intro ?hb ?_);(case hb=>exact zz0);(conv=>whnf))|((first|refine aD.same ?_|refine aD.st hR ?_|with_reducible refine aD.nat ?_|refine Wp.any ab rfl ?_|(with_reducible first|refine Go.mk ?_|apply am.of)|refine zV ?_|with_reducible refine And.intro zC ?_);conv=>whnf)|(with_reducible refine aa.inline Tryz.func72 rfl rfl rfl (zzb rfl) ?_)|((refine au (fun hc=>?_) (fun hc=>?_))<;>(try simp only[wz9]at hc)<;>(try (exfalso;omega))<;>(conv=>whnf))))
 all_goals first|(exfalso;simp only[beq_iff_eq,beq_eq_false_iff_ne,decide_eq_true_eq,decide_eq_false_iff_not,ge_iff_le]at *;omega)|((try simp only[Q13,Int.toNat_zero,ax,av,ah]);(refine af.of [0] rfl (fun i hi=>by have:i=0:=(by omega);subst this;rfl) rfl ?_ ?_);(focus exact .rfl _);refine⟨bn.seg (m:=0) rfl (by decide) (az hF rfl (by intro v hv;simp only[List.mem_cons,List.not_mem_nil,or_false]at hv;rcases hv with h|h|h|h|h|h|h|h|h|h<;>subst h<;>first|exact .of rfl|exact fa.2|exact fb.2|exact fc.2|exact fd.2|assumption) ?_),trivial⟩;((conv=>whnf);repeat' (first|exact zD9|((with_reducible refine And.intro ?_ ?_)<;>(conv=>whnf)))))
theorem doc_P4f{g:SV}{v:Nat}{L:Int}(hv:v<32)(hR:F w=[a,b,c,d,.i .i64 4,.i .i64 L,x2,x3,x4,.i .i64 v])(hc:¬(W v=0∨4611686018427387904≤W v)) :
  Fun TC 38 1 [.ptr 0 0,.rp 0 10 w 69,g,.b false] [(0,some (dB W H n F))] 1 evF
   [(0,some (dB W H n (bF F w [a,b,c,d,.i .i64 9,.any,.any,.any,.i .u64 (W v),.i .i64 v])))]:=by
 refine Fun.mk' Tryz.func38 rfl rfl zN (by decide) ?_
 (repeat' (first|((first|with_reducible refine IxA.rp ?_|refine CfV.seg rfl ?_|refine CfS.seg rfl rfl rfl ?_);conv=>whnf)|((with_reducible refine And.intro ?hb ?_);(case hb=>exact zz0);(conv=>whnf))|((first|refine aD.same ?_|refine aD.st hR ?_|with_reducible refine aD.nat ?_|refine Wp.any ab rfl ?_|(with_reducible first|refine Go.mk ?_|apply am.of)|refine zV ?_|with_reducible refine And.intro zC ?_);conv=>whnf)|(with_reducible refine aa.inline Tryz.func72 rfl rfl rfl (zzb rfl) ?_)|((refine au (fun hc=>?_) (fun hc=>?_))<;>(try simp only[wz9]at hc)<;>(try (exfalso;omega))<;>(conv=>whnf))))
 all_goals first|(exfalso;simp only[beq_iff_eq,beq_eq_false_iff_ne,decide_eq_true_eq,decide_eq_false_iff_not,ge_iff_le]at *;omega)|((try simp only[Q13,Int.toNat_zero,ax,av,ah]);(refine af.of [0] rfl (fun i hi=>by have:i=0:=(by omega);subst this;rfl) rfl ?_ ?_);(focus exact .rfl _);refine⟨bn.seg (m:=0) rfl (by decide) (az hF rfl (by intro v hv;simp only[List.mem_cons,List.not_mem_nil,or_false]at hv;rcases hv with h|h|h|h|h|h|h|h|h|h<;>subst h<;>first|exact .of rfl|exact fa.2|exact fb.2|exact fc.2|exact fd.2|assumption) ?_),trivial⟩;((conv=>whnf);repeat' (first|exact zD9|((with_reducible refine And.intro ?_ ?_)<;>(conv=>whnf)))))
theorem doc_P4s{lv sh v:Nat}{up:Bool}(hl:lv≤3)(hs:sh<2^lv)(hv:v<32)(hR:F w=[a,b,c,d,.i .i64 4,.i .i64 lv,.i .i64 sh,.b up,x4,.i .i64 v])(hc:W v≠0) :
  Fun TC 38 1 [.ptr 0 0,.rp 0 10 w 69,.any,.b true] [(0,some (dB W H n F))] 1 ev0
   [(0,some (dB W H n (bF F w (onR a b c d lv sh up))))]:=by
 obtain⟨p1,p2,p3⟩:=dO (show lv≤4 by omega)
 have hsh:=bQ (show lv≤4 by omega)
 have hA3:=At_3 hl hs
 have hA4:=At_4 hl (s:=sh) (by omega)
 rw[← hsh]at hA3
 cases up with
 | false =>
  refine Fun.mk' Tryz.func38 rfl rfl zN (by decide) ?_
  (repeat' (first|((first|with_reducible refine IxA.rp ?_|refine CfV.seg rfl ?_|refine CfS.seg rfl rfl rfl ?_);conv=>whnf)|((with_reducible refine And.intro ?hb ?_);(case hb=>exact zz0);(conv=>whnf))|((first|refine aD.same ?_|refine aD.st hR ?_|with_reducible refine aD.nat ?_|refine Wp.any ab rfl ?_|(with_reducible first|refine Go.mk ?_|apply am.of|refine Ov.ok zO ?_)|refine zV ?_|with_reducible refine And.intro zC ?_);conv=>whnf)|(with_reducible refine aa.inline Tryz.func72 rfl rfl rfl (zzb rfl) ?_)|(with_reducible refine aa.inline Tryz.func101 rfl rfl rfl (zzb rfl) ?_)|(with_reducible refine aa.inline Tryz.func71 rfl rfl rfl (zzb rfl) ?_)|((with_reducible refine aa.pure (hA3) rfl rfl ?_);conv=>whnf)|((refine au (fun hc=>?_) (fun hc=>?_))<;>(try simp only[wz9]at hc)<;>(try (exfalso;omega))<;>(conv=>whnf))))
  all_goals rw[show onR a b c d lv sh false=[a,b,c,d,.i .i64 4,.i .i64 lv,.i .i64 sh,.b true,.any,.i .i64 (2^(lv+1)+(sh+2^lv):Nat)]from rfl]
  all_goals first|(exfalso;simp only[beq_iff_eq,beq_eq_false_iff_ne,decide_eq_true_eq,decide_eq_false_iff_not,ge_iff_le]at *;omega)|((try simp only[Q13,Int.toNat_zero,ax,av,ah]);(refine af.of [0] rfl (fun i hi=>by have:i=0:=(by omega);subst this;rfl) rfl ?_ ?_);(focus exact .rfl _);refine⟨bn.seg (m:=0) rfl (by decide) (az hF rfl (by intro v hv;simp only[List.mem_cons,List.not_mem_nil,or_false]at hv;rcases hv with h|h|h|h|h|h|h|h|h|h<;>subst h<;>first|exact .of rfl|exact fa.2|exact fb.2|exact fc.2|exact fd.2|assumption) ?_),trivial⟩;((conv=>whnf);repeat' (first|exact zD9|((with_reducible refine And.intro ?_ ?_)<;>(conv=>whnf)))))
 | true =>
  refine Fun.mk' Tryz.func38 rfl rfl zN (by decide) ?_
  (repeat' (first|((first|with_reducible refine IxA.rp ?_|refine CfV.seg rfl ?_|refine CfS.seg rfl rfl rfl ?_);conv=>whnf)|((with_reducible refine And.intro ?hb ?_);(case hb=>exact zz0);(conv=>whnf))|((first|refine aD.same ?_|refine aD.st hR ?_|with_reducible refine aD.nat ?_|refine Wp.any ab rfl ?_|(with_reducible first|refine Go.mk ?_|apply am.of|refine Ov.ok zO ?_)|refine zV ?_|with_reducible refine And.intro zC ?_);conv=>whnf)|(with_reducible refine aa.inline Tryz.func72 rfl rfl rfl (zzb rfl) ?_)|(with_reducible refine aa.inline Tryz.func101 rfl rfl rfl (zzb rfl) ?_)|((with_reducible refine ai.pure (hA4) rfl rfl ?_);conv=>whnf)|((refine au (fun hc=>?_) (fun hc=>?_))<;>(try simp only[wz9]at hc)<;>(try (exfalso;omega))<;>(conv=>whnf))))
  all_goals unfold onR
  all_goals first
   | (exfalso;simp only[beq_iff_eq,beq_eq_false_iff_ne,decide_eq_true_eq,decide_eq_false_iff_not,ge_iff_le]at *;omega)
   | (rw[if_pos rfl,if_pos (by omega)];(try simp only[Q13,Int.toNat_zero,ax,av,ah]);(refine af.of [0] rfl (fun i hi=>by have:i=0:=(by omega);subst this;rfl) rfl ?_ ?_);(focus exact .rfl _);refine⟨bn.seg (m:=0) rfl (by decide) (az hF rfl (by intro v hv;simp only[List.mem_cons,List.not_mem_nil,or_false]at hv;rcases hv with h|h|h|h|h|h|h|h|h|h<;>subst h<;>first|exact .of rfl|exact fa.2|exact fb.2|exact fc.2|exact fd.2|assumption) ?_),trivial⟩;((conv=>whnf);repeat' (first|exact zD9|((with_reducible refine And.intro ?_ ?_)<;>(conv=>whnf)))))
   | (rw[if_pos rfl,if_neg (by omega)];(try simp only[Q13,Int.toNat_zero,ax,av,ah]);(refine af.of [0] rfl (fun i hi=>by have:i=0:=(by omega);subst this;rfl) rfl ?_ ?_);(focus exact .rfl _);refine⟨bn.seg (m:=0) rfl (by decide) (az hF rfl (by intro v hv;simp only[List.mem_cons,List.not_mem_nil,or_false]at hv;rcases hv with h|h|h|h|h|h|h|h|h|h<;>subst h<;>first|exact .of rfl|exact fa.2|exact fb.2|exact fc.2|exact fd.2|assumption) ?_),trivial⟩;((conv=>whnf);repeat' (first|exact zD9|((with_reducible refine And.intro ?_ ?_)<;>(conv=>whnf)))))
end
end
section
@[reducible] def evD(e:Bool):SV:=.agg [.b false,.i .i64 0,.i .i64 0,.i .i64 0,.i .i64 0,.b false,.b true,.b e]
theorem At_0{lv:Nat}(hl:lv≤4):Pure TC 74 [.i .i64 (lv:Int),.i .i64 0] (.i .i64 ((2^lv+0:Nat):Int)):=by
 obtain⟨p1,p2,p3⟩:=dO hl
 have:=iZ lv hl 0 (by omega) (by omega)
 rwa [show((2^lv+0:Nat):Int)=2^lv+0 by rw[Int.natCast_add,p3];rfl]
section
variable{W:Nat→Int}{H:Nat→List Dir.Ent}{n:Int}{F:Nat→List SV}(hF:OKF F){w:Nat}(hw:w<64){a b c d x1 x2 x3 x4 x5:SV}(fa:a.free=true∧SV.Lt 0 a)(fb:b.free=true∧SV.Lt 0 b)(fc:c.free=true∧SV.Lt 0 c)(fd:d.free=true∧SV.Lt 0 d)
include hF hw fa fb fc fd
theorem doc_P0s(h0:0≤W 0)(h8:W 0≤8)(hR:F w=[a,b,c,d,.i .i64 0,x1,x2,x3,x4,x5]){lv:Nat}(hlv:W 0/2=lv) :
  Fun TC 38 1 [.ptr 0 0,.rp 0 10 w 69,.any,.b true] [(0,some (dB W H n F))] 1 (if W 0%2=1 then ev0 else if W 0/2=4 then evD true else ev0)
   [(0,some (dB W H n (bF F w (if W 0%2=1 then[a,b,c,d,.i .i64 2,.i .i64 lv,.i .i64 0,.any,.any,.i .i64 (2^lv+0:Nat)]else if W 0/2=4 then[a,b,c,d,.i .i64 11,.any,.any,.any,.any,.any]else[a,b,c,d,.i .i64 7,.i .i64 lv,.any,.any,.i .u64 (2*(lv:Int)),.any]))))]:=by
 have qr:(W 0).tmod 2=W 0%2:=Q6 h0
 have hA:=At_0 (show lv≤4 by omega)
 rw[← hlv]at hA⊢
 by_cases e1:W 0%2=1
 ·rw[if_pos e1,if_pos e1]
  refine Fun.mk' Tryz.func38 rfl rfl zN (by decide) ?_
  (repeat' (first|((first|with_reducible refine IxA.rp ?_|refine CfV.seg rfl ?_|refine CfS.seg rfl rfl rfl ?_);conv=>whnf)|((with_reducible refine And.intro ?hb ?_);(case hb=>exact zz0);(conv=>whnf))|((first|refine aD.same ?_|refine aD.st hR ?_|with_reducible refine aD.zero ?_|refine Wp.any ab rfl ?_|(with_reducible first|refine Go.mk ?_|apply am.of|refine Ov.ok zO ?_|refine And.intro zC ?_));conv=>whnf)|(with_reducible refine Ov.tdivN (by omega) ?_)|(with_reducible refine aa.inline Tryz.func70 rfl rfl rfl (zzb rfl) ?_)|((with_reducible refine aa.pure (hA) rfl rfl ?_);conv=>whnf)|((refine au (fun hc=>?_) (fun hc=>?_))<;>(try simp only[wz9,qr]at hc)<;>(try (exfalso;omega))<;>(conv=>whnf))))
  all_goals first|(exfalso;simp only[beq_iff_eq,beq_eq_false_iff_ne,decide_eq_true_eq,decide_eq_false_iff_not,ge_iff_le]at *;omega)|((try simp only[Q13,Int.toNat_zero,ax,av,ah]);(refine af.of [0] rfl (fun i hi=>by have:i=0:=(by omega);subst this;rfl) rfl ?_ ?_);(focus exact .rfl _);refine⟨bn.seg (m:=0) rfl (by decide) (az hF rfl (by intro v hv;simp only[List.mem_cons,List.not_mem_nil,or_false]at hv;rcases hv with h|h|h|h|h|h|h|h|h|h<;>subst h<;>first|exact .of rfl|exact fa.2|exact fb.2|exact fc.2|exact fd.2|assumption) ?_),trivial⟩;((conv=>whnf);repeat' (first|exact zD9|((with_reducible refine And.intro ?_ ?_)<;>(conv=>whnf)))))
 ·rw[if_neg e1,if_neg e1]
  by_cases e2:W 0/2=4
  ·rw[if_pos e2,if_pos e2]
   refine Fun.mk' Tryz.func38 rfl rfl zN (by decide) ?_
   (repeat' (first|((first|with_reducible refine IxA.rp ?_|refine CfV.seg rfl ?_|refine CfS.seg rfl rfl rfl ?_);conv=>whnf)|((with_reducible refine And.intro ?hb ?_);(case hb=>exact zz0);(conv=>whnf))|((first|refine aD.same ?_|refine aD.st hR ?_|with_reducible refine aD.zero ?_|refine Wp.any ab rfl ?_|(with_reducible first|refine Go.mk ?_|apply am.of|refine Ov.ok zO ?_|refine And.intro zC ?_));conv=>whnf)|(with_reducible refine Ov.tdivN (by omega) ?_)|(with_reducible refine aa.inline Tryz.func70 rfl rfl rfl (zzb rfl) ?_)|((refine au (fun hc=>?_) (fun hc=>?_))<;>(try simp only[wz9,qr]at hc)<;>(try (exfalso;omega))<;>(conv=>whnf))))
   all_goals first|(exfalso;simp only[beq_iff_eq,beq_eq_false_iff_ne,decide_eq_true_eq,decide_eq_false_iff_not,ge_iff_le]at *;omega)|((try simp only[Q13,Int.toNat_zero,ax,av,ah]);(refine af.of [0] rfl (fun i hi=>by have:i=0:=(by omega);subst this;rfl) rfl ?_ ?_);(focus exact .rfl _);refine⟨bn.seg (m:=0) rfl (by decide) (az hF rfl (by intro v hv;simp only[List.mem_cons,List.not_mem_nil,or_false]at hv;rcases hv with h|h|h|h|h|h|h|h|h|h<;>subst h<;>first|exact .of rfl|exact fa.2|exact fb.2|exact fc.2|exact fd.2|assumption) ?_),trivial⟩;((conv=>whnf);repeat' (first|exact zD9|((with_reducible refine And.intro ?_ ?_)<;>(conv=>whnf)))))
  ·rw[if_neg e2,if_neg e2,show 2*(W 0/2)=W 0 by omega]
   refine Fun.mk' Tryz.func38 rfl rfl zN (by decide) ?_
   (repeat' (first|((first|with_reducible refine IxA.rp ?_|refine CfV.seg rfl ?_|refine CfS.seg rfl rfl rfl ?_);conv=>whnf)|((with_reducible refine And.intro ?hb ?_);(case hb=>exact zz0);(conv=>whnf))|((first|refine aD.same ?_|refine aD.st hR ?_|with_reducible refine aD.zero ?_|refine Wp.any ab rfl ?_|(with_reducible first|refine Go.mk ?_|apply am.of|refine Ov.ok zO ?_|refine And.intro zC ?_));conv=>whnf)|(with_reducible refine Ov.tdivN (by omega) ?_)|(with_reducible refine aa.inline Tryz.func70 rfl rfl rfl (zzb rfl) ?_)|((refine au (fun hc=>?_) (fun hc=>?_))<;>(try simp only[wz9,qr]at hc)<;>(try (exfalso;omega))<;>(conv=>whnf))))
   all_goals first|(exfalso;simp only[beq_iff_eq,beq_eq_false_iff_ne,decide_eq_true_eq,decide_eq_false_iff_not,ge_iff_le]at *;omega)|((try simp only[Q13,Int.toNat_zero,ax,av,ah]);(refine af.of [0] rfl (fun i hi=>by have:i=0:=(by omega);subst this;rfl) rfl ?_ ?_);(focus exact .rfl _);refine⟨bn.seg (m:=0) rfl (by decide) (az hF rfl (by intro v hv;simp only[List.mem_cons,List.not_mem_nil,or_false]at hv;rcases hv with h|h|h|h|h|h|h|h|h|h<;>subst h<;>first|exact .of rfl|exact fa.2|exact fb.2|exact fc.2|exact fd.2|assumption) ?_),trivial⟩;((conv=>whnf);repeat' (first|exact zD9|((with_reducible refine And.intro ?_ ?_)<;>(conv=>whnf)))))
theorem doc_P7{lv:Nat}(hl:lv≤3)(hR:F w=[a,b,c,d,.i .i64 7,.i .i64 lv,x2,x3,.i .u64 (2*(lv:Int)),x5]) :
  Fun TC 38 1 [.ptr 0 0,.rp 0 10 w 69,.any,.b true] [(0,some (dB W H n F))] 1 ev0
   [(0,some (dB (if W 0=2*lv then Dir.upd W 0 (2*lv+1)else W) H n (bF F w (if W 0=2*lv then[a,b,c,d,.i .i64 2,.i .i64 lv,.i .i64 0,.any,.any,.i .i64 (2^lv+0:Nat)]else[a,b,c,d,.i .i64 0,.any,.any,.any,.any,.any]))))]:=by
 have hA:=At_0 (show lv≤4 by omega)
 by_cases e:W 0=2*lv
 ·rw[if_pos e,if_pos e]
  refine Fun.mk' Tryz.func38 rfl rfl zN (by decide) ?_
  (repeat' (first|((first|with_reducible refine IxA.rp ?_|refine CfV.seg rfl ?_|refine CfS.seg rfl rfl rfl ?_);conv=>whnf)|((with_reducible refine And.intro ?hb ?_);(case hb=>exact zz0);(conv=>whnf))|((first|refine aD.same ?_|refine aD.st hR ?_|with_reducible refine aD.zero ?_|refine Wp.any ab rfl ?_|(with_reducible first|refine Go.mk ?_|apply am.of|refine Ov.ok zO ?_)|refine zV ?_|(with_reducible first|refine And.intro zC ?_|refine aa.pure (hA) rfl rfl ?_));conv=>whnf)|((refine au (fun hc=>?_) (fun hc=>?_))<;>(try simp only[wz9]at hc)<;>(try (exfalso;omega))<;>(conv=>whnf))))
  all_goals(try rw[← e])
  all_goals first|(exfalso;simp only[beq_iff_eq,beq_eq_false_iff_ne,decide_eq_true_eq,decide_eq_false_iff_not,ge_iff_le]at *;omega)|((try simp only[Q13,Int.toNat_zero,ax,av,ah]);(refine af.of [0] rfl (fun i hi=>by have:i=0:=(by omega);subst this;rfl) rfl ?_ ?_);(focus exact .rfl _);refine⟨bn.seg (m:=0) rfl (by decide) (az hF rfl (by intro v hv;simp only[List.mem_cons,List.not_mem_nil,or_false]at hv;rcases hv with h|h|h|h|h|h|h|h|h|h<;>subst h<;>first|exact .of rfl|exact fa.2|exact fb.2|exact fc.2|exact fd.2|assumption) ?_),trivial⟩;((conv=>whnf);repeat' (first|exact zD9|((with_reducible refine And.intro ?_ ?_)<;>(conv=>whnf)))))
 ·rw[if_neg e,if_neg e]
  refine Fun.mk' Tryz.func38 rfl rfl zN (by decide) ?_
  (repeat' (first|((first|with_reducible refine IxA.rp ?_|refine CfV.seg rfl ?_|refine CfS.seg rfl rfl rfl ?_);conv=>whnf)|((with_reducible refine And.intro ?hb ?_);(case hb=>exact zz0);(conv=>whnf))|((first|refine aD.st hR ?_|with_reducible refine aD.zero ?_|refine Wp.any ab rfl ?_|(with_reducible first|refine Go.mk ?_|apply am.of)|refine zV ?_|with_reducible refine And.intro zC ?_);conv=>whnf)|((refine au (fun hc=>?_) (fun hc=>?_))<;>(try simp only[wz9]at hc)<;>(try (exfalso;omega))<;>(conv=>whnf))))
  all_goals first|(exfalso;simp only[beq_iff_eq,beq_eq_false_iff_ne,decide_eq_true_eq,decide_eq_false_iff_not,ge_iff_le]at *;omega)|((try simp only[Q13,Int.toNat_zero,ax,av,ah]);(refine af.of [0] rfl (fun i hi=>by have:i=0:=(by omega);subst this;rfl) rfl ?_ ?_);(focus exact .rfl _);refine⟨bn.seg (m:=0) rfl (by decide) (az hF rfl (by intro v hv;simp only[List.mem_cons,List.not_mem_nil,or_false]at hv;rcases hv with h|h|h|h|h|h|h|h|h|h<;>subst h<;>first|exact .of rfl|exact fa.2|exact fb.2|exact fc.2|exact fd.2|assumption) ?_),trivial⟩;((conv=>whnf);repeat' (first|exact zD9|((with_reducible refine And.intro ?_ ?_)<;>(conv=>whnf)))))
theorem doc_P8{lv:Nat}(hl:lv≤3)(hR:F w=[a,b,c,d,.i .i64 8,.i .i64 lv,x2,x3,x4,x5]) :
  Fun TC 38 1 [.ptr 0 0,.rp 0 10 w 69,.any,.b true] [(0,some (dB W H n F))] 1 (evD false)
   [(0,some (dB (if W 0=2*lv+1 then Dir.upd W 0 (2*lv+2)else W) H n (bF F w [a,b,c,d,.i .i64 11,.any,.any,.any,.any,.any])))]:=by
 by_cases e:W 0=2*lv+1
 ·rw[if_pos e]
  refine Fun.mk' Tryz.func38 rfl rfl zN (by decide) ?_
  (repeat' (first|((first|with_reducible refine IxA.rp ?_|refine CfV.seg rfl ?_|refine CfS.seg rfl rfl rfl ?_);conv=>whnf)|((with_reducible refine And.intro ?hb ?_);(case hb=>exact zz0);(conv=>whnf))|((first|refine aD.st hR ?_|with_reducible refine aD.zero ?_|refine Wp.any ab rfl ?_|(with_reducible first|refine Go.mk ?_|apply am.of|refine Ov.ok zO ?_)|refine zV ?_|with_reducible refine And.intro zC ?_);conv=>whnf)|((refine au (fun hc=>?_) (fun hc=>?_))<;>(try simp only[wz9]at hc)<;>(try (exfalso;omega))<;>(conv=>whnf))))
  all_goals(try rw[show(2:Int)*lv+2=W 0+1 by omega])
  all_goals first|(exfalso;simp only[beq_iff_eq,beq_eq_false_iff_ne,decide_eq_true_eq,decide_eq_false_iff_not,ge_iff_le]at *;omega)|((try simp only[Q13,Int.toNat_zero,ax,av,ah]);(refine af.of [0] rfl (fun i hi=>by have:i=0:=(by omega);subst this;rfl) rfl ?_ ?_);(focus exact .rfl _);refine⟨bn.seg (m:=0) rfl (by decide) (az hF rfl (by intro v hv;simp only[List.mem_cons,List.not_mem_nil,or_false]at hv;rcases hv with h|h|h|h|h|h|h|h|h|h<;>subst h<;>first|exact .of rfl|exact fa.2|exact fb.2|exact fc.2|exact fd.2|assumption) ?_),trivial⟩;((conv=>whnf);repeat' (first|exact zD9|((with_reducible refine And.intro ?_ ?_)<;>(conv=>whnf)))))
 ·rw[if_neg e]
  refine Fun.mk' Tryz.func38 rfl rfl zN (by decide) ?_
  (repeat' (first|((first|with_reducible refine IxA.rp ?_|refine CfV.seg rfl ?_|refine CfS.seg rfl rfl rfl ?_);conv=>whnf)|((with_reducible refine And.intro ?hb ?_);(case hb=>exact zz0);(conv=>whnf))|((first|refine aD.st hR ?_|with_reducible refine aD.zero ?_|refine Wp.any ab rfl ?_|(with_reducible first|refine Go.mk ?_|apply am.of|refine Ov.ok zO ?_)|refine zV ?_|with_reducible refine And.intro zC ?_);conv=>whnf)|((refine au (fun hc=>?_) (fun hc=>?_))<;>(try simp only[wz9]at hc)<;>(try (exfalso;omega))<;>(conv=>whnf))))
  all_goals first|(exfalso;simp only[beq_iff_eq,beq_eq_false_iff_ne,decide_eq_true_eq,decide_eq_false_iff_not,ge_iff_le]at *;omega)|((try simp only[Q13,Int.toNat_zero,ax,av,ah]);(refine af.of [0] rfl (fun i hi=>by have:i=0:=(by omega);subst this;rfl) rfl ?_ ?_);(focus exact .rfl _);refine⟨bn.seg (m:=0) rfl (by decide) (az hF rfl (by intro v hv;simp only[List.mem_cons,List.not_mem_nil,or_false]at hv;rcases hv with h|h|h|h|h|h|h|h|h|h<;>subst h<;>first|exact .of rfl|exact fa.2|exact fb.2|exact fc.2|exact fd.2|assumption) ?_),trivial⟩;((conv=>whnf);repeat' (first|exact zD9|((with_reducible refine And.intro ?_ ?_)<;>(conv=>whnf)))))
end
end
section
@[reducible] def evC(lv q:Nat):SV:=.agg [.b true,.i .i64 (2^lv+q%2^lv:Nat),.i .i64 (2^(lv+1)+q:Nat),.i .i64 ((lv:Int)+1),.i .i64 q,.b false,.b false,.b false]
theorem jS{lv:Nat}(hl:lv≤3):IntKind.i64.wrap (1*2^min ((lv:Int)+1).toNat IntKind.i64.bits)=2^(lv+1):=bQ (lv:=lv+1) (by omega)
theorem At_5{lv q:Nat}(hl:lv≤3)(hq:q<2^(lv+1)):Pure TC 74 [.i .i64 (lv:Int),.i .i64 ((((2^(lv+1)+q:Nat):Int)-IntKind.i64.wrap (1*2^min ((lv:Int)+1).toNat IntKind.i64.bits)).tmod (IntKind.i64.wrap (1*2^min ((lv:Nat):Int).toNat IntKind.i64.bits)))] (.i .i64 ((2^lv+q%2^lv:Nat):Int)):=by
 obtain⟨p1,p2,p3⟩:=dO (show lv≤4 by omega)
 obtain⟨r1,r2,r3⟩:=dO (show lv+1≤4 by omega)
 rw[jS hl,bQ (show lv≤4 by omega)]
 have e1:((2^(lv+1)+q:Nat):Int)-2^(lv+1)=q:=by omega
 rw[e1,Q6 (by omega)]
 have e2:(q:Int)%2^lv=((q%2^lv:Nat):Int):=by rw[Int.natCast_emod,p3]
 rw[e2]
 have h4:q%2^lv<2^lv:=Nat.mod_lt _ (by omega)
 have:=iZ lv (by omega) ((q%2^lv:Nat):Int) (by omega) (by omega)
 rwa [show((2^lv+q%2^lv:Nat):Int)=2^lv+((q%2^lv:Nat):Int)by rw[Int.natCast_add,p3]]
section
variable{W:Nat→Int}{H:Nat→List Dir.Ent}{n:Int}{F:Nat→List SV}(hF:OKF F){w:Nat}(hw:w<64){a b c d x1 x2 x3 x4 x5:SV}(fa:a.free=true∧SV.Lt 0 a)(fb:b.free=true∧SV.Lt 0 b)(fc:c.free=true∧SV.Lt 0 c)(fd:d.free=true∧SV.Lt 0 d)
include hF hw fa fb fc fd
theorem doc_P5k{g:SV}{lv q:Nat}(hl:lv≤3)(hq:q<2^(lv+1))(hR:F w=[a,b,c,d,.i .i64 5,.i .i64 lv,x2,x3,x4,.i .i64 (2^(lv+1)+q:Nat)]) :
  Fun TC 38 1 [.ptr 0 0,.rp 0 10 w 69,g,.b false] [(0,some (dB W H n F))] 1 (if W (2^(lv+1)+q)=0 then evC lv q else ev0)
   [(0,some (dB (if W (2^(lv+1)+q)=0 then Dir.upd W (2^(lv+1)+q) 1 else W) H n (bF F w [a,b,c,d,.i .i64 6,.any,.any,.any,.any,.i .i64 (2^(lv+1)+q:Nat)])))]:=by
 obtain⟨p1,p2,p3⟩:=dO (show lv≤4 by omega)
 obtain⟨r1,r2,r3⟩:=dO (show lv+1≤4 by omega)
 have hv:2^(lv+1)+q<32:=by omega
 have hA:=At_5 hl hq
 have hE:=jS hl
 have hE2:=bQ (show lv≤4 by omega)
 have hq2:((2^(lv+1)+q:Nat):Int)-2^(lv+1)=q:=by omega
 unfold evC
 generalize 2^(lv+1)+q=v at *
 by_cases e:W v=0
 ·rw[if_pos e,if_pos e]
  refine Fun.mk' Tryz.func38 rfl rfl zN (by decide) ?_
  (repeat' (first|((first|with_reducible refine IxA.rp ?_|refine CfV.seg rfl ?_|refine CfS.seg rfl rfl rfl ?_);conv=>whnf)|((with_reducible refine And.intro ?hb ?_);(case hb=>exact zz0);(conv=>whnf))|((first|refine aD.st hR ?_|with_reducible refine aD.nat ?_|refine Wp.any ab rfl ?_|(with_reducible first|refine Go.mk ?_|apply am.of|refine Ov.ok zO ?_)|refine zV ?_|with_reducible refine And.intro zC ?_);conv=>whnf)|(with_reducible refine aa.inline Tryz.func73 rfl rfl rfl (zzb rfl) ?_)|((with_reducible refine ai.pure (hA) rfl rfl ?_);conv=>whnf)|((refine au (fun hc=>?_) (fun hc=>?_))<;>(try simp only[wz9]at hc)<;>(try (exfalso;omega))<;>(conv=>whnf))))
  all_goals(try rw[hE,hq2])
  all_goals first|(exfalso;simp only[beq_iff_eq,beq_eq_false_iff_ne,decide_eq_true_eq,decide_eq_false_iff_not,ge_iff_le]at *;omega)|((try simp only[Q13,Int.toNat_zero,ax,av,ah]);(refine af.of [0] rfl (fun i hi=>by have:i=0:=(by omega);subst this;rfl) rfl ?_ ?_);(focus exact .rfl _);refine⟨bn.seg (m:=0) rfl (by decide) (az hF rfl (by intro v hv;simp only[List.mem_cons,List.not_mem_nil,or_false]at hv;rcases hv with h|h|h|h|h|h|h|h|h|h<;>subst h<;>first|exact .of rfl|exact fa.2|exact fb.2|exact fc.2|exact fd.2|assumption) ?_),trivial⟩;((conv=>whnf);repeat' (first|exact zD9|((with_reducible refine And.intro ?_ ?_)<;>(conv=>whnf)))))
 ·rw[if_neg e,if_neg e]
  refine Fun.mk' Tryz.func38 rfl rfl zN (by decide) ?_
  (repeat' (first|((first|with_reducible refine IxA.rp ?_|refine CfV.seg rfl ?_|refine CfS.seg rfl rfl rfl ?_);conv=>whnf)|((with_reducible refine And.intro ?hb ?_);(case hb=>exact zz0);(conv=>whnf))|((first|refine aD.st hR ?_|with_reducible refine aD.nat ?_|refine Wp.any ab rfl ?_|(with_reducible first|refine Go.mk ?_|apply am.of|refine Ov.ok zO ?_)|refine zV ?_|with_reducible refine And.intro zC ?_);conv=>whnf)|(with_reducible refine aa.inline Tryz.func73 rfl rfl rfl (zzb rfl) ?_)|((refine au (fun hc=>?_) (fun hc=>?_))<;>(try simp only[wz9]at hc)<;>(try (exfalso;omega))<;>(conv=>whnf))))
  all_goals first|(exfalso;simp only[beq_iff_eq,beq_eq_false_iff_ne,decide_eq_true_eq,decide_eq_false_iff_not,ge_iff_le]at *;omega)|((try simp only[Q13,Int.toNat_zero,ax,av,ah]);(refine af.of [0] rfl (fun i hi=>by have:i=0:=(by omega);subst this;rfl) rfl ?_ ?_);(focus exact .rfl _);refine⟨bn.seg (m:=0) rfl (by decide) (az hF rfl (by intro v hv;simp only[List.mem_cons,List.not_mem_nil,or_false]at hv;rcases hv with h|h|h|h|h|h|h|h|h|h<;>subst h<;>first|exact .of rfl|exact fa.2|exact fb.2|exact fc.2|exact fd.2|assumption) ?_),trivial⟩;((conv=>whnf);repeat' (first|exact zD9|((with_reducible refine And.intro ?_ ?_)<;>(conv=>whnf)))))
theorem doc_P5s{lv sh q:Nat}{up:Bool}(hl:lv≤3)(hs:sh<2^lv)(hq:q<2^(lv+1))(hR:F w=[a,b,c,d,.i .i64 5,.i .i64 lv,.i .i64 sh,.b up,x4,.i .i64 (2^(lv+1)+q:Nat)]) :
  Fun TC 38 1 [.ptr 0 0,.rp 0 10 w 69,.any,.b true] [(0,some (dB W H n F))] 1 (if W (2^(lv+1)+q)=0 then evC lv q else ev0)
   [(0,some (dB (if W (2^(lv+1)+q)=0 then Dir.upd W (2^(lv+1)+q) 1 else W) H n (bF F w (onR a b c d lv sh up))))]:=by
 obtain⟨p1,p2,p3⟩:=dO (show lv≤4 by omega)
 obtain⟨r1,r2,r3⟩:=dO (show lv+1≤4 by omega)
 have hv:2^(lv+1)+q<32:=by omega
 have hA:=At_5 hl hq
 have hE:=jS hl
 have hE2:=bQ (show lv≤4 by omega)
 have hq2:((2^(lv+1)+q:Nat):Int)-2^(lv+1)=q:=by omega
 have hA3:=At_3 hl hs
 have hA4:=At_4 hl (s:=sh) (by omega)
 rw[← hE2]at hA3
 unfold evC
 generalize 2^(lv+1)+q=v at *
 by_cases e:W v=0
 all_goals first|rw[if_pos e,if_pos e]|rw[if_neg e,if_neg e]
 all_goals cases up
 all_goals
  refine Fun.mk' Tryz.func38 rfl rfl zN (by decide) ?_
  (repeat' (first|((first|with_reducible refine IxA.rp ?_|refine CfV.seg rfl ?_|refine CfS.seg rfl rfl rfl ?_);conv=>whnf)|((with_reducible refine And.intro ?hb ?_);(case hb=>exact zz0);(conv=>whnf))|((first|refine aD.same ?_|refine aD.st hR ?_|with_reducible refine aD.nat ?_|refine Wp.any ab rfl ?_|(with_reducible first|refine Go.mk ?_|apply am.of|refine Ov.ok zO ?_)|refine zV ?_|with_reducible refine And.intro zC ?_);conv=>whnf)|(with_reducible refine aa.inline Tryz.func73 rfl rfl rfl (zzb rfl) ?_)|(with_reducible refine aa.inline Tryz.func101 rfl rfl rfl (zzb rfl) ?_)|(with_reducible refine aa.inline Tryz.func71 rfl rfl rfl (zzb rfl) ?_)|((with_reducible first|refine ai.pure (hA) rfl rfl ?_|refine aa.pure (hA3) rfl rfl ?_|refine ai.pure (hA4) rfl rfl ?_);conv=>whnf)|((refine au (fun hc=>?_) (fun hc=>?_))<;>(try simp only[wz9]at hc)<;>(try (exfalso;omega))<;>(conv=>whnf))))
  all_goals(try rw[hE,hq2])
  all_goals first
   | (exfalso;simp only[beq_iff_eq,beq_eq_false_iff_ne,decide_eq_true_eq,decide_eq_false_iff_not,ge_iff_le]at *;omega)
   | (rw[show onR a b c d lv sh false=[a,b,c,d,.i .i64 4,.i .i64 lv,.i .i64 sh,.b true,.any,.i .i64 (2^(lv+1)+(sh+2^lv):Nat)]from rfl];(try simp only[Q13,Int.toNat_zero,ax,av,ah]);(refine af.of [0] rfl (fun i hi=>by have:i=0:=(by omega);subst this;rfl) rfl ?_ ?_);(focus exact .rfl _);refine⟨bn.seg (m:=0) rfl (by decide) (az hF rfl (by intro v hv;simp only[List.mem_cons,List.not_mem_nil,or_false]at hv;rcases hv with h|h|h|h|h|h|h|h|h|h<;>subst h<;>first|exact .of rfl|exact fa.2|exact fb.2|exact fc.2|exact fd.2|assumption) ?_),trivial⟩;((conv=>whnf);repeat' (first|exact zD9|((with_reducible refine And.intro ?_ ?_)<;>(conv=>whnf)))))
   | (unfold onR;rw[if_pos rfl,if_pos (by omega)];(try simp only[Q13,Int.toNat_zero,ax,av,ah]);(refine af.of [0] rfl (fun i hi=>by have:i=0:=(by omega);subst this;rfl) rfl ?_ ?_);(focus exact .rfl _);refine⟨bn.seg (m:=0) rfl (by decide) (az hF rfl (by intro v hv;simp only[List.mem_cons,List.not_mem_nil,or_false]at hv;rcases hv with h|h|h|h|h|h|h|h|h|h<;>subst h<;>first|exact .of rfl|exact fa.2|exact fb.2|exact fc.2|exact fd.2|assumption) ?_),trivial⟩;((conv=>whnf);repeat' (first|exact zD9|((with_reducible refine And.intro ?_ ?_)<;>(conv=>whnf)))))
   | (unfold onR;rw[if_pos rfl,if_neg (by omega)];(try simp only[Q13,Int.toNat_zero,ax,av,ah]);(refine af.of [0] rfl (fun i hi=>by have:i=0:=(by omega);subst this;rfl) rfl ?_ ?_);(focus exact .rfl _);refine⟨bn.seg (m:=0) rfl (by decide) (az hF rfl (by intro v hv;simp only[List.mem_cons,List.not_mem_nil,or_false]at hv;rcases hv with h|h|h|h|h|h|h|h|h|h<;>subst h<;>first|exact .of rfl|exact fa.2|exact fb.2|exact fc.2|exact fd.2|assumption) ?_),trivial⟩;((conv=>whnf);repeat' (first|exact zD9|((with_reducible refine And.intro ?_ ?_)<;>(conv=>whnf)))))
end
end
theorem iY(xs:List Dir.Ent)(hb:∀k,IsB (xs.getD k default).key)(lv sh:Nat)(hlv:lv≤4)(hl:xs.length≤16777216):Pure TC 39 [.d (al 2 aq xs),.i .i64 lv,.i .i64 sh] (.d (al 2 aq (bM xs lv sh))):=by
 refine Pure.mk' Tryz.func39 rfl rfl zN ?_
 (repeat' (first|((first|refine Wp.any ab rfl ?_|(with_reducible first|refine Go.mk ?_|apply am.of));conv=>whnf)|with_reducible exact rfl|((with_reducible refine Ov.ok zO ?_);conv=>whnf)|(with_reducible refine Ov.sh1 (by with_unfolding_all exact rfl) ?_)|((first|with_reducible refine Ov.quo (by omega) (by omega) (by omega) (fun _ _=>?_)|refine zV ?_|with_reducible refine And.intro zC ?_);conv=>whnf)|((with_reducible refine And.intro ?hb ?_);(case hb=>exact zz1);(conv=>whnf))|((refine bO.a rfl rfl rfl rfl rfl rfl ?hb ?_);(case hb=>exact zB);(conv=>whnf))|((refine bO.b rfl rfl rfl rfl rfl rfl rfl rfl ?hb ?ho ?_);(case hb=>exact zB);(case ho=>omega);(conv=>whnf))|((refine bO.c rfl rfl rfl rfl rfl ?hb ?_);(case hb=>exact zB);(conv=>whnf))|((refine bO.d rfl rfl rfl rfl rfl rfl ?hb ?ho ?_);(case hb=>exact zB);(case ho=>omega);(conv=>whnf))|(with_reducible refine Or.inl ?_)|((with_reducible refine IxA.ptr ?_);conv=>whnf)|((with_reducible refine dp (by omega) ?_);(conv=>whnf))|((with_reducible refine bq ?_ (fun hn0=>?_))<;>(conv=>whnf))|((refine au (fun hc=>?_) (fun hc=>?_))<;>(try simp only[wz9]at hc)<;>(try (exfalso;omega))<;>(conv=>whnf))))
 refine Wp.le (Le.virt 7 102 2 (fun i=>aq (([]:List Dir.Ent).getD i default)) (by decide) rfl) ?_
 refine Wp.loopP (ι:=Nat) (fun j=>j≤xs.length) (fun j=>⟨⟨Tryz.f39.ntmps,0⟩,1,[(1,.i .i64 lv),(2,.i .i64 sh),(7,.sl 0 2 0 (bM (xs.take j) lv sh).length),(10,.d (al 2 aq xs)),(11,.i .i64 xs.length),(12,.i .i64 j)],[(0,some (aI 102 2 aq (bM (xs.take j) lv sh)))]⟩) (fun j=>xs.length-j) 0 (Nat.zero_le _) ?_ ?_
 ·(refine Le.by [0] rfl rfl rfl rfl ?_ ?_<;>(conv=>whnf)<;>(repeat' (first|exact trivial|exact ac.rfl rfl|exact ac.ptr rfl|exact ac.sl rfl|((with_reducible refine ac.fn ?_);(conv=>whnf))|((refine ac.iref ?_);(conv=>whnf))|exact⟨rfl,rfl,rfl⟩|exact fun i hi=>rfl|((with_reducible refine And.intro ?_ ?_)<;>(conv=>whnf)))))
 ·rintro j h1
  have hfl:(bM (xs.take j) lv sh).length≤16777216:=by
   have q1:=List.length_filter_le (inSh lv sh) (xs.take j)
   rw[Q10]at q1
   unfold bM;omega
  (repeat' (first|((first|refine Wp.any ab rfl ?_|(with_reducible first|refine Go.mk ?_|apply am.of));conv=>whnf)|with_reducible exact rfl|((with_reducible refine Ov.ok zO ?_);conv=>whnf)|(with_reducible refine Ov.sh1 (by with_unfolding_all exact rfl) ?_)|((first|with_reducible refine Ov.quo (by omega) (by omega) (by omega) (fun _ _=>?_)|refine zV ?_|with_reducible refine And.intro zC ?_);conv=>whnf)|((with_reducible refine And.intro ?hb ?_);(case hb=>exact zz1);(conv=>whnf))|((refine bO.a rfl rfl rfl rfl rfl rfl ?hb ?_);(case hb=>exact zB);(conv=>whnf))|((refine bO.b rfl rfl rfl rfl rfl rfl rfl rfl ?hb ?ho ?_);(case hb=>exact zB);(case ho=>omega);(conv=>whnf))|((refine bO.c rfl rfl rfl rfl rfl ?hb ?_);(case hb=>exact zB);(conv=>whnf))|((refine bO.d rfl rfl rfl rfl rfl rfl ?hb ?ho ?_);(case hb=>exact zB);(case ho=>omega);(conv=>whnf))|(with_reducible refine Or.inl ?_)|((with_reducible refine IxA.ptr ?_);conv=>whnf)|((with_reducible refine dp (by omega) ?_);(conv=>whnf))|((with_reducible refine bq ?_ (fun hn0=>?_))<;>(conv=>whnf))|((with_reducible first|refine aa.pure (kU _ (hb _) lv hlv) rfl rfl ?_|refine ai.pure (kU _ (hb _) lv hlv) rfl rfl ?_);conv=>whnf)|((refine au (fun hc=>?_) (fun hc=>?_))<;>(try simp only[wz9]at hc)<;>(try (exfalso;omega))<;>(conv=>whnf))))
  ·refine⟨j+1,by dsimp only;omega,by dsimp only;omega,?_⟩
   dsimp only
   rw[fi (by omega),if_pos hc]
   (refine Le.by [3] rfl rfl rfl rfl ?_ ?_<;>(conv=>whnf)<;>(repeat' (first|exact trivial|exact ac.rfl rfl|exact ac.ptr rfl|exact ac.sl rfl|((with_reducible refine ac.fn ?_);(conv=>whnf))|((refine ac.iref ?_);(conv=>whnf))|exact⟨rfl,rfl,rfl⟩|exact fun i hi=>rfl|((with_reducible refine And.intro ?_ ?_)<;>(conv=>whnf)))))
   ·rw[Q9];exact ac.sl rfl
   ·rfl
   ·simp
   ·exact a8 _ _
  ·refine⟨j+1,by dsimp only;omega,by dsimp only;omega,?_⟩
   dsimp only
   rw[fi (by omega),if_neg hc]
   (refine Le.by [0] rfl rfl rfl rfl ?_ ?_<;>(conv=>whnf)<;>(repeat' (first|exact trivial|exact ac.rfl rfl|exact ac.ptr rfl|exact ac.sl rfl|((with_reducible refine ac.fn ?_);(conv=>whnf))|((refine ac.iref ?_);(conv=>whnf))|exact⟨rfl,rfl,rfl⟩|exact fun i hi=>rfl|((with_reducible refine And.intro ?_ ?_)<;>(conv=>whnf)))))
  ·obtain rfl:j=xs.length:=by omega
   rw[List.take_length]
   exact SV.Le.sl fun j hj=>by simp only[Q19]
end Go.Proofs.YtejiekfnaddanaaGreat
