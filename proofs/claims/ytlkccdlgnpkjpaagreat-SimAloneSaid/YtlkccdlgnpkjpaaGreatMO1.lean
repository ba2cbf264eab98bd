/- Lemmas of Sx4, Sx5, Sx6, Sx6b, Sx6c, Sx6d, Sx6e, Sx6f. No condition. -/
import Derived.Test.YtlkccdlgnpkjpaaGreatMO0
import Derived.Lib.SlBytesConst
import Derived.Lib.ConvBytes
set_option linter.unusedVariables false
set_option linter.unusedSimpArgs false
set_option linter.unusedSectionVars false
set_option maxHeartbeats 80000000
set_option maxRecDepth 100000
namespace Go.Proofs.YtlkccdlgnpkjpaaGreat
open Go.RowKit
def St.seth(S:St)(l:Nat)(b:Option Blk):St:=match S with|⟨nt,nx,fr,hp⟩=>⟨nt,nx,fr,(l,b)::hp⟩
theorem Sat.seth_gen{O:Org}{E:Env}{S:St}{a:Act}{w w':World}(h:Sat O E S a w){l:Nat}{b b':Blk}(hl:lkh S.hp l=some b)(hr:b.real (E.κ l))(hw:∀k,k≠E.ρ l→w'.heap[k]?=w.heap[k]?)
  (hsz:w'.heap.size=w.heap.size) (hos:w'.os=w.os∧w'.tape=w.tape∧w'.output=w.output) (hb:BS E S.nx w' l b'):Sat O E (S.seth l (some b')) a w':=by
 have hne:∀k,E.Im k→k≠E.ρ l:=fun k hk e=>(h.im k hk).2.2 l b hl hr e.symm
 have hwi:∀k,E.Im k→w'.heap[k]?=w.heap[k]?:=fun k hk=>hw k (hne k hk)
 have hlive:∀m x,lkh ((l,some b')::S.hp) m=some x→(m=l∧x=b')∨(m≠l∧lkh S.hp m=some x):=by
  intro m x hm
  rw[ah]at hm
  by_cases e:l=m
  ·rw[if_pos e]at hm;cases hm;exact Or.inl ⟨e.symm,rfl⟩
  ·rw[if_neg e]at hm;exact Or.inr ⟨fun k=>e k.symm,hm⟩
 have hlx:=h.nx l b hl
 refine⟨fun m=>(h.fr m).mono (fun _ _=>⟨rfl,rfl⟩) (Q4 _) (fun _ hb=>hb) hwi,h.nt,h.df,?_,?_,?_,?_,?_,?_,h.lab,h.nl,h.imo⟩
 ·intro m x hm
  rcases hlive m x hm with⟨rfl,rfl⟩|⟨hn,hm'⟩
  ·exact hb
  ·refine(h.hp m x hm').mono (h.nx m x hm') (fun _ _=>⟨rfl,rfl⟩) (Q4 _) (fun _ hb=>hb) hwi (fun hxr=>hw _ (h.inj m l x b hm' hl hxr hr hn))
 ·intro m x hm
  rcases hlive m x hm with⟨rfl,rfl⟩|⟨hn,hm'⟩
  ·exact hlx
  ·exact h.nx m x hm'
 ·intro m m' x x' hm hm' hxr hxr' hne'
  rcases hlive m x hm with⟨rfl,rfl⟩|⟨hn,hm1⟩<;>rcases hlive m' x' hm' with⟨rfl,rfl⟩|⟨hn',hm1'⟩
  ·exact absurd rfl hne'
  ·exact h.inj _ _ _ _ hl hm1' hr hxr' hne'
  ·exact h.inj _ _ _ _ hm1 hl hxr hr hne'
  ·exact h.inj _ _ _ _ hm1 hm1' hxr hxr' hne'
 ·intro k hk
  obtain⟨h1,h2,h3⟩:=h.im k hk
  refine⟨by omega,h2,fun m x hm hxr=>?_⟩
  rcases hlive m x hm with⟨rfl,rfl⟩|⟨hn,hm'⟩
  ·exact h3 _ b hl hr
  ·exact h3 m x hm' hxr
 ·intro m x hm hxr
  rcases hlive m x hm with⟨rfl,rfl⟩|⟨hn,hm'⟩
  ·exact h.own _ b hl hr
  ·exact h.own m x hm' hxr
 ·have hk:=h.kq
  refine⟨hos.1.trans hk.os,hos.2.1.trans hk.tape,hos.2.2.trans hk.output,by have:=hk.size;omega,fun k hk1 hk2=>?_⟩
  rw[hw k (fun e=>by rcases h.own l b hl hr with h9|h9;exact hk2 (e▸h9);omega)]
  exact hk.block k hk1 hk2
theorem Sat.setRow{O:Org}{E:Env}{S:St}{a:Act}{w:World}(h:Sat O E S a w){l:Nat}{b b':Blk}{vs vs':Array Value}{T:TypeId}(hl:lkh S.hp l=some b)(hr:b.real (E.κ l))(hg:w.heap[E.ρ l]?=some (.cells vs T (0,0)))
  (hb:BS E S.nx (w.setRow (E.ρ l) vs') l b'):Sat O E (S.seth l (some b')) a (w.setRow (E.ρ l) vs') :=
 h.seth_gen hl hr (fun k hk=>setRow_other w _ _ _ hk) (setRow_size _ _ _) ⟨rfl,rfl,rfl⟩ hb
theorem j6{i:TI}{vs:List SV}{off:Nat}{k:SV→Prop}(h:fX i vs off k) :
  (i.k.agg=true→off+i.size≤vs.length∧k (.agg ((vs.drop off).take i.size)))∧(i.k.agg=false→∃h:off<vs.length,k vs[off]):=by
 unfold fX at h
 cases hb:i.k.agg with
 | true=>simp only[hb,cond_true]at h;exact⟨fun _=>gO _ _ _ _ h,fun e=>by simp at e⟩
 | false=>simp only[hb,cond_false]at h;exact⟨fun e=>by simp at e,fun _=>lp _ _ _ h⟩
def x5(i:TI)(ds:List D)(off:Nat)(k:SV→Prop):Prop :=
 bif i.k.agg then jv ds off i.size fun r=>k (.agg r)else nthD ds off k
theorem j7{i:TI}{ds:List D}{off:Nat}{k:SV→Prop}(h:x5 i ds off k) :
  (i.k.agg=true→off+i.size≤(ds.map SV.d).length∧k (.agg (((ds.map SV.d).drop off).take i.size)))∧(i.k.agg=false→∃h:off<(ds.map SV.d).length,k (ds.map SV.d)[off]):=by
 unfold x5 at h
 cases hb:i.k.agg with
 | true =>
  simp only[hb,cond_true]at h
  obtain⟨h1,h2⟩:=kR _ _ _ _ h
  exact⟨fun _=>⟨by simpa using h1,by rw[← List.map_drop,← List.map_take];exact h2⟩,fun e=>by simp at e⟩
 | false =>
  simp only[hb,cond_false]at h
  obtain⟨h1,h2⟩:=sk _ _ _ h
  exact⟨fun e=>by simp at e,fun _=>⟨by simpa using h1,by simpa using h2⟩⟩
theorem f8{C:Cx}{E:Env}{nx:Nat}{w:World}{t:Nat}{i:TI}(hi:C.tt t=some i){vs:List SV}{b o off:Nat}{k:SV→Prop}(g:Nat→Value)
  (hc:∀q (hq:q<vs.length),w.cell? ⟨b,o+q,none⟩=some (g q)∧RS E nx w vs[q] (g q)∧(g q).oneCell'=true)
  (h:(i.k.agg=true→off+i.size≤vs.length∧k (.agg ((vs.drop off).take i.size)))∧(i.k.agg=false→∃h:off<vs.length,k vs[off])) :
  bf C E nx w (Instr.loadAt t (.pointer (some ⟨b,o+off,none⟩))) k:=by
 have ha:=(C.ok t i hi).isAgg w
 have hz:=(C.ok t i hi).sizeOf w
 cases hb:i.k.agg with
 | true =>
  obtain⟨h1,h2⟩:=h.1 hb
  have hl:(loadCells ⟨b,o+off,none⟩ i.size).run C.P w=.ok ((List.range i.size).map fun q=>g (off+q)).toArray w :=
   run_loadCells (P:=C.P) w _ _ _ (fun j hj=>by rw[Addr.add_mid,Nat.add_assoc];exact(hc (off+j) (by omega)).1)
  have hx:∀q,q<i.size→(((List.range i.size).map fun q=>g (off+q)).toArray).getD q undef=g (off+q):=fun q hq=>by simp[Array.getD,hq]
  refine⟨.agg ((List.range i.size).map fun q=>g (off+q)).toArray,_,?_,h2,.agg _ _ (by simp;omega) (fun q hq=>?_) (fun q hq=>?_)⟩
  ·simp only[Instr.loadAt,Instr.sureAddr,loadVar]
   simp[ha,hb,hz,hl]
  ·have hq':q<i.size:=by simpa using hq
   rw[hx q hq'];exact(hc (off+q) (by omega)).2.2
  ·have hq':q<i.size:=by rw[Q10]at hq;omega
   rw[hx q hq',List.getElem_take,List.getElem_drop];exact(hc (off+q) (by omega)).2.1
 | false =>
  obtain⟨h1,h2⟩:=h.2 hb
  refine⟨g off,_,?_,h2,(hc off h1).2.1⟩
  simp only[Instr.loadAt,Instr.sureAddr,loadVar]
  simp[ha,hb,(hc off h1).1]
structure At(o:Nat)(c:Nat→Prop):Prop where
 out:c o
theorem At.mk'{o:Nat}(p:Nat){c:Nat→Prop}(h:o=p)(hc:c p):At o c:=⟨by rw[h];exact hc⟩
structure CfA(o z n:Nat)(g:Nat→SV)(k:List SV→Prop):Prop where
 out:o+z≤n∧∃cs:List SV,cs.length=z∧(∀j (h:j<cs.length),cs[j]=g (o+j))∧k cs
structure CfV(p n:Nat)(g:Nat→SV)(k:SV→Prop):Prop where
 out:p<n∧k (g p)
structure IxA(l off i z:Nat)(k:SV→Prop):Prop where
 out:k (.ptr l (off+i*z))∨k (.rp l z i off)
theorem IxA.ptr{l off i z:Nat}{k:SV→Prop}(h:k (.ptr l (off+i*z))):IxA l off i z k:=⟨.inl h⟩
def lA(C:Cx)(S:St)(t:Nat):SV→(SV→Prop)→Prop
 | .ptr l off,k=>match C.tt t,lkh S.hp l with
  | some i,some (.cells cs)=>fX i cs off k
  | some i,some (.cf _ n g)=>bif i.k.agg then CfA off i.size n g fun cs=>k (.agg cs)else At off fun o=>o<n∧k (g o)
  | _,_=>False
 | .rp l esz i off,k=>match C.tt t,lkh S.hp l with
  | some j,some (.row _ z n f)=>bif Nat.beq esz z then i<n∧x5 j (f i) off k else False
  | some j,some (.cf _ n g)=>bif j.k.agg then CfA (i*esz+off) j.size n g fun cs=>k (.agg cs)else CfV (i*esz+off) n g k
  | _,_=>False
 | .d (.ref cs off),k=>match C.tt t with
  | some i=>x5 i cs off k
  | _=>False
 | .iref cs off,k=>match C.tt t with
  | some i=>fX i cs off k
  | _=>False
 | _,_=>False
theorem tN{C:Cx}{O:Org}{E:Env}{S:St}{a:Act}{w:World}(hs:Sat O E S a w){t l p m n:Nat}{g:Nat→SV}{i:TI}{k:SV→Prop}(hi:C.tt t=some i)(hl:lkh S.hp l=some (.cf m n g))
  (h:bif i.k.agg then CfA p i.size n g (fun cs=>k (.agg cs))else At p fun o=>o<n∧k (g o)):bf C E S.nx w (Instr.loadAt t (.pointer (some ⟨E.ρ l,p,none⟩))) k:=by
 obtain⟨h0,hh⟩:=hs.hp l _ hl
 cases hb:i.k.agg with
 | true =>
  simp only[hb,cond_true]at h
  obtain⟨h5,cs,e1,e2,h6⟩:=h.out
  by_cases hz:n=0
  ·have hcs:cs=[]:=List.eq_nil_of_length_eq_zero (by omega)
   subst hcs
   have:=f8 (C:=C) (E:=E) (nx:=S.nx) (w:=w) hi (vs:=[]) (b:=E.ρ l) (o:=p) (off:=0) (k:=k) (fun _=>undef) (fun q hq=>by simp at hq) ⟨fun _=>⟨by simp at e1;simp;omega,by simpa using h6⟩,fun e=>by rw[hb]at e;cases e⟩
   simpa using this
  ·obtain⟨vs,T,h1,h2,h3⟩:=hh (by omega)
   have:=f8 (C:=C) (E:=E) (nx:=S.nx) (w:=w) hi (vs:=cs) (b:=E.ρ l) (o:=p) (off:=0) (k:=k) (fun q=>vs.getD (p+q) undef) (fun q hq=>by
    have hq':p+q<vs.size:=by omega
    refine⟨by simp[World.cell?,h1,Array.getD,hq'],?_,(h3 (p+q) (by omega)).2.2⟩
    rw[e2 q hq];exact(h3 (p+q) (by omega)).2.1) ⟨fun _=>⟨by omega,by rw[List.drop_zero,← e1,List.take_length];exact h6⟩,fun e=>by rw[hb]at e;cases e⟩
   simpa using this
 | false =>
  simp only[hb,cond_false]at h
  obtain⟨h5,h6⟩:=h.out
  obtain⟨vs,T,h1,h2,h3⟩:=hh (by omega)
  have ha:=(C.ok t i hi).isAgg w
  have hq':p<vs.size:=by omega
  refine⟨vs.getD p undef,_,?_,h6,(h3 p h5).2.1⟩
  simp only[Instr.loadAt,Instr.sureAddr,loadVar]
  simp[ha,hb,World.cell?,h1,Array.getD,hq']
theorem pf{C:Cx}{O:Org}{E:Env}{S:St}{a:Act}{w:World}(hs:Sat O E S a w){t:Nat}{sx:SV}{u:Value}{k:SV→Prop}(hu:RS E S.nx w sx u)(h:lA C S t sx k):bf C E S.nx w (Instr.loadAt t u) k:=by
 unfold lA at h
 split at h
 ·rename_i l off
  split at h
  ·rename_i i cs hi hl
   cases hu with
   | ptr =>
    obtain⟨vs,T,h1,h2,h3⟩:=hs.hp l _ hl
    have:=f8 (C:=C) (E:=E) (nx:=S.nx) (w:=w) hi (vs:=cs) (b:=E.ρ l) (o:=0) (off:=off) (fun q=>vs.getD q undef) (fun q hq=>?_) (j6 h)
    ·simpa using this
    ·have hq':q<vs.size:=by omega
     exact⟨by simp[World.cell?,h1,Array.getD,hq'],h3 q hq⟩
  ·rename_i i m n g hi hl
   cases hu with
   | ptr=>exact tN hs hi hl h
  ·exact h.elim
 ·rename_i l esz i off
  split at h
  ·rename_i j e z n f hj hl
   cases hz:Nat.beq esz z with
   | false=>simp[hz]at h
   | true =>
    simp only[hz,cond_true]at h
    obtain rfl:=Q2 hz
    obtain⟨hin,h⟩:=h
    cases hu with
    | rp =>
     obtain⟨h1,h2,h3,h4,h5⟩:=hs.hp l _ hl
     obtain⟨vs,g1,g2,g3,g4⟩:=h5 (by omega)
     have hm:i*esz+esz≤n*esz:=by have:(i+1)*esz≤n*esz:=Q8 _ hin;rw[Q18]at this;omega
     have hm2:n*esz≤E.κ l*esz:=Q8 _ h1
     refine f8 (C:=C) (E:=E) (nx:=S.nx) (w:=w) hj (vs:=(f i).map SV.d) (b:=E.ρ l) (o:=i*esz) (off:=off) (fun q=>vs.getD (i*esz+q) undef) (fun q hq=>?_) (j7 h)
     have hq1:q<(f i).length:=by simpa using hq
     have hq2:q<esz:=by rw[← h4 i hin];exact hq1
     have hq3:i*esz+q<vs.size:=by omega
     refine⟨by simp[World.cell?,g1,Array.getD,hq3],by rw[List.getElem_map];exact .d _ _ (g4 i q hin hq1),g3 _ (by omega)⟩
  ·rename_i j m n g hj hl
   cases hu with
   | rp =>
    refine tN hs hj hl ?_
    cases hb:j.k.agg with
    | true=>simp only[hb,cond_true]at h⊢;exact h
    | false=>simp only[hb,cond_false]at h⊢;exact⟨h.out⟩
  ·exact h.elim
 ·rename_i cs off
  split at h
  ·rename_i i hi
   cases hu with
   | d _ _ hu =>
    cases hu with
    | ref _ _ b o g hb hcell hg =>
     refine f8 (C:=C) (E:=E) (nx:=S.nx) (w:=w) hi (vs:=cs.map SV.d) (b:=b) (o:=o) (off:=off) g (fun q hq=>?_) (j7 h)
     have hq1:q<cs.length:=by simpa using hq
     exact⟨hcell q hq1,by rw[List.getElem_map];exact .d _ _ (hg q hq1),(hg q hq1).one⟩
  ·exact h.elim
 ·rename_i cs off
  split at h
  ·rename_i i hi
   cases hu with
   | iref _ _ b o g hb hcell h1 hg =>
    exact f8 (C:=C) (E:=E) (nx:=S.nx) (w:=w) hi (vs:=cs) (b:=b) (o:=o) (off:=off) g (fun q hq=>⟨hcell q hq,hg q hq,h1 q hq⟩) (j6 h)
  ·exact h.elim
 ·exact h.elim
def ei (C:Cx) (t f:Nat) (k:Nat→Prop):Prop :=
 match C.tt t with
 | some i=>match i.k with
  | .struct fs=>match fs[f]? with
   | some (o,ft)=>match C.tt ft with
    | some j=>bif Nat.beq j.size 0 then False else k o
    | none=>False
   | none=>False
  | _=>False
 | none=>False
def ej(C:Cx)(t f:Nat):SV→(SV→Prop)→Prop
 | .ptr l off,k=>ei C t f fun o=>k (.ptr l (off+o))
 | .rp l z i off,k=>ei C t f fun o=>k (.rp l z i (off+o))
 | .d (.ref cs off),k=>ei C t f fun o=>k (.d (.ref cs (off+o)))
 | .iref cs off,k=>ei C t f fun o=>k (.iref cs (off+o))
 | _,_=>False
theorem dx{C:Cx}{w:World}{t f:Nat}{k:Nat→Prop}(h:ei C t f k):∃o,k o∧∀b p,(Instr.fieldAt t (.pointer (some ⟨b,p,none⟩)) f).run C.P w=.ok (.pointer (some ⟨b,p+o,none⟩)) w:=by
 unfold ei at h
 split at h
 ·rename_i i hi
  split at h
  ·rename_i fs hk
   obtain⟨Fs,hF,hm⟩:=(C.ok _ _ hi).struct hk
   split at h
   ·rename_i off ft hf
    split at h
    ·rename_i j hj
     cases hz:Nat.beq j.size 0 with
     | true=>simp[hz]at h
     | false =>
      simp only[hz,cond_false]at h
      have hz':j.size≠0:=fun e=>by rw[e]at hz;exact absurd hz (by decide)
      have hsz:=(C.ok _ _ hj).sizeOf w
      rw[← hm,List.getElem?_map]at hf
      obtain⟨F,hF1,hF2⟩:=Option.map_eq_some_iff.1 hf
      have hF3:Fs[f]?=some F:=by simpa using hF1
      injection hF2 with g1 g2
      subst g1 g2
      refine⟨F.offset,h,fun b p=>?_⟩
      simp[Instr.fieldAt,run_underlying hF,hF3,Instr.sureAddr,fieldPlace,hsz,hz',Addr.add_mid]
    ·exact h.elim
   ·exact h.elim
  ·exact h.elim
 ·exact h.elim
theorem lU{C:Cx}{E:Env}{nx:Nat}{w:World}{t f:Nat}{sx:SV}{u:Value}{k:SV→Prop}(hu:RS E nx w sx u)(h:ej C t f sx k):bf C E nx w (Instr.fieldAt t u f) k:=by
 unfold ej at h
 split at h
 ·obtain⟨o,h1,h2⟩:=dx (w:=w) h
  cases hu with
  | ptr l off hl=>exact⟨_,_,h2 _ _,h1,.ptr _ _ hl⟩
 ·obtain⟨o,h1,h2⟩:=dx (w:=w) h
  cases hu with
  | rp l z i off hl=>exact⟨_,_,h2 _ _,h1,by rw[Nat.add_assoc];exact .rp _ _ _ _ hl⟩
 ·obtain⟨o,h1,h2⟩:=dx (w:=w) h
  cases hu with
  | d _ _ hu =>
   cases hu with
   | ref _ _ b p g hb hcell hg=>exact⟨_,_,h2 _ _,h1,by rw[Nat.add_assoc];exact .d _ _ (.ref _ _ b p g hb hcell hg)⟩
 ·obtain⟨o,h1,h2⟩:=dx (w:=w) h
  cases hu with
  | iref _ _ b p g hb hcell h3 hg=>exact⟨_,_,h2 _ _,h1,by rw[Nat.add_assoc];exact .iref _ _ b p g hb hcell h3 hg⟩
 ·exact h.elim
def kv(C:Cx)(t:Nat)(esz:Nat)(k:Prop):Prop :=
 match C.tt t with
 | some i=>match i.k with
  | .slice e=>match C.tt e with
   | some j=>bif Nat.beq j.size esz then(bif Nat.beq esz 0 then False else k)else False
   | none=>False
  | _=>False
 | none=>False
theorem fD{C:Cx}{t esz:Nat}{k:Prop}(h:kv C t esz k):∃e,C.P.underlying t=some (.slice e)∧(∀w,(sizeOf e).run C.P w=.ok esz w)∧esz≠0∧k:=by
 unfold kv at h
 split at h
 ·rename_i i hi
  split at h
  ·rename_i e hk
   split at h
   ·rename_i j hj
    cases hz:Nat.beq j.size esz with
    | false=>simp[hz]at h
    | true =>
     cases hz0:Nat.beq esz 0 with
     | true=>simp[hz,hz0]at h
     | false =>
      simp only[hz,hz0,cond_true,cond_false]at h
      obtain rfl:=Q2 hz
      exact⟨e,(C.ok _ _ hi).slice hk,fun w=>(C.ok _ _ hj).sizeOf w,fun e=>by rw[e]at hz0;exact absurd hz0 (by decide),h⟩
   ·exact h.elim
  ·exact h.elim
 ·exact h.elim
def d7 (C:Cx) (t:Nat):SV→SV→(SV→Prop)→Prop
 | .d (.sl esz n f),.d (.val (.int _ i)),k=>kv C t esz ((0≤i∧i<n)∧k (.d (.ref (f i.toNat) 0)))
 | .sl l esz off len,.d (.val (.int _ i)),k=>kv C t esz ((0≤i∧i<len)∧k (.rp l esz (off+i.toNat) 0))
 | .ptr l off,.d (.val (.int _ i)),k=>match C.tt t with
  | some j=>match j.k with
   | .array n e=>match C.tt e with
    | some je=>(0≤i∧i<n)∧IxA l off i.toNat je.size k
    | none=>False
   | _=>False
  | none=>False
 | _,_,_=>False
theorem lF{C:Cx}{E:Env}{nx:Nat}{w:World}{t:Nat}{sx sy:SV}{u v:Value}{k:SV→Prop}(hu:RS E nx w sx u)(hv:RS E nx w sy v)(h:d7 C t sx sy k):bf C E nx w (Instr.indexAt t u v) k:=by
 unfold d7 at h
 split at h
 ·rename_i esz n f kk i
  obtain⟨e,ht,hz,hz0,⟨h1,h2⟩,h3⟩:=fD h
  obtain rfl:=hv.val_inv
  cases hu with
  | d _ _ hu =>
   cases hu with
   | sl _ _ _ a cap g hc hm hl ha hg =>
    have hin:i.toNat<n:=by omega
    obtain⟨b,o,rfl,hb,hcell⟩:=ha (Nat.mul_pos (by omega) (by omega))
    have hr:=RD.ref (w:=w) (Im:=E.Im) (f i.toNat) 0 b (o+i.toNat*esz) (fun q=>g i.toNat q) hb (fun j hj=>hcell i.toNat j hin (by rw[← hl _ hin];exact hj)) (fun j hj=>hg i.toNat j hin hj)
    refine⟨_,_,?_,h3,.d _ _ hr⟩
    simp[Instr.indexAt,run_underlying ht,asIntOf,h1,h2,hz w,Addr.add_mid]
 ·rename_i l esz off len kk i
  obtain⟨e,ht,hz,hz0,⟨h1,h2⟩,h3⟩:=fD h
  obtain rfl:=hv.val_inv
  cases hu with
  | sl _ _ _ _ a cap hl hc hm ha h0 =>
   obtain rfl:=ha (by omega)
   have hr:=RS.rp (E:=E) (nx:=nx) (w:=w) l esz (off+i.toNat) 0 hl
   refine⟨_,_,?_,h3,hr⟩
   simp[Instr.indexAt,run_underlying ht,asIntOf,h1,h2,hz w,Addr.add_mid,Q18]
 ·rename_i l off kk i
  obtain rfl:=hv.val_inv
  split at h
  ·rename_i j hj
   split at h
   ·rename_i n e hk
    have ht:=(C.ok _ _ hj).array hk
    split at h
    ·rename_i je hje
     obtain⟨⟨h1,h2⟩,h3⟩:=h
     have hz:=(C.ok _ _ hje).sizeOf w
     cases hu with
     | ptr _ _ hl =>
      rcases h3.out with h3|h3
      ·refine⟨_,_,?_,h3,.ptr _ _ hl⟩
       simp[Instr.indexAt,run_underlying ht,asIntOf,h1,h2,hz,Addr.add_mid,Instr.sureAddr]
      ·refine⟨_,_,?_,h3,.rp _ _ _ _ hl⟩
       simp[Instr.indexAt,run_underlying ht,asIntOf,h1,h2,hz,Addr.add_mid,Instr.sureAddr,Nat.add_comm]
    ·exact h.elim
   ·exact h.elim
  ·exact h.elim
 ·exact h.elim
theorem bj{α:Type}(A B:List α)(o:Nat)(h:o+B.length≤A.length)(j:Nat):(A.take o++B++A.drop (o+B.length))[j]?=if o≤j∧j<o+B.length then B[j-o]? else A[j]?:=by
 have h1:(A.take o).length=o:=by rw[Q10];omega
 by_cases h2:j<o
 ·rw[if_neg (by omega),List.append_assoc,Q11 (by omega),Q15,if_pos h2]
 ·by_cases h3:j<o+B.length
  ·rw[if_pos ⟨by omega,h3⟩,List.append_assoc,Q12 (by omega),h1,Q11 (by omega)]
  ·rw[if_neg (by omega),Q12 (by simp;omega),List.getElem?_drop]
   congr 1
   simp;omega
theorem bi{α:Type}(A B:List α)(o:Nat)(h:o+B.length≤A.length):(A.take o++B++A.drop (o+B.length)).length=A.length:=by
 simp;omega
theorem cz(l:List Value)(j:Nat):l.toArray.getD j undef=(l[j]?).getD undef:=by simp[Q7]
theorem aL(a:Array Value)(j:Nat):a.getD j undef=(a.toList[j]?).getD undef:=by simp[Q7]
def bY(E:Env)(nx:Nat)(w:World)(cs:List SV)(vs:List Value):Prop :=
 vs.length=cs.length∧∀(j:Nat) (x:SV),cs[j]?=some x→∃v:Value,vs[j]?=some v∧RS E nx w x v∧v.oneCell'=true
theorem bY.splice{E:Env}{nx:Nat}{w:World}{A B:List SV}{As Bs:List Value}(hA:bY E nx w A As)(hB:bY E nx w B Bs)(o:Nat)(h:o+B.length≤A.length) :
  bY E nx w (A.take o++B++A.drop (o+B.length)) (As.take o++Bs++As.drop (o+Bs.length)):=by
 have hb:=hB.1
 have ha:=hA.1
 refine⟨by rw[bi _ _ _ h,bi _ _ _ (by omega),ha],fun j x hj=>?_⟩
 rw[bj _ _ _ h]at hj
 rw[bj _ _ _ (by omega),hb]
 by_cases hc:o≤j∧j<o+B.length
 ·rw[if_pos hc]at hj⊢;exact hB.2 _ x hj
 ·rw[if_neg hc]at hj⊢;exact hA.2 _ x hj
theorem bY.of{E:Env}{nx:Nat}{w:World}{cs:List SV}{vs:Array Value}(hs:vs.size=cs.length)(h:∀j (hj:j<cs.length),RS E nx w cs[j] (vs.getD j undef)∧(vs.getD j undef).oneCell'=true):bY E nx w cs vs.toList:=by
 refine⟨by simpa using hs,fun j x hj=>?_⟩
 obtain⟨h1,h2⟩:=Q3 hj
 subst h2
 have h3:j<vs.size:=by omega
 obtain⟨h4,h5⟩:=h j h1
 have h6:vs.getD j undef=vs[j]:=by simp[Array.getD,h3]
 rw[h6]at h4 h5
 exact⟨vs[j],by simp[h3],h4,h5⟩
theorem bY.to{E:Env}{nx:Nat}{w:World}{cs:List SV}{vs:List Value}(h:bY E nx w cs vs):vs.toArray.size=cs.length∧∀j (hj:j<cs.length),RS E nx w cs[j] (vs.toArray.getD j undef)∧(vs.toArray.getD j undef).oneCell'=true:=by
 refine⟨by simpa using h.1,fun j hj=>?_⟩
 obtain⟨v,h1,h2,h3⟩:=h.2 j _ (Q0 hj)
 rw[cz,h1];exact⟨h2,h3⟩
theorem bY.one{E:Env}{nx:Nat}{w:World}{cs:List SV}{vs:List Value}(h:bY E nx w cs vs):∀v∈vs,v.oneCell'=true:=by
 intro v hv
 obtain⟨j,hj,rfl⟩:=List.getElem_of_mem hv
 obtain⟨u,h1,h2,h3⟩:=h.2 j _ (Q0 (by have:=h.1;omega))
 rw[Q0 hj]at h1
 cases h1;exact h3
theorem bY.mono{E E':Env}{nx nx':Nat}{w w':World}{cs:List SV}{vs:List Value}(hρ:∀l,l<nx→E'.ρ l=E.ρ l∧E'.κ l=E.κ l)(hn:nx≤nx')
  (hI:∀b,E.Im b→E'.Im b) (hw:∀b,E.Im b→w'.heap[b]?=w.heap[b]?) (h:bY E nx w cs vs):bY E' nx' w' cs vs :=
 ⟨h.1,fun j x hj=>let⟨v,h1,h2,h3⟩:=h.2 j x hj;⟨v,h1,h2.mono hρ hn hI hw,h3⟩⟩
theorem aO{E:Env}{nx:Nat}{w:World}{x:SV}{v:Value}{k:List SV→Prop}(h:bF x k)(hv:RS E nx w x v):∃cs:List SV,k cs∧bY E nx w cs v.cells.toList:=by
 obtain⟨cs,h1,h2,h3⟩:=tO h hv
 exact⟨cs,h1,bY.of h2 h3⟩
def fM:List SV→(List D→Prop)→Prop
 | [],k=>k []
 | .d x::r,k=>fM r fun ds=>k (x::ds)
 | _,_=>False
theorem gx:∀(vs:List SV) (k:List D→Prop),fM vs k→∃ds:List D,vs=ds.map SV.d∧k ds
 | [],k,h=>⟨[],rfl,by simpa[fM]using h⟩
 | .d x::r,k,h=>by
  obtain⟨ds,h1,h2⟩:=gx r _ (by simpa[fM]using h)
  exact⟨x::ds,by rw[h1];rfl,h2⟩
 | .any::r,k,h=>by simp[fM]at h
 | .ptr _ _::r,k,h=>by simp[fM]at h
 | .rp _ _ _ _::r,k,h=>by simp[fM]at h
 | .sl _ _ _ _::r,k,h=>by simp[fM]at h
 | .agg _::r,k,h=>by simp[fM]at h
 | .tup _::r,k,h=>by simp[fM]at h
 | .fn _ _::r,k,h=>by simp[fM]at h
 | .iref _ _::r,k,h=>by simp[fM]at h
def dg:List D→Nat→List D→(List D→Prop)→Prop
 | cs,0,[],k=>k cs
 | _::cs,0,v::vs,k=>dg cs 0 vs fun r=>k (v::r)
 | c::cs,n+1,vs,k=>dg cs n vs fun r=>k (c::r)
 | [],_,_,_=>False
theorem k8:∀(cs:List D) (o:Nat) (vs:List D) (k:List D→Prop),dg cs o vs k→o+vs.length≤cs.length∧k (cs.take o++vs++cs.drop (o+vs.length))
 | [],0,[],k,h=>⟨by simp,by simpa[dg]using h⟩
 | _::_,0,[],k,h=>⟨by simp,by simpa[dg]using h⟩
 | c::cs,0,v::vs,k,h=>by
  obtain⟨h1,h2⟩:=k8 cs 0 vs _ (by simpa[dg]using h)
  exact⟨by simp at h1⊢;omega,by simpa using h2⟩
 | c::cs,n+1,vs,k,h=>by
  obtain⟨h1,h2⟩:=k8 cs n vs _ (by cases vs<;>simpa[dg]using h)
  exact⟨by simp;omega,by simpa[Nat.add_right_comm]using h2⟩
 | [],0,v::vs,k,h=>by simp[dg]at h
 | [],n+1,vs,k,h=>by cases vs<;>simp[dg]at h
structure CfS(p:Nat)(vs:List SV)(m n:Nat)(g:Nat→SV)(k:(Nat→SV)→Prop):Prop where
 out:(p+vs.length≤n∧0<n∧∀v∈vs,SV.Lt m v)∧∃g':Nat→SV,(∀j,j<n→g' j=if p≤j∧j<p+vs.length then vs.getD (j-p) .any else g j)∧k g'
theorem CfS.imp{p:Nat}{vs:List SV}{m n:Nat}{g:Nat→SV}{k k':(Nat→SV)→Prop}(h:∀g,k g→k' g)(hk:CfS p vs m n g k):CfS p vs m n g k':=by
 obtain⟨h1,g',h2,h3⟩:=hk.out
 exact⟨h1,g',h2,h _ h3⟩
def jL(C:Cx)(S:St)(t:Nat):SV→SV→(St→Prop)→Prop
 | .ptr l off,x,k=>match C.tt t,lkh S.hp l with
  | some i,some (.cells cs)=>bF x fun vs=>bif Nat.beq vs.length i.size then jy cs off vs fun cs'=>k (S.seth l (some (.cells cs')))else False
  | some i,some (.cf m n g)=>bif Nat.beq i.size 1 then bF x (fun vs=>match vs with
   | [v]=>(SV.Lt m v∧At off fun o=>o<n∧k (S.seth l (some (.cf m n fun j=>bif Nat.beq j o then v else g j))))∨CfS off [v] m n g fun g'=>k (S.seth l (some (.cf m n g')))
   | _=>False)else bF x (fun vs=>bif Nat.beq vs.length i.size then CfS off vs m n g fun g'=>k (S.seth l (some (.cf m n g')))else False)
  | _,_=>False
 | .rp l esz q off,x,k=>match C.tt t,lkh S.hp l with
  | some i,some (.row e z n f)=>bif Nat.beq esz z then q<n∧bF x (fun vs=>bif Nat.beq vs.length i.size then fM vs (fun ds=>dg (f q) off ds fun cs'=>k (S.seth l (some (.row e z n fun j=>if j=q then cs' else f j))))else False)else False
  | some i,some (.cf m n g)=>bF x (fun vs=>bif Nat.beq vs.length i.size then(CfS (q*esz+off) vs m n g fun g'=>k (S.seth l (some (.cf m n g'))))∨(CfS (q*esz+off) vs S.nx n g fun g'=>k (S.seth l (some (.cf S.nx n g'))))else False)
  | _,_=>False
 | _,_,_=>False
theorem bz{C:Cx}{w:World}{t:Nat}{i:TI}(hi:C.tt t=some i){v:Value}{b o:Nat}{cur:Array Value}{T:TypeId}(hg:w.heap[b]?=some (.cells cur T (0,0)))(hv:v.cells.size=i.size)(h1:∀u∈v.cells.toList,u.oneCell'=true)(hl:o+v.cells.size≤cur.size) :
  (Instr.storeAt t (.pointer (some ⟨b,o,none⟩)) v).run C.P w=.ok () (w.setRow b (cur.toList.take o++v.cells.toList++cur.toList.drop (o+v.cells.toList.length)).toArray):=by
 have hz:=(C.ok t i hi).sizeOf w
 have:=run_storeCells_at C.P b o T v.cells.toList 0 cur w hg (by simpa using hl) h1
 simp only[Instr.storeAt,Instr.sureAddr,storeVar]
 simp[hz,hv]
 simpa[hv]using this
theorem SV.Lt.mono5{m n:Nat}(hmn:m≤n){x:SV}(h:SV.Lt m x):SV.Lt n x:=by
 induction h with
 | any=>exact .any
 | d x=>exact .d x
 | ptr l o h=>exact .ptr l o (by omega)
 | rp l z i o h=>exact .rp l z i o (by omega)
 | sl l z o n h=>exact .sl l z o n (by omega)
 | agg vs h ih=>exact .agg vs ih
 | tup vs h ih=>exact .tup vs ih
 | fn f vs h ih=>exact .fn f vs ih
 | iref vs o h ih=>exact .iref vs o ih
theorem fH{C:Cx}{O:Org}{E:Env}{S:St}{a:Act}{w:World}(hs:Sat O E S a w){t l p m m0 n:Nat}{g:Nat→SV}{i:TI}{ns:List SV}{v:Value}{k:St→Prop}(hi:C.tt t=some i)(hz:ns.length=i.size)(hl:lkh S.hp l=some (.cf m0 n g))(hm0:m0≤m)(hm1:m0≤S.nx→m≤S.nx)(ht:bY E S.nx w ns v.cells.toList)
  (h:CfS p ns m n g fun g'=>k (S.seth l (some (.cf m n g')))) :
  ∃w' S',(Instr.storeAt t (.pointer (some ⟨E.ρ l,p,none⟩)) v).run C.P w=.ok () w'∧k S'∧Sat O E S' a w':=by
 obtain⟨⟨h1,hn,hlt⟩,g',h2,h3⟩:=h.out
 obtain⟨g0,gg⟩:=hs.hp l _ hl
 have hvl:v.cells.toList.length=ns.length:=ht.1
 have hvl2:v.cells.size=ns.length:=by simpa using hvl
 obtain⟨vs,T,g1,g2,g3⟩:=gg (by omega)
 have hrun:=bz (C:=C) hi (o:=p) g1 (by omega) ht.one (by omega)
 refine⟨_,_,hrun,h3,hs.setRow hl hn g1 ?_⟩
 have hne:∀b,E.Im b→(w.setRow (E.ρ l) (vs.toList.take p++v.cells.toList++vs.toList.drop (p+v.cells.toList.length)).toArray).heap[b]?=w.heap[b]?:=fun b hb=>setRow_other w _ _ _ (fun e=>(hs.im b hb).2.2 l _ hl hn e.symm)
 refine⟨hm1 g0,fun _=>⟨_,T,setRow_heap w _ vs _ T _ g1,?_,fun j hj=>?_⟩⟩
 ·rw[List.size_toArray,bi _ _ _ (by simp;omega)];simpa using g2
 ·have hget:(vs.toList.take p++v.cells.toList++vs.toList.drop (p+v.cells.toList.length)).toArray.getD j undef=if p≤j∧j<p+ns.length then(v.cells.toList[j-p]?).getD undef else vs.getD j undef:=by
   rw[cz,bj _ _ _ (by simp;omega),hvl]
   by_cases e:p≤j∧j<p+ns.length
   ·rw[if_pos e,if_pos e]
   ·rw[if_neg e,if_neg e,← aL]
  rw[hget,h2 j hj]
  by_cases e:p≤j∧j<p+ns.length
  ·rw[if_pos e,if_pos e]
   have hjp:j-p<ns.length:=by omega
   obtain⟨u',e1,e2,e3⟩:=ht.2 (j-p) ns[j-p] (Q0 hjp)
   have e4:ns.getD (j-p) .any=ns[j-p]:=by rw[Q1,Q0 hjp];rfl
   rw[e1,e4]
   exact⟨hlt _ (Q14 hjp),e2.mono (fun _ _=>⟨rfl,rfl⟩) (Q4 _) (fun _ hb=>hb) hne,e3⟩
  ·rw[if_neg e,if_neg e]
   obtain⟨q1,q2,q3⟩:=g3 j hj
   exact⟨q1.mono5 hm0,q2.mono (fun _ _=>⟨rfl,rfl⟩) (Q4 _) (fun _ hb=>hb) hne,q3⟩
theorem yM{C:Cx}{O:Org}{E:Env}{S:St}{a:Act}{w:World}(hs:Sat O E S a w){t l p m n:Nat}{g:Nat→SV}{i:TI}{sy:SV}{v:Value}{k:St→Prop}(hi:C.tt t=some i)(hl:lkh S.hp l=some (.cf m n g))(hv:RS E S.nx w sy v)
  (h:bF sy (fun vs=>bif Nat.beq vs.length i.size then CfS p vs m n g fun g'=>k (S.seth l (some (.cf m n g')))else False)) :
  ∃w' S',(Instr.storeAt t (.pointer (some ⟨E.ρ l,p,none⟩)) v).run C.P w=.ok () w'∧k S'∧Sat O E S' a w':=by
 obtain⟨ns,h,ht⟩:=aO h hv
 cases hz:Nat.beq ns.length i.size with
 | false=>simp[hz]at h
 | true =>
  simp only[hz,cond_true]at h
  have hz:=Q2 hz
  exact fH hs hi hz hl (Q4 _) (fun h=>h) ht h
theorem my {C:Cx} {O:Org} {E:Env} {S:St} {a:Act} {w:World} (hs:Sat O E S a w) {t:Nat} {sx sy:SV} {u v:Value} {k:St→Prop} (hu:RS E S.nx w sx u) (hv:RS E S.nx w sy v) (h:jL C S t sx sy k) :
  ∃w' S',(Instr.storeAt t u v).run C.P w=.ok () w'∧k S'∧Sat O E S' a w':=by
 unfold jL at h
 split at h
 ·rename_i l off
  split at h
  ·rename_i i cs hi hl
   obtain⟨ns,h,ht⟩:=aO h hv
   cases hz:Nat.beq ns.length i.size with
   | false=>simp[hz]at h
   | true =>
    simp only[hz,cond_true]at h
    have hz:=Q2 hz
    obtain⟨h1,h2⟩:=it _ _ _ _ h
    cases hu with
    | ptr =>
     obtain⟨vs,T,g1,g2,g3⟩:=hs.hp l _ hl
     have hvl:=ht.1
     have hvl2:v.cells.size=ns.length:=by simpa using hvl
     have hrun:=bz (C:=C) hi (o:=off) g1 (by omega) ht.one (by omega)
     refine⟨_,_,hrun,h2,hs.setRow hl trivial g1 ?_⟩
     have hTA:=bY.of g2 g3
     have hT:=hTA.splice ht off h1
     have hne:∀b,E.Im b→(w.setRow (E.ρ l) (vs.toList.take off++v.cells.toList++vs.toList.drop (off+v.cells.toList.length)).toArray).heap[b]?=w.heap[b]?:=fun b hb=>setRow_other w _ _ _ (fun e=>(hs.im b hb).2.2 l _ hl trivial e.symm)
     have hT2:=(hT.mono (E':=E) (w':=w.setRow (E.ρ l) (vs.toList.take off++v.cells.toList++vs.toList.drop (off+v.cells.toList.length)).toArray) (fun _ _=>⟨rfl,rfl⟩) (Q4 _) (fun _ hb=>hb) hne).to
     exact⟨_,T,setRow_heap w _ vs _ T _ g1,hT2.1,hT2.2⟩
  ·rename_i i m n g hi hl
   cases hz:Nat.beq i.size 1 with
   | false =>
    simp only[hz,cond_false]at h
    cases hu with
    | ptr=>exact yM hs hi hl hv h
   | true =>
    simp only[hz,cond_true]at h
    have hz:=Q2 hz
    obtain⟨ns,h,ht⟩:=aO h hv
    split at h
    ·rename_i x
     by_cases hor:CfS off [x] m n g fun g'=>k (S.seth l (some (.cf m n g')))
     ·cases hu with
      | ptr=>exact fH hs hi (by simpa using hz.symm) hl (Q4 _) (fun h=>h) ht hor
     replace h:=h.resolve_right hor
     obtain⟨hlt,⟨h1,h2⟩⟩:=h
     cases hu with
     | ptr =>
      obtain⟨g0,gg⟩:=hs.hp l _ hl
      have hpos:0<n:=by omega
      obtain⟨vs,T,g1,g2,g3⟩:=gg hpos
      have hvl:v.cells.toList.length=1:=ht.1
      have hvl2:v.cells.size=1:=by simpa using hvl
      have hrun:=bz (C:=C) hi (o:=off) g1 (by omega) ht.one (by omega)
      refine⟨_,_,hrun,h2,hs.setRow hl hpos g1 ?_⟩
      have hne:∀b,E.Im b→(w.setRow (E.ρ l) (vs.toList.take off++v.cells.toList++vs.toList.drop (off+v.cells.toList.length)).toArray).heap[b]?=w.heap[b]?:=fun b hb=>setRow_other w _ _ _ (fun e=>(hs.im b hb).2.2 l _ hl hpos e.symm)
      refine⟨g0,fun _=>⟨_,T,setRow_heap w _ vs _ T _ g1,?_,fun j hj=>?_⟩⟩
      ·rw[List.size_toArray,bi _ _ _ (by simp;omega)];simpa using g2
      ·have hget:(vs.toList.take off++v.cells.toList++vs.toList.drop (off+v.cells.toList.length)).toArray.getD j undef=if j=off then(v.cells.toList[0]?).getD undef else vs.getD j undef:=by
        rw[cz,bj _ _ _ (by simp;omega),hvl]
        by_cases e:j=off
        ·subst e;rw[if_pos (by omega),if_pos rfl,Nat.sub_self]
        ·rw[if_neg (by omega),if_neg e,← aL]
       rw[hget]
       by_cases e:j=off
       ·subst e
        rw[if_pos rfl]
        obtain⟨u',e1,e2,e3⟩:=ht.2 0 x rfl
        simp only[e1,Option.getD_some,Nat.beq_refl,cond_true]
        exact⟨hlt,e2.mono (fun _ _=>⟨rfl,rfl⟩) (Q4 _) (fun _ hb=>hb) hne,e3⟩
       ·have hb:Nat.beq j off=false:=by cases hb:Nat.beq j off with|true=>exact absurd (Q2 hb) e|false=>rfl
        rw[if_neg e]
        simp only[hb,cond_false]
        obtain⟨q1,q2,q3⟩:=g3 j hj
        exact⟨q1,q2.mono (fun _ _=>⟨rfl,rfl⟩) (Q4 _) (fun _ hb=>hb) hne,q3⟩
    ·exact h.elim
  ·exact h.elim
 ·rename_i l esz q off
  split at h
  ·rename_i i e z n f hi hl
   cases hz:Nat.beq esz z with
   | false=>simp[hz]at h
   | true =>
    simp only[hz,cond_true]at h
    obtain rfl:=Q2 hz
    obtain⟨hqn,h⟩:=h
    obtain⟨ns,h,ht⟩:=aO h hv
    cases hz:Nat.beq ns.length i.size with
    | false=>simp[hz]at h
    | true =>
     simp only[hz,cond_true]at h
     have hz:=Q2 hz
     obtain⟨ds,hds,h9⟩:=gx _ _ h
     clear h
     subst hds
     obtain⟨h1,h2⟩:=k8 _ _ _ _ h9
     cases hu with
     | rp =>
      obtain⟨k1,k2,k3,k4,k5⟩:=hs.hp l _ hl
      obtain⟨vs,g1,g2,g3,g4⟩:=k5 (by omega)
      have hfq:=k4 q hqn
      have hm:q*esz+esz≤n*esz:=by have:(q+1)*esz≤n*esz:=Q8 _ hqn;rw[Q18]at this;omega
      have hm2:n*esz≤E.κ l*esz:=Q8 _ k1
      have hvl:v.cells.toList.length=ds.length:=by simpa using ht.1
      have hvl2:v.cells.size=ds.length:=by simpa using hvl
      have hdl:ds.length=i.size:=by simpa using hz
      have hrun:=bz (C:=C) hi (o:=q*esz+off) g1 (by omega) ht.one (by omega)
      refine⟨_,_,hrun,h2,hs.setRow hl (show 0<E.κ l by omega) g1 ?_⟩
      have hne:∀b,E.Im b→(w.setRow (E.ρ l) (vs.toList.take (q*esz+off)++v.cells.toList++vs.toList.drop (q*esz+off+v.cells.toList.length)).toArray).heap[b]?=w.heap[b]?:=fun b hb=>setRow_other w _ _ _ (fun e=>(hs.im b hb).2.2 l _ hl (show 0<E.κ l by omega) e.symm)
      have hfl:∀j,j<n→(if j=q then(f q).take off++ds++(f q).drop (off+ds.length)else f j).length=esz:=fun j hj=>by
       split
       ·rw[bi _ _ _ h1,hfq]
       ·exact k4 j hj
      refine⟨k1,k2,k3,hfl,fun _=>⟨_,setRow_heap w _ vs _ e _ g1,?_,fun j hj=>?_,fun j p hj hp=>?_⟩⟩
      ·rw[List.size_toArray,bi _ _ _ (by simp;omega)];simpa using g2
      ·rw[cz,bj _ _ _ (by simp;omega)]
       by_cases hc:q*esz+off≤j∧j<q*esz+off+v.cells.toList.length
       ·rw[if_pos hc]
        have hb1:j-(q*esz+off)<v.cells.toList.length:=by omega
        rw[Q0 hb1]
        exact ht.one _ (Q14 hb1)
       ·rw[if_neg hc,← aL];exact g3 j hj
      ·have hpe:p<esz:=by rw[← hfl j hj];exact hp
       have key:∀d,(if j=q then(f q).take off++ds++(f q).drop (off+ds.length)else f j)[p]?=some d →
         RD (w.setRow (E.ρ l) (vs.toList.take (q*esz+off)++v.cells.toList++vs.toList.drop (q*esz+off+v.cells.toList.length)).toArray) E.Im d
          ((vs.toList.take (q*esz+off)++v.cells.toList++vs.toList.drop (q*esz+off+v.cells.toList.length)).toArray.getD (j*esz+p) undef):=by
        intro d hd
        rw[cz,bj _ _ _ (by simp;omega)]
        by_cases hjq:j=q
        ·subst hjq
         rw[if_pos rfl,bj _ _ _ h1]at hd
         by_cases hc:off≤p∧p<off+ds.length
         ·rw[if_pos hc]at hd
          rw[if_pos (by omega)]
          obtain⟨u',e1,e2,_⟩:=ht.2 (p-off) (.d d) (by rw[List.getElem?_map,hd];rfl)
          rw[show j*esz+p-(j*esz+off)=p-off by omega,e1]
          cases e2 with|d _ _ e2=>exact e2.mono (fun _ hb=>hb) hne
         ·rw[if_neg hc]at hd
          rw[if_neg (by omega),← aL]
          obtain⟨hx1,hx2⟩:=Q3 hd
          subst hx2
          exact(g4 j p hj hx1).mono (fun _ hb=>hb) hne
        ·rw[if_neg hjq]at hd
         obtain⟨hx1,hx2⟩:=Q3 hd
         subst hx2
         have hfar:¬(q*esz+off≤j*esz+p∧j*esz+p<q*esz+off+v.cells.toList.length):=by
          rcases Nat.lt_or_gt_of_ne hjq with hlt|hgt
          ·have:(j+1)*esz≤q*esz:=Q8 _ hlt
           rw[Q18]at this;omega
          ·have:(q+1)*esz≤j*esz:=Q8 _ hgt
           rw[Q18]at this;omega
         rw[if_neg hfar,← aL]
         exact(g4 j p hj hx1).mono (fun _ hb=>hb) hne
       exact key _ (Q0 hp)
  ·rename_i i m n g hi hl
   cases hu with
   | rp =>
    obtain⟨ns,h,ht⟩:=aO h hv
    cases hz:Nat.beq ns.length i.size with
    | false=>simp[hz]at h
    | true =>
     simp only[hz,cond_true]at h
     have hz:=Q2 hz
     rcases h with h|h
     ·exact fH hs hi hz hl (Q4 _) (fun h=>h) ht h
     ·exact fH hs hi hz hl (hs.hp l _ hl).1 (fun _=>Q4 _) ht h
  ·exact h.elim
 ·exact h.elim
def bI(C:Cx)(O:Org)(a:Act)(w:World)(m:Sem Value)(k:St→SV→Prop):Prop :=
 ∃v w' E' S' x,m.run C.P w=.ok v w'∧k S' x∧Sat O E' S' a w'∧RS E' S'.nx w' x v
theorem bf.s{C:Cx}{O:Org}{E:Env}{S:St}{a:Act}{w:World}{m:Sem Value}{k:SV→Prop}{k':St→SV→Prop}(h:bf C E S.nx w m k)(hs:Sat O E S a w)(hk:∀x,k x→k' S x):bI C O a w m k':=by
 obtain⟨v,x,h1,h2,h3⟩:=h
 exact⟨v,w,E,S,x,h1,hk x h2,hs,h3⟩
def jt:List Value→(List SV→Prop)→Prop
 | [],k=>k []
 | v::r,k=>bif v.oneCell' then jt r fun vs=>k (.d (.val v)::vs)else False
theorem kP(E:Env)(nx:Nat)(w:World):∀(vs:List Value) (k:List SV→Prop),jt vs k→∃cs:List SV,k cs∧bY E nx w cs vs
 | [],k,h=>⟨[],by simpa[jt]using h,rfl,fun j x hj=>by simp at hj⟩
 | v::r,k,h=>by
  unfold jt at h
  cases hv:v.oneCell' with
  | false=>simp[hv]at h
  | true =>
   simp only[hv,cond_true]at h
   obtain⟨cs,h1,h2,h3⟩:=kP E nx w r _ h
   refine⟨_,h1,by simp[h2],fun j x hj=>?_⟩
   cases j with
   | zero=>simp at hj;subst hj;exact⟨v,by simp,.d _ _ (.val _ hv),hv⟩
   | succ j=>simp at hj;obtain⟨u,g1,g2⟩:=h3 j x hj;exact⟨u,by simpa using g1,g2⟩
theorem Sat.new{O:Org}{E:Env}{S:St}{a:Act}{w:World}(h:Sat O E S a w){cs:List SV}{vs:Array Value}(T:TypeId)(ht:bY E S.nx w cs vs.toList) :
  Sat O (E.new S.nx w.heap.size) (S.new cs) a (w.alloc (.cells vs T))∧RS (E.new S.nx w.heap.size) (S.new cs).nx (w.alloc (.cells vs T)) (.ptr S.nx 0) (.pointer (some ⟨w.heap.size,0,none⟩)):=by
 have:=ht.to
 simp only[Array.toArray_toList]at this
 exact h.alloc T this.1 this.2
def t8(C:Cx)(S:St)(t:Nat)(k:St→SV→Prop):Prop :=
 match C.tt t with
 | some i=>jt i.zero fun cs=>match S with|⟨nt,nx,fr,hp⟩=>k ⟨nt,nx+1,fr,(nx,some (.cells cs))::hp⟩ (.ptr nx 0)
 | none=>False
theorem t7{C:Cx}{O:Org}{E:Env}{S:St}{a:Act}{w:World}(hs:Sat O E S a w){t:Nat}{k:St→SV→Prop}(h:t8 C S t k):bI C O a w (Instr.alloc t true (.tuple #[])) k:=by
 unfold t8 at h
 split at h
 ·rename_i i hi
  obtain⟨j,z,h1,h2,h3,h4,_⟩:=(C.ok _ _ hi).info
  obtain⟨cs,g1,g2⟩:=kP E S.nx w _ _ h
  rw[← h3]at g2
  obtain⟨e1,e2⟩:=hs.new t g2
  refine⟨_,_,_,_,_,?_,g1,e1,e2⟩
  simp[Instr.alloc,zeroValue,typeInfo,h1,h2,newVar,newRow]
 ·exact h.elim
def boxK(S:St)(x:SV)(k:St→SV→Prop):Prop:=bF x fun cs=>match S with|⟨nt,nx,fr,hp⟩=>k ⟨nt,nx+1,fr,(nx,some (.cells cs))::hp⟩ (.ptr nx 0)
theorem boxK_ok{C:Cx}{O:Org}{E:Env}{S:St}{a:Act}{w:World}(hs:Sat O E S a w){t:Nat}{sx:SV}{u:Value}{k:St→SV→Prop}(hu:RS E S.nx w sx u)(h:boxK S sx k):bI C O a w (Instr.box t u) k:=by
 obtain⟨cs,g1,g2⟩:=aO h hu
 obtain⟨e1,e2⟩:=hs.new t g2
 refine⟨_,_,_,_,_,?_,g1,e1,e2⟩
 simp[Instr.box,newVar,newRow]
def jf(n:Nat):Option SV→Option SV→(Nat→Nat→Prop)→Prop
 | none,none,k=>k 0 n
 | some (.d (.val (.int _ a))),none,k=>(0≤a∧a≤n)∧k a.toNat n
 | none,some (.d (.val (.int _ b))),k=>(0≤b∧b≤n)∧k 0 b.toNat
 | some (.d (.val (.int _ a))),some (.d (.val (.int _ b))),k=>(0≤a∧a≤b∧b≤n)∧k a.toNat b.toNat
 | _,_,_=>False
theorem gt{P:Program}{E:Env}{nx:Nat}{w:World}{isS:Bool}{n cap:Nat}(hn:n≤cap){lo hi:Option SV}{l h:Option Value}{k:Nat→Nat→Prop}
  (hl:∀x,lo=some x→∃v,l=some v∧RS E nx w x v) (hl0:lo=none→l=none) (hh:∀x,hi=some x→∃v,h=some v∧RS E nx w x v) (hh0:hi=none→h=none) (hb:jf n lo hi k) :
  ∃p q,(Instr.sliceBounds isS n cap l h none).run P w=.ok (p,q,cap) w∧p≤q∧q≤n∧k p q:=by
 unfold jf at hb
 split at hb
 ·rw[hl0 rfl,hh0 rfl]
  exact⟨0,n,by simp[Instr.sliceBounds],by omega,by omega,hb⟩
 ·rename_i kk a
  obtain⟨v,rfl,hv⟩:=hl _ rfl
  obtain rfl:=hv.val_inv
  rw[hh0 rfl]
  obtain⟨⟨h1,h2⟩,h3⟩:=hb
  exact⟨a.toNat,n,by simp[Instr.sliceBounds,Instr.sliceBound,asIntOf,h1,h2],by omega,by omega,h3⟩
 ·rename_i kk b
  obtain⟨v,rfl,hv⟩:=hh _ rfl
  obtain rfl:=hv.val_inv
  rw[hl0 rfl]
  obtain⟨⟨h1,h2⟩,h3⟩:=hb
  have h4:b≤cap:=by omega
  exact⟨0,b.toNat,by simp[Instr.sliceBounds,Instr.sliceBound,asIntOf,h1,h4],by omega,by omega,h3⟩
 ·rename_i k1 a k2 b
  obtain⟨v,rfl,hv⟩:=hl _ rfl
  obtain rfl:=hv.val_inv
  obtain⟨u,rfl,hu⟩:=hh _ rfl
  obtain rfl:=hu.val_inv
  obtain⟨⟨h1,h2,h3⟩,h4⟩:=hb
  have h5:b≤cap:=by omega
  have h6:0≤b:=by omega
  have h7:max b 0=b:=by omega
  exact⟨a.toNat,b.toNat,by simp[Instr.sliceBounds,Instr.sliceBound,asIntOf,h1,h2,h5,h6,h7],by omega,by omega,h4⟩
 ·exact hb.elim
def oL(C:Cx)(t:Nat):SV→Option SV→Option SV→(SV→Prop)→Prop
 | .d (.sl esz n f),lo,hi,k=>kv C t esz (jf n lo hi fun l h=>k (.d (.sl esz (h-l) fun i=>f (l+i))))
 | .sl m esz off len,lo,hi,k=>kv C t esz (jf len lo hi fun l h=>k (.sl m esz (off+l) (h-l)))
 | .d (.val (.string s)),lo,hi,k=>match C.tt t with
  | some j=>match j.k with
   | .str=>jf s.size lo hi fun l h=>k (.d (.val (.string (s.extract l h))))
   | _=>False
  | none=>False
 | _,_,_,_=>False
theorem ua{a:Option Addr}{b o q:Nat}(h:a=some ⟨b,o,none⟩):a.map (·.add q)=some ⟨b,o+q,none⟩:=by subst h;simp[Addr.add_mid]
theorem rM{C:Cx}{E:Env}{nx:Nat}{w:World}{t:Nat}{sx:SV}{u:Value}{lo hi:Option SV}{l h:Option Value}{k:SV→Prop}(hu:RS E nx w sx u)
  (hl:∀x,lo=some x→∃v,l=some v∧RS E nx w x v) (hl0:lo=none→l=none) (hh:∀x,hi=some x→∃v,h=some v∧RS E nx w x v) (hh0:hi=none→h=none) (hk:oL C t sx lo hi k) :
  bf C E nx w (Instr.sliceAt t u l h none) k:=by
 unfold oL at hk
 split at hk
 ·rename_i esz n f
  obtain⟨e,ht,hz,hz0,hb⟩:=fD hk
  cases hu with
  | d _ _ hu =>
   cases hu with
   | sl _ _ _ a cap g hc hm hlen ha hg =>
    obtain⟨p,q,hr,h1,h2,h3⟩:=gt (P:=C.P) (isS:=true) hc hl hl0 hh hh0 hb
    refine⟨.slice (if cap=p then a else a.map (·.add (p*esz))) (q-p) (cap-p),_,?_,h3,?_⟩
    ·simp[Instr.sliceAt,run_underlying ht,Instr.slice,hr,hz w]
    ·refine .d _ _ (.sl esz (q-p) _ _ _ (fun i j=>g (p+i) j) (by omega) (by omega) (fun i hi=>hlen _ (by omega)) (fun h0=>?_) (fun i j hi hj=>hg _ _ (by omega) hj))
     have hq:0<q-p:=Nat.pos_of_mul_pos_right h0
     obtain⟨b,o,e1,hb,hcell⟩:=ha (Nat.mul_pos (by omega) (by omega))
     refine⟨b,o+p*esz,?_,hb,fun i j hi hj=>?_⟩
     ·rw[if_neg (by omega)];exact ua e1
     ·have:=hcell (p+i) j (by omega) hj
      rw[Q18]at this
      rw[← this];congr 2;omega
 ·rename_i m esz off len
  obtain⟨e,ht,hz,hz0,hb⟩:=fD hk
  cases hu with
  | sl _ _ _ _ a cap hlx hc hm ha h0 =>
   obtain⟨p,q,hr,h1,h2,h3⟩:=gt (P:=C.P) (isS:=true) hc hl hl0 hh hh0 hb
   refine⟨.slice (if cap=p then a else a.map (·.add (p*esz))) (q-p) (cap-p),_,?_,h3,?_⟩
   ·simp[Instr.sliceAt,run_underlying ht,Instr.slice,hr,hz w]
   ·refine .sl m esz (off+p) (q-p) _ _ hlx (by omega) (by omega) (fun hq=>?_) (fun e0=>?_)
    ·rw[if_neg (by omega),ua (ha (by omega)),Q18]
    ·have e1:off=0:=by omega
     have e2:p=0:=by omega
     subst e1 e2
     obtain⟨g1,g2⟩:=h0 rfl
     refine⟨by omega,fun hc0=>?_⟩
     rw[if_neg (by omega),Nat.zero_mul]
     have:=g2 (by omega)
     rw[this];simp[Addr.add]
 ·rename_i s
  obtain rfl:=hu.val_inv
  split at hk
  ·rename_i j hj
   split at hk
   ·rename_i hkk
    have ht:=(C.ok _ _ hj).str hkk
    obtain⟨p,q,hr,h1,h2,h3⟩:=gt (P:=C.P) (isS:=false) (Q4 s.size) hl hl0 hh hh0 hk
    refine⟨_,_,?_,h3,.d _ _ (.val _ rfl)⟩
    simp[Instr.sliceAt,run_underlying ht,Instr.slice,hr]
   ·exact hk.elim
  ·exact hk.elim
 ·exact hk.elim
def iK:SV→(SV→Prop)→Prop
 | .ptr l o,k=>k (.ptr l o)
 | .rp l z i o,k=>k (.rp l z i o)
 | .d (.ref cs o),k=>k (.d (.ref cs o))
 | .d (.fn (.func f) c),k=>k (.d (.fn (.func f) c))
 | .fn (.func f) c,k=>k (.fn (.func f) c)
 | .iref cs o,k=>k (.iref cs o)
 | _,_=>False
theorem iy{α β:Type}{P:Program}{w:World}(f:α→Sem β)(g:α→β):∀(l:List α),(∀x∈l,(f x).run P w=.ok (g x) w)→(l.mapM f).run P w=.ok (l.map g) w
 | [],_=>by simp
 | x::r,h=>by
  have ih:=iy f g r fun y hy=>h y (by simp[hy])
  rw[List.mapM_cons]
  simp[h x (by simp),ih]
theorem yy(vs:List Value):∀(s off:Nat) (cs:Array Value),off+s+vs.length≤cs.size →
  (((vs.zipIdx s).foldl (fun cs (p:Value×Nat)=>cs.setIfInBounds (off+p.2) p.1) cs).toList=cs.toList.take (off+s)++vs++cs.toList.drop (off+s+vs.length)):=by
 induction vs with
 | nil=>intro s off cs h;simp
 | cons v r ih =>
  intro s off cs h
  simp only[List.zipIdx_cons,List.foldl_cons]
  rw[ih (s+1) off _ (by simp at h⊢;omega)]
  have e:=list_seg_step cs.toList (off+s) v r (by simp at h⊢;omega)
  simpa[Array.toList_setIfInBounds,Nat.add_assoc]using e
theorem m5(v:Array Value)(off:Nat)(cs:Array Value)(h:off+v.size≤cs.size) :
  (v.zipIdx.foldl (fun cs (x:Value×Nat)=>match x with|(c,j)=>cs.setIfInBounds (off+j) c) cs).toList=cs.toList.take off++v.toList++cs.toList.drop (off+v.toList.length):=by
 have:=yy v.toList 0 off cs (by simpa using h)
 rw[← Array.foldl_toList]
 simpa using this
def i8(C:Cx)(S:St)(fs:List (Nat×Nat)):List (Nat×Operand)→List SV→(List SV→Prop)→Prop
 | [],cs,k=>k cs
 | (i,x)::r,cs,k=>match fs[i]? with
  | some (off,ft)=>match C.tt ft with
   | some j=>bF (ev S x) fun vs=>bif Nat.beq vs.length j.size then jy cs off vs fun cs'=>i8 C S fs r cs' k else False
   | none=>False
  | none=>False
theorem pF{C:Cx}{O:Org}{E:Env}{S:St}{a:Act}{w:World}(hs:Sat O E S a w){fs:List (Nat×Nat)}{place:Nat→Option (Nat×Nat)}(hp:∀i off ft j,fs[i]?=some (off,ft)→C.tt ft=some j→place i=some (off,j.size)) :
  ∀(parts:List (Nat×Operand)) (cs:List SV) (us:Array Value) (k:List SV→Prop),bY E S.nx w cs us.toList→i8 C S fs parts cs k →
   ∃(cs':List SV) (us':Array Value),Instr.fill place us (parts.map fun p=>(p.1,a.eval p.2))=some us'∧bY E S.nx w cs' us'.toList∧k cs'
 | [],cs,us,k,ht,h=>⟨cs,us,rfl,ht,h⟩
 | (i,x)::r,cs,us,k,ht,h=>by
  unfold i8 at h
  split at h
  ·rename_i off ft hf
   split at h
   ·rename_i j hj
    obtain⟨vs,h,hv⟩:=aO h (aP hs x)
    cases hz:Nat.beq vs.length j.size with
    | false=>simp[hz]at h
    | true =>
     simp only[hz,cond_true]at h
     have hz:=Q2 hz
     obtain⟨h1,h2⟩:=it _ _ _ _ h
     have e1:=ht.1
     have e2:=hv.1
     have e3:us.size=cs.length:=by simpa using e1
     have e4:(a.eval x).cells.size=vs.length:=by simpa using e2
     have hT:=ht.splice hv off h1
     have hfold:=m5 (a.eval x).cells off us (by omega)
     rw[← hfold]at hT
     obtain⟨cs',us',g1,g2,g3⟩:=pF hs hp r _ _ k hT h2
     refine⟨cs',us',?_,g2,g3⟩
     simp only[List.map_cons,Instr.fill,hp i off ft j hf hj]
     rw[if_neg (by simp;omega)]
     exact g1
   ·exact h.elim
  ·exact h.elim
def ny(C:Cx)(S:St)(t:Nat)(parts:List (Nat×Operand))(k:SV→Prop):Prop :=
 match C.tt t with
 | some i=>match i.k with
  | .struct fs=>bif fs.all (fun p=>(C.tt p.2).isSome)then jt i.zero (fun cs=>i8 C S fs parts cs fun cs'=>k (.agg cs'))else False
  | _=>False
 | none=>False
theorem tQ{C:Cx}{O:Org}{E:Env}{S:St}{a:Act}{w:World}(hs:Sat O E S a w){t:Nat}{parts:Array (Nat×Operand)}{k:SV→Prop}(h:ny C S t parts.toList k) :
  bf C E S.nx w (Instr.build t (parts.map fun(i,x)=>(i,a.eval x))) k:=by
 unfold ny at h
 split at h
 ·rename_i i hi
  split at h
  ·rename_i fs hk
   obtain⟨Fs,hF,hm⟩:=(C.ok _ _ hi).struct hk
   obtain⟨j,z,h1,h2,h3,h4,_⟩:=(C.ok _ _ hi).info
   cases hall:fs.all (fun p=>(C.tt p.2).isSome)with
   | false=>simp[hall]at h
   | true =>
    simp only[hall,cond_true]at h
    rw[Q23]at hall
    obtain⟨cs,g1,g2⟩:=kP E S.nx w _ _ h
    rw[← h3]at g2
    let g:Field→Nat×Nat:=fun F=>(F.offset,((C.tt F.type).map (·.size)).getD 0)
    have hmap:(Fs.toList.mapM fun(f:Field)=>Prod.mk f.offset <$> sizeOf f.type).run C.P w=.ok (Fs.toList.map g) w:=by
     refine iy _ _ _ fun F hF'=>?_
     have hmem:(F.offset,F.type)∈fs:=by rw[← hm];exact List.mem_map.2 ⟨F,hF',rfl⟩
     have hsome:=hall _ hmem
     obtain⟨q,hq⟩:=Option.isSome_iff_exists.1 hsome
     have hz:=(C.ok _ _ hq).sizeOf w
     simp only at hq
     simp[hz,g,hq]
    obtain⟨cs',us',e1,e2,e3⟩:=pF hs (fs:=fs) (place:=fun q=>(Fs.toList.map g).toArray[q]?) (fun q off ft jj hq hj=>by
     rw[← hm,List.getElem?_map]at hq
     obtain⟨F,hF1,hF2⟩:=Option.map_eq_some_iff.1 hq
     injection hF2 with g1 g2
     subst g1 g2
     have hF3:Fs[q]?=some F:=by simpa using hF1
     have hj':C.tt F.type=some jj:=hj
     simp[List.getElem?_map,hF3,g,hj']) parts.toList cs z.cells _ g2 g1
    refine⟨.agg us',_,?_,e3,.agg _ _ ?_ ?_ ?_⟩
    ·simp only[Instr.build]
     simp[zeroValue,typeInfo,h1,h2,run_underlying hF]
     rw[show Fs.mapM (fun(f:Field)=>Prod.mk f.offset <$> sizeOf f.type)=(List.toArray <$> Fs.toList.mapM fun(f:Field)=>Prod.mk f.offset <$> sizeOf f.type)by rw[← List.mapM_toArray]]
     simp[hmap]
     simp at e1
     simp[e1]
    ·simpa using e2.1
    ·intro q hq
     exact e2.one _ (by
      have:us'.getD q undef=us'[q]:=by simp[Array.getD,hq]
      rw[this];simp)
    ·intro q hq
     obtain⟨v,k1,k2,_⟩:=e2.2 q _ (Q0 hq)
     rw[aL,k1];exact k2
  ·exact h.elim
 ·exact h.elim
def dR(S:St)(esz:Nat):List (Nat×Operand)→List SV→(List SV→Prop)→Prop
 | [],cs,k=>k cs
 | (i,x)::r,cs,k=>bF (ev S x) fun vs=>bif Nat.beq vs.length esz then jy cs (i*esz) vs (fun cs'=>dR S esz r cs' k)else False
theorem na{O:Org}{E:Env}{S:St}{a:Act}{w:World}(hs:Sat O E S a w){esz:Nat} :
  ∀(parts:List (Nat×Operand)) (cs:List SV) (us:Array Value) (k:List SV→Prop),bY E S.nx w cs us.toList→dR S esz parts cs k →
   ∃(cs':List SV) (us':Array Value),Instr.fill (fun i=>some (i*esz,esz)) us (parts.map fun p=>(p.1,a.eval p.2))=some us'∧bY E S.nx w cs' us'.toList∧k cs'∧us'.size=us.size
 | [],cs,us,k,ht,h=>⟨cs,us,rfl,ht,h,rfl⟩
 | (i,x)::r,cs,us,k,ht,h=>by
  unfold dR at h
  obtain⟨vs,h,hv⟩:=aO h (aP hs x)
  cases hz:Nat.beq vs.length esz with
  | false=>simp[hz]at h
  | true =>
   simp only[hz,cond_true]at h
   have hz:=Q2 hz
   obtain⟨h1,h2⟩:=it _ _ _ _ h
   have e1:=ht.1
   have e2:=hv.1
   have e3:us.size=cs.length:=by simpa using e1
   have e4:(a.eval x).cells.size=vs.length:=by simpa using e2
   have hT:=ht.splice hv (i*esz) h1
   have hfold:=m5 (a.eval x).cells (i*esz) us (by omega)
   rw[← hfold]at hT
   obtain⟨cs',us',g1,g2,g3,g4⟩:=na hs r _ _ k hT h2
   refine⟨cs',us',?_,g2,g3,?_⟩
   ·simp only[List.map_cons,Instr.fill]
    rw[if_neg (by simp;omega)]
    exact g1
   ·rw[g4]
    have:=congrArg List.length hfold
    rw[bi _ _ _ (by simp;omega)]at this
    simpa using this
def bm(F:List D)(esz i:Nat):List D:=(F.drop (i*esz)).take esz
def cB(C:Cx)(S:St)(t len:Nat)(parts:List (Nat×Operand))(k:TypeId→Nat→(Nat→List D)→Prop):Prop :=
 match C.tt t with
 | some i=>match i.k with
  | .slice e=>match C.tt e with
   | some j=>bif j.zero.all Value.oneCell'&&Nat.ble (len*j.size) 1048576&&Nat.blt 0 j.size&&Nat.beq j.zero.length j.size then
     dR S j.size parts (List.replicate (len*j.size) .any) (fun cs=>fM cs fun ds=>k e j.size (bm ds j.size))else False
   | none=>False
  | _=>False
 | none=>False
def jd(C:Cx)(S:St)(t len:Nat)(parts:List (Nat×Operand))(k:St→SV→Prop):Prop :=
 cB C S t len parts fun e z f=>match S with
  | ⟨nt,nx,fr,hp⟩=>k ⟨nt,nx+1,fr,(nx,some (.row e z len f))::hp⟩ (.sl nx z 0 len)
theorem Sat.newrow{O:Org}{E:Env}{S:St}{a:Act}{w:World}(h:Sat O E S a w){e esz n cap:Nat}{f:Nat→List D}{vs:Array Value}(h1:n≤cap)(h2:cap≤maxLen)(h3:0<esz)(h4:∀i,i<n→(f i).length=esz)
  (h5:vs.size=cap*esz) (h6:∀j,j<n*esz→(vs.getD j undef).oneCell'=true) (h7:∀i j (_:i<n) (hj:j<(f i).length),RD w E.Im ((f i)[j]) (vs.getD (i*esz+j) undef)) :
  Sat O (E.newrow S.nx w.heap.size cap) ⟨S.nt,S.nx+1,S.fr,(S.nx,some (.row e esz n f))::S.hp⟩ a (w.alloc (.cells vs e)) ∧
   RS (E.newrow S.nx w.heap.size cap) (S.nx+1) (w.alloc (.cells vs e)) (.sl S.nx esz 0 n) (.slice (some ⟨w.heap.size,0,none⟩) n cap):=by
 have hE:∀l,l<S.nx→(E.newrow S.nx w.heap.size cap).ρ l=E.ρ l∧(E.newrow S.nx w.heap.size cap).κ l=E.κ l:=fun l hl=>⟨by simp only[Env.newrow];rw[if_neg (by omega)],by simp only[Env.newrow];rw[if_neg (by omega)]⟩
 have hr:(E.newrow S.nx w.heap.size cap).ρ S.nx=w.heap.size:=by simp[Env.newrow]
 have hk:(E.newrow S.nx w.heap.size cap).κ S.nx=cap:=by simp[Env.newrow]
 refine⟨h.alloc_gen _ _ hE rfl hr ?_,?_⟩
 ·refine⟨by rw[hk];exact h1,by rw[hk];exact h2,h3,h4,fun _=>⟨vs,by rw[hr];exact aB w _,by rw[hk];exact h5,h6,fun i j hi hj=>?_⟩⟩
  exact(h7 i j hi hj).mono (fun _ hb=>hb) fun b hb=>Below.heap_alloc _ _ _ (h.im b hb).1
 ·refine .sl _ _ _ _ _ _ (by omega) h1 h2 (fun _=>by rw[hr,Nat.zero_mul]) (fun _=>⟨hk.symm,fun _=>by rw[hr]⟩)
theorem eE {C:Cx} {O:Org} {E:Env} {S:St} {a:Act} {w:World} (hs:Sat O E S a w) {t len:Nat} {parts:Array (Nat×Operand)} {k:TypeId→Nat→(Nat→List D)→Prop} (h:cB C S t len parts.toList k) :
  ∃(e:TypeId) (z:Nat) (f:Nat→List D) (us':Array Value),k e z f∧(Instr.buildSlice t len (parts.map fun(i,x)=>(i,a.eval x))).run C.P w=.ok (.slice (some ⟨w.heap.size,0,none⟩) len len) (w.alloc (.cells us' e)) ∧
   len≤maxLen∧0<z∧(∀i,i<len→(f i).length=z)∧us'.size=len*z∧(∀j,j<len*z→(us'.getD j undef).oneCell'=true)∧(∀i j (_:i<len) (hj:j<(f i).length),RD w E.Im ((f i)[j]) (us'.getD (i*z+j) undef)):=by
 unfold cB at h
 split at h
 ·rename_i i hi
  split at h
  ·rename_i e hk
   have ht:=(C.ok _ _ hi).slice hk
   split at h
   ·rename_i j hj
    obtain⟨jj,z,q1,q2,q3,q4,_⟩:=(C.ok _ _ hj).info
    have hsz:=(C.ok _ _ hj).sizeOf w
    cases hall:(j.zero.all Value.oneCell'&&Nat.ble (len*j.size) 1048576&&Nat.blt 0 j.size&&Nat.beq j.zero.length j.size)with
    | false=>simp[hall]at h
    | true =>
     simp only[hall,cond_true]at h
     simp only[Q5]at hall
     obtain⟨⟨⟨a1,a2⟩,a3⟩,a4⟩:=hall
     have a2:len*j.size≤1048576:=zzb a2
     have a3:0<j.size:=by simpa using a3
     have a4:j.zero.length=j.size:=Q2 a4
     rw[Q23]at a1
     have hzs:z.cells.size=j.size:=by rw[← a4,← q3];simp
     let us0:Array Value:=(Array.range (len*j.size)).map (z.cells[·%z.cells.size]!)
     have hus0:us0.size=len*j.size:=by simp[us0]
     have hT0:bY E S.nx w (List.replicate (len*j.size) .any) us0.toList:=by
      refine⟨by simp[us0],fun q x hx=>?_⟩
      obtain⟨hq1,hq2⟩:=Q3 hx
      have hq:q<len*j.size:=by simpa using hq1
      have hm:q%z.cells.size<z.cells.size:=Nat.mod_lt _ (by omega)
      refine⟨z.cells[q%z.cells.size],by simp[us0,hq,hm],by rw[← hq2];simp;exact .any _,a1 _ (by rw[← q3];simp)⟩
     obtain⟨cs',us',g1,g2,g3,g4⟩:=na hs (esz:=j.size) parts.toList _ us0 _ hT0 h
     obtain⟨ds,hds,g5⟩:=gx _ _ g3
     subst hds
     have hlen:ds.length=len*j.size:=by
      have e:=g2.1
      rw[List.length_map]at e
      rw[← e,Array.length_toList,g4,hus0]
     have hne:∀p,p<len→(bm ds j.size p).length=j.size:=fun p hp=>by
      have:(p+1)*j.size≤len*j.size:=Q8 _ hp
      rw[Q18]at this
      simp only[bm,Q10,List.length_drop];omega
     have hlm:len≤1048576:=Nat.le_trans (Nat.le_mul_of_pos_right _ a3) a2
     refine⟨e,j.size,_,us',g5,?_,by unfold maxLen;omega,a3,hne,g4.trans hus0,(fun q hq=>by
       have hq':q<us'.size:=by rw[g4,hus0];exact hq
       have:us'.getD q undef=us'[q]:=by simp[Array.getD,hq']
       rw[this];exact g2.one _ (by simp)),(fun p q hp hq=>by
       have hq1:q<j.size:=by rw[← hne p hp];exact hq
       have hm:(p+1)*j.size≤len*j.size:=Q8 _ hp
       rw[Q18]at hm
       have hget:(bm ds j.size p)[q]=ds[p*j.size+q]'(by omega):=by simp[bm]
       obtain⟨v,k1,k2,_⟩:=g2.2 (p*j.size+q) (.d (ds[p*j.size+q]'(by omega))) (by
        rw[List.getElem?_map,Q0 (by omega)];rfl)
       rw[hget,aL,k1]
       cases k2 with|d _ _ k2=>exact k2)⟩
     have hbig:¬(16777216<len*j.size):=by omega
     simp only[Instr.buildSlice]
     by_cases hl0:len*j.size=0
     ·have hu0:us0=#[]:=by apply Array.eq_empty_of_size_eq_zero;omega
      rw[hu0]at g1
      have hl1:len=0:=by rcases Nat.mul_eq_zero.1 hl0 with h9|h9<;>omega
      subst hl1
      simp[run_underlying ht,hsz]
      rw[show(Array.map (fun _=>default) (Array.range 0):Array Value)=#[]by simp[Array.range_zero']]
      simp[g1,newRow]
     ·have g1':Instr.fill (fun i=>some (i*j.size,j.size)) ((Array.range (len*j.size)).map (z.cells[·%z.cells.size]!)) (parts.toList.map fun p=>(p.1,a.eval p.2))=some us':=g1
      simp[run_underlying ht,hsz,hbig,hl0,zeroValue,typeInfo,q1,q2]
      simp[g1',newRow]
   ·exact h.elim
  ·exact h.elim
 ·exact h.elim
theorem jF{C:Cx}{O:Org}{E:Env}{S:St}{a:Act}{w:World}(hs:Sat O E S a w){t len:Nat}{parts:Array (Nat×Operand)}{k:St→SV→Prop}(h:jd C S t len parts.toList k) :
  bI C O a w (Instr.buildSlice t len (parts.map fun(i,x)=>(i,a.eval x))) k:=by
 obtain⟨e,z,f,us',g5,hrun,h1,h2,h3,h4,h5,h6⟩:=eE hs h
 obtain⟨nt,nx,fr,hp⟩:=S
 obtain⟨s1,s2⟩:=hs.newrow (e:=e) (n:=len) (cap:=len) (f:=f) (vs:=us') (Q4 _) h1 h2 h3 h4 h5 h6
 exact⟨_,_,_,_,_,hrun,g5,s1,s2⟩
theorem aG{hp:List (Nat×Option Blk)}{l m:Nat}{x:Blk}(h:lkh ((l,none)::hp) m=some x):m≠l∧lkh hp m=some x:=by
 rw[ah]at h
 by_cases e:l=m
 ·rw[if_pos e]at h;simp at h
 ·rw[if_neg e]at h;exact⟨fun k=>e k.symm,h⟩
theorem Sat.kill{O:Org}{E:Env}{S:St}{a:Act}{w:World}(h:Sat O E S a w)(l:Nat):Sat O E ⟨S.nt,S.nx,S.fr,(l,none)::S.hp⟩ a w :=
 ⟨h.fr,h.nt,h.df,fun m x hm=>h.hp m x (aG hm).2,fun m x hm=>h.nx m x (aG hm).2,fun m m' x x' hm hm'=>h.inj m m' x x' (aG hm).2 (aG hm').2,
  fun b hb=>let⟨h1,h2,h3⟩:=h.im b hb;⟨h1,h2,fun m x hm=>h3 m x (aG hm).2⟩,fun m x hm=>h.own m x (aG hm).2,h.kq,h.lab,h.nl,h.imo⟩
theorem Sat.rename{O:Org}{E:Env}{S:St}{a:Act}{w w':World}(h:Sat O E S a w){l:Nat}{b b':Blk}(hl:lkh S.hp l=some b)(hr:b'.real (E.κ l)→b.real (E.κ l))
  (hw:∀k,k<w.heap.size→(b'.real (E.κ l)→k≠E.ρ l)→w'.heap[k]?=w.heap[k]?) (hsz:w'.heap.size=w.heap.size) (hos:w'.os=w.os∧w'.tape=w.tape∧w'.output=w.output)
  (hb:BS (E.newrow S.nx (E.ρ l) (E.κ l)) (S.nx+1) w' S.nx b'):Sat O (E.newrow S.nx (E.ρ l) (E.κ l)) ⟨S.nt,S.nx+1,S.fr,(S.nx,some b')::(l,none)::S.hp⟩ a w':=by
 have hE:∀m,m<S.nx→(E.newrow S.nx (E.ρ l) (E.κ l)).ρ m=E.ρ m∧(E.newrow S.nx (E.ρ l) (E.κ l)).κ m=E.κ m:=fun m hm=>⟨by simp only[Env.newrow];rw[if_neg (by omega)],by simp only[Env.newrow];rw[if_neg (by omega)]⟩
 have hρ:(E.newrow S.nx (E.ρ l) (E.κ l)).ρ S.nx=E.ρ l:=by simp[Env.newrow]
 have hκ:(E.newrow S.nx (E.ρ l) (E.κ l)).κ S.nx=E.κ l:=by simp[Env.newrow]
 have hwi:∀k,E.Im k→w'.heap[k]?=w.heap[k]?:=fun k hk=>hw k (h.im k hk).1 (fun hx e=>(h.im k hk).2.2 l b hl (hr hx) e.symm)
 have hlive:∀m x,lkh ((S.nx,some b')::(l,none)::S.hp) m=some x→(m=S.nx∧x=b')∨(m<S.nx∧m≠l∧lkh S.hp m=some x):=by
  intro m x hm
  rw[ah]at hm
  by_cases e:S.nx=m
  ·rw[if_pos e]at hm;cases hm;exact Or.inl ⟨e.symm,rfl⟩
  ·rw[if_neg e]at hm
   obtain⟨h1,h2⟩:=aG hm
   exact Or.inr ⟨h.nx m x h2,h1,h2⟩
 refine⟨fun m=>(h.fr m).mono hE (by simp) (fun _ hb=>hb) hwi,h.nt,h.df,?_,?_,?_,?_,?_,?_,?_,by have:=h.nl;simp only;omega,h.imo⟩
 ·intro m x hm
  rcases hlive m x hm with⟨rfl,rfl⟩|⟨hlt,hne,hm'⟩
  ·exact hb
  ·exact(h.hp m x hm').mono hlt hE (by simp) (fun _ hb=>hb) hwi (fun hxr=>hw _ ((h.hp m x hm').lt hxr) (fun hx=>h.inj m l x b hm' hl hxr (hr hx) hne))
 ·intro m x hm
  rcases hlive m x hm with⟨rfl,rfl⟩|⟨hlt,hne,hm'⟩<;>simp only<;>omega
 ·intro m m' x x' hm hm' hxr hxr' hne'
  rcases hlive m x hm with⟨rfl,rfl⟩|⟨hlt,hne,hm1⟩<;>rcases hlive m' x' hm' with⟨rfl,rfl⟩|⟨hlt',hne1,hm1'⟩
  ·exact absurd rfl hne'
  ·rw[hρ,(hE m' hlt').1];rw[hκ]at hxr;rw[(hE m' hlt').2]at hxr';exact h.inj _ _ _ _ hl hm1' (hr hxr) hxr' (fun e=>hne1 e.symm)
  ·rw[hρ,(hE m hlt).1];rw[hκ]at hxr';rw[(hE m hlt).2]at hxr;exact h.inj _ _ _ _ hm1 hl hxr (hr hxr') hne
  ·rw[(hE m hlt).1,(hE m' hlt').1];rw[(hE m hlt).2]at hxr;rw[(hE m' hlt').2]at hxr';exact h.inj _ _ _ _ hm1 hm1' hxr hxr' hne'
 ·intro k hk
  obtain⟨h1,h2,h3⟩:=h.im k hk
  refine⟨by omega,h2,fun m x hm hxr=>?_⟩
  rcases hlive m x hm with⟨rfl,rfl⟩|⟨hlt,hne,hm'⟩
  ·rw[hρ];rw[hκ]at hxr;exact h3 l b hl (hr hxr)
  ·rw[(hE m hlt).1];rw[(hE m hlt).2]at hxr;exact h3 m x hm' hxr
 ·intro m x hm hxr
  rcases hlive m x hm with⟨rfl,rfl⟩|⟨hlt,hne,hm'⟩
  ·rw[hρ];rw[hκ]at hxr;exact h.own l b hl (hr hxr)
  ·rw[(hE m hlt).1];rw[(hE m hlt).2]at hxr;exact h.own m x hm' hxr
 ·have hk:=h.kq
  refine⟨hos.1.trans hk.os,hos.2.1.trans hk.tape,hos.2.2.trans hk.output,by have:=hk.size;omega,fun k hk1 hk2=>?_⟩
  rw[hw k (by have:=hk.size;omega) (fun hx e=>by rcases h.own l b hl (hr hx)with h9|h9;exact hk2 (e▸h9);omega)]
  exact hk.block k hk1 hk2
 ·intro m hm
  have:=h.nl
  obtain⟨h1,h2⟩:=hE m (by omega)
  rw[h1,h2];exact h.lab m hm
theorem Sat.virt{O:Org}{E:Env}{S:St}{a:Act}{w:World}(h:Sat O E S a w){e esz:Nat}{f:Nat→List D}(hz:0<esz) :
  Sat O (E.newrow S.nx 0 0) ⟨S.nt,S.nx+1,S.fr,(S.nx,some (.row e esz 0 f))::S.hp⟩ a w:=by
 have hE:∀m,m<S.nx→(E.newrow S.nx 0 0).ρ m=E.ρ m∧(E.newrow S.nx 0 0).κ m=E.κ m:=fun m hm=>⟨by simp only[Env.newrow];rw[if_neg (by omega)],by simp only[Env.newrow];rw[if_neg (by omega)]⟩
 have hκ:(E.newrow S.nx 0 0).κ S.nx=0:=by simp[Env.newrow]
 have hlive:∀m x,lkh ((S.nx,some (.row e esz 0 f))::S.hp) m=some x→(m=S.nx∧x=.row e esz 0 f)∨(m<S.nx∧lkh S.hp m=some x):=by
  intro m x hm
  rw[ah]at hm
  by_cases e:S.nx=m
  ·rw[if_pos e]at hm;cases hm;exact Or.inl ⟨e.symm,rfl⟩
  ·rw[if_neg e]at hm;exact Or.inr ⟨h.nx m x hm,hm⟩
 refine⟨fun m=>(h.fr m).mono hE (by simp) (fun _ hb=>hb) (fun _ _=>rfl),h.nt,h.df,?_,?_,?_,?_,?_,h.kq,?_,by have:=h.nl;simp only;omega,h.imo⟩
 ·intro m x hm
  rcases hlive m x hm with⟨rfl,rfl⟩|⟨hlt,hm'⟩
  ·exact⟨by rw[hκ];exact Q4 _,by rw[hκ];exact Nat.zero_le _,hz,fun i hi=>by omega,fun hk=>by rw[hκ]at hk;omega⟩
  ·exact(h.hp m x hm').mono hlt hE (by simp) (fun _ hb=>hb) (fun _ _=>rfl) (fun _=>rfl)
 ·intro m x hm
  rcases hlive m x hm with⟨rfl,rfl⟩|⟨hlt,hm'⟩<;>simp only<;>omega
 ·intro m m' x x' hm hm' hxr hxr' hne'
  rcases hlive m x hm with⟨rfl,rfl⟩|⟨hlt,hm1⟩<;>rcases hlive m' x' hm' with⟨rfl,rfl⟩|⟨hlt',hm1'⟩
  ·exact absurd rfl hne'
  ·rw[hκ]at hxr;exact absurd hxr (Nat.lt_irrefl 0)
  ·rw[hκ]at hxr';exact absurd hxr' (Nat.lt_irrefl 0)
  ·rw[(hE m hlt).1,(hE m' hlt').1];rw[(hE m hlt).2]at hxr;rw[(hE m' hlt').2]at hxr';exact h.inj _ _ _ _ hm1 hm1' hxr hxr' hne'
 ·intro k hk
  obtain⟨h1,h2,h3⟩:=h.im k hk
  refine⟨h1,h2,fun m x hm hxr=>?_⟩
  rcases hlive m x hm with⟨rfl,rfl⟩|⟨hlt,hm'⟩
  ·rw[hκ]at hxr;exact absurd hxr (Nat.lt_irrefl 0)
  ·rw[(hE m hlt).1];rw[(hE m hlt).2]at hxr;exact h3 m x hm' hxr
 ·intro m x hm hxr
  rcases hlive m x hm with⟨rfl,rfl⟩|⟨hlt,hm'⟩
  ·rw[hκ]at hxr;exact absurd hxr (Nat.lt_irrefl 0)
  ·rw[(hE m hlt).1];rw[(hE m hlt).2]at hxr;exact h.own m x hm' hxr
 ·intro m hm
  have:=h.nl
  obtain⟨h1,h2⟩:=hE m (by omega)
  rw[h1,h2];exact h.lab m hm
theorem ni{q m esz:Nat}(h:q<m*esz):q/esz<m∧q%esz<esz∧q/esz*esz+q%esz=q:=by
 have hz:0<esz:=Nat.pos_of_mul_pos_left (Nat.lt_of_le_of_lt (Nat.zero_le _) h)
 exact⟨(Nat.div_lt_iff_lt_mul hz).2 h,Nat.mod_lt _ hz,Nat.div_add_mod' q esz⟩
theorem nh{i j esz:Nat}(h:j<esz):(i*esz+j)/esz=i∧(i*esz+j)%esz=j:=by
 have hz:0<esz:=by omega
 refine⟨?_,?_⟩
 ·rw[Nat.mul_comm,Nat.mul_add_div hz,Nat.div_eq_of_lt h,Nat.add_zero]
 ·rw[Nat.mul_comm,Nat.mul_add_mod,Nat.mod_eq_of_lt h]
structure zG(w:World)(Im:Nat→Prop)(esz m:Nat)(g:Nat→List D)(xs:List Value):Prop where
 len:xs.length=m*esz
 ln:∀i,i<m→(g i).length=esz
 one:∀u∈xs,u.oneCell'=true
 rd:∀i j (_:i<m) (hj:j<(g i).length),RD w Im ((g i)[j]) ((xs[i*esz+j]?).getD undef)
def bu(n:Nat)(f g:Nat→List D)(i:Nat):List D:=if i<n then f i else g (i-n)
theorem zG.cat{w:World}{Im:Nat→Prop}{esz n m:Nat}{f g:Nat→List D}{xs ys:List Value}(h:zG w Im esz n f xs)(k:zG w Im esz m g ys):zG w Im esz (n+m) (bu n f g) (xs++ys):=by
 refine⟨by rw[Q9,h.len,k.len,Q18],fun i hi=>?_,fun u hu=>?_,fun i j hi hj=>?_⟩
 ·unfold bu;split
  ·exact h.ln i (by assumption)
  ·exact k.ln _ (by omega)
 ·rcases List.mem_append.1 hu with hu|hu
  ·exact h.one u hu
  ·exact k.one u hu
 ·have key:∀(c:List D),c=bu n f g i→∀hj':j<c.length,RD w Im (c[j]) (((xs++ys)[i*esz+j]?).getD undef):=by
   intro c hc hj'
   unfold bu at hc
   by_cases hlt:i<n
   ·rw[if_pos hlt]at hc;subst hc
    have h1:=h.ln i hlt
    have:(i+1)*esz≤n*esz:=Q8 _ hlt
    rw[Q18]at this
    rw[Q11 (by rw[h.len];omega)]
    exact h.rd i j hlt hj'
   ·rw[if_neg hlt]at hc;subst hc
    have:n*esz≤i*esz:=Q8 _ (by omega)
    rw[Q12 (by rw[h.len];omega),h.len,show i*esz+j-n*esz=(i-n)*esz+j by rw[Nat.sub_mul];omega]
    exact k.rd (i-n) j (by omega) hj'
  exact key _ rfl hj
def js(S:St)(esz:Nat):SV→(Nat→(Nat→List D)→Prop)→Prop
 | .d (.sl z m g),k=>bif Nat.beq z esz then k m g else False
 | .sl l z o m,k=>match lkh S.hp l with
  | some (.row _ z2 n2 f2)=>bif (Nat.beq z esz&&Nat.beq z2 esz)then o+m≤n2∧k m (fun i=>f2 (o+i))else False
  | _=>False
 | .d (.val (.slice none 0 0)),k=>k 0 fun _=>[]
 | _,_=>False
theorem kO{O:Org}{E:Env}{S:St}{a:Act}{w:World}(hs:Sat O E S a w){esz:Nat}(hz0:0<esz){y:SV}{u:Value}{k:Nat→(Nat→List D)→Prop}(hu:RS E S.nx w y u)(h:js S esz y k) :
  ∃m g ad c xs,u=.slice ad m c∧k m g∧zG w E.Im esz m g xs∧(0<m→∃b o,ad=some ⟨b,o,none⟩∧∀(j:Nat) (v:Value),xs[j]?=some v→w.cell? ⟨b,o+j,none⟩=some v):=by
 have mk:∀(m:Nat) (g:Nat→List D) (val:Nat→Value),(∀i,i<m→(g i).length=esz)→(∀i j (_:i<m) (hj:j<(g i).length),RD w E.Im ((g i)[j]) (val (i*esz+j))) →
   zG w E.Im esz m g ((List.range (m*esz)).map val):=by
  intro m g val h1 h2
  refine⟨by simp,h1,fun u hu=>?_,fun i j hi hj=>?_⟩
  ·obtain⟨q,hq,rfl⟩:=List.mem_map.1 hu
   obtain⟨q1,q2,q3⟩:=ni (List.mem_range.1 hq)
   have:=(h2 (q/esz) (q%esz) q1 (by rw[h1 _ q1];exact q2)).one
   rwa [q3]at this
  ·have hj':j<esz:=by rw[← h1 i hi];exact hj
   have:(i+1)*esz≤m*esz:=Q8 _ hi
   rw[Q18]at this
   have hlt:i*esz+j<m*esz:=by omega
   simp[hlt]
   exact h2 i j hi hj
 unfold js at h
 split at h
 ·rename_i z m g
  cases hz:Nat.beq z esz with
  | false=>simp[hz]at h
  | true =>
   simp only[hz,cond_true]at h
   obtain rfl:=Q2 hz
   cases hu with
   | d _ _ hu =>
    cases hu with
    | sl _ _ _ ad cap gv hc hm hl ha hg =>
     refine⟨m,g,ad,cap,_,rfl,h,mk m g (fun q=>gv (q/z) (q%z)) hl (fun i j hi hj=>?_),fun hm0=>?_⟩
     ·have hj':j<z:=by rw[← hl i hi];exact hj
      simp only[(nh hj').1,(nh hj').2];exact hg i j hi hj
     ·obtain⟨b,o,e,hb,hcell⟩:=ha (Nat.mul_pos hm0 hz0)
      refine⟨b,o,e,fun j v hv=>?_⟩
      obtain⟨hj,hv'⟩:=Q3 hv
      have hj':j<m*z:=by simpa using hj
      obtain⟨q1,q2,q3⟩:=ni hj'
      have:=hcell (j/z) (j%z) q1 q2
      rw[Nat.add_assoc,q3]at this
      rw[this,← hv'];simp
 ·rename_i l z o m
  split at h
  ·rename_i e z2 n2 f2 hl
   cases hz:(Nat.beq z esz&&Nat.beq z2 esz)with
   | false=>simp[hz]at h
   | true =>
    simp only[hz,cond_true]at h
    rw[Q5]at hz
    obtain rfl:=Q2 hz.1
    obtain rfl:=Q2 hz.2
    obtain⟨hle,h⟩:=h
    cases hu with
    | sl _ _ _ _ ad cap hlx hc hm ha h0 =>
     obtain⟨k1,k2,k3,k4,k5⟩:=hs.hp l _ hl
     by_cases hm0:m=0
     ·subst hm0
      exact⟨0,_,ad,cap,[],rfl,h,⟨by simp,fun i hi=>by omega,fun u hu=>by simp at hu,fun i j hi=>by omega⟩,fun h=>by omega⟩
     ·obtain⟨vs,g1,g2,g3,g4⟩:=k5 (by omega)
      refine⟨m,_,ad,cap,_,rfl,h,mk m (fun i=>f2 (o+i)) (fun q=>vs.getD (o*z2+q) undef) (fun i hi=>k4 _ (by omega)) (fun i j hi hj=>?_),fun _=>⟨E.ρ l,o*z2,ha (by omega),fun j v hv=>?_⟩⟩
      ·have:=g4 (o+i) j (by omega) hj
       rw[Q18,Nat.add_assoc]at this
       exact this
      ·obtain⟨hj,hv'⟩:=Q3 hv
       have hj':j<m*z2:=by simpa using hj
       have h8:(o+m)*z2≤E.κ l*z2:=Q8 _ (by omega)
       rw[Q18]at h8
       have h9:o*z2+j<vs.size:=by omega
       rw[← hv']
       simp[World.cell?,g1,Array.getD,h9]
  ·exact h.elim
 ·obtain rfl:=hu.val_inv
  exact⟨0,_,none,0,[],rfl,h,⟨by simp,fun i hi=>by omega,fun u hu=>by simp at hu,fun i j hi=>by omega⟩,fun h=>by omega⟩
 ·exact h.elim
def qA(S:St)(e esz:Nat):SV→(Nat→Nat→(Nat→List D)→Prop)→Prop
 | .sl l z off n,k=>match lkh S.hp l with
  | some (.row e2 z2 m f)=>bif (Nat.beq z esz&&Nat.beq z2 esz&&Nat.beq e2 e)then(off=0∧n=m)∧k l n f else False
  | _=>False
 | .d (.val (.slice none 0 0)),k=>k S.nx 0 fun _=>[]
 | _,_=>False
def dY(C:Cx)(S:St)(t:Nat)(x y:SV)(k:St→SV→Prop):Prop :=
 match C.tt t with
 | some i=>match i.k with
  | .slice e=>match C.tt e with
   | some j=>bif Nat.blt 0 j.size&&Nat.blt 0 j.bytes&&Nat.beq j.zero.length j.size then
     qA S e j.size x (fun l n f=>js S j.size y fun m g=>(n+m)*j.bytes≤140737488355328∧match S with
      | ⟨nt,nx,fr,hp⟩=>k ⟨nt,nx+1,fr,(nx,some (.row e j.size (n+m) (bu n f g)))::(l,none)::hp⟩ (.sl nx j.size 0 (n+m)))else False
   | none=>False
  | _=>False
 | none=>False
theorem eQ(w:World)(need old:Nat)(e:TypeId)(h:need≤140737488355328):need≤grownCap w need old e∧grownCap w need old e≤maxLen:=by
 unfold grownCap Question.cut maxLen
 simp only
 have:w.tape w.drawn (.appendCap need old e)%(2^63-need)<2^63-need:=Nat.mod_lt _ (by omega)
 omega
theorem Sat.fresh{O:Org}{E:Env}{S:St}{a:Act}{w:World}(h:Sat O E S a w){e esz n cap:Nat}{f:Nat→List D}{xs:List Value}{zs:Array Value}(hl:zG w E.Im esz n f xs)(hz:0<esz)(h1:n≤cap)(h2:cap≤maxLen)
  (hzs:zs.size=(cap-n)*esz) :
  Sat O (E.newrow S.nx w.drew.heap.size cap) ⟨S.nt,S.nx+1,S.fr,(S.nx,some (.row e esz n f))::S.hp⟩ a (w.drew.alloc (.cells (xs.toArray++zs) e)) ∧
   RS (E.newrow S.nx w.drew.heap.size cap) (S.nx+1) (w.drew.alloc (.cells (xs.toArray++zs) e)) (.sl S.nx esz 0 n) (.slice (some ⟨w.heap.size,0,none⟩) n cap):=by
 have hg:∀j,j<n*esz→(xs.toArray++zs).getD j undef=(xs[j]?).getD undef:=fun j hj=>by
  have:j<xs.length:=by rw[hl.len];exact hj
  simp only[Q7]
  rw[Array.getElem?_append_left (by simpa using this)];simp
 refine(h.drew (w.drawn+1)).newrow h1 h2 hz hl.ln ?_ (fun j hj=>?_) (fun i j hi hj=>?_)
 ·have:n*esz+(cap-n)*esz=cap*esz:=by rw[← Q18];congr 1;omega
  simp[hl.len,hzs];exact this
 ·rw[hg j hj]
  have hj':j<xs.length:=by rw[hl.len];exact hj
  rw[Q0 hj']
  exact hl.one _ (Q14 hj')
 ·have hj':j<esz:=by rw[← hl.ln i hi];exact hj
  have:(i+1)*esz≤n*esz:=Q8 _ hi
  rw[Q18]at this
  rw[hg _ (by omega)]
  exact(hl.rd i j hi hj).mono (w:=w) (fun _ hb=>hb) fun _ _=>rfl
theorem kJ {C:Cx} {O:Org} {E:Env} {S:St} {a:Act} {w:World} (hs:Sat O E S a w) {t ty:Nat} {x y:SV} {u v:Value} {k:St→SV→Prop} (hu:RS E S.nx w x u) (hv:RS E S.nx w y v) (h:dY C S t x y k) :
  bI C O a w (Builtin.append_ #[t,t] ty #[u,v]) k:=by
 unfold dY at h
 split at h
 ·rename_i i hi
  split at h
  ·rename_i e hk
   have ht:=(C.ok _ _ hi).slice hk
   split at h
   ·rename_i j hj
    obtain⟨jj,z,q1,q2,q3,q4,q5⟩:=(C.ok _ _ hj).info
    cases hall:(Nat.blt 0 j.size&&Nat.blt 0 j.bytes&&Nat.beq j.zero.length j.size)with
    | false=>simp[hall]at h
    | true =>
     simp only[hall,cond_true]at h
     simp only[Q5]at hall
     obtain⟨⟨a3,a5⟩,a4⟩:=hall
     have a3:0<j.size:=by simpa using a3
     have a5:0<j.bytes:=by simpa using a5
     have a4:j.zero.length=j.size:=Q2 a4
     have hzs:z.cells.size=j.size:=by rw[← a4,← q3];simp
     have hzc:∀p,(Builtin.zeroCells z.cells p).size=p*j.size:=fun p=>by simp[Builtin.zeroCells,hzs]
     have from':∃l n f ad cap xs,u=.slice ad n cap∧zG w E.Im j.size n f xs∧(js S j.size y fun m g=>(n+m)*j.bytes≤140737488355328∧match S with
       | ⟨nt,nx,fr,hp⟩=>k ⟨nt,nx+1,fr,(nx,some (.row e j.size (n+m) (bu n f g)))::(l,none)::hp⟩ (.sl nx j.size 0 (n+m))) ∧
       ((n=0∧cap=0∧lkh S.hp l=none∨∃f',lkh S.hp l=some (.row e j.size n f')∧f'=f∧n=0∧cap=0∧E.κ l=0)∨(lkh S.hp l=some (.row e j.size n f)∧cap=E.κ l∧0<cap∧ad=some ⟨E.ρ l,0,none⟩ ∧
        ∃vs,w.heap[E.ρ l]?=some (.cells vs e (0,0))∧vs.size=cap*j.size∧n≤cap∧cap≤maxLen∧xs=vs.toList.take (n*j.size))):=by
      unfold qA at h
      split at h
      ·rename_i l z1 off n
       split at h
       ·rename_i e2 z2 m f hl
        cases hz:(Nat.beq z1 j.size&&Nat.beq z2 j.size&&Nat.beq e2 e)with
        | false=>simp[hz]at h
        | true =>
         simp only[hz,cond_true]at h
         simp only[Q5]at hz
         obtain⟨⟨z1e,z2e⟩,e2e⟩:=hz
         obtain rfl:=Q2 z1e
         obtain rfl:=Q2 z2e
         obtain rfl:=Q2 e2e
         obtain⟨⟨rfl,rfl⟩,h⟩:=h
         cases hu with
         | sl _ _ _ _ ad cap hlx hc hm ha h0 =>
          obtain⟨p1,p2⟩:=h0 rfl
          obtain⟨k1,k2,k3,k4,k5⟩:=hs.hp l _ hl
          by_cases hc0:cap=0
          ·have hn0:n=0:=by omega
           subst hc0
           exact⟨l,n,f,ad,0,[],rfl,⟨by simp[hn0],fun i hi=>by omega,fun u hu=>by simp at hu,fun i j hi=>by omega⟩,h,Or.inl (Or.inr ⟨f,hl,rfl,hn0,rfl,p1.symm⟩)⟩
          ·obtain⟨vs,g1,g2,g3,g4⟩:=k5 (by omega)
           have hnz:n*j.size≤vs.size:=by rw[g2];exact Q8 _ k1
           have hgt:∀q,q<n*j.size→((vs.toList.take (n*j.size))[q]?).getD undef=vs.getD q undef:=fun q hq=>by
            rw[Q15,if_pos hq,aL]
           refine⟨l,n,f,ad,cap,vs.toList.take (n*j.size),rfl,⟨by simp;omega,k4,fun u hu=>?_,fun i q hi hq=>?_⟩,h,Or.inr ⟨hl,p1,by omega,p2 (by omega),vs,g1,by rw[g2,p1],hc,hm,rfl⟩⟩
           ·obtain⟨q,hq,rfl⟩:=List.getElem_of_mem hu
            have hq':q<n*j.size:=by simp at hq;omega
            have:=g3 q hq'
            rw[aL]at this
            rw[List.getElem_take]
            have hq2:q<vs.toList.length:=by simp;omega
            rw[Q0 hq2]at this
            exact this
           ·have hq':q<j.size:=by rw[← k4 i hi];exact hq
            have:(i+1)*j.size≤n*j.size:=Q8 _ hi
            rw[Q18]at this
            rw[hgt _ (by omega)];exact g4 i q hi hq
       ·exact h.elim
      ·obtain rfl:=hu.val_inv
       refine⟨S.nx,0,_,none,0,[],rfl,⟨by simp,fun i hi=>by omega,fun u hu=>by simp at hu,fun i j hi=>by omega⟩,h,Or.inl (Or.inl ⟨rfl,rfl,?_⟩)⟩
       cases hq:lkh S.hp S.nx with
       | none=>rfl
       | some b=>have:=hs.nx _ _ hq;omega
      ·exact h.elim
     obtain⟨l,n,f,ad,cap,xs,rfl,hxs,h,hcase⟩:=from'
     obtain⟨m,g,bd,c,ys,rfl,⟨hbytes,h⟩,hys,hcell⟩:=kO hs a3 hv h
     have hnm:n+m≤140737488355328:=Nat.le_trans (Nat.le_mul_of_pos_right _ a5) hbytes
     have hcat:=hxs.cat hys
     obtain⟨nt,nx,fr,hp⟩:=S
     dsimp only at h hcase hs
     by_cases hm0:m=0
     ·-- nothing is appended
      subst hm0
      have hrun:(Builtin.append_ #[t,t] ty #[.slice ad n cap,.slice bd 0 c]).run C.P w=.ok (.slice ad n cap) w:=by
       have hle:n≤cap:=by
        rcases hcase with(⟨e1,e2,_⟩|⟨_,_,_,e1,e2,_⟩)|⟨_,_,_,_,vs,_,_,hle,_⟩
        ·omega
        ·omega
        ·exact hle
       have hf0:(Builtin.firstCells j.size 0 (.slice bd 0 c)).run C.P w=.ok #[] w:=by
        cases bd with
        | none=>simp[Builtin.firstCells]
        | some b=>simp[Builtin.firstCells,loadCells,loadCellsFrom]
       cases ad with
       | none=>simp[Builtin.append_,run_underlying ht,sizeOf,typeInfo,q1,q4,Builtin.lenOf,hle,hf0]
       | some b=>simp[Builtin.append_,run_underlying ht,sizeOf,typeInfo,q1,q4,Builtin.lenOf,hle,hf0,storeCells]
      rcases hcase with(⟨rfl,rfl,hl⟩|⟨f',hl,hff,rfl,rfl,hκ⟩)|⟨hl,hcap,hc0,had,vs,g1,g2,g3,g4,g5⟩
      ·have:=(hs.kill l).virt (e:=e) (esz:=j.size) (f:=bu 0 f g) a3
       refine⟨_,_,_,_,_,hrun,h,this,.sl _ _ _ _ _ _ (by simp) (Q4 _) (by unfold maxLen;omega) (fun h=>by omega) (fun _=>⟨by simp[Env.newrow],fun h=>by omega⟩)⟩
      ·have:=(hs.kill l).virt (e:=e) (esz:=j.size) (f:=bu 0 f g) a3
       refine⟨_,_,_,_,_,hrun,h,this,.sl _ _ _ _ _ _ (by simp) (Q4 _) (by unfold maxLen;omega) (fun h=>by omega) (fun _=>⟨by simp[Env.newrow],fun h=>by omega⟩)⟩
      ·have hb:=hs.hp l _ hl
       obtain⟨k1,k2,k3,k4,k5⟩:=hb
       obtain⟨vs',p1,p2,p3,p4⟩:=k5 (by omega)
       have:=hs.rename (w':=w) (b':=.row e j.size (n+0) (bu n f g)) hl (fun h=>h) (fun _ _ _=>rfl) rfl ⟨rfl,rfl,rfl⟩ ?_
       ·refine⟨_,_,_,_,_,hrun,h,this,.sl _ _ _ _ _ _ (by simp) g3 g4 (fun _=>by rw[had];simp[Env.newrow]) (fun _=>⟨by simp[Env.newrow,hcap],fun _=>by rw[had];simp[Env.newrow]⟩)⟩
       ·have hκ:(E.newrow nx (E.ρ l) (E.κ l)).κ nx=E.κ l:=by simp[Env.newrow]
        have hρ:(E.newrow nx (E.ρ l) (E.κ l)).ρ nx=E.ρ l:=by simp[Env.newrow]
        refine⟨by rw[hκ];exact k1,by rw[hκ];exact k2,k3,hcat.ln,fun _=>⟨vs',by rw[hρ];exact p1,by rw[hκ];exact p2,p3,fun i q hi hq=>?_⟩⟩
        have key:∀cc:List D,cc=bu n f g i→∀hq':q<cc.length,RD w E.Im cc[q] (vs'.getD (i*j.size+q) undef):=by
         intro cc hcc hq'
         unfold bu at hcc
         rw[if_pos (by omega)]at hcc
         subst hcc
         exact p4 i q (by omega) hq'
        exact key _ rfl hq
     ·obtain⟨b,o,rfl,hcl⟩:=hcell (by omega)
      have hcl':∀(q:Nat) (v:Value),ys[q]?=some v→w.cell? ((⟨b,o,none⟩:Addr).add q)=some v:=fun q v hq=>by rw[Addr.add_mid];exact hcl q v hq
      have hfresh:∀(ad:Option Addr) (cap:Nat),cap<n+m→(ad=none→n=0∧cap=0)→(∀ad',ad=some ad'→∀(q:Nat) (v:Value),xs[q]?=some v→w.cell? (ad'.add q)=some v) →
        bI C O a w (Builtin.append_ #[t,t] ty #[.slice ad n cap,.slice (some ⟨b,o,none⟩) m c]) k:=by
       intro ad cap hgt hnone hxc
       have hbd:=eQ w (n+m) cap e hnm
       obtain⟨s1,s2⟩:=(hs.kill l).fresh (e:=e) (zs:=Builtin.zeroCells z.cells (grownCap w (n+m) cap e-(n+m))) hcat a3 hbd.1 hbd.2 (hzc _)
       have hfit:=growslice_fits (bytes:=jj.bytes) hgt (by rw[q5];exact hbytes)
       cases ad with
       | none =>
        obtain⟨rfl,rfl⟩:=hnone rfl
        have hx0:xs=[]:=by have:=hxs.len;simp at this;exact this
        subst hx0
        have hrun:=run_append_nil (P:=C.P) w t ty e jj z ht q1 q2 ⟨b,o,none⟩ m c ys (by rw[hys.len,q4]) hcl' (by omega) (by omega) (by rw[q5];simp at hbytes;omega)
        rw[Q19]at s1 s2 h
        exact⟨_,_,_,_,_,hrun,h,s1,s2⟩
       | some ad' =>
        have hrun:=run_append_grow (P:=C.P) w t ty e jj z ht q1 q2 ad' n cap xs (by rw[hxs.len,q4]) (hxc ad' rfl) ⟨b,o,none⟩ m c ys (by rw[hys.len,q4]) hcl' hgt (by omega) hfit
        have e1:xs.toArray++ys.toArray++Builtin.zeroCells z.cells (grownCap w (n+m) cap e-(n+m))=(xs++ys).toArray++Builtin.zeroCells z.cells (grownCap w (n+m) cap e-(n+m)):=by simp
        rw[e1]at hrun
        exact⟨_,_,_,_,_,hrun,h,s1,s2⟩
      rcases hcase with(⟨rfl,rfl,hl⟩|⟨f',hl,hff,rfl,rfl,hκ⟩)|⟨hl,hcap,hc0,had,vs,g1,g2,g3,g4,g5⟩
      ·have hx0:xs=[]:=by have:=hxs.len;simp at this;exact this
       exact hfresh ad 0 (by omega) (fun _=>⟨rfl,rfl⟩) (fun _ _ q v hq=>by rw[hx0]at hq;simp at hq)
      ·have hx0:xs=[]:=by have:=hxs.len;simp at this;exact this
       exact hfresh ad 0 (by omega) (fun _=>⟨rfl,rfl⟩) (fun _ _ q v hq=>by rw[hx0]at hq;simp at hq)
      ·by_cases hroom:n+m≤cap
       ·-- in place
        subst had
        have hyl:=hys.len
        have hm2:(n+m)*j.size≤cap*j.size:=Q8 _ hroom
        rw[Q18]at hm2
        have hfit:n*jj.size+ys.length≤vs.size:=by rw[q4,hyl,g2];exact hm2
        have hrun:=run_append_room (P:=C.P) w t ty e jj ht q1 (E.ρ l) n cap vs g1 ⟨b,o,none⟩ m c ys (by rw[hyl,q4]) hcl' hys.one hroom hfit
        rw[q4]at hrun hfit
        have hspl:∀q,q<(n+m)*j.size→((vs.toList.take (n*j.size)++ys++vs.toList.drop (n*j.size+ys.length)).toArray).getD q undef=((xs++ys)[q]?).getD undef:=fun q hq=>by
         rw[cz,bj _ _ _ (by simp;omega),g5]
         rw[Q18]at hq
         have htl:(vs.toList.take (n*j.size)).length=n*j.size:=by simp;omega
         by_cases hlt:q<n*j.size
         ·rw[if_neg (by omega),Q11 (by omega),Q15,if_pos hlt]
         ·rw[if_pos (by omega),Q12 (by omega),htl]
        have:=hs.rename (w':=w.setRow (E.ρ l) (vs.toList.take (n*j.size)++ys++vs.toList.drop (n*j.size+ys.length)).toArray) (b':=.row e j.size (n+m) (bu n f g)) hl (fun h=>h)
         (fun q _ hq=>setRow_other w _ _ _ (hq (show 0<E.κ l by omega))) (setRow_size _ _ _) ⟨rfl,rfl,rfl⟩ ?_
        ·refine⟨_,_,_,_,_,hrun,h,this,.sl _ _ _ _ _ _ (by simp) hroom g4 (fun _=>by simp[Env.newrow]) (fun _=>⟨by simp[Env.newrow,hcap],fun _=>by simp[Env.newrow]⟩)⟩
        ·have hκ:(E.newrow nx (E.ρ l) (E.κ l)).κ nx=E.κ l:=by simp[Env.newrow]
         have hρ:(E.newrow nx (E.ρ l) (E.κ l)).ρ nx=E.ρ l:=by simp[Env.newrow]
         refine⟨by rw[hκ];omega,by rw[hκ];omega,a3,hcat.ln,fun _=>⟨_,by rw[hρ];exact setRow_heap w _ vs _ e _ g1,?_,fun q hq=>?_,fun i q hi hq=>?_⟩⟩
         ·rw[hκ,List.size_toArray,bi _ _ _ (by simp;omega)];simp[g2,hcap]
         ·rw[hspl q hq]
          have hq':q<(xs++ys).length:=by rw[hcat.len];exact hq
          rw[Q0 hq']
          exact hcat.one _ (Q14 hq')
         ·have hq':q<j.size:=by rw[← hcat.ln i hi];exact hq
          have:(i+1)*j.size≤(n+m)*j.size:=Q8 _ hi
          rw[Q18]at this
          rw[hspl _ (by omega)]
          exact(hcat.rd i q hi hq).mono (fun _ hb=>hb) fun b hb=>setRow_other w _ _ _ (fun e=>(hs.im b hb).2.2 l _ hl (show 0<E.κ l by omega) e.symm)
       ·subst had
        refine hfresh _ cap (by omega) (fun e=>by simp at e) (fun ad' e q v hq=>?_)
        cases e
        rw[Addr.add_mid,Q19]
        rw[g5,Q15]at hq
        split at hq
        ·have:vs[q]?=some v:=by simpa using hq
         simp[World.cell?,g1,this]
        ·simp at hq
   ·exact h.elim
  ·exact h.elim
 ·exact h.elim
theorem Sat.imm{O:Org}{E:Env}{S:St}{a:Act}{w w':World}(h:Sat O E S a w){l:Nat}{e:TypeId}{esz n:Nat}{f:Nat→List D}(hl:lkh S.hp l=some (.row e esz n f))(hκ:0<E.κ l)
  (hw:∀k,k<w.heap.size→k≠E.ρ l→w'.heap[k]?=w.heap[k]?) (hsz:w'.heap.size=w.heap.size) (hos:w'.os=w.os∧w'.tape=w.tape∧w'.output=w.output)
  (hc:∀vs,w.heap[E.ρ l]?=some (.cells vs e (0,0))→∃fz,w'.heap[E.ρ l]?=some (.cells vs e fz)) :
  Sat O ⟨E.ρ,E.κ,fun b=>E.Im b∨b=E.ρ l⟩ ⟨S.nt,S.nx,S.fr,(l,none)::S.hp⟩ a w' ∧
   ∀(off m:Nat) (v:Value),off+m≤n→RS E S.nx w (.sl l esz off m) v→RS ⟨E.ρ,E.κ,fun b=>E.Im b∨b=E.ρ l⟩ S.nx w' (.d (.sl esz m fun i=>f (off+i))) v:=by
 have hr:Blk.real (E.κ l) (.row e esz n f):=hκ
 have hwi:∀b,E.Im b→w'.heap[b]?=w.heap[b]?:=fun b hb=>hw b (h.im b hb).1 fun e1=>(h.im b hb).2.2 l _ hl hr e1.symm
 have hρl:=(h.hp l _ hl).lt hr
 refine⟨⟨fun m=>RS.mono (E:=E) (fun _ _=>⟨rfl,rfl⟩) (Q4 _) (fun _ hb=>Or.inl hb) hwi (h.fr m),h.nt,h.df,fun m x hm=>?_,fun m x hm=>h.nx m x (aG hm).2,fun m m' x x' hm hm'=>h.inj m m' x x' (aG hm).2 (aG hm').2,?_,fun m x hm=>h.own m x (aG hm).2,?_,h.lab,h.nl,fun b hb=>Or.inl (h.imo b hb)⟩,?_⟩
 ·obtain⟨h1,h2⟩:=aG hm
  exact BS.mono (E:=E) (h.nx m x h2) (fun _ _=>⟨rfl,rfl⟩) (Q4 _) (fun _ hb=>Or.inl hb) hwi (fun hxr=>hw _ ((h.hp m x h2).lt hxr) fun e1=>h.inj m l x _ h2 hl hxr hr h1 e1) (h.hp m x h2)
 ·rintro b (hb|rfl)
  ·obtain⟨h1,h2,h3⟩:=h.im b hb
   exact⟨by omega,h2,fun m x hm=>h3 m x (aG hm).2⟩
  ·refine⟨by omega,?_,fun m x hm hxr=>h.inj m l x _ (aG hm).2 hl hxr hr (aG hm).1⟩
   rcases h.own l _ hl hr with h9|h9
   ·exact Or.inr (Or.inr h9)
   ·exact Or.inl h9
 ·have hk:=h.kq
  refine⟨hos.1.trans hk.os,hos.2.1.trans hk.tape,hos.2.2.trans hk.output,by have:=hk.size;omega,fun k hk1 hk2=>?_⟩
  rw[hw k (by have:=hk.size;omega) (fun e1=>by subst e1;rcases h.own l _ hl hr with h9|h9;exact hk2 h9;omega)]
  exact hk.block k hk1 hk2
 ·intro off m v hb hv
  obtain⟨k1,k2,k3,k4,k5⟩:=h.hp l _ hl
  obtain⟨vs,g1,g2,g3,g4⟩:=k5 hκ
  obtain⟨fz,g5⟩:=hc vs g1
  cases hv with
  | sl _ _ _ _ a' cap hlx hc' hm ha h0 =>
   refine .d _ _ (.sl esz m _ a' cap (fun i j=>vs.getD ((off+i)*esz+j) undef) hc' hm (fun i hi=>k4 _ (by omega)) (fun h0'=>?_) (fun i j hi hj=>?_))
   ·have hm0:0<m:=Nat.pos_of_mul_pos_right h0'
    refine⟨E.ρ l,off*esz,ha hm0,Or.inr rfl,fun i j hi hj=>?_⟩
    have h5:(off+i+1)*esz≤E.κ l*esz:=Q8 _ (by omega)
    rw[Q18,Nat.one_mul,Q18]at h5
    have h6:off*esz+i*esz+j<vs.size:=by omega
    have h7:(off+i)*esz+j<vs.size:=by rw[Q18];exact h6
    simp only[World.cell?,g5,Array.getD,h7,dif_pos]
    rw[← Q18]
    simp[h7]
   ·exact(g4 (off+i) j (by omega) hj).mono (fun b hb=>Or.inl hb) hwi
def tD (C:Cx) (S:St) (src dst l esz off n:Nat) (k:St→SV→Prop):Prop :=
 match C.tt src with
 | some i=>match i.k with
  | .slice e=>match C.tt e with
   | some j=>match j.k with
    | .int .u8=>match lkh S.hp l with
     | some (.row _ z m f)=>bif Nat.beq src dst&&Nat.beq z esz&&Nat.blt 0 n&&Nat.ble (off+n) m then match S with
      | ⟨nt,nx,fr,hp⟩=>k ⟨nt,nx,fr,(l,none)::hp⟩ (.d (.sl esz n fun i=>f (off+i)))else False
     | _=>False
    | _=>False
   | none=>False
  | _=>False
 | none=>False
theorem tC {C:Cx} {O:Org} {E:Env} {S:St} {a:Act} {w:World} (hs:Sat O E S a w) {src dst l esz off n:Nat} {u:Value} {k:St→SV→Prop} (hu:RS E S.nx w (.sl l esz off n) u) (h:tD C S src dst l esz off n k):bI C O a w (convert src dst u) k:=by
 unfold tD at h
 split at h
 ·rename_i i hi
  split at h
  ·rename_i e hk
   have ht:=(C.ok _ _ hi).slice hk
   split at h
   ·rename_i j hj
    split at h
    ·rename_i hkj
     have he:=(C.ok _ _ hj).int hkj
     split at h
     ·rename_i e' z m f hl
      cases hb:(Nat.beq src dst&&Nat.beq z esz&&Nat.blt 0 n&&Nat.ble (off+n) m)with
      | false=>simp[hb]at h
      | true =>
       simp only[hb,cond_true]at h
       simp only[Q5]at hb
       obtain⟨⟨⟨b1,b2⟩,b3⟩,b4⟩:=hb
       obtain rfl:=Q2 b1
       obtain rfl:=Q2 b2
       have b3:0<n:=by simpa using b3
       have b4:=zzb b4
       obtain⟨k1,k2,k3,k4,k5⟩:=hs.hp l _ hl
       have hκ:0<E.κ l:=by omega
       obtain⟨vs,g1,g2,g3,g4⟩:=k5 hκ
       have hlt:=(Q17 g1).1
       obtain⟨nt,nx,fr,hp⟩:=S
       have hf1:∀k,k≠E.ρ l→(w.freeze ⟨E.ρ l,vs.size,none⟩ 1).heap[k]?=w.heap[k]?:=fun k hk=>by
        unfold World.freeze;rw[if_neg (by decide)]
        simp only[Array.getElem?_modify];rw[if_neg (fun e=>hk e.symm)]
       have hf2:(w.freeze ⟨E.ρ l,vs.size,none⟩ 1).heap[E.ρ l]?=some (.cells vs e' (vs.size,vs.size+1)):=by
        unfold World.freeze;rw[if_neg (by decide)]
        simp only[Array.getElem?_modify];simp[g1]
       have hf3:(w.freeze ⟨E.ρ l,vs.size,none⟩ 1).heap.size=w.heap.size:=by unfold World.freeze;rw[if_neg (by decide)];simp
       obtain⟨e1,e2⟩:=hs.imm (w':=w.freeze ⟨E.ρ l,vs.size,none⟩ 1) hl hκ (fun k hk hne=>hf1 k hne) hf3 (by unfold World.freeze;rw[if_neg (by decide)];exact⟨rfl,rfl,rfl⟩) (fun vs' hvs'=>by
        rw[g1]at hvs';cases hvs';exact⟨_,hf2⟩)
       have e3:=e2 off n u b4 hu
       cases hu with
       | sl _ _ _ _ a' cap hlx hc' hm ha h0 =>
        obtain rfl:=ha b3
        refine⟨_,w.freeze ⟨E.ρ l,vs.size,none⟩ 1,_,_,_,?_,h,e1,e3⟩
        have hsh:w.shape? (E.ρ l)=some (e',vs.size):=by unfold World.shape?;rw[g1]
        simp[convert,run_underlying ht,run_underlying he,markStringish,hsh]
     ·exact h.elim
    ·exact h.elim
   ·exact h.elim
  ·exact h.elim
 ·exact h.elim
theorem Sat.newim{O:Org}{E:Env}{S:St}{a:Act}{w w':World}(h:Sat O E S a w)(hw:∀k,k<w.heap.size→w'.heap[k]?=w.heap[k]?)(hsz:w.heap.size<w'.heap.size)(hos:w'.os=w.os∧w'.tape=w.tape∧w'.output=w.output) :
  Sat O ⟨E.ρ,E.κ,fun b=>E.Im b∨b=w.heap.size⟩ S a w':=by
 have hwi:∀b,E.Im b→w'.heap[b]?=w.heap[b]?:=fun b hb=>hw b (h.im b hb).1
 refine⟨fun m=>RS.mono (E:=E) (fun _ _=>⟨rfl,rfl⟩) (Q4 _) (fun _ hb=>Or.inl hb) hwi (h.fr m),h.nt,h.df,fun m x hm=>?_,h.nx,h.inj,?_,h.own,?_,h.lab,h.nl,fun b hb=>Or.inl (h.imo b hb)⟩
 ·exact BS.mono (E:=E) (h.nx m x hm) (fun _ _=>⟨rfl,rfl⟩) (Q4 _) (fun _ hb=>Or.inl hb) hwi (fun hxr=>hw _ ((h.hp m x hm).lt hxr)) (h.hp m x hm)
 ·rintro b (hb|rfl)
  ·obtain⟨h1,h2,h3⟩:=h.im b hb
   exact⟨by omega,h2,h3⟩
  ·refine⟨hsz,Or.inl h.kq.size,fun l x hl hr e=>?_⟩
   exact absurd e (Nat.ne_of_lt ((h.hp l x hl).lt hr))
 ·have hk:=h.kq
  refine⟨hos.1.trans hk.os,hos.2.1.trans hk.tape,hos.2.2.trans hk.output,by have:=hk.size;omega,fun k hk1 hk2=>?_⟩
  rw[hw k (by have:=hk.size;omega)]
  exact hk.block k hk1 hk2
def strL(s:ByteArray):List Int:=s.data.toList.map fun b=>((b.toNat:Nat):Int)
def strK (C:Cx) (S:St) (src dst:Nat) (s:ByteArray) (k:St→SV→Prop):Prop :=
 match C.tt src,C.tt dst with
 | some _,some i=>match i.k with
  | .slice e=>match C.tt e with
   | some j=>match j.k with
    | .int .u8=>s.size≤140737488355328∧k S (.d (.sl 1 s.size fun i=>[.val (.int .u8 ((strL s).getD i default))]))
    | _=>False
   | none=>False
  | _=>False
 | _,_=>False
theorem strK_ok {C:Cx} {O:Org} {E:Env} {S:St} {a:Act} {w:World} (hs:Sat O E S a w) {src dst:Nat} {s:ByteArray} {k:St→SV→Prop} (h:strK C S src dst s k):bI C O a w (convert src dst (.string s)) k:=by
 unfold strK at h
 split at h
 ·rename_i i0 i hi0 hi
  split at h
  ·rename_i e hk
   have ht:=(C.ok _ _ hi).slice hk
   split at h
   ·rename_i j hj
    split at h
    ·rename_i hkj
     have he:=(C.ok _ _ hj).int hkj
     obtain⟨u,hu,_⟩:=(C.ok _ _ hi0).desc
     obtain⟨h1,h⟩:=h
     have hg:=eQ w s.size 0 e h1
     refine⟨_,Lib.bytesWorld w e s,_,_,_,Lib.run_convert_string_bytes w src dst e s hu ht he,h,hs.newim (fun k hk=>Lib.bytesWorld_at_old w e s k hk) (by rw[Lib.bytesWorld_size];omega) ?_,?_⟩
     ·simp[Lib.bytesWorld,World.freeze,World.alloc,World.drew,-World.alloc_eq,-World.drew_eq]
     ·refine .d _ _ (.sl 1 s.size _ (some ⟨w.heap.size,0,none⟩) _ (fun i _=>.int .u8 (s.data.toList.getD i 0).toNat) hg.1 hg.2 (fun _ _=>rfl) (fun _=>⟨_,0,rfl,Or.inr rfl,fun i j hi hj=>?_⟩) (fun i j hi hj=>?_))
      ·obtain rfl:j=0:=by omega
       have:=Lib.bytesWorld_cell w e s i hi
       rw[show 0+i*1+0=i by omega];exact this
      ·have hj:j<1:=hj
       obtain rfl:j=0:=by omega
       have e1:(strL s).getD i default=((s.data.toList.getD i 0).toNat:Int):=by
        have hi2:i<s.data.toList.length:=by simpa using hi
        unfold strL
        rw[Q1,List.getElem?_map,Q1,Q0 hi2];rfl
       show RD _ _ (.val (.int .u8 ((strL s).getD i default))) _
       rw[e1]
       exact .val _ rfl
    ·exact h.elim
   ·exact h.elim
  ·exact h.elim
 ·exact h.elim
def cvK(C:Cx)(S:St)(s d:Nat)(x:SV)(k:St→SV→Prop):Prop :=
 match x with
 | .sl l esz off n=>tD C S s d l esz off n k
 | .d (.val (.string b))=>match C.tt d with
  | some i=>match i.k with
   | .slice _=>strK C S s d b k
   | _=>lX C s d (.d (.val (.string b))) (k S)
  | none=>False
 | x=>lX C s d x (k S)
theorem fG{C:Cx}{S:St}{s d:Nat}{x:SV}{k:St→SV→Prop}(h:lX C s d x (k S)):cvK C S s d x k:=by
 unfold cvK
 split
 ·exact(by unfold lX at h;exact h.elim)
 ·rename_i b
  split
  ·rename_i i hi
   split
   ·rename_i e hk
    unfold lX at h
    rw[hi]at h
    simp only at h
    split at h
    ·rename_i h1 h2;cases h2;rw[hk]at h;exact h.elim
    ·exact h.elim
   ·exact h
  ·rename_i hi
   unfold lX at h
   rw[hi]at h
   simp only at h
   split at h
   ·rename_i h2;cases h2
   ·exact h.elim
 ·exact h
theorem cvK_ok{C:Cx}{O:Org}{E:Env}{S:St}{a:Act}{w:World}(hs:Sat O E S a w){src dst:Nat}{x:SV}{u:Value}{k:St→SV→Prop}(hu:RS E S.nx w x u)(h:cvK C S src dst x k):bI C O a w (convert src dst u) k:=by
 unfold cvK at h
 split at h
 ·exact tC hs hu h
 ·split at h
  ·split at h
   ·obtain rfl:=hu.val_inv
    exact strK_ok hs h
   ·exact(pN hu h).s hs fun _ hx=>hx
  ·exact h.elim
 ·exact(pN hu h).s hs fun _ hx=>hx
end Go.Proofs.YtlkccdlgnpkjpaaGreat
