/- Lemmas of Sx14, Sx15, Sx16, Sx17, Sx18, Sx19, Sx21. No condition. -/
import Derived.Test.YtlkccdlgnpkjpaaGreatMO3
import Derived.LoopN
import Derived.IntWalk
set_option linter.unusedVariables false
set_option linter.unusedSimpArgs false
set_option linter.unusedSectionVars false
set_option maxHeartbeats 80000000
set_option maxRecDepth 100000
namespace Go.Proofs.YtlkccdlgnpkjpaaGreat
open Go.RowKit
theorem pI{S S':St}{x:Operand}(h:∀t,x=.tmp t→lk S.fr t=lk S'.fr t):ev S x=ev S' x:=by
 cases x with
 | tmp t=>exact congrArg oI (h t rfl)
 | _=>rfl
theorem fB{S S':St}:∀(xs:List Operand) (k:List SV→Prop),(∀x∈xs,ev S x=ev S' x)→evL S xs k=evL S' xs k
 | [],k,h=>rfl
 | x::r,k,h=>by
  simp only[evL]
  rw[h x (by simp)]
  congr 1
  funext v
  exact fB r _ fun y hy=>h y (by simp[hy])
theorem i7{C:Cx}{S S':St}{fs:List (Nat×Nat)}:∀(ps:List (Nat×Operand)) (cs:List SV) (k:List SV→Prop),(∀p∈ps,ev S p.2=ev S' p.2)→i8 C S fs ps cs k=i8 C S' fs ps cs k
 | [],cs,k,h=>rfl
 | (i,x)::r,cs,k,h=>by
  have ih:∀cs' k',i8 C S fs r cs' k'=i8 C S' fs r cs' k':=fun cs' k'=>i7 r cs' k' fun p hp=>h p (by simp[hp])
  have hx:ev S x=ev S' x:=h (i,x) (by simp)
  unfold i8
  simp only[hx,ih]
theorem gF{S S':St}{z:Nat}:∀(ps:List (Nat×Operand)) (cs:List SV) (k:List SV→Prop),(∀p∈ps,ev S p.2=ev S' p.2)→dR S z ps cs k=dR S' z ps cs k
 | [],cs,k,h=>rfl
 | (i,x)::r,cs,k,h=>by
  have ih:∀cs' k',dR S z r cs' k'=dR S' z r cs' k':=fun cs' k'=>gF r cs' k' fun p hp=>h p (by simp[hp])
  have hx:ev S x=ev S' x:=h (i,x) (by simp)
  unfold dR
  simp only[hx,ih]
def mO:SV→List Nat
 | .ptr l _=>[l]
 | .rp l _ _ _=>[l]
 | _=>[]
def gC(S:St):Op→List Nat
 | .load _ a=>mO (ev S a)
 | .store _ a _=>mO (ev S a)
 | _=>[]
theorem n5{C:Cx}{S S':St}{t:Nat}{x:SV}{k:SV→Prop}(h:∀l∈mO x,lkh S.hp l=lkh S'.hp l):lA C S t x k=lA C S' t x k:=by
 cases x with
 | ptr l off=>simp only[lA];rw[h _ (by simp[mO])]
 | rp l z i off=>simp only[lA];rw[h _ (by simp[mO])]
 | d x=>cases x<;>rfl
 | _=>rfl
theorem mz{C:Cx}{S S':St}{t:Nat}{x y:SV}{k:Nat→Blk→Prop}(hnx:S.nx=S'.nx)(h:∀l∈mO x,lkh S.hp l=lkh S'.hp l):gA C S t x y k=gA C S' t x y k:=by
 cases x with
 | ptr l off=>simp only[gA];rw[h _ (by simp[mO])]
 | rp l z i off=>simp only[gA];rw[h _ (by simp[mO]),hnx]
 | _=>rfl
theorem mP{π:Nat→Nat}:∀{H:List (Nat×Option Blk)} {i:Nat},(∃o,(i,o)∈H)→∃o,(π i,o)∈bg π [] H
 | [],i,⟨o,h⟩=>by simp at h
 | (j,ob)::r,i,⟨o,h⟩=>by
  rcases Q22 h with h|h
  ·cases h;exact⟨ob.map (oO π),by simp[bg]⟩
  ·obtain⟨o',h'⟩:=mP (π:=π) (H:=r) ⟨o,h⟩
   exact⟨o',by simp[bg,h']⟩
theorem eM{P hp hp':List (Nat×Option Blk)}:∀{K:List Nat},(∀l∈K,lkh hp l=lkh hp' l)→jz P hp K→jz P hp' K
 | [],_,_=>trivial
 | k::r,h,⟨h1,h2⟩=>⟨h1.trans (h k (by simp)),eM (fun l hl=>h l (by simp[hl])) h2⟩
theorem keyH{S S':St}{P:List (Nat×Option Blk)}(hk:∀l o,(l,o)∈P→lkh S.hp l=lkh S'.hp l):∀(L:List Nat) (π:Nat→Nat) (H H':List (Nat×Option Blk)),dP H' L.length=true→(∀i,i<L.length→π i=L.getD i 0)→bg π [] H'=P→aW S.hp L H→aW S'.hp L H:=by
 intro L π H H' h4 hπ h8 h7
 have hag:∀i,i<L.length→lkh S.hp (L.getD i 0)=lkh S'.hp (L.getD i 0):=fun i hi=>by
  unfold dP at h4
  rw[Q23]at h4
  have:=h4 i (by simpa using hi)
  rw[List.any_eq_true]at this
  obtain⟨⟨p1,p2⟩,hp1,hp2⟩:=this
  have hp3:=Q2 hp2
  simp only at hp3
  subst hp3
  obtain⟨o,ho⟩:=mP (π:=π) ⟨p2,hp1⟩
  rw[h8,hπ _ hi]at ho
  exact hk _ _ ho
 have key:∀(Hx:List (Nat×Option Blk)),aW S.hp L Hx→aW S'.hp L Hx:=by
  intro Hx
  induction Hx with
  | nil=>exact fun h=>h
  | cons p r ih =>
   obtain⟨i,ob⟩:=p
   cases ob with
   | none=>exact fun h=>ih h
   | some b =>
    intro h9
    unfold aW at h9⊢
    cases hb:Nat.blt i L.length with
    | false=>simp[hb]at h9
    | true =>
     simp only[hb,cond_true]at h9⊢
     exact⟨by rw[← hag i (by simpa using hb)];exact h9.1,ih h9.2⟩
 exact key H h7
theorem kw{C:Cx}{S S':St}{ln:Nat}{op:Op}{ef:Ef}(hnx:S.nx=S'.nx)(hx:∀x∈op.operands.toList,ev S x=ev S' x)(hl:∀l∈gC S op,lkh S.hp l=lkh S'.hp l)(hk:∀l o,(l,o)∈ef.ed→lkh S.hp l=lkh S'.hp l)(hr:∀l∈ef.rd,lkh S.hp l=lkh S'.hp l)
  (h:ra C S ln op (fun e=>e=ef)):ra C S' ln op (fun e=>e=ef):=by
 cases op<;>simp only[ra]at h⊢
 case move x=>rw[← hx x (by simp[Op.operands])];exact h
 case assign x=>rw[← hx x (by simp[Op.operands])];exact h
 case pick c x y=>rw[← hx c (by simp[Op.operands]),← hx x (by simp[Op.operands]),← hx y (by simp[Op.operands])];exact h
 case alloc t=>exact h
 case box t x=>rw[← hx x (by simp[Op.operands])];exact h
 case load t a=>rw[← hx a (by simp[Op.operands]),← n5 (S:=S) (by simpa[gC]using hl)];exact h
 case store t a x=>rw[← hx a (by simp[Op.operands]),← hx x (by simp[Op.operands]),← mz (S:=S) hnx (by simpa[gC]using hl)];exact h
 case binOp op t x y _=>rw[← hx x (by simp[Op.operands]),← hx y (by simp[Op.operands])];exact h
 case unOp op _ x=>rw[← hx x (by simp[Op.operands])];exact h
 case convert s d x=>rw[← hx x (by simp[Op.operands])];exact h
 case fieldAddr t x f=>rw[← hx x (by simp[Op.operands])];exact h
 case field t x f=>rw[← hx x (by simp[Op.operands])];exact h
 case indexAddr t x i=>rw[← hx x (by simp[Op.operands]),← hx i (by simp[Op.operands])];exact h
 case index t x i=>rw[← hx x (by simp[Op.operands]),← hx i (by simp[Op.operands])];exact h
 case extract x i=>rw[← hx x (by simp[Op.operands])];exact h
 case nilCheck x=>rw[← hx x (by simp[Op.operands])];exact h
 case slice t x lo hi mx =>
  cases mx with
  | some m =>
   cases lo with
   | some a=>simp at h
   | none =>
    cases hi with
    | none=>simp at h
    | some a =>
     simp only at h⊢
     rw[← hx x (by simp[Op.operands]),← hx a (by simp[Op.operands]),← hx m (by simp[Op.operands])];exact h
  | none =>
   simp only at h⊢
   rw[← hx x (by simp[Op.operands])]
   have h1:lo.map (ev S)=lo.map (ev S'):=by cases lo with
    | none=>rfl
    | some a=>simp[hx a (by simp[Op.operands])]
   have h2:hi.map (ev S)=hi.map (ev S'):=by cases hi with
    | none=>rfl
    | some a=>simp[hx a (by simp[Op.operands])]
   rw[← h1,← h2];exact h
 case build t ps =>
  unfold ny at h⊢
  have hc:∀fs cs k,i8 C S fs ps.toList cs k=i8 C S' fs ps.toList cs k:=fun fs cs k=>i7 _ _ _ fun p hp=>hx p.2 (by simp[Op.operands];exact⟨p.1,by simpa using hp⟩)
  simp only[hc]at h
  exact h
 case buildSlice t n ps =>
  unfold cB at h⊢
  have hc:∀z cs k,dR S z ps.toList cs k=dR S' z ps.toList cs k:=fun z cs k=>gF _ _ _ fun p hp=>hx p.2 (by simp[Op.operands];exact⟨p.1,by simpa using hp⟩)
  simp only[hc]at h
  exact h
 case makeSlice t l c=>rw[← hx l (by simp[Op.operands]),← hx c (by simp[Op.operands])];exact h
 case makeFunc fn first caps =>
  split at h
  ·rw[← fB _ _ fun x hx'=>hx x (by simp[Op.operands];exact Or.inr (by simpa using hx'))]
   exact h
  ·exact h.elim
 case lookup t m i ok =>
  cases ok with
  | true=>simp at h
  | false =>
   simp only at h⊢
   rw[← hx m (by simp[Op.operands]),← hx i (by simp[Op.operands])]
   obtain⟨kt,et,b,l,mm,keys,g,s,v,h1,h2,h3,h4,h5,h6,h7,h8⟩:=h.out
   have e8:=gG h8
   exact⟨⟨kt,et,b,l,mm,keys,g,s,v,h1,h2,h3,h4,h5,by rw[← hr l (by rw[← e8];exact List.mem_singleton.2 rfl)];exact h6,h7,h8⟩⟩
 case call c =>
  split at h
  ·rename_i f hc
   have hf:ev S f=ev S' f:=hx f (by simp[Op.operands,Call.operands,hc])
   rw[← fB _ _ fun x hx'=>hx x (by simp[Op.operands,Call.operands,hc];exact Or.inr (by simpa using hx'))]
   refine lV S _ _ _ (fun args hargs=>?_) h
   rw[← hf]
   have go:∀(g:Nat) (args:List SV),ag C S ln g args (fun r ed rd=>fER r ed rd fun e=>e=ef)→ag C S' ln g args (fun r ed rd=>fER r ed rd fun e=>e=ef):=by
    intro g args hargs
    refine⟨?_⟩
    rcases hargs.out with h1|⟨L,args0,H,H',r,K,h1,h2,h3,h4,h5,h6,h7,h9,h8⟩|⟨L,args0,H,H',r,K,h1,h2,h3,h4,h5,h6,h7,h9,h8⟩|⟨m,r,h1,h2,h3,h4⟩
    ·exact Or.inl h1
    ·have e8:=gG h8
     have hkP:∀l o,(l,o)∈bg (πf L S.nx) [] H'→lkh S.hp l=lkh S'.hp l:=fun l o hlo=>by
      rcases el (K:=K) hlo with h|h
      ·exact hr l (by rw[← e8];exact h)
      ·exact hk l o (by rw[← e8];exact h)
     refine Or.inr (Or.inl ⟨L,args0,H,H',r,K,h1,h2,h3,h4,h5,h6,keyH hkP L (πf L S.nx) H H' h4 (fun i hi=>?_) rfl h7,?_,by rw[← hnx];exact h8⟩)
     rotate_left
     ·rw[← hnx]
      have hrK:∀l∈K,lkh S.hp l=lkh S'.hp l:=fun l hl=>hr l (by rw[← e8];exact hl)
      exact eM hrK h9
     have hb:Nat.blt i L.length=true:=by simpa using hi
     unfold πf;rw[hb];rfl
    ·have e8:=gG h8
     have hkP:∀l o,(l,o)∈bg (πn L ln) [] H'→lkh S.hp l=lkh S'.hp l:=fun l o hlo=>by
      rcases el (K:=K) hlo with h|h
      ·exact hr l (by rw[← e8];exact h)
      ·exact hk l o (by rw[← e8];exact h)
     refine Or.inr (Or.inr (Or.inl ⟨L,args0,H,H',r,K,h1,h2,h3,h4,h5,h6,keyH hkP L (πn L ln) H H' h4 (fun i hi=>?_) rfl h7,?_,h8⟩))
     rotate_left
     ·have hrK:∀l∈K,lkh S.hp l=lkh S'.hp l:=fun l hl=>hr l (by rw[← e8];exact hl)
      exact eM hrK h9
     have hb:Nat.blt i L.length=true:=by simpa using hi
     unfold πn;rw[hb];rfl
    ·exact Or.inr (Or.inr (Or.inr ⟨m,r,h1,by rw[← hnx];exact h2,by rw[← hnx];exact h3,h4⟩))
   unfold tB at hargs⊢
   split at hargs
   ·rename_i g e;exact go g args hargs
   ·rename_i g caps e;exact go g _ hargs
   ·exact hargs.elim
  ·rename_i b hc
   rw[← fB _ _ fun x hx'=>hx x (by simp[Op.operands,Call.operands,hc];simpa using hx')]
   refine lV S _ _ _ (fun args hargs=>?_) h
   unfold fF at hargs⊢
   split at hargs
   ·rename_i t t2 x y e1
    cases hb:Nat.beq t t2 with
    | false=>simp[hb]at hargs
    | true =>
     simp only[hb,cond_true]at hargs⊢
     rcases hargs with hargs|hargs
     rotate_left
     ·exact Or.inr hargs
     left
     obtain⟨L,x0,y0,H,H',r,h1,h2,h3,h4,h5,h6,h7,h8⟩:=hargs.out
     refine⟨L,x0,y0,H,H',r,h1,h2,h3,h4,h5,h6,keyH hk L (πn L ln) H H' h4 (fun i hi=>?_) (by rw[← yE h8]) h7,h8⟩
     have hb:Nat.blt i L.length=true:=by simpa using hi
     unfold πn;rw[hb];rfl
   ·exact hargs
   ·exact hargs
   ·exact hargs
   ·exact hargs.elim
  ·exact h.elim
section
def St.step:St→Option Nat→Ef→St
 | ⟨nt,nx,fr,hp⟩,some n,e=>⟨nt,nx,(n,e.val)::fr,e.ed++hp⟩
 | ⟨nt,nx,fr,hp⟩,none,e=>⟨nt,nx,fr,e.ed++hp⟩
structure jr(S S':St):Prop where
 nt:S.nt=S'.nt
 nx:S.nx=S'.nx
 fr:∀n,lk S.fr n=lk S'.fr n
 hp:∀l,lkh S.hp l=lkh S'.hp l
theorem jr.refl(S:St):jr S S:=⟨rfl,rfl,fun _=>rfl,fun _=>rfl⟩
theorem jr.symm{S S':St}(h:jr S S'):jr S' S:=⟨h.nt.symm,h.nx.symm,fun n=>(h.fr n).symm,fun l=>(h.hp l).symm⟩
theorem jr.trans{S S' S'':St}(h:jr S S')(k:jr S' S''):jr S S'':=⟨h.nt.trans k.nt,h.nx.trans k.nx,fun n=>(h.fr n).trans (k.fr n),fun l=>(h.hp l).trans (k.hp l)⟩
theorem Sat.congr{O:Org}{E:Env}{S S':St}{a:Act}{w:World}(e:jr S S')(h:Sat O E S a w):Sat O E S' a w:=by
 obtain⟨nt,nx,fr,hp⟩:=S
 obtain⟨nt',nx',fr',hp'⟩:=S'
 obtain⟨e1,e2,e3,e4⟩:=e
 simp only at e1 e2 e3 e4
 subst e1 e2
 refine⟨fun n=>?_,h.nt,h.df,fun l b hb=>h.hp l b ?_,fun l b hb=>h.nx l b ?_,fun l l' b b' hb hb'=>h.inj l l' b b' ?_ ?_,fun b hb=>⟨(h.im b hb).1,(h.im b hb).2.1,fun l x hl=>(h.im b hb).2.2 l x ?_⟩,fun l b hb=>h.own l b ?_,h.kq,h.lab,h.nl,h.imo⟩
 ·have:=h.fr n
  simp only at this⊢
  rw[← e3];exact this
 all_goals(simp only at *;rw[e4];assumption)
open Classical in
theorem sK:∀(e hp:List (Nat×Option Blk)) (l:Nat),lkh (e++hp) l=if(∃o,(l,o)∈e)then lkh e l else lkh hp l
 | [],hp,l=>by simp
 | (m,ob)::r,hp,l=>by
  rw[List.cons_append,ah,ah,sK r hp l]
  by_cases h:m=l
  ·subst h;rw[if_pos rfl,if_pos ⟨ob,by simp⟩,if_pos rfl]
  ·rw[if_neg h,if_neg h]
   by_cases h2:∃o,(l,o)∈r
   ·rw[if_pos h2,if_pos (by obtain⟨o,ho⟩:=h2;exact⟨o,by simp[ho]⟩)]
   ·rw[if_neg h2,if_neg (by
     rintro⟨o,ho⟩
     rcases Q22 ho with ho|ho
     ·cases ho;exact h rfl
     ·exact h2 ⟨o,ho⟩)]
theorem ip(S:St)(d:Option Nat)(e:Ef):(S.step d e).nt=S.nt∧(S.step d e).nx=S.nx:=by cases S;cases d<;>exact⟨rfl,rfl⟩
theorem kX(S:St)(d:Option Nat)(e:Ef)(n:Nat):lk (S.step d e).fr n=if d=some n then e.val else lk S.fr n:=by
 cases S
 cases d with
 | none=>simp[St.step]
 | some m=>simp only[St.step,dl,Option.some.injEq]
open Classical in
theorem kW(S:St)(d:Option Nat)(e:Ef)(l:Nat):lkh (S.step d e).hp l=if(∃o,(l,o)∈e.ed)then lkh e.ed l else lkh S.hp l:=by
 cases S
 cases d<;>exact sK _ _ _
theorem jr.step{S S':St}(h:jr S S')(d:Option Nat)(e:Ef):jr (S.step d e) (S'.step d e) :=
 ⟨by rw[(ip S d e).1,(ip S' d e).1,h.nt],by rw[(ip S d e).2,(ip S' d e).2,h.nx],fun n=>by rw[kX,kX,h.fr],fun l=>by rw[kW,kW,h.hp]⟩
abbrev Pt:=Oper×Ef
def ap:List Pt→St→St
 | [],S=>S
 | p::r,S=>ap r (S.step p.1.dst p.2)
theorem du:∀(l:List Pt) (S:St),(ap l S).nt=S.nt∧(ap l S).nx=S.nx
 | [],S=>⟨rfl,rfl⟩
 | p::r,S=>by
  obtain⟨h1,h2⟩:=du r (S.step p.1.dst p.2)
  obtain⟨h3,h4⟩:=ip S p.1.dst p.2
  exact⟨h1.trans h3,h2.trans h4⟩
theorem fv:∀(l:List Pt) (S:St) (n:Nat),(∀p∈l,p.1.dst≠some n)→lk (ap l S).fr n=lk S.fr n
 | [],S,n,h=>rfl
 | p::r,S,n,h=>by
  rw[ap,fv r _ n fun q hq=>h q (by simp[hq]),kX,if_neg (h p (by simp))]
theorem ib:∀(l:List Pt) (S:St) (n:Nat) (v:SV),(∃p∈l,p.1.dst=some n)→(∀p∈l,p.1.dst=some n→p.2.val=v)→lk (ap l S).fr n=v
 | [],S,n,v,⟨p,hp,_⟩,h=>by simp at hp
 | p::r,S,n,v,hex,h=>by
  by_cases h2:∃q∈r,q.1.dst=some n
  ·exact ib r _ n v h2 fun q hq=>h q (by simp[hq])
  ·rw[ap,fv r _ n fun q hq e=>h2 ⟨q,hq,e⟩,kX]
   obtain⟨q,hq,e⟩:=hex
   rcases Q22 hq with rfl|hq
   ·rw[if_pos e];exact h _ (by simp) e
   ·exact absurd ⟨q,hq,e⟩ h2
theorem lQ:∀(l:List Pt) (S:St) (n:Nat),(∀p∈l,∀o,(n,o)∉p.2.ed)→lkh (ap l S).hp n=lkh S.hp n
 | [],S,n,h=>rfl
 | p::r,S,n,h=>by
  rw[ap,lQ r _ n fun q hq=>h q (by simp[hq]),kW,if_neg (by rintro⟨o,ho⟩;exact h p (by simp) o ho)]
theorem qC(l m:List Pt)(S:St):ap (l++m) S=ap m (ap l S):=by
 induction l generalizing S with
 | nil=>rfl
 | cons p r ih=>exact ih _
def cM(C:Cx)(ops:List Oper)(ln:Nat)(S:St)(o:Oper)(ef:Ef):Prop :=
 match o.guard with
 | none=>ra C S ln o.op fun e=>e=ef
 | some (j,want)=>∃t,(ops[j]?).bind (·.dst)=some t∧((∃b,lk S.fr t=.b b∧(b=want→ra C S ln o.op fun e=>e=ef)∧(b≠want→ef=⟨.tup [],[],[]⟩))∨(lk S.fr t=.tup []∧ef=⟨.tup [],[],[]⟩))
structure Go(p:Prop):Prop where
 out:p
def edK:List (Nat×Option Blk)→List (Nat×Option Blk)→(List (Nat×Option Blk)→Prop)→Prop
 | [],hp,k=>k hp
 | x::r,hp,k=>edK r hp fun h=>k (x::h)
theorem zy:∀(e hp:List (Nat×Option Blk)) (k:List (Nat×Option Blk)→Prop),edK e hp k→k (e++hp)
 | [],hp,k,h=>h
 | x::r,hp,k,h=>zy r hp _ h
def rF(S:St)(dst:Option Nat)(ef:Ef)(k:St→Prop):Prop :=
 match S,dst,ef with
 | ⟨nt,nx,fr,hp⟩,some n,⟨v,ed,_⟩=>edK ed hp fun hp'=>k ⟨nt,nx,(n,v)::fr,hp'⟩
 | ⟨nt,nx,fr,hp⟩,none,⟨_,ed,_⟩=>edK ed hp fun hp'=>k ⟨nt,nx,fr,hp'⟩
theorem dZ{S:St}{dst:Option Nat}{ef:Ef}{k:St→Prop}(h:rF S dst ef k):k (S.step dst ef):=by
 obtain⟨nt,nx,fr,hp⟩:=S
 obtain⟨v,ed,rd⟩:=ef
 cases dst<;>exact zy _ _ _ h
structure ai(A B:Ef→Prop):Prop where
 out:∃ef,A ef∧B ef
theorem ai.of{A B:Ef→Prop}(ef:Ef)(h1:A ef)(h2:Go (B ef)):ai A B:=⟨ef,h1,h2.out⟩
def runR(C:Cx)(S:St)(ln:Nat)(o:Oper)(k:Ef→St→Prop):Prop:=ai (fun ef=>ra C S ln o.op fun e=>e=ef) fun ef=>rF S o.dst ef fun S'=>k ef S'
def cQ (C:Cx) (ops:List Oper) (n0:Nat):List Oper→Nat→St→(List Ef→St→Prop)→Prop
 | [],_,S,k=>k [] S
 | o :: r,i,S,k=>match o.guard with
  | none=>runR C S (n0+i) o fun ef S'=>cQ C ops n0 r (i+1) S' fun efs=>k (ef::efs)
  | some (j,want)=>match(ops[j]?).bind (·.dst)with
   | some t=>match lk S.fr t with
    | .d (.val (.bool b))=>match want with
     | true=>bif b then runR C (setSlot S t true) (n0+i) o (fun ef S'=>cQ C ops n0 r (i+1) S' fun efs=>k (ef::efs))else rF (setSlot S t false) o.dst ⟨.tup [],[],[]⟩ fun S'=>cQ C ops n0 r (i+1) S' fun efs=>k (⟨.tup [],[],[]⟩::efs)
     | false=>bif b then rF (setSlot S t true) o.dst ⟨.tup [],[],[]⟩ (fun S'=>cQ C ops n0 r (i+1) S' fun efs=>k (⟨.tup [],[],[]⟩::efs))else runR C (setSlot S t false) (n0+i) o fun ef S'=>cQ C ops n0 r (i+1) S' fun efs=>k (ef::efs)
    | .tup []=>rF S o.dst ⟨.tup [],[],[]⟩ fun S'=>cQ C ops n0 r (i+1) S' fun efs=>k (⟨.tup [],[],[]⟩::efs)
    | _=>False
   | none=>False
theorem qj{S:St}{t:Nat}{b:Bool}(h:lk S.fr t=.b b):jr S (setSlot S t b):=by
 obtain⟨nt,nx,fr,hp⟩:=S
 refine⟨rfl,rfl,fun n=>?_,fun _=>rfl⟩
 simp only[setSlot,dl]
 by_cases e:t=n
 ·subst e;rw[if_pos rfl];exact h
 ·rw[if_neg e]
theorem tx{C:Cx}{S S':St}(e:jr S S'){ln:Nat}{op:Op}{ef:Ef}(h:ra C S ln op fun x=>x=ef):ra C S' ln op fun x=>x=ef :=
 kw e.nx (fun x _=>pI fun t _=>e.fr t) (fun l _=>e.hp l) (fun l _ _=>e.hp l) (fun l _=>e.hp l) h
theorem cM.congr{C:Cx}{ops:List Oper}{ln:Nat}{S S':St}{o:Oper}{ef:Ef}(e:jr S S')(h:cM C ops ln S o ef):cM C ops ln S' o ef:=by
 unfold cM at h⊢
 split at h
 ·exact tx e h
 ·obtain⟨t,h1,⟨b,h2,h3,h4⟩|⟨h2,h3⟩⟩:=h
  ·exact⟨t,h1,Or.inl ⟨b,by rw[← e.fr];exact h2,fun hb=>tx e (h3 hb),h4⟩⟩
  ·exact⟨t,h1,Or.inr ⟨by rw[← e.fr];exact h2,h3⟩⟩
theorem pH{C:Cx}{ops:List Oper}{n0:Nat}:∀(l:List Oper) (i:Nat) (S:St) (k:List Ef→St→Prop),cQ C ops n0 l i S k →
  ∃(efs:List Ef) (Sn:St),k efs Sn∧efs.length=l.length∧jr Sn (ap (l.zip efs) S)∧∀(j:Nat) (o:Oper) (ef:Ef),l[j]?=some o→efs[j]?=some ef→cM C ops (n0+(i+j)) (ap ((l.zip efs).take j) S) o ef
 | [],i,S,k,h=>⟨[],S,h,rfl,.refl _,fun j o ef ho=>by simp at ho⟩
 | o :: r,i,S,k,h=>by
  have fin:∀(S1:St) (ef:Ef),jr S S1→cM C ops (n0+i) S1 o ef→cQ C ops n0 r (i+1) (S1.step o.dst ef) (fun efs=>k (ef::efs)) →
    ∃(efs:List Ef) (Sn:St),k efs Sn∧efs.length=(o::r).length∧jr Sn (ap ((o::r).zip efs) S)∧∀(j:Nat) (o':Oper) (ef:Ef),(o::r)[j]?=some o'→efs[j]?=some ef→cM C ops (n0+(i+j)) (ap (((o::r).zip efs).take j) S) o' ef:=by
   intro S1 ef hS hst hx
   obtain⟨efs,Sn,h1,h2,h3,h4⟩:=pH r (i+1) _ _ hx
   have cong:∀(l:List Pt) (S S':St),jr S S'→jr (ap l S) (ap l S'):=by
    intro l
    induction l with
    | nil=>exact fun S S' h=>h
    | cons p l ih=>exact fun S S' h=>ih _ _ (h.step _ _)
   refine⟨ef::efs,Sn,h1,by simp[h2],h3.trans (cong _ _ _ ((hS.step _ _).symm)),fun j o' ef' ho he=>?_⟩
   cases j with
   | zero=>simp at ho he;subst ho he;exact hst.congr hS.symm
   | succ j =>
    simp at ho he
    have:=h4 j o' ef' ho he
    rw[show i+(j+1)=i+1+j by omega]
    have e:=cong ((r.zip efs).take j) _ _ (hS.step o.dst ef).symm
    exact this.congr e
  unfold cQ at h
  split at h
  ·rename_i hg
   obtain⟨ef,h1,h2⟩:=h.out
   exact fin S ef (.refl S) (by unfold cM;rw[hg];exact h1) (dZ (k:=fun S'=>cQ C ops n0 r (i+1) S' fun efs=>k (ef::efs)) h2)
  ·rename_i j want hg
   split at h
   ·rename_i t ht
    split at h
    ·rename_i b hb
     have hS:=qj hb
     have hb':∀c,b=c→lk (setSlot S t c).fr t=.b c:=fun c hc=>by subst hc;rw[← hS.fr];exact hb
     have okr:∀c ef,b=c→c=want→ra C (setSlot S t c) (n0+i) o.op (fun e=>e=ef)→cM C ops (n0+i) (setSlot S t c) o ef:=fun c ef hc hw h1=>by
      unfold cM;rw[hg];exact⟨t,ht,Or.inl ⟨c,hb' c hc,fun _=>h1,fun hne=>absurd hw hne⟩⟩
     have oks:∀c,b=c→c≠want→cM C ops (n0+i) (setSlot S t c) o ⟨.tup [],[],[]⟩:=fun c hc hw=>by
      unfold cM;rw[hg];exact⟨t,ht,Or.inl ⟨c,hb' c hc,fun he=>absurd he hw,fun _=>rfl⟩⟩
     cases want<;>cases b
     ·obtain⟨ef,h1,h2⟩:=h.out
      exact fin _ ef hS (okr _ _ rfl rfl h1) (dZ (k:=fun S'=>cQ C ops n0 r (i+1) S' fun efs=>k (ef::efs)) h2)
     ·exact fin _ _ hS (oks _ rfl (by simp)) (dZ (S:=setSlot S t true) (dst:=o.dst) (ef:=⟨.tup [],[],[]⟩) (k:=fun S'=>cQ C ops n0 r (i+1) S' fun efs=>k (⟨.tup [],[],[]⟩::efs)) h)
     ·exact fin _ _ hS (oks _ rfl (by simp)) (dZ (S:=setSlot S t false) (dst:=o.dst) (ef:=⟨.tup [],[],[]⟩) (k:=fun S'=>cQ C ops n0 r (i+1) S' fun efs=>k (⟨.tup [],[],[]⟩::efs)) h)
     ·obtain⟨ef,h1,h2⟩:=h.out
      exact fin _ ef hS (okr _ _ rfl rfl h1) (dZ (k:=fun S'=>cQ C ops n0 r (i+1) S' fun efs=>k (ef::efs)) h2)
    ·rename_i hb
     exact fin S ⟨.tup [],[],[]⟩ (.refl S) (by unfold cM;rw[hg];exact⟨t,ht,Or.inr ⟨hb,rfl⟩⟩) (dZ (S:=S) (dst:=o.dst) (ef:=⟨.tup [],[],[]⟩) (k:=fun S'=>cQ C ops n0 r (i+1) S' fun efs=>k (⟨.tup [],[],[]⟩::efs)) h)
    ·exact h.elim
   ·exact h.elim
end
section
def dirP(o:Oper)(acc:List Nat):Nat:=o.after.toList.foldl (fun s e=>bif Region.binds .any e then s|||2^e.on|||acc.getD e.on 0 else s) 0
def eA:List Oper→List Nat→List Nat
 | [],acc=>acc
 | o::r,acc=>eA r (acc++[dirP o acc])
def j8(pre:List Nat)(i j:Nat):Bool:=bif Nat.blt j i then(pre.getD i 0).testBit j else(pre.getD j 0).testBit i
mutual
def bJ(l:Nat):SV→Bool
 | .ptr m _=>Nat.beq m l
 | .rp m _ _ _=>Nat.beq m l
 | .sl m _ _ _=>Nat.beq m l
 | .d _=>false
 | .any=>false
 | .agg vs=>bV l vs
 | .tup vs=>bV l vs
 | .fn _ vs=>bV l vs
 | .iref vs _=>bV l vs
def bV(l:Nat):List SV→Bool
 | []=>false
 | x::r=>bJ l x||bV l r
end
theorem fh{l:Nat}:∀{vs:List SV},bV l vs=false→∀j (hj:j<vs.length),bJ l vs[j]=false
 | [],_,j,hj=>by simp at hj
 | x::r,h,j,hj=>by
  simp only[bV,Bool.or_eq_false_iff]at h
  cases j with
  | zero=>exact h.1
  | succ j=>exact fh h.2 j (by simpa using hj)
abbrev mem1(l:Nat)(x:SV):Bool:=bJ l x
abbrev mem2(l:Nat)(x:SV):Bool:=bJ l x
def nY(l:Nat):Option Blk→Bool
 | some (.cells cs)=>cs.any (mem1 l)
 | some (.cf m _ _)=>Nat.blt l m
 | some (.obj _ m _ _ _)=>Nat.blt l m
 | _=>false
section
variable{E E':Env}{nx:Nat}{w:World}{l:Nat}
theorem su(hρ:∀m,m≠l→E'.ρ m=E.ρ m∧E'.κ m=E.κ m)(hI:E'.Im=E.Im){x:SV}{v:Value}(hm:bJ l x=false)(h:RS E nx w x v):RS E' nx w x v:=by
 have ne:∀m,Nat.beq m l=false→m≠l:=fun m hb e=>by subst e;simp at hb
 induction h with
 | any=>exact .any _
 | d x v h=>exact .d _ _ (by rw[hI];exact h)
 | ptr m o hl=>unfold bJ at hm;rw[← (hρ m (ne m hm)).1];exact .ptr _ _ hl
 | rp m z q o hl=>unfold bJ at hm;rw[← (hρ m (ne m hm)).1];exact .rp _ _ _ _ hl
 | sl m z o n ad cap hl hc hmx ha h0=>unfold bJ at hm;exact .sl _ _ _ _ _ _ hl hc hmx (by rw[(hρ m (ne m hm)).1];exact ha) (by rw[(hρ m (ne m hm)).1,(hρ m (ne m hm)).2];exact h0)
 | agg vs us hs h1 hh ih=>unfold bJ at hm;exact .agg _ _ hs h1 fun j hj=>ih j hj (fh hm j hj)
 | tup vs us hs hh ih=>unfold bJ at hm;exact .tup _ _ hs fun j hj=>ih j hj (fh hm j hj)
 | fn f vs us hs hh ih=>unfold bJ at hm;exact .fn _ _ _ hs fun j hj=>ih j hj (fh hm j hj)
 | iref vs off b o g hb hcell h1 hh ih=>unfold bJ at hm;exact .iref _ _ b o g (by rw[hI];exact hb) hcell h1 fun j hj=>ih j hj (fh hm j hj)
theorem mem1_ok(hρ:∀m,m≠l→E'.ρ m=E.ρ m∧E'.κ m=E.κ m)(hI:E'.Im=E.Im){x:SV}{v:Value}(hm:mem1 l x=false)(h:RS E nx w x v):RS E' nx w x v:=su hρ hI hm h
theorem mem2_ok(hρ:∀m,m≠l→E'.ρ m=E.ρ m∧E'.κ m=E.κ m)(hI:E'.Im=E.Im){x:SV}{v:Value}(hm:mem2 l x=false)(h:RS E nx w x v):RS E' nx w x v:=su hρ hI hm h
theorem memO_ok(hρ:∀m,m≠l→E'.ρ m=E.ρ m∧E'.κ m=E.κ m)(hI:E'.Im=E.Im){m:Nat}{b:Blk}(hne:m≠l)(hm:nY l (some b)=false)(h:BS E nx w m b):BS E' nx w m b:=by
 cases b with
 | cells cs =>
  obtain⟨vs,T,h1,h2,h3⟩:=h
  refine⟨vs,T,by rw[(hρ m hne).1];exact h1,h2,fun j hj=>⟨mem1_ok hρ hI ?_ (h3 j hj).1,(h3 j hj).2⟩⟩
  simp only[nY]at hm;rw[List.any_eq_false]at hm;simpa using hm _ (Q14 hj)
 | row e z n f =>
  obtain⟨h1,h2,h3,h4,h5⟩:=h
  refine⟨by rw[(hρ m hne).2];exact h1,by rw[(hρ m hne).2];exact h2,h3,h4,?_⟩
  rw[(hρ m hne).1,(hρ m hne).2,hI];exact h5
 | cf m' n g =>
  obtain⟨h0,hh⟩:=h
  have hlm:m'≤l:=by
   have hm:Nat.blt l m'=false:=hm
   have:¬l<m':=fun h=>by
    have h9:Nat.blt l m'=true:=by simpa using h
    rw[h9]at hm;exact absurd hm (by decide)
   omega
  refine⟨h0,fun hp=>?_⟩
  obtain⟨vs,T,h1,h2,h3⟩:=hh hp
  exact⟨vs,T,by rw[(hρ m hne).1];exact h1,h2,fun j hj=>⟨(h3 j hj).1,RS.congr (fun k hk=>hρ k (by omega)) h0 (fun b hb=>by rw[hI];exact hb) (h3 j hj).1 (h3 j hj).2.1,(h3 j hj).2.2⟩⟩
 | obj c m' n p g =>
  obtain⟨e0,h0,o,u,h1,h2,h3⟩:=h
  have hlm:m'≤l:=by
   have hm:Nat.blt l m'=false:=hm
   have:¬l<m':=fun h=>by
    have h9:Nat.blt l m'=true:=by simpa using h
    rw[h9]at hm;exact absurd hm (by decide)
   omega
  exact⟨by rw[(hρ m hne).1];exact e0,h0,o,u,by rw[(hρ m hne).1];exact h1,h2,fun j hj=>⟨(h3 j hj).1,RS.congr (fun k hk=>hρ k (by omega)) h0 (fun b hb=>by rw[hI];exact hb) (h3 j hj).1 (h3 j hj).2.1,(h3 j hj).2.2⟩⟩
end
def n4(ops:List Oper)(o:Oper):List Nat :=
 (o.op.operands.toList.filterMap fun|.tmp t=>some t|_=>none)++(match o.guard with|some (j,_)=>((ops[j]?).bind (·.dst)).toList|none=>[])
def bS(pre:List Nat)(ops:List Oper)(n0 i j:Nat)(labs:List Nat)(p q:Pt):Bool :=
 (match p.1.dst,q.1.dst with|some a,some b=>!Nat.beq a b|_,_=>true) &&
 (p.2.ed.all (fun x=>q.2.ed.all fun y=>!Nat.beq x.1 y.1)||j8 pre i j) &&
 ((match q.1.dst with|some d=>(n4 ops p.1).all fun t=>!Nat.beq d t|none=>true)||j8 pre i j) &&
 ((labs.all (fun l=>q.2.ed.all fun y=>!Nat.beq y.1 l)&&p.2.rd.all (fun l=>q.2.ed.all fun y=>!Nat.beq y.1 l))||j8 pre i j) &&
 (!cP p.1.op||(!mem2 (n0+i) q.2.val&&q.2.ed.all (fun y=>!Nat.beq y.1 (n0+i)&&!nY (n0+i) y.2))||(Nat.blt i j&&j8 pre i j))
def eB(pre:List Nat)(ops:List Oper)(n0 i:Nat)(labs:List Nat)(p:Pt):List Pt→Nat→Bool
 | [],_=>true
 | q::r,j=>(Nat.beq i j||bS pre ops n0 i j labs p q)&&eB pre ops n0 i labs p r (j+1)
def eD(pre:List Nat)(ops:List Oper)(n0:Nat)(all:List Pt)(S0:St):List Pt→Nat→St→Bool
 | [],_,_=>true
 | p::r,i,S=>eB pre ops n0 i (gC S p.1.op) p all 0&&(!cP p.1.op||(S0.fr.all (fun x=>!mem2 (n0+i) x.2)&&S0.hp.all (fun x=>!Nat.beq x.1 (n0+i)&&!nY (n0+i) x.2))) &&
   (p.1.after.toList.all fun e=>!Region.binds .any e||Nat.blt e.on i)&&(match p.1.dst with|some n=>Nat.blt n S0.nt.n|none=>true)&&eD pre ops n0 all S0 r (i+1) (S.step p.1.dst p.2)
def dU(ops:List Oper)(efs:List Ef)(n0:Nat)(S0:St):Bool:=eD (eA ops []) ops n0 (ops.zip efs) S0 (ops.zip efs) 0 S0
theorem nu{pre:List Nat}{ops:List Oper}{n0 i:Nat}{labs:List Nat}{p:Pt}:∀(l:List Pt) (k:Nat),eB pre ops n0 i labs p l k=true→∀j q,l[j]?=some q→i≠k+j→bS pre ops n0 i (k+j) labs p q=true
 | [],k,h,j,q,hq,hne=>by simp at hq
 | x::r,k,h,j,q,hq,hne=>by
  unfold eB at h
  rw[Q5,Q20]at h
  cases j with
  | zero =>
   simp at hq;subst hq
   rcases h.1 with h1|h1
   ·exact absurd (Q2 h1) hne
   ·exact h1
  | succ j=>simp at hq;have:=nu r (k+1) h.2 j q hq (by omega);rw[show k+(j+1)=k+1+j by omega];exact this
theorem nv{pre:List Nat}{ops:List Oper}{n0:Nat}{all:List Pt}{S0:St}:∀(l:List Pt) (k:Nat) (S:St),eD pre ops n0 all S0 l k S=true→∀i p,l[i]?=some p →
  (∀j q,all[j]?=some q→k+i≠j→bS pre ops n0 (k+i) j (gC (ap (l.take i) S) p.1.op) p q=true) ∧
  (cP p.1.op=true→(∀x∈S0.fr,mem2 (n0+(k+i)) x.2=false)∧∀x∈S0.hp,x.1≠n0+(k+i)∧nY (n0+(k+i)) x.2=false) ∧
  (∀e∈p.1.after.toList,Region.binds .any e=true→e.on<k+i)∧(∀n,p.1.dst=some n→n<S0.nt.n)
 | [],k,S,h,i,p,hp=>by simp at hp
 | x::r,k,S,h,i,p,hp=>by
  unfold eD at h
  simp only[Q5]at h
  obtain⟨⟨⟨⟨h1,h2⟩,h3⟩,h5⟩,h4⟩:=h
  cases i with
  | zero =>
   simp at hp;subst hp
   refine⟨fun j q hq hne=>by have:=nu all 0 h1 j q hq (by omega);simpa[ap]using this,fun hal=>?_,fun e he hb=>?_,fun n hn=>by rw[hn]at h5;simpa using h5⟩
   ·rw[hal]at h2
    simp only[Bool.not_true,Bool.false_or,Q5,Q23]at h2
    refine⟨fun x hx=>by simpa using h2.1 x hx,fun x hx=>?_⟩
    have:=h2.2 x hx
    simp only[Bool.not_eq_true']at this
    refine⟨fun e=>?_,by simpa using this.2⟩
    have h9:=this.1
    rw[e]at h9
    simp at h9
   ·rw[Q23]at h3
    have:=h3 e he
    rw[hb]at this
    simpa using this
  | succ i =>
   simp at hp
   have:=nv r (k+1) _ h4 i p hp
   rw[show k+(i+1)=k+1+i by omega]
   exact this
theorem oV {G D:Nat→Prop} (hDG:∀i,D i→G i):∀(l:List Oper) (acc:List Nat),(∀i o,l[i]?=some o→G (acc.length+i)→∀e∈o.after.toList,Region.binds .any e=true→D e.on) →
  (∀i j,(acc.getD i 0).testBit j=true→G i→D j)→∀i j,((eA l acc).getD i 0).testBit j=true→G i→D j
 | [],acc,h,ha,i,j,hij,hG=>ha i j hij hG
 | o :: r,acc,h,ha,i,j,hij,hG=>by
  refine oV hDG r (acc++[dirP o acc]) (fun i o' ho hg=>?_) (fun i j hij hG=>?_) i j hij hG
  ·have:=h (i+1) o' (by simpa using ho)
   refine this ?_
   rw[Q9]at hg
   simpa[Nat.add_assoc,Nat.add_comm 1 i]using hg
  ·by_cases hlt:i<acc.length
   ·have e:(acc++[dirP o acc]).getD i 0=acc.getD i 0:=by simp[List.getD,Q11 hlt]
    rw[e]at hij
    exact ha i j hij hG
   ·by_cases hi:i=acc.length
    ·subst hi
     have e:(acc++[dirP o acc]).getD acc.length 0=dirP o acc:=by simp[List.getD]
     rw[e]at hij
     have hd:=h 0 o rfl (by simpa using hG)
     have key:∀(es:List Edge) (s:Nat),(∀e∈es,Region.binds .any e=true→D e.on)→(s.testBit j=true→D j)→((es.foldl (fun s e=>bif Region.binds .any e then s|||2^e.on|||acc.getD e.on 0 else s) s).testBit j=true→D j):=by
      intro es
      induction es with
      | nil=>exact fun s _ hs=>hs
      | cons e es ih =>
       intro s hes hs
       refine ih _ (fun e he=>hes e (by simp[he])) ?_
       show((bif Region.binds .any e then s|||2^e.on|||acc.getD e.on 0 else s):Nat).testBit j=true→D j
       cases hb:Region.binds .any e with
       | false=>exact hs
       | true =>
        simp only[cond_true]
        intro hbit
        rw[Nat.testBit_or,Nat.testBit_or,Q20,Q20]at hbit
        have hon:=hes e (by simp) hb
        rcases hbit with(hbit|hbit)|hbit
        ·exact hs hbit
        ·rw[Nat.testBit_two_pow]at hbit
         have:=of_decide_eq_true hbit
         rw[← this];exact hon
        ·exact ha _ _ hbit (hDG _ hon)
     exact key _ 0 hd (by simp) hij
    ·have e:(acc++[dirP o acc]).getD i 0=0:=by
      simp only[List.getD]
      rw[List.getElem?_eq_none (by simp;omega)];rfl
     rw[e]at hij
     simp at hij
theorem si {pre : List Nat} {i j:Nat} (h:i≠j):j8 pre i j=j8 pre j i:=by
  unfold j8
  by_cases hlt:j<i
  · have h1:Nat.blt j i=true:=by simpa using hlt
    have h2:Nat.blt i j=false:=by
      cases hq:Nat.blt i j with
      | true => have:i<j:=by simpa using hq
                omega
      | false=>rfl
    rw[h1,h2];rfl
  · have h1:Nat.blt i j=true:=by simp;omega
    have h2:Nat.blt j i=false:=by
      cases hq:Nat.blt j i with
      | true => have:j<i:=by simpa using hq
                omega
      | false=>rfl
    rw[h1,h2];rfl
theorem m6{l2:List Pt}{R:Nat→Nat→Prop}{n:Nat}(hR:∀i j p q,l2[i]?=some p→l2[j]?=some q→(∃o,(n,o)∈p.2.ed)→(∃o,(n,o)∈q.2.ed)→i≠j→R i j) :
  ∀(ms:List Nat) (S:St),ms.Pairwise (fun a b=>R a b→a<b)→∀j p,j∈ms→l2[j]?=some p→(∃o,(n,o)∈p.2.ed)→(∀i q,i∈ms→l2[i]?=some q→(∃o,(n,o)∈q.2.ed)→i≤j)→lkh (ap (ms.filterMap fun j=>l2[j]?) S).hp n=lkh p.2.ed n
 | [],S,hp,j,p,hj,_,_,_=>by simp at hj
 | a :: r,S,hpw,j,p,hj,hjp,hw,hmax=>by
  rw[List.pairwise_cons]at hpw
  by_cases hex:∃b q,b∈r∧l2[b]?=some q∧∃o,(n,o)∈q.2.ed
  ·obtain⟨b,q,hb,hbq,hbw⟩:=hex
   have hjr:j∈r:=by
    rcases Q22 hj with rfl|h
    ·by_cases hne:j=b
     ·subst hne;exact hb
     ·have h1:=hpw.1 b hb (hR j b p q hjp hbq hw hbw hne)
      have h2:=hmax b q (by simp[hb]) hbq hbw
      omega
    ·exact h
   have ih:=fun S=>m6 hR r S hpw.2 j p hjr hjp hw (fun i q hi=>hmax i q (by simp[hi]))
   cases ha:l2[a]? with
   | none=>simp only[List.filterMap_cons,ha];exact ih S
   | some q=>simp only[List.filterMap_cons,ha];exact ih _
  ·have hja:j=a:=by
    rcases Q22 hj with h|h
    ·exact h
    ·exact absurd ⟨j,p,h,hjp,hw⟩ hex
   subst hja
   simp only[List.filterMap_cons,hjp]
   show lkh (ap _ (S.step p.1.dst p.2)).hp n=_
   rw[lQ _ _ n (fun q hq o ho=>by
    obtain⟨b,hb,hbq⟩:=List.mem_filterMap.1 hq
    exact hex ⟨b,q,hb,hbq,o,ho⟩),kW,if_pos hw]
theorem max_of{p:Nat→Prop}{N:Nat}(hN:∀j,p j→j<N){j0:Nat}(h0:p j0):∃j,p j∧∀i,p i→i≤j:=by
 induction N generalizing j0 with
 | zero=>exact absurd (hN j0 h0) (by omega)
 | succ N ih =>
  by_cases h:p N
  ·exact⟨N,h,fun i hi=>by have:=hN i hi;omega⟩
  ·exact ih (fun j hj=>by
    have:=hN j hj
    by_cases e:j=N
    ·subst e;exact absurd hj h
    ·omega) h0
theorem Wp.drawAny {C:Cx} {l:List Oper} {nt:NT} {nx:Nat} {fr:List (Nat×SV)} {hp:List (Nat×Option Blk)} {Q:Exit→St→Prop}
  (h:cQ C l nx l 0 ⟨nt,nx+l.length,fr,hp⟩ fun efs Sn=>dU l efs nx ⟨nt,nx+l.length,fr,hp⟩=true∧Q .normal Sn) {O:Org} {E:Env} {a:Act} {w:World} (hs:Sat O E ⟨nt,nx,fr,hp⟩ a w) :
  wpAny C.P .any l.toArray (fun e a' w'=>∃S' E',Q e S'∧Sat O E' S' a' w') l.length (Array.replicate l.length false) a { w with drawn:=w.drawn+1 }:=by
 obtain⟨efs,Sn,⟨hok,hQ⟩,hlen,hLk,hstep⟩:=pH l 0 _ _ h
 generalize hS0:(⟨nt,nx+l.length,fr,hp⟩:St)=S0 at *
 have hnx0:S0.nx=nx+l.length:=by rw[← hS0]
 let l2:=l.zip efs
 have hl2:l2.length=l.length:=by simp[l2,hlen]
 have hget:∀(j:Nat) (p:Pt),l2[j]?=some p→l[j]?=some p.1∧efs[j]?=some p.2:=fun j p hp=>by
  obtain⟨p1,p2⟩:=p
  have:=List.getElem?_zip_eq_some.1 hp
  exact this
 have hchk:=nv (pre:=eA l []) (ops:=l) (n0:=nx) (all:=l2) (S0:=S0) l2 0 S0 (by unfold dU at hok;exact hok)
 simp only[Q19]at hchk
 have uniqD:∀(i j:Nat) (p q:Pt) (n:Nat),l2[i]?=some p→l2[j]?=some q→p.1.dst=some n→q.1.dst=some n→i=j:=fun i j p q n hi hj hpn hqn=>Classical.byContradiction fun hne=>by
  have:=(hchk i p hi).1 j q hj (by omega)
  unfold bS at this
  simp only[Q5]at this
  rw[hpn,hqn]at this
  simp at this
 have wOrd:∀(n i j:Nat) (p q:Pt),l2[i]?=some p→l2[j]?=some q→(∃o,(n,o)∈p.2.ed)→(∃o,(n,o)∈q.2.ed)→i≠j→j8 (eA l []) i j=true:=fun n i j p q hi hj ⟨o,ho⟩ ⟨o',ho'⟩ hne=>by
  have:=(hchk i p hi).1 j q hj (by omega)
  unfold bS at this
  simp only[Q5,Q23,Q20]at this
  rcases this.1.1.1.2 with h9|h9
  ·have h9:=h9 _ ho _ ho'
   simp at h9
  ·exact h9
 let Mem:List Pt→(Nat→Prop)→Prop:=fun m D=>∀(p:Pt),p∈m↔∃(j:Nat),l2[j]?=some p∧D j
 have agF:∀(m m':List Pt) (D D':Nat→Prop) (n:Nat),Mem m D→Mem m' D'→(∀(j:Nat) (p:Pt),l2[j]?=some p→p.1.dst=some n→(D j↔D' j))→lk (ap m S0).fr n=lk (ap m' S0).fr n:=by
  intro m m' D D' n hm hm' hag
  by_cases hex:∃(j:Nat) (p:Pt),l2[j]?=some p∧D j∧p.1.dst=some n
  ·obtain⟨j,p,h1,h2,h3⟩:=hex
   rw[ib m S0 n p.2.val ⟨p,(hm p).2 ⟨j,h1,h2⟩,h3⟩ (fun q hq hqn=>by
     obtain⟨i,hi,_⟩:=(hm q).1 hq
     obtain rfl:=uniqD i j q p n hi h1 hqn h3
     rw[hi]at h1;cases h1;rfl),
    ib m' S0 n p.2.val ⟨p,(hm' p).2 ⟨j,h1,(hag j p h1 h3).1 h2⟩,h3⟩ (fun q hq hqn=>by
     obtain⟨i,hi,_⟩:=(hm' q).1 hq
     obtain rfl:=uniqD i j q p n hi h1 hqn h3
     rw[hi]at h1;cases h1;rfl)]
  ·rw[fv m S0 n (fun q hq hqn=>by obtain⟨i,hi,hd⟩:=(hm q).1 hq;exact hex ⟨i,q,hi,hd,hqn⟩),
    fv m' S0 n (fun q hq hqn=>by obtain⟨i,hi,hd⟩:=(hm' q).1 hq;exact hex ⟨i,q,hi,(hag i q hi hqn).2 hd,hqn⟩)]
 let Ord:List Pt→(Nat→Prop)→Prop:=fun m D=>∃ms:List Nat,m=ms.filterMap (fun j=>l2[j]?)∧(∀j,j∈ms↔(j<l2.length∧D j))∧ms.Pairwise (fun a b=>j8 (eA l []) a b=true→a<b)
 have ltN:∀(j:Nat) (p:Pt),l2[j]?=some p→j<l2.length:=fun j p hj=>(Q3 hj).1
 have lastH:∀(m:List Pt) (D:Nat→Prop) (n:Nat),Ord m D→(∃(j:Nat) (p:Pt),l2[j]?=some p∧D j∧(∃o,(n,o)∈p.2.ed)∧(∀(i:Nat) (q:Pt),l2[i]?=some q→D i→(∃o,(n,o)∈q.2.ed)→i≤j)∧lkh (ap m S0).hp n=lkh p.2.ed n) ∨
   ((∀(j:Nat) (p:Pt),l2[j]?=some p→D j→¬∃o,(n,o)∈p.2.ed)∧lkh (ap m S0).hp n=lkh S0.hp n):=by
  rintro m D n ⟨ms,rfl,h1,h2⟩
  by_cases hex:∃(j:Nat) (p:Pt),l2[j]?=some p∧D j∧∃o,(n,o)∈p.2.ed
  ·obtain⟨j0,p0,g1,g2,g3⟩:=hex
   obtain⟨j,⟨p,k1,k2,k3⟩,kmax⟩:=max_of (p:=fun j=>∃p,l2[j]?=some p∧D j∧∃o,(n,o)∈p.2.ed) (N:=l2.length) (fun j ⟨p,hp,_⟩=>ltN j p hp) ⟨p0,g1,g2,g3⟩
   refine Or.inl ⟨j,p,k1,k2,k3,fun i q hi hd hw=>kmax i ⟨q,hi,hd,hw⟩,?_⟩
   exact m6 (R:=fun a b=>j8 (eA l []) a b=true) (wOrd n) ms S0 h2 j p ((h1 j).2 ⟨ltN j p k1,k2⟩) k1 k3 fun i q hi hq hw=>kmax i ⟨q,hq,((h1 i).1 hi).2,hw⟩
  ·refine Or.inr ⟨fun j p hj hd hw=>hex ⟨j,p,hj,hd,hw⟩,?_⟩
   refine lQ _ S0 n fun q hq o ho=>?_
   obtain⟨j,hj,hjq⟩:=List.mem_filterMap.1 hq
   exact hex ⟨j,q,hjq,((h1 j).1 hj).2,o,ho⟩
 have agH:∀(m m':List Pt) (D D':Nat→Prop) (n:Nat),Ord m D→Ord m' D'→(∀(j:Nat) (p:Pt),l2[j]?=some p→(∃o,(n,o)∈p.2.ed)→(D j↔D' j))→lkh (ap m S0).hp n=lkh (ap m' S0).hp n:=by
  intro m m' D D' n hm hm' hag
  rcases lastH m D n hm with⟨j,p,h1,h2,h3,h4,h5⟩|⟨h1,h2⟩<;>rcases lastH m' D' n hm' with⟨j',p',h1',h2',h3',h4',h5'⟩|⟨h1',h2'⟩
  ·have e1:=h4' j p h1 ((hag j p h1 h3).1 h2) h3
   have e2:=h4 j' p' h1' ((hag j' p' h1' h3').2 h2') h3'
   obtain rfl:j=j':=by omega
   rw[h1]at h1';cases h1'
   rw[h5,h5']
  ·exact absurd h3 (h1' j p h1 ((hag j p h1 h3).1 h2))
  ·exact absurd h3' (h1 j' p' h1' ((hag j' p' h1' h3').2 h2'))
  ·rw[h2,h2']
 have oTake:∀i,i≤l2.length→Ord (l2.take i) (fun j=>j<i):=fun i hi=>by
  refine⟨List.range i,?_,fun j=>by rw[List.mem_range];omega,by
   have:=List.pairwise_lt_range (n:=i)
   exact this.imp (fun {a b} h=>fun _=>h)⟩
  have:∀(L:List Pt) (k:Nat),k≤L.length→L.take k=(List.range k).filterMap (fun j=>L[j]?):=by
   intro L k
   induction k with
   | zero=>intro _;simp
   | succ k ih =>
    intro hk
    rw[List.range_succ,List.filterMap_append,← ih (by omega),List.take_add_one]
    congr 1
  exact this l2 i hi
 have oAll:Ord l2 (fun _=>True):=by
  obtain⟨ms,h1,h2,h3⟩:=oTake l2.length (Q4 _)
  rw[List.take_length]at h1
  exact⟨ms,h1,fun j=>by rw[h2];simp,h3⟩
 have mTake:∀i,Mem (l2.take i) (fun j=>j<i):=fun i p=>by
  constructor
  ·intro hp
   obtain⟨j,hj,e⟩:=List.getElem_of_mem hp
   rw[Q10]at hj
   refine⟨j,?_,by omega⟩
   rw[← e,List.getElem_take,Q0]
  ·rintro⟨j,h1,h2⟩
   have:(l2.take i)[j]?=some p:=by rw[Q15,if_pos h2];exact h1
   exact List.mem_of_getElem? this
 have mAll:Mem l2 (fun _=>True):=fun p=>by
  constructor
  ·intro hp
   obtain⟨j,hj,e⟩:=List.getElem_of_mem hp
   exact⟨j,by rw[← e,Q0],trivial⟩
  ·rintro⟨j,h1,_⟩;exact List.mem_of_getElem? h1
 have hOn:O.nl≤nx:=hs.nl
 have main:∀(fuel:Nat) (listed:Array Bool) (m:List Pt) (E:Env) (a:Act) (w:World),listed.size=l.length→Mem m (fun j=>listed.getD j false=true)→Ord m (fun j=>listed.getD j false=true) →
   (∀(i:Nat) (o:Oper),l[i]?=some o→listed.getD i false=true→∀e∈o.after.toList,Region.binds .any e=true→listed.getD e.on false=true)→(listed.toList.count false≤fuel)→Sat O E (ap m S0) a w →
   wpAny C.P .any l.toArray (fun e a' w'=>∃S' E',Q e S'∧Sat O E' S' a' w') fuel listed a w:=by
  have fin:∀(listed:Array Bool) (m:List Pt) (E:Env) (a:Act) (w:World),Mem m (fun j=>listed.getD j false=true)→Ord m (fun j=>listed.getD j false=true)→(∀j,j<l.length→listed.getD j false=true)→Sat O E (ap m S0) a w→∃S' E',Q .normal S'∧Sat O E' S' a w:=by
   intro listed m E a w hm ho hall hs
   refine⟨Sn,E,hQ,hs.congr ?_⟩
   refine jr.trans ⟨by rw[(du m S0).1,(du l2 S0).1],by rw[(du m S0).2,(du l2 S0).2],fun n=>?_,fun n=>?_⟩ hLk.symm
   ·exact agF m l2 _ _ n hm mAll fun j p hp _=>⟨fun _=>trivial,fun _=>hall j (by have:=(Q3 hp).1;omega)⟩
   ·exact agH m l2 _ _ n ho oAll fun j p hp _=>⟨fun _=>trivial,fun _=>hall j (by have:=(Q3 hp).1;omega)⟩
  have hready:∀(listed:Array Bool) (i:Nat),listed.size=l.length→(i∈Region.ready .any l.toArray listed↔∃(o:Oper),l[i]?=some o∧listed.getD i false=false∧∀e∈o.after.toList,Region.binds .any e=true→listed.getD e.on false=true):=by
   intro listed i hls
   unfold Region.ready
   rw[List.mem_filter]
   constructor
   ·rintro⟨h1,h2⟩
    have hi:i<l.length:=by simpa using h1
    have hli:i<listed.size:=by omega
    rw[Q5]at h2
    refine⟨l[i],Q0 hi,?_,fun e he hb=>?_⟩
    ·have:=h2.1
     simp only[Array.getD,hli,dif_pos]at this⊢
     simpa using this
    ·have h3:=h2.2
     simp only[List.getElem?_toArray,Q0 hi,Option.map_some,Option.getD_some]at h3
     rw[← Array.all_toList,Q23]at h3
     have:=h3 e he
     rw[hb]at this
     simpa using this
   ·rintro⟨o,h1,h2,h3⟩
    obtain⟨hi,e1⟩:=Q3 h1
    have hli:i<listed.size:=by omega
    refine⟨by simpa using hi,?_⟩
    rw[Q5]
    refine⟨?_,?_⟩
    ·simp only[Array.getD,hli,dif_pos]at h2⊢
     simpa using h2
    ·simp only[List.getElem?_toArray,h1,Option.map_some,Option.getD_some]
     rw[← Array.all_toList,Q23]
     intro e he
     cases hb:Region.binds .any e with
     | false=>rfl
     | true=>simpa using h3 e he hb
  have allOf:∀(listed:Array Bool),listed.size=l.length→Region.ready .any l.toArray listed=[]→∀j,j<l.length→listed.getD j false=true:=by
   intro listed hls hr j
   induction j using Nat.strongRecOn with
   | _ j ih =>
    intro hj
    cases hb:listed.getD j false with
    | true=>rfl
    | false =>
     exfalso
     have hjl:l2[j]?=some (l[j],efs[j]'(by omega)):=by
      rw[List.getElem?_zip_eq_some];exact⟨Q0 hj,Q0 _⟩
     have:j∈Region.ready .any l.toArray listed:=(hready listed j hls).2 ⟨l[j],Q0 hj,hb,fun e he hb2=>by
      have:=(hchk j _ hjl).2.2.1 e he hb2
      exact ih e.on this (by omega)⟩
     rw[hr]at this
     simp at this
  intro fuel
  induction fuel with
  | zero =>
   intro listed m E a w hls hm hord0 hdc hcnt hs
   have hall:∀j,j<l.length→listed.getD j false=true:=fun j hj=>by
    have:false∉listed.toList:=List.count_eq_zero.1 (by omega)
    have h1:j<listed.size:=by omega
    cases hb:listed.getD j false with
    | true=>rfl
    | false=>exfalso;apply this;simp only[Array.getD,h1,dif_pos]at hb;rw[← hb];simp
   refine⟨?_,fin listed m E a w hm hord0 hall hs⟩
   refine List.eq_nil_iff_forall_not_mem.2 fun i hi=>?_
   obtain⟨o,h1,h2,_⟩:=(hready listed i hls).1 hi
   rw[hall i (Q3 h1).1]at h2
   simp at h2
  | succ fuel ih =>
   intro listed m E a w hls hm hord0 hdc hcnt hs
   refine⟨fun hr=>fin listed m E a w hm hord0 (allOf listed hls hr) hs,fun i hi=>?_⟩
   obtain⟨o,ho,hun,hpre⟩:=(hready listed i hls).1 hi
   obtain⟨hil,_⟩:=Q3 ho
   obtain⟨ef,hef⟩:∃ef,efs[i]?=some ef:=⟨efs[i]'(by omega),Q0 _⟩
   have hp:l2[i]?=some (o,ef):=List.getElem?_zip_eq_some.2 ⟨ho,hef⟩
   obtain⟨c1,c2,c3,c4⟩:=hchk i (o,ef) hp
   have hst:=hstep i o ef ho hef
   rw[Q19]at hst
   have hnl:¬listed.getD i false=true:=by rw[hun];simp
   have hG:=oV (G:=fun j=>listed.getD j false=true∨j=i) (D:=fun j=>listed.getD j false=true) (fun j hj=>Or.inl hj) l [] (fun j o' ho' hg e he hb=>by
    simp only[List.length_nil,Q19]at hg
    rcases hg with hg|rfl
    ·exact hdc j o' ho' hg e he hb
    ·rw[ho]at ho';cases ho';exact hpre e he hb) (fun j j' hb=>by simp at hb)
   have hord:∀j,i≠j→j8 (eA l []) i j=true→(j<i↔listed.getD j false=true):=by
    intro j hne hb
    unfold j8 at hb
    by_cases hlt:j<i
    ·have h1:Nat.blt j i=true:=by simpa using hlt
     rw[h1]at hb
     exact⟨fun _=>hG i j hb (Or.inr rfl),fun _=>hlt⟩
    ·have h1:Nat.blt j i=false:=by
      cases hq:Nat.blt j i with
      | true=>exact absurd (by simpa using hq) hlt
      | false=>rfl
     rw[h1]at hb
     exact⟨fun h=>absurd h hlt,fun h=>absurd (hG j i hb (Or.inl h)) hnl⟩
   have hfr:∀t∈n4 l o,lk (ap (l2.take i) S0).fr t=lk (ap m S0).fr t:=fun t ht=>agF _ m _ _ t (mTake i) hm fun j q hq hqt=>by
    by_cases hne:i=j
    ·subst hne;exact⟨fun h=>absurd h (Nat.lt_irrefl _),fun h=>absurd h hnl⟩
    ·have:=c1 j q hq hne
     unfold bS at this
     simp only[Q5]at this
     have h9:=this.1.1.2
     rw[hqt]at h9
     simp only[Q20,Q23]at h9
     rcases h9 with h9|h9
     ·have:=h9 t ht;simp at this
     ·exact hord j hne h9
   have hil2:i≤l2.length:=by omega
   have hlab:∀t∈gC (ap (l2.take i) S0) o.op,lkh (ap (l2.take i) S0).hp t=lkh (ap m S0).hp t:=fun t ht=>agH _ m _ _ t (oTake i hil2) hord0 fun j q hq ⟨o',hqo⟩=>by
    by_cases hne:i=j
    ·subst hne;exact⟨fun h=>absurd h (Nat.lt_irrefl _),fun h=>absurd h hnl⟩
    ·have:=c1 j q hq hne
     unfold bS at this
     simp only[Q5]at this
     have h9:=this.1.2
     simp only[Q20,Q5,Q23]at h9
     rcases h9 with⟨h9,_⟩|h9
     ·have:=h9 t ht _ hqo;simp at this
     ·exact hord j hne h9
   have hrd:∀t∈ef.rd,lkh (ap (l2.take i) S0).hp t=lkh (ap m S0).hp t:=fun t ht=>agH _ m _ _ t (oTake i hil2) hord0 fun j q hq ⟨o',hqo⟩=>by
    by_cases hne:i=j
    ·subst hne;exact⟨fun h=>absurd h (Nat.lt_irrefl _),fun h=>absurd h hnl⟩
    ·have:=c1 j q hq hne
     unfold bS at this
     simp only[Q5]at this
     have h9:=this.1.2
     simp only[Q20,Q5,Q23]at h9
     rcases h9 with⟨_,h9⟩|h9
     ·have:=h9 t ht _ hqo;simp at this
     ·exact hord j hne h9
   have hkey:∀t o',(t,o')∈ef.ed→lkh (ap (l2.take i) S0).hp t=lkh (ap m S0).hp t:=fun t o' ho'=>agH _ m _ _ t (oTake i hil2) hord0 fun j q hq hqo=>by
    by_cases hne:i=j
    ·subst hne;exact⟨fun h=>absurd h (Nat.lt_irrefl _),fun h=>absurd h hnl⟩
    ·exact hord j hne (wOrd t i j (o,ef) q hp hq ⟨o',ho'⟩ hqo hne)
   have hnxm:(ap m S0).nx=nx+l.length:=by rw[(du m S0).2,hnx0]
   have hmm:∀(q:Pt),q∈m→∃(j:Nat),l2[j]?=some q∧listed.getD j false=true∧i≠j:=fun q hq=>by
    obtain⟨j,h1,h2⟩:=(hm q).1 hq
    exact⟨j,h1,h2,fun e=>hnl (by rw[e];exact h2)⟩
   have hmem:cP o.op=true→∀(q:Pt),q∈m→mem2 (nx+i) q.2.val=false∧∀y∈q.2.ed,y.1≠nx+i∧nY (nx+i) y.2=false:=fun hal q hq=>by
    obtain⟨j,h1,h2,h3⟩:=hmm q hq
    have:=c1 j q h1 h3
    unfold bS at this
    simp only[Q5]at this
    have h9:=this.2
    rw[hal]at h9
    simp only[Bool.not_true,Bool.false_or,Q20,Q5,Q23]at h9
    rcases h9 with⟨h9,h8⟩|⟨h9,h8⟩
    ·refine⟨by simpa using h9,fun y hy=>?_⟩
     have:=h8 y hy
     simp only[Bool.not_eq_true']at this
     exact⟨fun e=>by have h7:=this.1;rw[e]at h7;simp at h7,this.2⟩
    ·exfalso
     have:=(hord j h3 h8).2 h2
     have h7:i<j:=by simpa using h9
     omega
   have hinv:cP o.op=true→Inv (ap m S0) (nx+i):=by
    intro hal E1 E2 w1 hρ hI
    obtain⟨d1,d2⟩:=c2 hal
    have hq:=hmem hal
    refine⟨fun n v hv=>mem2_ok hρ hI ?_ hv,fun lb b hb=>?_⟩
    ·by_cases hex:∃q∈m,q.1.dst=some n
     ·obtain⟨q,hqm,hqn⟩:=hex
      obtain⟨j,h1,h2,h3⟩:=hmm q hqm
      rw[ib m S0 n q.2.val ⟨q,hqm,hqn⟩ (fun q' hq' hqn'=>by
       obtain⟨j',h1',_⟩:=(hm q').1 hq'
       obtain rfl:=uniqD j' j q' q n h1' h1 hqn' hqn
       rw[h1']at h1;cases h1;rfl)]
      exact(hq q hqm).1
     ·rw[fv m S0 n (fun q hqm hqn=>hex ⟨q,hqm,hqn⟩)]
      have:∀fr:List (Nat×SV),(∀x∈fr,mem2 (nx+i) x.2=false)→mem2 (nx+i) (lk fr n)=false:=by
       intro fr
       induction fr with
       | nil=>intro _;rfl
       | cons x r ihr =>
        intro hx
        obtain⟨x1,x2⟩:=x
        rw[dl]
        split
        ·exact hx (x1,x2) (by simp)
        ·exact ihr fun y hy=>hx y (by simp[hy])
      exact this _ d1
    ·have key:lb≠nx+i∧nY (nx+i) (some b)=false:=by
      have look:∀(hp:List (Nat×Option Blk)),(∀x∈hp,x.1≠nx+i∧nY (nx+i) x.2=false)→lkh hp lb=some b→lb≠nx+i∧nY (nx+i) (some b)=false:=by
       intro hp
       induction hp with
       | nil=>intro _ h;simp[lkh]at h
       | cons x r ihr =>
        intro hx h
        obtain⟨x1,x2⟩:=x
        rw[ah]at h
        split at h
        ·rename_i e
         subst e
         have:=hx (x1,x2) (by simp)
         simp only at this
         rw[h]at this;exact this
        ·exact ihr (fun y hy=>hx y (by simp[hy])) h
      rcases lastH m _ lb hord0 with⟨j,q,h1,h2,h3,h4,h5⟩|⟨h1,h2⟩
      ·rw[h5]at hb
       exact look _ (hq q ((hm q).2 ⟨j,h1,h2⟩)).2 hb
      ·rw[h2]at hb
       exact look _ d2 hb
     exact⟨key.1,memO_ok hρ hI key.1 key.2⟩
   have next:∀(v:Value) (E':Env) (w':World),Sat O E' ((ap m S0).ed ef.ed) a w'→RS E' (ap m S0).nx w' ef.val v →
     wpAny C.P .any l.toArray (fun e a' w'=>∃S' E',Q e S'∧Sat O E' S' a' w') fuel (listed.setIfInBounds i true) (a.put o.dst v) w':=by
    intro v E' w' hs' hv
    have hlg:∀j,(listed.setIfInBounds i true).getD j false=true↔(listed.getD j false=true∨j=i):=fun j=>by
     simp only[Q7,Array.getElem?_setIfInBounds]
     by_cases h:i=j
     ·subst h
      have:i<listed.size:=by omega
      simp[this]
     ·simp[h]
      exact fun e=>absurd e.symm h
    refine ih _ (m++[(o,ef)]) E' _ w' (by simpa using hls) (fun p=>?_) ?_ (fun j o' ho' hj e he hb=>?_) ?_ ?_
    ·rw[List.mem_append,List.mem_singleton,hm p]
     constructor
     ·rintro(⟨j,h1,h2⟩|rfl)
      ·exact⟨j,h1,(hlg j).2 (Or.inl h2)⟩
      ·exact⟨i,hp,(hlg i).2 (Or.inr rfl)⟩
     ·rintro⟨j,h1,h2⟩
      rcases(hlg j).1 h2 with h2|rfl
      ·exact Or.inl ⟨j,h1,h2⟩
      ·rw[hp]at h1;cases h1;exact Or.inr rfl
    ·obtain⟨ms,g1,g2,g3⟩:=hord0
     refine⟨ms++[i],by rw[List.filterMap_append,← g1];simp[hp],fun j=>?_,?_⟩
     ·rw[List.mem_append,List.mem_singleton,g2]
      show _↔j<l2.length∧(listed.setIfInBounds i true).getD j false=true
      rw[hlg]
      constructor
      ·rintro(⟨k1,k2⟩|rfl)
       ·exact⟨k1,Or.inl k2⟩
       ·exact⟨by omega,Or.inr rfl⟩
      ·rintro⟨k1,k2|rfl⟩
       ·exact Or.inl ⟨k1,k2⟩
       ·exact Or.inr rfl
     ·rw[List.pairwise_append]
      refine⟨g3,by simp,fun a ha b hb hab=>?_⟩
      rw[List.mem_singleton]at hb
      subst hb
      have hla:=((g2 a).1 ha).2
      have hne:b≠a:=fun e=>hnl (by rw[e];exact hla)
      rw[si (fun e=>hne e.symm)]at hab
      exact(hord a hne hab).2 hla
    ·rw[hlg]
     rcases(hlg j).1 hj with hj|rfl
     ·exact Or.inl (hdc j o' ho' hj e he hb)
     ·rw[ho]at ho';cases ho';exact Or.inl (hpre e he hb)
    ·have cnt:∀(L:List Bool) (q:Nat),L[q]?=some false→(L.set q true).count false+1=L.count false:=by
      intro L
      induction L with
      | nil=>intro q h;simp at h
      | cons x r ihr =>
       intro q h
       cases q with
       | zero=>simp at h;subst h;simp
       | succ q =>
        simp at h
        have:=ihr q h
        simp only[List.set_cons_succ,List.count_cons]
        omega
     have hq:listed.toList[i]?=some false:=by
      have h1:i<listed.size:=by omega
      simp only[Array.getD,h1,dif_pos]at hun
      simp[h1];simpa using hun
     have:=cnt _ i hq
     rw[Array.toList_setIfInBounds]
     omega
    ·rw[qC]
     show Sat O E' ((ap m S0).step o.dst ef) (a.put o.dst v) w'
     cases hd:o.dst with
     | none =>
      have:(ap m S0).step none ef=(ap m S0).ed ef.ed:=by cases ap m S0;rfl
      rw[this];exact hs'
     | some n =>
      have:=hs'.put (n:=n) (x:=ef.val) (v:=v) (by have:=c4 n hd;show n<(ap m S0).nt.n;rw[(du m S0).1];exact this) hv
      have e:((ap m S0).ed ef.ed).set n ef.val=(ap m S0).step (some n) ef:=by cases ap m S0;rfl
      rw[e]at this;exact this
   have run:ra C (ap (l2.take i) S0) (nx+i) o.op (fun e=>e=ef)→o.wp C.P a w (wpAny C.P .any l.toArray (fun e a' w'=>∃S' E',Q e S'∧Sat O E' S' a' w') fuel (listed.setIfInBounds i true)) (fun e a' w'=>∃S' E',Q e S'∧Sat O E' S' a' w'):=fun hef=>by
    have h2:=kw (S':=ap m S0) (by rw[(du (l2.take i) S0).2,(du m S0).2]) (fun x hx=>pI fun t ht=>hfr t (by
     unfold n4
     rw[List.mem_append]
     exact Or.inl (List.mem_filterMap.2 ⟨x,hx,by rw[ht]⟩))) hlab hkey hrd hef
    exact effD_ok hs (by rw[hnxm];omega) (by omega) hinv h2 _ _ fun v E' w' e he hs' hv=>by subst he;exact next v E' w' hs' hv
   show wpOp C.P l.toArray _ i _ a w
   unfold wpOp
   have hoa:l.toArray[i]?=some o:=by simpa using ho
   rw[hoa]
   simp only
   unfold cM at hst
   split at hst
   ·rename_i hg
    rw[if_pos (by simp[Region.wanted,hg])]
    exact Or.inl (run hst)
   ·rename_i j want hg
    obtain⟨t,h1,hst⟩:=hst
    have hin:t∈n4 l o:=by unfold n4;rw[List.mem_append,hg];simp only;rw[h1];simp
    have h5:(l.toArray[j]?).bind (·.dst)=some t:=by simpa using h1
    have e0:∀S:St,S.ed []=S:=fun S=>by cases S;rfl
    rcases hst with⟨b,h2,h3,h4⟩|⟨h2,h3⟩
    ·have hlt:lk (ap m S0).fr t=.b b:=by rw[← hfr t hin];exact h2
     have hv:=hs.fr t
     rw[hlt]at hv
     have hv:=hv.val_inv
     have hy:yielded l.toArray a.tmps j=some b:=by
      unfold yielded
      have h6:a.tmps[t]?=some (.bool b):=by
       rw[Q7]at hv
       cases hq:a.tmps[t]? with
       | none=>rw[hq]at hv;simp[undef]at hv
       | some y=>rw[hq]at hv;simp at hv;rw[hv]
      rw[h5]
      simp[h6]
     by_cases hbw:b=want
     ·rw[if_pos (by simp[Region.wanted,hg,hy,hbw])]
      exact Or.inl (run (h3 hbw))
     ·rw[if_neg (by simp[Region.wanted,hg,hy,hbw])]
      have he:=h4 hbw
      subst he
      exact next undef E w (by
       show Sat O E ((ap m S0).ed []) a w
       rw[e0];exact hs) (RS.skip _ _ _)
    ·have hlt:lk (ap m S0).fr t=.tup []:=by rw[← hfr t hin];exact h2
     have hv:=hs.fr t
     rw[hlt]at hv
     have hv:=hv.skip_inv
     have hy:yielded l.toArray a.tmps j=none:=by
      unfold yielded
      rw[h5]
      rw[Q7]at hv
      cases hq:a.tmps[t]? with
      | none=>simp[hq]
      | some y=>rw[hq]at hv;simp at hv;subst hv;simp[hq,undef]
     rw[if_neg (by simp[Region.wanted,hg,hy])]
     subst h3
     exact next undef E w (by
      show Sat O E ((ap m S0).ed []) a w
      rw[e0];exact hs) (RS.skip _ _ _)
 have hs1:Sat O E S0 a { w with drawn:=w.drawn+1 }:=by
  rw[← hS0]
  have h:=hs.drew (w.drawn+1)
  refine⟨fun n=>(h.fr n).mono (fun _ _=>⟨rfl,rfl⟩) (by simp) (fun _ hb=>hb) (fun _ _=>rfl),h.nt,h.df,fun lb b hb=>(h.hp lb b hb).mono (h.nx lb b hb) (fun _ _=>⟨rfl,rfl⟩) (by simp) (fun _ hb=>hb) (fun _ _=>rfl) (fun _=>rfl),
   fun lb b hb=>Nat.lt_of_lt_of_le (h.nx lb b hb) (by simp),h.inj,h.im,h.own,h.kq,h.lab,Nat.le_trans h.nl (by simp),h.imo⟩
 have:=main l.length (Array.replicate l.length false) [] E a { w with drawn:=w.drawn+1 } (by simp) (fun p=>by
   constructor
   ·intro h;simp at h
   ·rintro⟨j,_,h⟩;simp[Q7,Array.getElem?_replicate]at h
    split at h<;>simp at h) ⟨[],rfl,fun j=>by
   constructor
   ·intro h;simp at h
   ·rintro⟨_,h⟩;simp[Q7,Array.getElem?_replicate]at h
    split at h<;>simp at h,List.Pairwise.nil⟩ (fun i o _ h=>by simp[Q7,Array.getElem?_replicate]at h;split at h<;>simp at h) (by simp) hs1
 simpa using this
theorem Wp.draw{C:Cx}{id:Nat}{l:List Oper}{nt:NT}{nx:Nat}{fr:List (Nat×SV)}{hp:List (Nat×Option Blk)}{Q:Exit→St→Prop}(hm:C.P.follows .mixedOrders=true)
  (h:cQ C l nx l 0 ⟨nt,nx+l.length,fr,hp⟩ fun efs Sn=>dU l efs nx ⟨nt,nx+l.length,fr,hp⟩=true∧Q .normal Sn):Wp C (.region id l.toArray true) ⟨nt,nx,fr,hp⟩ Q :=
 ⟨fun _ _ _ _ hs=>wp_region_any hm (by simpa using Wp.drawAny h hs)⟩
theorem pR{n b:Nat}(hb:b≤4096)(h:n≤34359738368):n*b≤140737488355328:=Nat.le_trans (Nat.mul_le_mul h hb) (by decide)
theorem o4{n:Nat}{p:Bool→Prop}(h:0<n)(hp:p false):∀c:Bool,(0<n→c=false)→p c:=fun c hc=>by rw[hc h];exact hp
theorem dK{n:Nat}{p:Bool→Prop}(hf:p false)(ht:n=0→p true):∀c:Bool,(0<n→c=false)→p c:=fun c hc=>by
 cases c with
 | false=>exact hf
 | true=>exact ht (by rcases Nat.eq_zero_or_pos n with h|h;exact h;exact absurd (hc h) (by simp))
end
def jU{ι:Type}(p:ι→Prop)(I:ι→St)(μ:ι→Nat)(n:Nat)(Q:Exit→St→Prop):Exit→St→Prop
 | .normal,S=>∃i,p i∧μ i<n∧Le S (I i)
 | e,S=>Q e S
theorem Wp.loopP{C:Cx}{ι:Type}{c:Code}{S:St}{Q:Exit→St→Prop}(p:ι→Prop)(I:ι→St)(μ:ι→Nat)(i0:ι)(hp0:p i0)(h0:Le S (I i0))(h:∀i,p i→Wp C c (I i) (jU p I μ (μ i) Q)):Wp C (.loop c) S Q:=by
 refine Wp.loop (ι:={i // p i}) (fun i=>I i.1) (fun i=>μ i.1) ⟨i0,hp0⟩ h0 fun i=>(h i.1 i.2).mono fun e S' hq=>?_
 cases e with
 | normal=>obtain⟨j,h1,h2,h3⟩:=hq;exact⟨⟨j,h1⟩,h2,h3⟩
 | _=>exact hq
def inK(C:Cx)(rs:List ResultVar)(nt:NT)(fr:List (Nat×SV))(k:St→SV→Prop)(S':St):Prop :=
 ul C S' rs fun vs=>uB vs fun x=>dD x fun x'=>match S' with|⟨_,nx',_,hp'⟩=>k ⟨nt,nx',fr,hp'⟩ x'
def inQ(C:Cx)(rs:List ResultVar)(nt:NT)(fr:List (Nat×SV))(k:St→SV→Prop):Exit→St→Prop
 | .normal,S=>inK C rs nt fr k S
 | .ret,S=>inK C rs nt fr k S
 | _,_=>False
theorem ab.inline{C:Cx}{nt:NT}{nx:Nat}{fr:List (Nat×SV)}{hp:List (Nat×Option Blk)}{g:Nat}{args:List SV}{k:St→SV→Prop}{P:Program}{fn:Func}{c:Code}(hf:P.funcs[g]?=some fn)(hP:C.P=P)(hb:fn.body=some c)(hn:(fn.name== "runtime.NumGoroutine")=false)(hle:args.length≤fn.ntmps)
  (h:Wp C c ⟨⟨fn.ntmps,nx⟩,nx,jw 0 args,hp⟩ (inQ C fn.results.toList nt fr k)):ab C ⟨nt,nx,fr,hp⟩ g args k:=by
 subst hP
 refine⟨.mk hf hn (by simp[hb]),fun O E a w vs hs hsz hargs=>calls_of_wp hf hb ?_⟩
 let M:Nat→Prop:=fun b=>∃l x,lkh hp l=some x∧x.real (E.κ l)∧E.ρ l=b
 let Oc:Org:=⟨w,M,E.Im,nx,E.ρ,E.κ⟩
 have hs0:Sat Oc E ⟨⟨fn.ntmps,nx⟩,nx,jw 0 args,hp⟩ { tmps:=vs++Array.replicate (fn.ntmps-vs.size) undef,defers:=[] } w:=by
  refine⟨fun n=>?_,⟨by simp;omega,rfl⟩,rfl,hs.hp,hs.nx,hs.inj,fun b hb=>⟨(hs.im b hb).1,Or.inr (Or.inl hb),(hs.im b hb).2.2⟩,fun l b hb hr=>Or.inl ⟨l,b,hb,hr,rfl⟩,Kq.refl _ _,fun l _=>⟨rfl,rfl⟩,Q4 _,fun b hb=>hb⟩
  rw[gU]
  by_cases hlt:n<args.length
  ·rw[if_pos (by omega),Nat.sub_zero,Q0 hlt]
   have:=hargs n hlt
   have h2:n<vs.size:=by omega
   have h3:(vs++Array.replicate (fn.ntmps-vs.size) undef).getD n undef=vs.getD n undef:=by
    simp only[Q7];rw[Array.getElem?_append_left h2]
   rw[h3];exact this
  ·rw[if_neg (by omega)];exact .any _
 refine wp_mono (h.out Oc E _ w hs0) fun e a' w' ⟨S',E',hq,hs'⟩=>?_
 have fin:inK C fn.results.toList nt fr k S'→bodyPost C.P fn (fun e w'=>∃v E' S' x,e=.returned v∧k S' x∧Sat O E' S' a w'∧RS E' S'.nx w' x v) .normal a' w':=by
  intro hq
  obtain⟨xs,us,h1,h2,h3,h4⟩:=iB hs' _ _ hq
  obtain⟨x,g1,g2⟩:=nH h3 h4 h1
  have g1:=bE g1
  obtain⟨nt',nx',fr',hp'⟩:=S'
  have hnl:nx≤nx':=hs'.nl
  have hE:∀l,l<nx→E'.ρ l=E.ρ l∧E'.κ l=E.κ l:=hs'.lab
  have hM:∀b,M b→O.M b∨O.w0.heap.size≤b:=by
   rintro b ⟨l,y,q1,q2,rfl⟩
   exact hs.own l y q1 q2
  have hwi:∀b,E.Im b→w'.heap[b]?=w.heap[b]?:=fun b hb=>hs'.kq.block b (hs.im b hb).1 (by
   rintro⟨l,y,q1,q2,q3⟩
   exact(hs.im b hb).2.2 l y q1 q2 q3)
  have hk0:=hs.kq.size
  refine⟨hs'.df,(if h:us.toArray.size=1 then us.toArray[0]else .tuple us.toArray),?_,_,E',⟨nt,nx',fr,hp'⟩,x,rfl,g1,?_,g2⟩
  ·rw[fT,show fn.results=fn.results.toList.toArray by simp,List.mapM_toArray]
   simp only[Sem.run_bind,Sem.run_map,h2]
   rfl
  ·refine⟨fun n=>(hs.fr n).mono hE hnl hs'.imo hwi,hs.nt,hs.df,hs'.hp,hs'.nx,hs'.inj,fun b hb=>?_,fun l y hl hr=>?_,?_,fun l hl=>?_,?_,fun b hb=>hs'.imo b (hs.imo b hb)⟩
   ·obtain⟨q1,q2,q3⟩:=hs'.im b hb
    refine⟨q1,?_,q3⟩
    rcases q2 with q2|q2|q2
    ·exact Or.inl (Nat.le_trans hk0 q2)
    ·exact(hs.im b q2).2.1
    ·rcases hM b q2 with q|q
     ·exact Or.inr (Or.inr q)
     ·exact Or.inl q
   ·rcases hs'.own l y hl hr with q|q
    ·exact hM _ q
    ·exact Or.inr (Nat.le_trans hk0 q)
   ·exact hs.kq.trans' hs'.kq fun b hb hlt=>by
     rcases hM b hb with q|q
     ·exact q
     ·omega
   ·have:=hs.nl
    simp only at this
    obtain⟨q1,q2⟩:=hE l (by omega)
    rw[q1,q2];exact hs.lab l hl
   ·have:=hs.nl;simp only at this⊢;omega
 cases e with
 | normal=>exact fin hq
 | ret=>exact fin hq
 | _=>exact hq.elim
def thenK(k:St→Prop)(Q:Exit→St→Prop):Exit→St→Prop
 | .normal,S=>k S
 | e,S=>Q e S
def WpN(C:Cx)(c:Code)(Q:Exit→St→Prop):Nat→St→Prop
 | 0,_=>False
 | n+1,S=>Wp C c S (thenK (WpN C c Q n) Q)
theorem kK{C:Cx}{c:Code}{O:Org}{Q:Exit→St→Prop}:∀(n:Nat) (S:St) (E:Env) (a:Act) (w:World),WpN C c Q n S→Sat O E S a w→Code.rounds C.P c (fun e a' w'=>∃S' E',Q e S'∧Sat O E' S' a' w') n a w
 | 0,S,E,a,w,h,hs=>h.elim
 | n+1,S,E,a,w,h,hs=>wp_mono (h.out O E a w hs) fun e a' w' ⟨S',E',h1,h2⟩=>by
  cases e with
  | normal=>exact kK n S' E' a' w' h1 h2
  | _=>exact⟨S',E',h1,h2⟩
theorem Wp.loopN{C:Cx}{c:Code}{S:St}{Q:Exit→St→Prop}(n:Nat)(h:WpN C c Q n S):Wp C (.loop c) S Q :=
 ⟨fun O E a w hs=>wp_loop_rounds n (kK n S E a w h hs)⟩
theorem ab.fn{C:Cx}{nt:NT}{nx:Nat}{fr:List (Nat×SV)}{hp:List (Nat×Option Blk)}{g:Nat}{args:List SV}{k:St→SV→Prop}{m m':Nat}{args0:List SV}{H H':List (Nat×Option Blk)}{r:SV}(h:Fun C g m args0 H m' r H')(L:List Nat)(hlen:L.length=m)(hd:bq L=true)(hlive:dO H m=true)(hkeys:dP H' m=true)(hlt:cG H' m'=true)
  (ha:bn L args args0) (hh:aW hp L H) (hk:k ⟨nt,nx+(m'-m),fr,bg (πf L nx) hp H'⟩ (nS (πf L nx) r)):ab C ⟨nt,nx,fr,hp⟩ g args k :=
 .fun h L hlen hd hlive hkeys hlt ha hh hk
theorem ag.fn{C:Cx}{nt:NT}{nx:Nat}{fr:List (Nat×SV)}{hp:List (Nat×Option Blk)}{ln g:Nat}{args:List SV}{k:SV→List (Nat×Option Blk)→List Nat→Prop}{m:Nat}{args0:List SV}{H H':List (Nat×Option Blk)}{r:SV}(h:Fun C g m args0 H m r H')(L K:List Nat)(hlen:L.length=m)(hd:bq L=true)(hlive:dO H m=true)(hkeys:dP H' m=true)(hlt:cG H' m=true)
  (ha:bn L args args0) (hh:aW hp L H) (hs:jz (bg (πf L nx) [] H') hp K) (hk:k (nS (πf L nx) r) (gm K (bg (πf L nx) [] H')) K):ag C ⟨nt,nx,fr,hp⟩ ln g args k :=
 .fun h L K hlen hd hlive hkeys hlt ha hh hs hk
theorem RD.sl_congr{w:World}{Im:Nat→Prop}{z n:Nat}{f g:Nat→List D}{v:Value}(h:∀i,i<n→f i=g i)(hv:RD w Im (.sl z n f) v):RD w Im (.sl z n g) v:=by
 cases hv with
 | sl _ _ _ a cap q hc hm hl ha hg =>
  refine .sl z n g a cap q hc hm (fun i hi=>by rw[← h i hi];exact hl i hi) ha fun i j hi hj=>?_
  have key:∀c:List D,c=f i→∀hj':j<c.length,RD w Im c[j] (q i j):=by
   intro c hc hj';subst hc;exact hg i j hi hj'
  exact key _ (h i hi).symm hj
theorem SV.Le.sl{z n:Nat}{f g:Nat→List D}(h:∀i,i<n→f i=g i):SV.Le (.d (.sl z n f)) (.d (.sl z n g)) :=
 ⟨fun E nx w v hv=>by cases hv with|d _ _ hv=>exact .d _ _ (hv.sl_congr h)⟩
theorem SV.Le.nil{z:Nat}{f:Nat→List D}:SV.Le (.d (.val (.slice none 0 0))) (.d (.sl z 0 f)) :=
 ⟨fun E nx w v hv=>by
  obtain rfl:=hv.val_inv
  exact .d _ _ (.sl z 0 f none 0 (fun _ _=>undef) (Q4 _) (by unfold maxLen;omega) (fun i hi=>by omega) (fun h=>by omega) (fun i j hi=>by omega))⟩
structure Les(xs ys:List SV):Prop where
 len:xs.length=ys.length
 out:∀j (hx:j<xs.length) (hy:j<ys.length),SV.Le xs[j] ys[j]
theorem Les.nil:Les [] []:=⟨rfl,fun j hx=>by simp at hx⟩
theorem Les.cons{x y:SV}{xs ys:List SV}(h:SV.Le x y)(k:Les xs ys):Les (x::xs) (y::ys) :=
 ⟨by simp[k.len],fun j hx hy=>by cases j with|zero=>exact h|succ j=>exact k.out j (by simpa using hx) (by simpa using hy)⟩
theorem SV.Le.agg{xs ys:List SV}(h:Les xs ys):SV.Le (.agg xs) (.agg ys) :=
 ⟨fun E nx w v hv=>by cases hv with|agg _ us hs h1 hh=>exact .agg _ _ (hs.trans h.len) h1 fun j hj=>(h.out j (by rw[h.len];exact hj) hj).out _ _ _ _ (hh j (by rw[h.len];exact hj))⟩
theorem SV.Le.tup{xs ys:List SV}(h:Les xs ys):SV.Le (.tup xs) (.tup ys) :=
 ⟨fun E nx w v hv=>by cases hv with|tup _ us hs hh=>exact .tup _ _ (hs.trans h.len) fun j hj=>(h.out j (by rw[h.len];exact hj) hj).out _ _ _ _ (hh j (by rw[h.len];exact hj))⟩
theorem o3{E:Env}{nx z:Nat}{w:World}{v:Value}(h:RS E nx w (.d (.val (.slice none 0 0))) v):RS (E.newrow nx 0 0) (nx+1) w (.sl nx z 0 0) v:=by
 obtain rfl:=h.val_inv
 exact .sl _ _ _ _ _ _ (by omega) (Q4 _) (by unfold maxLen;omega) (fun h=>by omega) (fun _=>⟨by simp[Env.newrow],fun h=>by omega⟩)
theorem Le.virt{nt:NT}{nx:Nat}{fr:List (Nat×SV)}{hp:List (Nat×Option Blk)}(n:Nat)(e:TypeId)(z:Nat)(f:Nat→List D)(hz:0<z)(h:lk fr n=.d (.val (.slice none 0 0))) :
  Le ⟨nt,nx,fr,hp⟩ ⟨nt,nx+1,(n,.sl nx z 0 0)::fr,(nx,some (.row e z 0 f))::hp⟩:=by
 refine⟨fun O E a w hs=>⟨E.newrow nx 0 0,?_⟩⟩
 have h0:=hs.virt (e:=e) (f:=f) hz
 have h1:=hs.fr n
 rw[h]at h1
 refine⟨fun m=>?_,h0.nt,h0.df,h0.hp,h0.nx,h0.inj,h0.im,h0.own,h0.kq,h0.lab,h0.nl,h0.imo⟩
 simp only[dl]
 by_cases e1:n=m
 ·subst e1;rw[if_pos rfl];exact o3 h1
 ·rw[if_neg e1];exact h0.fr m
theorem af.virt{m m' nx:Nat}{nt:NT}{fr:List (Nat×SV)}{hp:List (Nat×Option Blk)}{r:SV}{H':List (Nat×Option Blk)}(e:TypeId)(z:Nat)(f:Nat→List D)(hz:0<z)(hm:m≤nx)
  (h:af m ⟨nt,nx+1,fr,(nx,some (.row e z 0 f))::hp⟩ (.sl nx z 0 0) m' r H'):af m ⟨nt,nx,fr,hp⟩ (.d (.val (.slice none 0 0))) m' r H':=by
 refine⟨fun O E a w v hO hs hv=>?_⟩
 have h0:=hs.virt (e:=e) (f:=f) hz
 obtain⟨E',k1,k2,k3,k4,k5,k6⟩:=h.out O _ a w v hO h0 (o3 hv)
 have hb:∀b,HB (E.newrow nx 0 0) ((nx,some (.row e z 0 f))::hp) b→HB E hp b:=by
  rintro b ⟨l,x,hl,hr,rfl⟩
  rw[ah]at hl
  by_cases e1:nx=l
  ·subst e1;rw[if_pos rfl]at hl;cases hl;simp[Blk.real,Env.newrow]at hr
  ·rw[if_neg e1]at hl
   have e2:¬l=nx:=fun h=>e1 h.symm
   simp only[Env.newrow,if_neg e2]at hr⊢
   exact⟨l,x,hl,hr,rfl⟩
 refine⟨E',k1,fun l hl=>?_,fun b hx=>hb b (k3 b hx),fun b hx=>(k4 b hx).imp id (hb b),k5,k6⟩
 obtain⟨p1,p2⟩:=k2 l hl
 have e2:¬l=nx:=by omega
 exact⟨p1.trans (by simp[Env.newrow,e2]),p2.trans (by simp[Env.newrow,e2])⟩
def imK(S:St):List SV→(St→List SV→Prop)→Prop
 | [],k=>k S []
 | .sl l z off n::r,k=>match S with
  | ⟨nt,nx,fr,hp⟩=>match lkh hp l with
   | some (.row _ z' m f)=>bif Nat.beq z' z then off+n≤m∧imK ⟨nt,nx,fr,(l,none)::hp⟩ r fun S' xs=>k S' (.d (.sl z n fun i=>f (off+i))::xs)else False
   | _=>False
 | x::r,k=>bif x.free then imK S r fun S' xs=>k S' (x::xs)else False
theorem s5{O:Org}{a:Act}{w:World}:∀(xs:List SV) {E:Env} {S:St} {us:List Value} {k:St→List SV→Prop},Sat O E S a w→us.length=xs.length→(∀(j:Nat) (x:SV) (v:Value),xs[j]?=some x→us[j]?=some v→RS E S.nx w x v)→imK S xs k →
  ∃E' S' ys,k S' ys∧Sat O E' S' a w∧ys.length=xs.length∧(∀b,E.Im b→E'.Im b)∧∀(j:Nat) (y:SV) (v:Value),ys[j]?=some y→us[j]?=some v→RS E' 0 w y v
 | [],E,S,us,k,hs,hl,hh,h=>⟨E,S,[],h,hs,rfl,fun _ h=>h,fun j y v hy=>by simp at hy⟩
 | x::r,E,S,[],k,hs,hl,hh,h=>by simp at hl
 | x :: r,E,S,u::us,k,hs,hl,hh,h=>by
  have hu:=hh 0 x u rfl rfl
  have go:∀(E1:Env) (S1:St) (y:SV),Sat O E1 S1 a w→E1.ρ=E.ρ→E1.κ=E.κ→S1.nx=S.nx→(∀b,E.Im b→E1.Im b)→RS E1 0 w y u→y.free=true→(imK S1 r fun S' xs=>k S' (y::xs)) →
    ∃E' S' ys,k S' ys∧Sat O E' S' a w∧ys.length=(x::r).length∧(∀b,E.Im b→E'.Im b)∧∀(j:Nat) (y:SV) (v:Value),ys[j]?=some y→(u::us)[j]?=some v→RS E' 0 w y v:=by
   intro E1 S1 y hs1 e1 e2 e3 e4 hy hf h1
   obtain⟨E',S',ys,g1,g2,g3,g4,g5⟩:=s5 r hs1 (by simpa using hl) (fun j x v hx hv=>RS.mono (E:=E) (fun _ _=>⟨by rw[e1],by rw[e2]⟩) (by omega) e4 (fun _ _=>rfl) (hh (j+1) x v (by simpa using hx) (by simpa using hv))) h1
   refine⟨E',S',_,g1,g2,by simp[g3],fun b hb=>g4 b (e4 b hb),fun j z v hz hv=>?_⟩
   cases j with
   | zero =>
    simp at hz hv;subst hz hv
    have h5:RS ⟨E1.ρ,E1.κ,E'.Im⟩ 0 w y u:=RS.mono (E:=E1) (fun _ _=>⟨rfl,rfl⟩) (Q4 _) g4 (fun _ _=>rfl) hy
    exact RS.free (E:=⟨E1.ρ,E1.κ,E'.Im⟩) (E':=E') rfl hf h5
   | succ j=>simp at hz hv;exact g5 j z v hz hv
  have free:∀y:SV,y=x→y.free=true→(imK S r fun S' xs=>k S' (y::xs))→_:=fun y hy hf h1=>go E S y hs rfl rfl rfl (fun _ h=>h) (by subst hy;exact RS.free (E:=E) rfl hf hu) hf h1
  cases x with
  | sl l z off n =>
   obtain⟨nt,nx,fr,hp⟩:=S
   simp only[imK]at h
   split at h
   ·rename_i e z' m f hl'
    cases hb:Nat.beq z' z with
    | false=>simp[hb]at h
    | true =>
     simp only[hb,cond_true]at h
     obtain rfl:=Q2 hb
     obtain⟨h1,h2⟩:=h
     by_cases hκ:0<E.κ l
     ·obtain⟨s1,s2⟩:=hs.imm (w':=w) hl' hκ (fun _ _ _=>rfl) rfl ⟨rfl,rfl,rfl⟩ (fun vs hvs=>⟨_,hvs⟩)
      have h5:=s2 off n u h1 hu
      exact go _ _ _ s1 rfl rfl rfl (fun b hb=>Or.inl hb) (RS.free (E:=⟨E.ρ,E.κ,fun b=>E.Im b∨b=E.ρ l⟩) rfl rfl h5) rfl h2
     ·have hm:=(hs.hp l _ hl').1
      have hn:n=0:=by omega
      subst hn
      refine go _ _ _ (hs.kill l) rfl rfl rfl (fun _ h=>h) ?_ rfl h2
      cases hu with
      | sl _ _ _ _ a' cap hlx hc hmx ha h0=>exact .d _ _ (.sl _ 0 _ a' cap (fun _ _=>undef) hc hmx (fun i hi=>by omega) (fun h=>by omega) (fun i j hi=>by omega))
   ·exact h.elim
  | _ =>
   simp only[imK]at h
   generalize hx:SV.free _=b at h
   cases b with
   | false=>exact h.elim
   | true=>exact free _ rfl hx h
theorem ab.pureI{C:Cx}{nt:NT}{nx:Nat}{fr:List (Nat×SV)}{hp:List (Nat×Option Blk)}{g:Nat}{args args0:List SV}{r:SV}{k:St→SV→Prop}(h:Pure C g args0 r)(hr:r.free=true)(hk:imK ⟨nt,nx,fr,hp⟩ args fun S' ys=>Les ys args0∧k S' r):ab C ⟨nt,nx,fr,hp⟩ g args k:=by
 refine⟨h.ent,fun O E a w vs hs hsz hargs=>?_⟩
 obtain⟨E',S',ys,⟨g1,gk⟩,g2,g3,g4,g5⟩:=s5 args (us:=vs.toList) hs (by simpa using hsz) (fun j x v hx hv=>by
  obtain⟨q1,q2⟩:=Q3 hx
  subst q2;rw[← dz hv];exact hargs j q1) hk
 have hlen:vs.size=ys.length:=by omega
 refine(h.out E' w vs (fun b hb=>(g2.im b hb).1) (by rw[hlen,g1.len]) fun j hj=>?_).mono ?_
 ·have hj2:j<ys.length:=by rw[g1.len];exact hj
  have hj3:j<vs.size:=by omega
  exact(g1.out j hj2 hj).out _ _ _ _ (g5 j _ _ (Q0 hj2) (by simp[Array.getD,hj3]))
 ·rintro e w' ⟨v,rfl,hkp,hv⟩
  exact⟨v,_,S',r,rfl,gk,g2.after hkp,hv.free rfl hr⟩
def cntK:List Oper→Nat→(Nat→Prop)→Prop
 | [],m,k=>k m
 | _::r,m,k=>cntK r (m+1) k
theorem oy:∀(l:List Oper) (m:Nat) (k:Nat→Prop),cntK l m k→k (m+l.length)
 | [],m,k,h=>h
 | _::r,m,k,h=>by
  have:=oy r (m+1) k h
  rw[List.length_cons,show m+(r.length+1)=m+1+r.length by omega];exact this
theorem Wp.drawL{C:Cx}{id:Nat}{l:List Oper}{nt:NT}{nx:Nat}{fr:List (Nat×SV)}{hp:List (Nat×Option Blk)}{Q:Exit→St→Prop}(hm:C.P.follows .mixedOrders=true)
  (h:cntK l nx fun m=>cQ C l nx l 0 ⟨nt,m,fr,hp⟩ fun efs Sn=>dU l efs nx ⟨nt,m,fr,hp⟩=true∧Q .normal Sn):Wp C (.region id l.toArray true) ⟨nt,nx,fr,hp⟩ Q :=
 .draw hm (oy l nx _ h)
def dB:List SV→List Nat
 | []=>[]
 | .d (.sl _ n _)::r=>n::dB r
 | .agg vs::r=>(vs.filterMap fun|.d (.sl _ n _)=>some n|_=>none)++dB r
 | _::r=>dB r
theorem mM{E:Env}{nx:Nat}{w:World}:∀(xs:List SV) (us:List Value),us.length=xs.length→(∀(j:Nat) (x:SV) (v:Value),xs[j]?=some x→us[j]?=some v→RS E nx w x v)→∀n∈dB xs,n≤maxLen
 | [],us,hl,hh,n,hn=>by simp[dB]at hn
 | x::r,[],hl,hh,n,hn=>by simp at hl
 | x :: r,u::us,hl,hh,n,hn=>by
  have hu:=hh 0 x u rfl rfl
  have hr:=mM r us (by simpa using hl) (fun j x v hx hv=>hh (j+1) x v (by simpa using hx) (by simpa using hv))
  have sl:∀z m f v,RS E nx w (.d (.sl z m f)) v→m≤maxLen:=fun z m f v hv=>by cases hv with|d _ _ hv=>cases hv with|sl _ _ _ a cap g hc hm=>omega
  unfold dB at hn
  split at hn
  ·simp at hn
  ·rename_i z m f r' e
   cases e
   rcases Q22 hn with rfl|hn
   ·exact sl _ _ _ _ hu
   ·exact hr n hn
  ·rename_i vs r' e
   cases e
   rcases List.mem_append.1 hn with hn|hn
   ·obtain⟨y,hy,he⟩:=List.mem_filterMap.1 hn
    obtain⟨j,hj,rfl⟩:=List.getElem_of_mem hy
    cases hu with
    | agg _ ws hs h1 hg =>
     have:=hg j hj
     split at he
     ·rename_i z m f hq
      rw[hq]at this
      cases he
      exact sl _ _ _ _ this
     ·cases he
   ·exact hr n hn
  ·rename_i e
   cases e
   exact hr n hn
theorem Pure.lens{C:Cx}{g:Nat}{args:List SV}{r:SV}(ent:da C.P g)(h:(∀n∈dB args,n≤9223372036854775807)→Pure C g args r):Pure C g args r :=
 ⟨ent,fun E w vs hIm hsz hargs=>(h fun n hn=>by
  have:=mM args vs.toList (by simpa using hsz) (fun j x v hx hv=>by
   obtain⟨q1,q2⟩:=Q3 hx
   subst q2;rw[← dz hv];exact hargs j q1) n hn
  unfold maxLen at this;omega).out E w vs hIm hsz hargs⟩
theorem Ov.sh1{k:IntKind}{x:Int}{e:Nat}{p:Int→Prop}(he:e=1)(h:Ov k (x/2) p):Ov k (x/2^e) p:=by subst he;exact h
theorem Ov.quo{a b:Int}{p:Int→Prop}(ha:0≤a)(hu:a≤9223372036854775807)(hb:1≤b)(h:0≤a/b→a/b≤a→p (a/b)):Ov .i64 (a.tdiv b) p:=by
 rw[Int.tdiv_eq_ediv_of_nonneg ha]
 have h1:0≤a/b:=Int.ediv_nonneg ha (by omega)
 have h2:a/b≤a:=Int.ediv_le_self _ ha
 exact Ov.ok (IntWalk.i64_in _ (by omega)) (h h1 h2)
def ay{α:Type}[Inhabited α](e:TypeId)(z:Nat)(enc:α→List D)(xs:List α):Blk:=.row e z xs.length fun i=>enc (xs.getD i default)
def bP{α:Type}(xs:List α)(i:Nat)(x:α):List α:=xs.take i++[x]++xs.drop i
def cR{α:Type}(xs:List α)(i:Nat):List α:=xs.take i++xs.drop (i+1)
theorem aY{α:Type}(xs:List α)(i:Nat)(x:α)(hi:i≤xs.length):(bP xs i x).length=xs.length+1:=by simp[bP];omega
theorem dV{α:Type}(xs:List α)(i:Nat)(hi:i<xs.length):(cR xs i).length=xs.length-1:=by simp[cR];omega
theorem f9{α:Type}[Inhabited α](xs:List α)(i:Nat)(x:α)(hi:i≤xs.length)(k:Nat):(bP xs i x).getD k default=if k<i then xs.getD k default else if k=i then x else xs.getD (k-1) default:=by
 have hl:(xs.take i).length=i:=by simp;omega
 simp only[bP,Q1,List.append_assoc]
 by_cases h:k<i
 ·rw[if_pos h,Q11 (by omega),Q15,if_pos h]
 ·rw[if_neg h,Q12 (by omega),hl]
  by_cases h2:k=i
  ·subst h2;simp
  ·rw[if_neg h2,Q12 (by simp;omega),List.getElem?_drop]
   congr 2;simp;omega
theorem qG{α:Type}[Inhabited α](xs:List α)(i:Nat)(hi:i<xs.length)(k:Nat):(cR xs i).getD k default=if k<i then xs.getD k default else xs.getD (k+1) default:=by
 have hl:(xs.take i).length=i:=by simp;omega
 simp only[cR,Q1]
 by_cases h:k<i
 ·rw[if_pos h,Q11 (by omega),Q15,if_pos h]
 ·rw[if_neg h,Q12 (by omega),hl,List.getElem?_drop]
  congr 2;omega
theorem lay_ins(F vs:List Value)(n i z k j:Nat)(hF:F.length=n*z)(hv:vs.length=z)(hi:i≤n)(hj:j<z) :
  (F.take (i*z)++vs++F.drop (i*z))[k*z+j]?=if k<i then F[k*z+j]? else if k=i then vs[j]? else F[(k-1)*z+j]?:=by
 have h1:i*z≤n*z:=Q8 _ hi
 have hl:(F.take (i*z)).length=i*z:=by simp;omega
 simp only[List.append_assoc]
 by_cases h:k<i
 ·have h2:(k+1)*z≤i*z:=Q8 _ h
  rw[Q18]at h2
  rw[if_pos h,Q11 (by omega),Q15,if_pos (by omega)]
 ·have h2:i*z≤k*z:=Q8 _ (by omega)
  rw[if_neg h,Q12 (by omega),hl]
  by_cases h3:k=i
  ·subst h3;rw[if_pos rfl,Q11 (by omega)];congr 1;omega
  ·have h4:(i+1)*z≤k*z:=Q8 _ (by omega)
   have h5:(k-1)*z+z=k*z:=by rw[show k=(k-1)+1 by omega,Q18];simp
   rw[Q18]at h4
   rw[if_neg h3,Q12 (by omega),List.getElem?_drop]
   congr 1;omega
theorem lay_del(F:List Value)(n i z k j:Nat)(hF:F.length=n*z)(hi:i<n)(hj:j<z) :
  (F.take (i*z)++F.drop (i*z+z))[k*z+j]?=if k<i then F[k*z+j]? else F[(k+1)*z+j]?:=by
 have h1:(i+1)*z≤n*z:=Q8 _ hi
 rw[Q18]at h1
 have hl:(F.take (i*z)).length=i*z:=by simp;omega
 by_cases h:k<i
 ·have h2:(k+1)*z≤i*z:=Q8 _ h
  rw[Q18]at h2
  rw[if_pos h,Q11 (by omega),Q15,if_pos (by omega)]
 ·have h2:i*z≤k*z:=Q8 _ (by omega)
  rw[if_neg h,Q12 (by omega),hl,List.getElem?_drop]
  congr 1;rw[Q18];omega
theorem mn.ofOwn{E:Env}{m:Nat}{H:List (Nat×Option Blk)}{w w':World}{e z:Nat}{α:Type}[Inhabited α]{enc:α→List D}{ys:List α}{G:List Value}{v':Value}{g cap:Nat}{cur:Array Value}{row:Option Nat}
  (hS:mn E m H w) (hz:0<z) (henc:∀x,(enc x).length=z) (hG:G.length=ys.length*z) (hcap:ys.length≤cap) (hmax:cap≤maxLen) (hsz:cur.size=cap*z)
  (hb:w'.heap[g]?=some (.cells cur e (0,0))) (htk:cur.toList.take (ys.length*z)=G) (hgr:w.grownBy w' row) (hrow:∀k,row=some k→HB E H k) (hnew:HB E H g∨w.heap.size≤g)
  (h1:∀u∈G,u.oneCell'=true) (hd:∀k j,k<ys.length→j<z→∀hj:j<(enc (ys.getD k default)).length,∃u,G[k*z+j]?=some u∧RD w E.Im ((enc (ys.getD k default))[j]) u) (H':List (Nat×Option Blk)) (hH':∀l b,lkh H' l=some b→l=m∧b=ay e z enc ys) (hm0:0<cap) (hv':v'=.slice (some ⟨g,0,none⟩) ys.length cap) :
  ∃E',Kq (HB E H) w w'∧(∀l,l<m→E'.ρ l=E.ρ l∧E'.κ l=E.κ l)∧mn E' (m+1) H' w'∧(∀b,HB E' H' b→HB E H b∨w.heap.size≤b)∧(∀b,E'.Im b→E.Im b∨HB E H b∨w.heap.size≤b)∧(∀b,E.Im b→E'.Im b)∧RS E' (m+1) w' (.sl m z 0 ys.length) v':=by
 subst hv'
 have hni:∀b,HB E H b→¬E.Im b:=by
  rintro b ⟨l,x,hl,hr,rfl⟩ hi
  exact(hS.im _ hi).2 l x hl hr rfl
 have hwi:∀b,E.Im b→w'.heap[b]?=w.heap[b]?:=fun b hb=>hgr.block b (hS.im b hb).1 (fun h=>hni b (hrow b h.symm) hb)
 have hgi:∀b,E.Im b→g≠b:=by
  rintro b hb rfl
  rcases hnew with h|h
  ·exact hni _ h hb
  ·have:=(hS.im _ hb).1;omega
 let E':Env:=⟨fun l=>if l=m then g else E.ρ l,fun l=>if l=m then cap else E.κ l,E.Im⟩
 have hBS:BS E' (m+1) w' m (ay e z enc ys):=by
  refine⟨by show _≤(if m=m then cap else _);simpa using hcap,by show(if m=m then cap else _)≤_;simpa using hmax,hz,fun i hi=>henc _,fun _=>?_⟩
  refine⟨cur,by show w'.heap[if m=m then g else _]?=_;simpa using hb,by show cur.size=(if m=m then cap else _)*z;simpa using hsz,fun j hj=>?_,fun i j hi hj=>?_⟩
  ·have hlt:j<G.length:=by rw[hG];exact hj
   have:cur.getD j undef=G[j]:=by
    rw[dz (v:=G[j])]
    have:G[j]?=some G[j]:=Q0 hlt
    rw[← this,← htk,Q15,if_pos hj]
   rw[this];exact h1 _ (Q14 hlt)
  ·have hjz:j<z:=by rw[← henc (ys.getD i default)];exact hj
   obtain⟨u,k1,k2⟩:=hd i j hi hjz hj
   have hlt:(i+1)*z≤ys.length*z:=Q8 _ hi
   rw[Q18]at hlt
   have:cur.getD (i*z+j) undef=u:=by
    apply dz
    rw[← k1,← htk,Q15,if_pos (by omega)]
   rw[this];exact k2.mono (fun _ h=>h) hwi
 have hem:E'.ρ m=g∧E'.κ m=cap:=⟨if_pos rfl,if_pos rfl⟩
 refine⟨E',⟨hgr.os,hgr.tape,hgr.output,hgr.size,fun k hk hn=>hgr.block k hk (fun h=>hn (hrow k h.symm))⟩,fun l hl=>⟨if_neg (by omega),if_neg (by omega)⟩,⟨?_,?_,?_,?_⟩,?_,fun b hb=>Or.inl hb,fun b hb=>hb,?_⟩
 ·intro l b hl;obtain⟨rfl,rfl⟩:=hH' l b hl;exact hBS
 ·intro l b hl;obtain⟨rfl,rfl⟩:=hH' l b hl;omega
 ·intro l l' b b' hl hl' _ _ hne;exact absurd ((hH' l b hl).1.trans (hH' l' b' hl').1.symm) hne
 ·intro b hb
  refine⟨Nat.lt_of_lt_of_le (hS.im b hb).1 hgr.size,fun l x hl _=>?_⟩
  obtain⟨rfl,rfl⟩:=hH' l x hl
  rw[hem.1];exact hgi b hb
 ·rintro b ⟨l,x,hl,hr,rfl⟩
  obtain⟨rfl,rfl⟩:=hH' l x hl
  rw[hem.1];exact hnew
 ·exact .sl _ _ _ _ _ _ (by omega) hcap hmax (fun _=>by rw[hem.1];simp) (fun _=>⟨hem.2.symm,fun _=>by rw[hem.1]⟩)
theorem kN{n:Nat}{vs:Array Value}(h:vs.size=n):vs=(List.ofFn fun i:Fin n=>vs.getD i undef).toArray:=by
 apply Array.ext (by simp[h])
 intro i h1 h2
 simp[Array.getD,h1]
theorem mn.toOwn{E:Env}{m:Nat}{H:List (Nat×Option Blk)}{w:World}{e z n l:Nat}{f:Nat→List D}{v:Value}(hS:mn E m H w)(hl:lkh H l=some (.row e z n f))(hv:RS E m w (.sl l z 0 n) v)(hn:0<n) :
  ∃cap cur,v=.slice (some ⟨E.ρ l,0,none⟩) n cap∧0<cap∧cap=E.κ l∧w.heap[E.ρ l]?=some (.cells cur e (0,0))∧n≤cap∧cap≤maxLen∧cur.size=cap*z∧(cur.toList.take (n*z)).length=n*z∧(∀u∈cur.toList.take (n*z),u.oneCell'=true) ∧
   ∀k j,k<n→∀hj:j<(f k).length,∃u,(cur.toList.take (n*z))[k*z+j]?=some u∧RD w E.Im ((f k)[j]) u:=by
 obtain⟨h1,h2,h3,h4,h5⟩:=hS.hp l _ hl
 cases hv with
 | sl _ _ _ _ a cap hlx hc hm ha h0 =>
  obtain⟨e1,e2⟩:=h0 rfl
  subst e1
  have hpos:0<E.κ l:=by omega
  obtain⟨cur,g1,g2,g3,g4⟩:=h5 hpos
  have hmul:n*z≤E.κ l*z:=Q8 _ hc
  have hlen:(cur.toList.take (n*z)).length=n*z:=by simp;omega
  refine⟨_,cur,by rw[e2 hpos],hpos,rfl,g1,hc,hm,g2,hlen,fun u hu=>?_,fun k j hk hj=>?_⟩
  ·obtain⟨i,hi,rfl⟩:=List.getElem_of_mem hu
   have hi':i<n*z:=by omega
   have:=g3 i hi'
   rw[Q7,Array.getElem?_eq_getElem (by omega)]at this
   simpa using this
  ·have hjz:j<z:=by rw[← h4 k hk];exact hj
   have hlt:(k+1)*z≤n*z:=Q8 _ hk
   rw[Q18]at hlt
   refine⟨cur.getD (k*z+j) undef,?_,g4 k j hk hj⟩
   rw[Q15,if_pos (by omega),Array.getElem?_toList,Q7,Array.getElem?_eq_getElem (by omega)];rfl
theorem zr{C:Cx}{g e z:Nat}{α:Type}[Inhabited α]{enc:α→List D}(hz:0<z)(ent:da C.P g)(henc:∀x,(enc x).length=z)(xs:List α)(i:Nat)(x:α)(hi:i<xs.length)
  (hcall:∀(v:Value) (vb cv:Nat) (vcur:Array Value) (F vs:List Value) (w:World),w.ownsRow 0 e z v xs.length F→vs.length=z→w.heap[vb]?=some (.cells vcur e (0,0))→(∀(j:Nat) (u:Value),vs[j]?=some u→vcur[j]?=some u)→v.ownBlock≠some vb→(∀u∈vs,u.oneCell'=true)→(∀u∈F,u.oneCell'=true) →
   Calls C.P g #[v,.int .i64 i,.slice (some ⟨vb,0,none⟩) 1 cv] w fun e' w'=>∃v',e'=.returned v'∧w'.ownsRow 0 e z v' (xs.length+1) (F.take (i*z)++vs++F.drop (i*z))∧w.grownBy w' v.ownBlock∧∀k,v'.ownBlock=some k→v.ownBlock=some k∨w.heap.size≤k) :
  Fun C g 2 [.sl 0 z 0 xs.length,.i .i64 i,.sl 1 z 0 1] [(0,some (ay e z enc xs)),(1,some (ay e z enc [x]))] 3 (.sl 2 z 0 (bP xs i x).length) [(0,none),(1,none),(2,some (ay e z enc (bP xs i x)))]:=by
 refine⟨ent,by omega,fun E w vs hS hsz hargs=>?_⟩
 have a0:=hargs 0 (by simp)
 have a1:=hargs 1 (by simp)
 have a2:=hargs 2 (by simp)
 have hvs:vs=#[vs.getD 0 undef,vs.getD 1 undef,vs.getD 2 undef]:=kN (n:=3) (by simpa using hsz)
 obtain⟨cap,cur,e0,hc0,hκ,g1,g2,g3,g4,g5,g6,g7⟩:=hS.toOwn (l:=0) rfl a0 (by omega)
 obtain⟨cap1,cur1,e1,hc1,hκ1,k1,k2,k3,k4,k5,k6,k7⟩:=hS.toOwn (l:=1) (n:=1) rfl a2 (by omega)
 have e2:vs.getD 1 undef=.int .i64 i:=a1.val_inv
 rw[e0,e1,e2]at hvs
 subst hvs
 have hne:E.ρ 0≠E.ρ 1:=hS.inj 0 1 _ _ rfl rfl (show 0<E.κ 0 by omega) (show 0<E.κ 1 by omega) (by omega)
 simp only[Nat.one_mul]at k5 k6 k7
 refine(hcall (.slice (some ⟨E.ρ 0,0,none⟩) xs.length cap) (E.ρ 1) cap1 cur1 (cur.toList.take (xs.length*z)) (cur1.toList.take z) w ⟨g5,Or.inr ⟨_,cap,cur,rfl,Nat.zero_le _,g1,g2,g3,g4,rfl⟩⟩ k5 k1 (fun j u hj=>?_) (by simpa[Value.ownBlock]using hne) k6 g6).mono ?_
 ·rw[Q15]at hj
  split at hj
  ·simpa using hj
  ·cases hj
 rintro e' w' ⟨v',rfl,⟨o1,o2⟩,hgr,hfr⟩
 rcases o2 with⟨_,h⟩|⟨gb,cap',cur',rfl,_,p1,p2,p3,p4,p5⟩
 ·omega
 have hL:=aY xs i x (by omega)
 obtain⟨E',q1,q2,q3,q4,q5,q6,q7⟩:=mn.ofOwn (w':=w') (ys:=bP xs i x) (enc:=enc) (cur:=cur') (g:=gb) (cap:=cap') (e:=e) hS hz henc (by rw[o1,hL]) (by rw[hL];exact p2) p3 p4 p1 (by rw[hL];exact p5) hgr
  (fun k hk=>by simp only[Value.ownBlock,Option.some.injEq]at hk;subst hk;exact⟨0,_,rfl,show 0<E.κ 0 by omega,rfl⟩)
  (by
   rcases hfr gb rfl with h|h
   ·simp only[Value.ownBlock,Option.some.injEq]at h;subst h;exact Or.inl ⟨0,_,rfl,show 0<E.κ 0 by omega,rfl⟩
   ·exact Or.inr h)
  (fun u hu=>by
   rcases List.mem_append.1 hu with hu|hu
   ·rcases List.mem_append.1 hu with hu|hu
    ·exact g6 u (List.mem_of_mem_take hu)
    ·exact k6 u hu
   ·exact g6 u (List.mem_of_mem_drop hu))
  (fun k j hk hj hjl=>by
   rw[lay_ins _ _ xs.length i z k j g5 k5 (by omega) hj]
   have hgd:=f9 xs i x (by omega) k
   rw[hL]at hk
   by_cases h1:k<i
   ·rw[if_pos h1]at hgd⊢
    have h9:=g7 k j (by omega)
    simp only[hgd]
    exact h9 (by rw[henc];exact hj)
   ·rw[if_neg h1]at hgd⊢
    by_cases h2:k=i
    ·rw[if_pos h2]at hgd⊢
     have h9:=k7 0 j (by omega)
     simp only[hgd]
     rw[show 0*z+j=j by omega]at h9
     exact h9 (by rw[henc];exact hj)
    ·rw[if_neg h2]at hgd⊢
     have h9:=g7 (k-1) j (by omega)
     simp only[hgd]
     exact h9 (by rw[henc];exact hj))
  [(0,none),(1,none),(2,some (ay e z enc (bP xs i x)))] (fun l b hl=>by
   rw[ah]at hl
   split at hl
   ·cases hl
   ·rw[ah]at hl
    split at hl
    ·cases hl
    ·rw[ah]at hl
     split at hl
     ·cases hl;exact⟨by omega,rfl⟩
     ·cases hl) (by omega) (by rw[hL])
 exact⟨_,E',rfl,q1,q2,q3,q4,q5,q6,q7⟩
theorem delFun{C:Cx}{g e z:Nat}{α:Type}[Inhabited α]{enc:α→List D}(hz:0<z)(ent:da C.P g)(henc:∀x,(enc x).length=z)(xs:List α)(i:Nat)(hi:i<xs.length)(hm:xs.length≤maxLen)
  (hcall:∀(v:Value) (F:List Value) (w:World),w.ownsRow 0 e z v xs.length F→(∀u∈F,u.oneCell'=true) →
   Calls C.P g #[v,.int .i64 i,.int .i64 ((i:Int)+1)] w fun e' w'=>∃v',e'=.returned v'∧w'.ownsRow 0 e z v' (xs.length-1) (F.take (i*z)++F.drop (i*z+z))∧w.grownBy w' v.ownBlock∧∃cap,v'=.slice (v.ownBlock.map fun k=>⟨k,0,none⟩) (xs.length-1) cap∧0<cap) :
  Fun C g 1 [.sl 0 z 0 xs.length,.i .i64 i,.i .i64 ((i:Int)+1)] [(0,some (ay e z enc xs))] 2 (.sl 1 z 0 (cR xs i).length) [(0,none),(1,some (ay e z enc (cR xs i)))]:=by
 refine⟨ent,by omega,fun E w vs hS hsz hargs=>?_⟩
 have a0:=hargs 0 (by simp)
 have a1:=hargs 1 (by simp)
 have a2:=hargs 2 (by simp)
 have hvs:vs=#[vs.getD 0 undef,vs.getD 1 undef,vs.getD 2 undef]:=kN (n:=3) (by simpa using hsz)
 obtain⟨cap,cur,e0,hc0,hκ,g1,g2,g3,g4,g5,g6,g7⟩:=hS.toOwn (l:=0) rfl a0 (by omega)
 have e1:vs.getD 1 undef=.int .i64 i:=a1.val_inv
 have e2:vs.getD 2 undef=.int .i64 ((i:Int)+1):=a2.val_inv
 rw[e0,e1,e2]at hvs
 subst hvs
 refine(hcall (.slice (some ⟨E.ρ 0,0,none⟩) xs.length cap) (cur.toList.take (xs.length*z)) w ⟨g5,Or.inr ⟨_,cap,cur,rfl,Nat.zero_le _,g1,g2,g3,g4,rfl⟩⟩ g6).mono ?_
 rintro e' w' ⟨v',rfl,⟨o1,o2⟩,hgr,cap2,e3,hc2⟩
 rcases o2 with⟨h,_⟩|⟨gb,cap',cur',e4,_,p1,p2,p3,p4,p5⟩
 ·rw[h]at e3;simp[Value.ownBlock]at e3
 rw[e4]at e3
 simp only[Value.ownBlock,Option.map_some,Value.slice.injEq,Option.some.injEq,Addr.mk.injEq,true_and,and_true]at e3
 obtain⟨rfl,rfl⟩:=e3
 subst e4
 have hL:=dV xs i hi
 have hB0:HB E [(0,some (ay e z enc xs))] (E.ρ 0):=⟨0,_,rfl,show 0<E.κ 0 by omega,rfl⟩
 obtain⟨E',q1,q2,q3,q4,q5,q6,q7⟩:=mn.ofOwn (w':=w') (ys:=cR xs i) (enc:=enc) (cur:=cur') (g:=E.ρ 0) (cap:=cap') (e:=e) hS hz henc (by rw[o1,hL]) (by rw[hL];exact p2) p3 p4 p1 (by rw[hL];exact p5) hgr
  (fun k hk=>by simp only[Value.ownBlock,Option.some.injEq]at hk;subst hk;exact hB0) (Or.inl hB0)
  (fun u hu=>by
   rcases List.mem_append.1 hu with hu|hu
   ·exact g6 u (List.mem_of_mem_take hu)
   ·exact g6 u (List.mem_of_mem_drop hu))
  (fun k j hk hj hjl=>by
   rw[lay_del _ xs.length i z k j g5 hi hj]
   have hgd:=qG xs i hi k
   rw[hL]at hk
   by_cases h1:k<i
   ·rw[if_pos h1]at hgd⊢
    have h9:=g7 k j (by omega)
    simp only[hgd]
    exact h9 (by rw[henc];exact hj)
   ·rw[if_neg h1]at hgd⊢
    have h9:=g7 (k+1) j (by omega)
    simp only[hgd]
    exact h9 (by rw[henc];exact hj))
  [(0,none),(1,some (ay e z enc (cR xs i)))] (fun l b hl=>by
   rw[ah]at hl
   split at hl
   ·cases hl
   ·rw[ah]at hl
    split at hl
    ·cases hl;exact⟨by omega,rfl⟩
    ·cases hl) hc2 (by rw[hL])
 exact⟨_,E',rfl,q1,q2,q3,q4,q5,q6,q7⟩
end Go.Proofs.YtlkccdlgnpkjpaaGreat
